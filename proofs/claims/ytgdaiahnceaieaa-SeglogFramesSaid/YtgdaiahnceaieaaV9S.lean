/- Records' frames, one behind another. -/
import Derived.Test.YtgdaiahnceaieaaV9R
set_option linter.unusedVariables false
set_option linter.unusedSimpArgs false
set_option linter.unusedSimpArgs false
set_option maxRecDepth 20000
namespace Go.Vit
open Go.Proofs
theorem wr_ok {σ0 σ : Mem} {b T E : Nat} {buf : Option (Nat × Nat)} {bs : List UInt8} (h : BldS σ b T E buf bs) (s0 : σ0.Same σ) (hb : σ0.next ≤ b ∧ b < σ.next) (hg : ∀ g n, buf = some (g, n) → σ0.next ≤ g ∧ g < σ.next) (hn : buf = none ∨ bs ≠ []) (s : ByteArray) :
    ∃ buf', BldS (wrMem σ b T E buf bs s) b T E buf' (bs ++ s.data.toList) ∧ σ0.Same (wrMem σ b T E buf bs s) ∧ b < (wrMem σ b T E buf bs s).next ∧ (∀ g n, buf' = some (g, n) → σ0.next ≤ g ∧ g < (wrMem σ b T E buf bs s).next) ∧ (buf' = none ∨ bs ++ s.data.toList ≠ []) := by
  obtain ⟨h1, h2⟩ := h
  have n0 := s0.next
  rcases h2 with ⟨rfl, rfl⟩ | ⟨g, rfl, hgg⟩
  · cases e : s.data.toList with
    | nil =>
      have e1 : wrMem σ b T E none [] s = σ.bump 1 := by unfold wrMem; rw [e]
      rw [e1]
      exact ⟨none, ⟨h1, .inl ⟨rfl, rfl⟩⟩, s0.bump _, by simp only [Mem.next_bump]; omega, fun g n h => by simp at h, .inl rfl⟩
    | cons x l =>
      have e1 : wrMem σ b T E none [] s = ((σ.put b (some (.bld T (some (σ.next, (x :: l).length))))).put σ.next (some (.row E (bl (x :: l))))).bump 1 := by unfold wrMem; rw [e]
      rw [e1, List.nil_append]
      refine ⟨some (σ.next, (x :: l).length), ⟨?_, .inr ⟨σ.next, rfl, ?_⟩⟩, ?_, ?_, ?_, .inr (by simp)⟩
      · show ((σ.put b _).put σ.next _).get b = _
        exact gN (by omega) gS'
      · show ((σ.put b _).put σ.next _).get σ.next = _
        exact gS'
      · exact ((s0.put hb.1 _).put n0 _).bump 1
      · simp only [Mem.next_bump, Mem.next_put]; omega
      · intro g n h
        injection h with h; injection h with h _
        subst h
        simp only [Mem.next_bump, Mem.next_put]; omega
  · obtain ⟨q1, q2⟩ := hg _ _ rfl
    have hne : b ≠ g := fun e => by subst e; rw [h1] at hgg; cases hgg
    have e1 : wrMem σ b T E (some (g, bs.length)) bs s = (((σ.put g none).put b (some (.bld T (some (σ.next, (bs ++ s.data.toList).length))))).put σ.next (some (.row E (bl (bs ++ s.data.toList))))).bump 1 := rfl
    rw [e1]
    refine ⟨some (σ.next, (bs ++ s.data.toList).length), ⟨?_, .inr ⟨σ.next, rfl, ?_⟩⟩, ?_, ?_, ?_, .inr ?_⟩
    · show (((σ.put g none).put b _).put σ.next _).get b = _
      exact gN (by omega) gS'
    · show (((σ.put g none).put b _).put σ.next _).get σ.next = _
      exact gS'
    · exact (((s0.put q1 _).put hb.1 _).put n0 _).bump 1
    · simp only [Mem.next_bump, Mem.next_put]; omega
    · intro g' n h
      injection h with h; injection h with h _
      subst h
      simp only [Mem.next_bump, Mem.next_put]; omega
    · rcases hn with hn | hn
      · cases hn
      · intro e
        exact hn (List.append_eq_nil_iff.1 e).1
theorem fsz_len : ∀ l : List ByteArray, 8 * l.length ≤ fsz l
  | [] => Nat.zero_le _
  | s :: l => by
    have := fsz_len l
    unfold fsz at this ⊢
    rw [List.map_cons, List.sum_cons, List.length_cons]; omega
theorem frame_eq (s : ByteArray) : be4 s.size ++ be4 (crcOf s) ++ s = frame crcOf s := rfl
theorem fsz_take_le (l : List ByteArray) (i : Nat) : fsz (l.take i) ≤ fsz l := by
  have := fsz_append (l.take i) (l.drop i)
  rw [List.take_append_drop] at this
  omega
theorem seglog_frames {v : AV} {L : List ByteArray} (hL : fsz L ≤ 2 ^ 40) {σ : Mem} (h : SL σ v L) : ACalls PG n_seglog_frames [v] σ fun u σ' => u = .str (frs crcOf L) ∧ σ.Same σ' := by
  refine ok_seglog_frames fun live => ?_
  unfold F_seglog_frames
  have hvl := h.lt live
  have hll := fsz_len L
  refine To.go ?_
  refine h.len ?_
  obtain ⟨b, hb⟩ : ∃ b, σ.next + 1 = b := ⟨_, rfl⟩
  refine loop1 (g1 := tI) (fun (i : Nat) (x : Int) (σ' : Mem) => x = (i : Nat) ∧ i ≤ L.length ∧ σ.Same σ' ∧ b < σ'.next ∧ ∃ buf, BldS σ' b 98 5 buf (frs crcOf (L.take i)).data.toList ∧ (∀ g n, buf = some (g, n) → σ.next ≤ g ∧ g < σ'.next) ∧ (buf = none ∨ (frs crcOf (L.take i)).data.toList ≠ []))
    (fun i => L.length - i) 0 ⟨rfl, by omega, ?_, ?_, none, ⟨?_, .inl ⟨rfl, rfl⟩⟩, fun g n h => by simp at h, .inl rfl⟩ ?_
  · exact (Mem.Same.put ((Mem.Same.refl σ).bump _) (by omega) _).bump _
  · simp only [Mem.next_bump, Mem.next_put]; omega
  · rw [hb]
    show ((σ.bump 2).put b _).get b = _
    exact gS'
  rintro i x σ1 ⟨rfl, hi, s1, hbn, buf, hB, hg, hnone⟩
  unfold F_seglog_frames_l1
  rw [hb]
  have hv1 : ∀ c ∈ blkOf v, σ1.get c = σ.get c := fun c hc => s1.get c (hvl c hc)
  refine ifD (fun hlt => ?_) (fun hge => ?_)
  · have hi' : i < L.length := by omega
    refine h.at (σ' := σ1.bump 4) hv1 (i := i) rfl hi' ?_
    have htk : L.take (i + 1) = L.take i ++ [L[i]] := (List.take_append_getElem hi').symm
    have hf : frs crcOf (L.take (i + 1)) = frs crcOf (L.take i) ++ frame crcOf L[i] := by rw [htk, frs_append, frs_one]
    have hz1 := fsz_take_le L (i + 1)
    rw [← frs_size crcOf, hf, ByteArray.size_append, frame_size] at hz1
    obtain ⟨r, hr⟩ : ∃ r, L[i] = r := ⟨_, rfl⟩
    rw [hr] at hf hz1 ⊢
    refine callW_of (seglog_big (n := r.size)) ?_
    rintro _ σ2 ⟨rfl, s2⟩
    refine To.go ?_
    refine callW_of (bits_Crc r (by rw [reach_eqR]; omega) σ2) ?_
    rintro _ σ3 ⟨rfl, s3⟩
    refine To.go ?_
    refine callW_of (seglog_big (n := crcOf r)) ?_
    rintro _ σ4 ⟨rfl, s4⟩
    have s24 : σ1.Same σ4 := (s2.trans (s3.trans s4)).ob
    have n4 := s24.next
    refine To.go ?_
    refine ⟨by rw [be4_size, be4_size]; decide, ?_⟩
    refine ⟨by rw [ByteArray.size_append, be4_size, be4_size]; omega, ?_⟩
    rw [frame_eq]
    have hB4 : BldS σ4 b 98 5 buf (frs crcOf (L.take i)).data.toList := by
      refine ⟨(s24.get b hbn).trans hB.1, ?_⟩
      rcases hB.2 with h | ⟨g, e, hgg⟩
      · exact .inl h
      · exact .inr ⟨g, e, (s24.get g (hg g _ e).2).trans hgg⟩
    have hsz : (frs crcOf (L.take i)).data.toList.length = (frs crcOf (L.take i)).size := rfl
    refine callW_of (Builder_Write hB4 (frame crcOf r) (by rw [hsz, frame_size]; omega)) ?_
    rintro _ σ5 ⟨rfl, rfl⟩
    obtain ⟨buf', hB', s5, hb5, hg5, hn5⟩ := wr_ok hB4 (s1.trans s24) ⟨by omega, by omega⟩ (fun g n e => ⟨(hg g n e).1, by have := (hg g n e).2; omega⟩) hnone (frame crcOf r)
    have hcat : (frs crcOf (L.take i)).data.toList ++ (frame crcOf r).data.toList = (frs crcOf (L.take (i + 1))).data.toList := by
      rw [hf, ByteArray.data_append, Array.toList_append]
    rw [hcat] at hB' hn5
    refine iW_of (by omega) ?_
    refine again ⟨i + 1, ⟨by omega, by omega, s5.bump _, by simp only [Mem.next_bump]; omega, buf', hB', fun g n e => ⟨(hg5 g n e).1, by have := (hg5 g n e).2; simp only [Mem.next_bump]; omega⟩, hn5⟩, by omega⟩
  · obtain rfl : i = L.length := by omega
    refine callW_of (Builder_String (σ := σ1.bump 3) hB hnone) ?_
    rintro _ σ2 ⟨rfl, rfl⟩
    refine To.go ?_
    rw [List.take_length]
    exact ⟨rfl, s1.bump _⟩
end Go.Vit
