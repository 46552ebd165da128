/- Lists of strings; a file's own records. -/
import Derived.Test.YtgdaiahnceaieaaV9Q
set_option linter.unusedVariables false
set_option linter.unusedSimpArgs false
set_option linter.unusedSimpArgs false
set_option maxRecDepth 20000
namespace Go.Vit
open Go.Proofs
def sc (l : List ByteArray) : List AV := l.map .str
theorem sc_len (l : List ByteArray) : (sc l).length = l.length := List.length_map ..
theorem sc_append (a b : List ByteArray) : sc (a ++ b) = sc a ++ sc b := List.map_append
theorem sc_one (l : List ByteArray) : (sc l).all AV.one = true := by
  rw [List.all_eq_true]
  intro x hx
  obtain ⟨s, _, rfl⟩ := List.mem_map.1 hx
  rfl
def SL (σ : Mem) (v : AV) (l : List ByteArray) : Prop :=
  (v = .nils ∧ l = []) ∨ ∃ b z c, v = .slice b z l.length c ∧ c.fits 1 = true ∧ l.length ≤ c.least l.length ∧ ∃ q cells, σ.get b = some q ∧ q.cellsR = some cells ∧ (cells.drop z).take l.length = sc l ∧ z + l.length ≤ cells.length
theorem SL.keep {σ σ' : Mem} {v : AV} {l : List ByteArray} (h : SL σ v l) (hb : ∀ c ∈ blkOf v, σ'.get c = σ.get c) : SL σ' v l := by
  rcases h with h | ⟨b, z, c, rfl, h1, h2, q, cells, h3, h4⟩
  · exact .inl h
  · exact .inr ⟨b, z, c, rfl, h1, h2, q, cells, (hb b (by simp [blkOf])).trans h3, h4⟩
theorem SL.lt {σ : Mem} {v : AV} {l : List ByteArray} (h : SL σ v l) (live : σ.Live) : ∀ c ∈ blkOf v, c < σ.next := by
  rcases h with ⟨rfl, _⟩ | ⟨b, z, c, rfl, h1, h2, q, cells, h3, h4⟩
  · intro c hc; simp [blkOf] at hc
  · intro c hc; simp only [blkOf, List.mem_singleton] at hc; subst hc; exact live.lt h3
theorem SL.len {σ : Mem} {v : AV} {l : List ByteArray} (h : SL σ v l) {K : Int → Prop} (hk : K (l.length : Nat)) : slenW v K := by
  rcases h with ⟨rfl, rfl⟩ | ⟨b, z, c, rfl, _⟩ <;> exact hk
theorem SL.nil (σ : Mem) : SL σ .nils [] := .inl ⟨rfl, rfl⟩
theorem SL.at {σ σ' : Mem} {v : AV} {l : List ByteArray} (h : SL σ v l) (hb : ∀ c ∈ blkOf v, σ'.get c = σ.get c) {i : Nat} {x : Int} (hx : x = (i : Nat)) (hi : i < l.length) {K : ByteArray → Prop} (hk : K (l[i]'hi)) : idxW 1 v x fun p => ldS σ' p K := by
  rcases h with ⟨_, rfl⟩ | ⟨b, z, c, rfl, _, _, q, cells, h1, h2, h3, h4⟩
  · exact absurd hi (by simp)
  · subst hx
    refine And.intro ⟨by omega, by omega⟩ ?_
    rw [Int.toNat_natCast]
    refine ldq (K := fun a => castS a K) ((hb b (by simp [blkOf])).trans h1) (v := .str (l[i]'hi)) ?_ hk
    rw [h2]
    show cells[z + i * 1]? = _
    rw [Nat.mul_one]
    have h5 : (sc l)[i]? = some (.str (l[i]'hi)) := by unfold sc; rw [List.getElem?_map, List.getElem?_eq_getElem hi]; rfl
    rw [← h3, List.getElem?_take, if_pos (by omega), List.getElem?_drop] at h5
    exact h5
theorem SL.tl {σ : Mem} {v : AV} {k : ByteArray} {ks : List ByteArray} (h : SL σ v (k :: ks)) {K : AV → Prop} (hk : ∀ w, SL σ w ks → (∀ c ∈ blkOf w, c ∈ blkOf v) → K w) : slcW 1 v (some 1) none K := by
  rcases h with ⟨_, h⟩ | ⟨b, z, c, rfl, hf, hl, q, cells, h1, h2, h3, h4⟩
  · cases h
  · rw [List.length_cons] at h3 h4 hl ⊢
    refine ⟨⟨hf, show (0 : Int) ≤ 1 by decide, show (1 : Int) ≤ ((ks.length + 1 : Nat) : Int) by omega, show ((ks.length + 1 : Nat) : Int) ≤ (c.least (ks.length + 1) : Nat) by omega⟩, ?_⟩
    show K (.slice b (z + 1 * 1) (ks.length + 1 - 1) (c.cut false 1 (c.least (ks.length + 1))))
    rw [Nat.mul_one, Nat.add_sub_cancel]
    refine hk _ (.inr ⟨b, z + 1, _, rfl, ?_, ?_, q, cells, h1, h2, ?_, by omega⟩) (fun c hc => hc)
    · cases c <;> exact hf
    · cases c with
      | ex n =>
        have hl2 : ks.length + 1 ≤ n := hl
        show ks.length ≤ n - 1
        omega
      | op s => exact Nat.le_refl _
    · have h6 : ((cells.drop z).take (ks.length + 1)).drop 1 = sc ks := by rw [h3]; rfl
      rw [List.drop_take, List.drop_drop, Nat.add_sub_cancel] at h6
      exact h6
theorem SL.of_own {σ : Mem} {v : AV} {l : List ByteArray} (h : OwnS 1 σ v (sc l) l.length) : SL σ v l := by
  rcases h with ⟨h1, h2, _⟩ | ⟨b, rfl, h1, h2⟩
  · exact .inl ⟨h1, List.length_eq_zero_iff.1 h2⟩
  · exact .inr ⟨b, 0, .op 1, rfl, rfl, Nat.le_refl _, _, _, h1, rfl, by rw [List.drop_zero, ← sc_len, List.take_length], by rw [sc_len]; omega⟩
theorem SL.one {σ : Mem} {b : Nat} {k : ByteArray} (h : σ.get b = some (.rw [.str k])) : SL σ (.slice b 0 1 (.ex 1)) [k] :=
  .inr ⟨b, 0, .ex 1, rfl, rfl, Nat.le_refl _, _, _, h, rfl, rfl, Nat.le_refl _⟩
def fndR (s : ByteArray) : Option (List ByteArray × Nat) :=
  match (scan crcOf s).1 with
  | [] => none
  | r :: l => if r.size = 4 ∧ num4 r ≤ l.length then some (l, s.size - (scan crcOf s).2.size) else none
def fndRV (o : Option (List ByteArray × Nat)) (w : AV) (σ σ' : Mem) (v : AV) : Prop :=
  match o with
  | none => v = .tup [.nils, .int .i64 0, .bool false]
  | some (own, e) => v = .tup [w, .int .i64 (e : Nat), .bool true] ∧ SL σ' w own ∧ ∀ b ∈ blkOf w, σ.next ≤ b ∧ b < σ'.next
theorem nxt_fit {s : ByteArray} (h : nxtB crcOf s = true) : num4 s + 8 ≤ s.size := by
  rcases Nat.lt_or_ge s.size (num4 s + 8) with h1 | h1
  · rw [nxt_no (by omega)] at h; cases h
  · exact h1
theorem seglog_found {s : ByteArray} (hs : s.size ≤ 2 ^ 30) {σ : Mem} : ACalls PG n_seglog_found [.str s] σ fun v σ' => (∃ w, fndRV (fndR s) w σ σ' v) ∧ σ.Same σ' := by
  refine ok_seglog_found fun live => ?_
  unfold F_seglog_found
  refine callW_of (seglog_next (s := s) (by omega)) ?_
  rintro _ σ1 ⟨⟨r, rfl, hr⟩, s1⟩
  have s01 := s1.ob
  refine tpS_of rfl ?_
  refine tpB_of rfl ?_
  refine loop4 (g1 := .v) (g2 := .s) (g3 := .s) (g4 := .b) (fun (l : List ByteArray) (v : AV) (rest r : ByteArray) (is : Bool) (σ' : Mem) => Own 1 σ σ' v (sc l) l.length ∧ is = nxtB crcOf rest ∧ (is = true → r = nxtR rest) ∧ scan crcOf s = (l ++ (scan crcOf rest).1, (scan crcOf rest).2) ∧ l.length * 9 + rest.size ≤ s.size ∧ σ.Same σ')
    (fun l => s.size - l.length) [] ⟨Own.nil 1 _ _, rfl, hr, rfl, by simp, s01⟩ ?_
  rintro l v rest r is σ2 ⟨hown, his, hr, hsc, hsz, s2⟩
  unfold F_seglog_found_l1
  refine ifI (fun h => ?_) (fun h => ?_)
  · subst h
    have his := his.symm
    have hr := hr rfl
    obtain ⟨z1, z2, z3, z4, z5⟩ := nxt_size _ his
    have hsc2 := scan_yes _ his
    refine To.go ?_
    have hl := live
    have e1 : sc [r] = [.str r] := rfl
    refine Own.push (σ := σ) (σ1 := σ2) (m := 1) (j := 6) (c := sc [r]) hown s2 rfl (by omega) (by omega) (by omega) rfl (sc_one _) (sc_one _) (by omega) ?_ (by simp only [Mem.next_put, Mem.next_bump]; omega)
    intro v' σ3 own3 s3 hid3 o3 b3
    have n3 := s3.next
    have hrs : r.size = num4 rest := by rw [hr]; exact z3
    have hfit := nxt_fit his
    have hrest : ByteArray.size rest ≤ 2 ^ 30 := by omega
    refine iW_of (by omega) ?_
    refine ⟨by omega, ?_⟩
    rw [Int.toNat_natCast, show (8 + (r.size : Int)).toNat = 8 + r.size from by omega, hrs]
    obtain ⟨t, ht⟩ : ∃ t, rest.extract (8 + num4 rest) rest.size = t := ⟨_, rfl⟩
    rw [ht] at z2 hsc2 ⊢
    refine callW_of (seglog_next (s := t) (by omega)) ?_
    rintro _ σ4 ⟨⟨r4, rfl, hr4⟩, s4⟩
    refine tpS_of rfl ?_
    refine tpB_of rfl ?_
    have s34 := s4.ob
    rw [← sc_append] at own3
    refine again ⟨l ++ [r], ⟨?_, rfl, hr4, ?_, ?_, s3.trans s34⟩, ?_⟩
    · rw [List.length_append]; exact own3.same s34
    · rw [hsc, hsc2, hr, List.append_assoc]; rfl
    · rw [List.length_append, List.length_singleton]; omega
    · rw [List.length_append, List.length_singleton]; omega
  · subst h
    have his := his.symm
    rw [scan_no _ his, List.append_nil] at hsc
    have hf0 : ∀ q t, l = q :: t → fndR s = if q.size = 4 ∧ num4 q ≤ t.length then some (t, s.size - rest.size) else none := by
      intro q t e
      unfold fndR; rw [hsc, e]
    have hfn : l = [] → fndR s = none := by
      intro e
      unfold fndR; rw [hsc, e]
    have hSL := SL.of_own hown.1
    refine hSL.len ?_
    refine ifD (fun h0 => ?_) (fun h0 => ?_)
    · have hl0 : l = [] := List.length_eq_zero_iff.1 (by omega)
      subst hl0
      rw [hfn rfl]
      exact ⟨⟨.nils, rfl⟩, s2.bump _⟩
    cases l with
    | nil => exact absurd rfl h0
    | cons q t =>
      have hf := hf0 q t rfl
      rw [List.length_cons] at hsz
      refine hSL.at (σ' := σ2.bump 20) (fun _ _ => rfl) (i := 0) rfl (by simp) ?_
      show ifB (decide ((q.size : Int) ≠ 4)) _ _
      refine ifD (fun h4 => ?_) (fun h4 => ?_)
      · rw [hf, if_neg (by omega)]
        exact ⟨⟨.nils, rfl⟩, s2.bump _⟩
      refine hSL.at (σ' := σ2.bump 20) (fun _ _ => rfl) (i := 0) rfl (by simp) ?_
      show callW PG n_seglog_number [.str q] _ _
      refine callW_of (seglog_number (s := q) (by omega)) ?_
      rintro _ σ3 ⟨rfl, s3⟩
      have s23 := s3.ob
      have s03 := s2.trans s23
      refine To.go ?_
      refine hSL.len ?_
      rw [List.length_cons]
      refine ifD (fun h5 => ?_) (fun h5 => ?_)
      · rw [hf, if_neg (by omega)]
        exact ⟨⟨.nils, rfl⟩, s03.bump _⟩
      rw [hf, if_pos (by omega)]
      have hSL3 : SL σ3 v (q :: t) := hSL.keep fun b hb => s23.get b (hown.2 b hb).2
      refine hSL3.tl ?_
      intro w hw hbw
      refine iW_of (by omega) ?_
      refine ⟨⟨w, ?_, hw.keep fun _ _ => rfl, fun b hb => ?_⟩, s03.bump _⟩
      · rw [show (s.size : Int) - (rest.size : Int) = ((s.size - rest.size : Nat) : Int) from by omega]
      · have h1 := hown.2 b (hbw b hb)
        have h2 := s23.next
        simp only [Mem.next_bump]
        omega
end Go.Vit
