/- What stands of a log's file that is cut off; a list and another. -/
import Derived.Test.YtgdaiahnceaieaaV9Z
set_option linter.unusedVariables false
set_option linter.unusedSimpArgs false
set_option linter.unusedSimpArgs false
set_option maxRecDepth 20000
namespace Go.Vit
open Go.Proofs
theorem fsz_cons (s : ByteArray) (l : List ByteArray) : fsz (s :: l) = 8 + s.size + fsz l := by unfold fsz; rw [List.map_cons, List.sum_cons]
theorem fsz_be4 (c : Nat) (l : List ByteArray) : fsz (be4 c :: l) = 12 + fsz l := by rw [fsz_cons, be4_size]
theorem fnd_cut {c n : Nat} {L : List ByteArray} (hc : c < 4294967296) (hg : ∀ s ∈ L, goodR s) (hn : n ≤ 12 + fsz L) :
    (n < 12 ∧ fndR ((frs crcOf (be4 c :: L)).extract 0 n) = none) ∨
    ∃ k, k ≤ L.length ∧ 12 + fsz (L.take k) ≤ n ∧ (k < L.length → n < 12 + fsz (L.take (k + 1))) ∧ fndR ((frs crcOf (be4 c :: L)).extract 0 n) = if c ≤ k then some (L.take k, 12 + fsz (L.take k)) else none := by
  have hg' : ∀ s ∈ be4 c :: L, goodR s := by
    intro s hs
    rcases List.mem_cons.1 hs with rfl | hs
    · exact ⟨by rw [be4_size]; decide, by rw [be4_size]; decide⟩
    · exact hg s hs
  obtain ⟨k, h0, h1, h2, h3, h4⟩ := scan_cut crcOf crc_lt (be4 c :: L) n hg' (by rw [fsz_be4]; exact hn)
  have hsz : ((frs crcOf (be4 c :: L)).extract 0 n).size = n := by rw [ByteArray.size_extract, frs_size, fsz_be4]; omega
  obtain ⟨X, hX⟩ : ∃ X, (frs crcOf (be4 c :: L)).extract 0 n = X := ⟨_, rfl⟩
  rw [hX] at h3 h4 hsz ⊢
  cases k with
  | zero =>
    left
    rw [List.take_zero] at h3
    refine ⟨?_, by unfold fndR; rw [h3]⟩
    have := h2 (by simp)
    rw [List.take_succ_cons, List.take_zero, fsz_be4] at this
    exact this
  | succ k =>
    right
    rw [List.take_succ_cons] at h1 h3 h4
    rw [fsz_be4] at h1 h4
    refine ⟨k, by rw [List.length_cons] at h0; omega, h1, fun hk => ?_, ?_⟩
    · have := h2 (by rw [List.length_cons]; omega)
      rw [List.take_succ_cons, fsz_be4] at this
      exact this
    · have hl : (L.take k).length = k := by rw [List.length_take]; rw [List.length_cons] at h0; omega
      unfold fndR
      rw [h3]
      show (if (be4 c).size = 4 ∧ num4 (be4 c) ≤ (L.take k).length then _ else _) = _
      rw [num4_be4 hc, hl, hsz]
      by_cases hck : c ≤ k
      · rw [if_pos ⟨rfl, hck⟩, if_pos hck, show n - (scan crcOf X).2.size = 12 + fsz (L.take k) from by omega]
      · rw [if_neg (fun h => hck h.2), if_neg hck]
theorem numbs_nil {D : Ds} (h : D.fs = []) : numbs D = [] := by
  unfold numbs; rw [h]; exact (srt_perm []).eq_nil
theorem numbs_one {D : Ds} {f : Int} {x : Fil} {c : Nat} (h : D.fs = [(f, x, c)]) : numbs D = [f] := by
  unfold numbs; rw [h]; exact (srt_uniq (List.Perm.refl _) (List.pairwise_singleton ..)).symm
theorem newO_nil {D : Ds} (h : D.fs = []) : newO D = none := by unfold newO; rw [numbs_nil h]; rfl
theorem cur_one {D : Ds} {f : Int} {x : Fil} {c : Nat} (h : D.fs = [(f, x, c)]) : curF D f = x := by unfold curF; rw [h, get_one]; rfl
theorem newO_one {D : Ds} {f : Int} {x : Fil} {c : Nat} (h : D.fs = [(f, x, c)]) : newO D = (fndR x.1).map fun p => (f, p) := by
  unfold newO
  rw [numbs_one h]
  show newR D [f] = _
  rw [newR, cur_one h]
  cases fndR x.1 <;> rfl
theorem app_none {D : Ds} {f : Int} {s : ByteArray} (h : D.fs = []) : (appD D f s).fs = [(f, (s, 0), D.clock)] := by
  have hc : curF D f = (⟨#[]⟩, 0) := by unfold curF; rw [h]; rfl
  show putL D.fs f ((curF D f).1 ++ s, (curF D f).2) D.clock = _
  rw [hc, h]
  show [(f, ((⟨#[]⟩ : ByteArray) ++ s, 0), D.clock)] = _
  rw [show (⟨#[]⟩ : ByteArray) ++ s = s from ByteArray.empty_append]
theorem app_one {D : Ds} {f : Int} {x : Fil} {c : Nat} {s : ByteArray} (h : D.fs = [(f, x, c)]) : (appD D f s).fs = [(f, (x.1 ++ s, x.2), c)] := by
  show putL D.fs f ((curF D f).1 ++ s, (curF D f).2) D.clock = _
  rw [cur_one h, h, put_one]
theorem app_calm {D : Ds} {f : Int} {s : ByteArray} (c : Calm D) : Calm (appD D f s) := by
  constructor
  · show (stepD D).dead = false
    rw [step_calm c]; exact c.dead
  · show (stepD D).armed = 0
    rw [step_calm c]; exact c.armed
theorem tot_one (f : Int) (x : Fil) (c : Nat) : tot [(f, x, c)] = x.1.size := by unfold tot; simp
theorem law17_texts {σ : Mem} {v w : AV} {A B : List ByteArray} (hv : SL σ v A) (hw : SL σ w B) (hl : A.length ≤ 2 ^ 40) : ACalls PG n_law17_texts [v, w] σ fun u σ' => u = .bool (decide (A = B)) ∧ σ.Same σ' := by
  refine ok_law17_texts fun live => ?_
  unfold F_law17_texts
  have hvl := hv.lt live
  have hwl := hw.lt live
  refine hv.len ?_
  refine hw.len ?_
  refine ifD (fun h => ?_) (fun h => ?_)
  · rw [decide_eq_false (fun e => h (by rw [e]))]
    exact ⟨rfl, (Mem.Same.refl σ).bump _⟩
  · have hAB : A.length = B.length := by omega
    refine loop1 (g1 := tI) (fun (i : Nat) (x : Int) (σ' : Mem) => x = (i : Nat) ∧ i ≤ A.length ∧ A.take i = B.take i ∧ σ.Same σ') (fun i => A.length - i) 0 ⟨rfl, by omega, rfl, (Mem.Same.refl σ).bump _⟩ ?_
    rintro i _ σ1 ⟨rfl, hi, htk, s1⟩
    unfold F_law17_texts_l1
    refine hv.len ?_
    refine ifD (fun hlt => ?_) (fun hge => ?_)
    · have hi1 : i < A.length := by omega
      have hi2 : i < B.length := by omega
      refine hv.at (σ' := σ1.bump 13) (fun c hc => s1.get c (hvl c hc)) (i := i) rfl hi1 ?_
      refine hw.at (σ' := σ1.bump 13) (fun c hc => s1.get c (hwl c hc)) (i := i) rfl hi2 ?_
      refine ifD (fun hne => ?_) (fun heq => ?_)
      · have : A ≠ B := fun e => hne (by simp only [e])
        rw [decide_eq_false this]
        exact ⟨rfl, s1.bump _⟩
      · refine iW_of (by omega) ?_
        refine again ⟨i + 1, ⟨by omega, by omega, ?_, s1.bump _⟩, by omega⟩
        rw [← List.take_append_getElem hi1, ← List.take_append_getElem hi2, htk, Decidable.not_not.1 heq]
    · rw [show i = A.length from by omega, List.take_length, List.take_of_length_le (by omega)] at htk
      rw [decide_eq_true htk]
      exact ⟨rfl, s1.bump _⟩
end Go.Vit
