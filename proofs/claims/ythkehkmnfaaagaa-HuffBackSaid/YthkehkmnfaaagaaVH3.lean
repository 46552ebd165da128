/- Which codes lengths have. -/
import Derived.Test.YthkehkmnfaaagaaVH1
import Derived.Test.YthkehkmnfaaagaaVm3
set_option linter.unusedVariables false
set_option linter.unusedSimpArgs false
set_option linter.unusedSimpArgs false
set_option maxRecDepth 20000
namespace Go.Vit
open Go.Proofs
theorem law02_ints {a b : AV} {L M : List Int} {σ : Mem} (ha : RdS 1 σ a (ic L) L.length) (hb : RdS 1 σ b (ic M) M.length) (hl : L.length ≤ 2 ^ 60) :
    ACalls PG n_law02_ints [a, b] σ fun v σ' => v = .bool (decide (L = M)) ∧ σ.Same σ' := by
  refine ok_law02_ints fun live => ?_
  unfold F_law02_ints
  have hla := ha.lt live
  have hlb := hb.lt live
  refine ha.len ?_
  refine hb.len ?_
  refine ifD (fun hne => ?_) (fun heq => ?_)
  · refine ⟨?_, (Mem.Same.refl σ).bump _⟩
    rw [decide_eq_false]
    rintro rfl
    exact hne rfl
  · have hlen : L.length = M.length := by omega
    refine loop1 (fun (i : Nat) (x : Int) σ' => x = i ∧ i ≤ L.length ∧ L.take i = M.take i ∧ σ.Same σ') (fun i => L.length - i) 0 ⟨rfl, by omega, by simp, (Mem.Same.refl σ).bump _⟩ ?_
    rintro i _ σ1 ⟨rfl, hi, ht, s1⟩
    unfold F_law02_ints_l1
    have ha1 := ha.keep fun b hb => s1.get b (hla b hb)
    have hb1 := hb.keep fun b hb => s1.get b (hlb b hb)
    refine ha1.len ?_
    refine ifD (fun hlt => ?_) (fun hge => ?_)
    · have hil : i < L.length := by omega
      have him : i < M.length := by omega
      obtain ⟨p, c, rfl, hp⟩ := ha1.at hil
      obtain ⟨q, d, rfl, hq⟩ := hb1.at him
      repeat (first | refine To.go ?_ | with_reducible refine And.intro (by first | omega | exact ⟨rfl, rfl⟩) ?_ | ((with_reducible apply opt); (· (first | with_reducible assumption | rfl))) | ((with_reducible apply ldrw); (· (first | with_reducible assumption | (simp (disch := omega) only [go_sem, *]; try rfl))); (· (first | with_reducible assumption | rfl))) | ((with_reducible apply ldro); (· (first | with_reducible assumption | (simp (disch := omega) only [go_sem, *]; try rfl))); (· (first | with_reducible assumption | rfl))) | ((with_reducible apply st1); (· (first | with_reducible assumption | (simp (disch := omega) only [go_sem, *]; try rfl))); (· simp); (· rfl)) | with_reducible refine ifT rfl ?_ | with_reducible refine ifF (not_not_intro rfl) ?_ | with_reducible refine ifT (by omega) ?_ | with_reducible refine ifF (by omega) ?_)
      refine hp _ ?_
      repeat (first | refine To.go ?_ | with_reducible refine And.intro (by first | omega | exact ⟨rfl, rfl⟩) ?_ | ((with_reducible apply opt); (· (first | with_reducible assumption | rfl))) | ((with_reducible apply ldrw); (· (first | with_reducible assumption | (simp (disch := omega) only [go_sem, *]; try rfl))); (· (first | with_reducible assumption | rfl))) | ((with_reducible apply ldro); (· (first | with_reducible assumption | (simp (disch := omega) only [go_sem, *]; try rfl))); (· (first | with_reducible assumption | rfl))) | ((with_reducible apply st1); (· (first | with_reducible assumption | (simp (disch := omega) only [go_sem, *]; try rfl))); (· simp); (· rfl)) | with_reducible refine ifT rfl ?_ | with_reducible refine ifF (not_not_intro rfl) ?_ | with_reducible refine ifT (by omega) ?_ | with_reducible refine ifF (by omega) ?_)
      refine hq _ ?_
      obtain ⟨t, htl⟩ : ∃ t, L[i] = t := ⟨_, rfl⟩
      obtain ⟨u, hum⟩ : ∃ u, M[i] = u := ⟨_, rfl⟩
      rw [htl, hum]
      refine To.go ?_
      refine ifD (fun h => ?_) (fun h => ?_)
      · refine ⟨?_, s1.bump _⟩
        rw [decide_eq_false]
        rintro rfl
        rw [htl] at hum
        exact h hum
      · repeat (first | refine To.go ?_ | with_reducible refine And.intro (by first | omega | exact ⟨rfl, rfl⟩) ?_ | ((with_reducible apply opt); (· (first | with_reducible assumption | rfl))) | ((with_reducible apply ldrw); (· (first | with_reducible assumption | (simp (disch := omega) only [go_sem, *]; try rfl))); (· (first | with_reducible assumption | rfl))) | ((with_reducible apply ldro); (· (first | with_reducible assumption | (simp (disch := omega) only [go_sem, *]; try rfl))); (· (first | with_reducible assumption | rfl))) | ((with_reducible apply st1); (· (first | with_reducible assumption | (simp (disch := omega) only [go_sem, *]; try rfl))); (· simp); (· rfl)) | with_reducible refine ifT rfl ?_ | with_reducible refine ifF (not_not_intro rfl) ?_ | with_reducible refine ifT (by omega) ?_ | with_reducible refine ifF (by omega) ?_)
        refine again ⟨i + 1, ⟨by omega, by omega, ?_, s1.bump _⟩, by omega⟩
        rw [List.take_succ_eq_append_getElem hil, List.take_succ_eq_append_getElem him, ht, htl, hum, Decidable.not_not.1 h]
    · refine ⟨?_, s1.bump _⟩
      rw [decide_eq_true]
      obtain rfl : i = L.length := by omega
      rw [List.take_length, hlen, List.take_length] at ht
      exact ht
/-- The first codes, as an array. -/
def fA (L : List Int) (i : Nat) : List AV := ic (arr (fun n => (fc L n + cN (L.take i) n : Nat)) 16)
theorem fA_len (L : List Int) (i : Nat) : (fA L i).length = 16 := by unfold fA; rw [ic_len, arr_len]
theorem fA_zero (L : List Int) : fA L 0 = ic (arr (fun n => (fc L n : Nat)) 16) := by
  unfold fA; rw [arr_ext (g := fun n => ((fc L n : Nat) : Int)) fun j _ => by simp [cN]]
theorem huff_first {L : List Int} {σ : Mem} (hL : lens L) : ACalls PG n_huff_first [.agg (cA L)] σ fun v σ' => v = .agg (fA L 0) ∧ σ.Same σ' := by
  refine ok_huff_first fun live => ?_
  unfold F_huff_first
  refine ⟨ic_one _, ?_⟩
  repeat (first | refine To.go ?_ | with_reducible refine And.intro (by first | omega | exact ⟨rfl, rfl⟩) ?_ | ((with_reducible apply opt); (· (first | with_reducible assumption | rfl))) | ((with_reducible apply ldrw); (· (first | with_reducible assumption | (simp (disch := omega) only [go_sem, *]; try rfl))); (· (first | with_reducible assumption | rfl))) | ((with_reducible apply ldro); (· (first | with_reducible assumption | (simp (disch := omega) only [go_sem, *]; try rfl))); (· (first | with_reducible assumption | rfl))) | ((with_reducible apply st1); (· (first | with_reducible assumption | (simp (disch := omega) only [go_sem, *]; try rfl))); (· simp); (· rfl)) | with_reducible refine ifT rfl ?_ | with_reducible refine ifF (not_not_intro rfl) ?_ | with_reducible refine ifT (by omega) ?_ | with_reducible refine ifF (by omega) ?_)
  simp only [Mem.next_bump, Mem.next_put]
  obtain ⟨b0, hb0⟩ : ∃ b, σ.next = b := ⟨_, rfl⟩
  refine loop1 (fun (k : Nat) (x : Int) σ' => x = k ∧ 2 ≤ k ∧ k ≤ 16 ∧ σ.Same σ' ∧ σ.next + 2 < σ'.next ∧ σ'.get σ.next = some (.rw (cA L)) ∧ (∃ l, σ'.get (σ.next + 1) = some (.rw l) ∧ l.length = 16) ∧ σ'.get (σ.next + 2) = some (.rw (ic (arr (fun n => if n < k then (fc L n : Nat) else 0) 16)))) (fun k => 16 - k) 2 ⟨rfl, by omega, by omega, ?_, ?_, ?_, ⟨List.replicate 16 (.int .i64 0), ?_, rfl⟩, ?_⟩ ?_
  · repeat (with_reducible first | assumption | exact Mem.Only.refl _ _ | exact Mem.Same.refl _ | refine Mem.Only.bump ?_ _ | refine Mem.Only.put ?_ (by simp) _ | refine Mem.Only.put ?_ (.inr (by first | omega | (simp only [Mem.next_bump, Mem.next_put]; omega))) _ | refine Mem.Same.bump ?_ _ | refine Mem.Same.put ?_ (by first | omega | (simp only [Mem.next_bump, Mem.next_put]; omega)) _)
  · simp only [Mem.next_bump, Mem.next_put]; omega
  · rw [Mem.get_bump, Mem.get_put_ne _ (by omega), Mem.get_bump, Mem.get_put_ne _ (by omega), gS']; rfl
  · rw [Mem.get_bump, Mem.get_put_ne _ (by omega), Mem.get_bump, gS']
  · rw [Mem.get_bump, gS', arr_zero, arr_ext fun j hj => ?_]
    rcases (by omega : j = 0 ∨ j = 1 ∨ 2 ≤ j) with rfl | rfl | h
    · rfl
    · simp [fc, cN_zero]
    · rw [if_neg (by omega)]
  rintro k _ σ1 ⟨rfl, h2, hk, s1, n1, e0, ⟨l, e1, hl⟩, e2⟩
  unfold F_huff_first_l1
  simp only [Mem.next_bump, Mem.next_put]
  refine ifD (fun hlt => ?_) (fun hge => ?_)
  · have hb1 := fc_bound hL.1 (n := k - 1) (by omega)
    have hb2 := cN_le L (k - 1)
    have hL1 := hL.1
    have hstep : fc L k = (fc L (k - 1) + cN L (k - 1)) * 2 := by
      obtain ⟨m, rfl⟩ : ∃ m, k = m + 1 := ⟨k - 1, by omega⟩
      rw [fc]; rfl
    have g2 : (ic (arr (fun n => if n < k then ((fc L n : Nat) : Int) else 0) 16))[k - 1]? = some (.int .i64 (fc L (k - 1) : Nat)) := by
      rw [arr_get (by omega), if_pos (by omega)]
    have g0 := cA_at (L := L) (k := k - 1) (by omega)
    refine To.go ?_
    refine And.intro (by omega) ?_
    rw [show ((k : Int) - 1) = ((k - 1 : Nat) : Int) from by omega]
    refine To.go ?_
    refine And.intro (by omega) ?_
    rw [show 0 + (k - 1) * 1 = k - 1 from by omega]
    refine To.go ?_
    refine ldrw e2 g2 ?_
    refine To.go ?_
    refine To.go ?_
    refine And.intro (by omega) ?_
    refine To.go ?_
    refine And.intro (by omega) ?_
    rw [show 0 + (k - 1) * 1 = k - 1 from by omega]
    refine To.go ?_
    refine ldrw e0 g0 ?_
    refine To.go ?_
    refine To.go ?_
    refine And.intro (by omega) ?_
    refine To.go ?_
    refine And.intro (by omega) ?_
    refine To.go ?_
    refine And.intro (by omega) ?_
    rw [show 0 + k * 1 = k from by omega]
    refine st1 e2 (by rw [ic_len, arr_len]; omega) rfl ?_
    repeat (first | refine To.go ?_ | with_reducible refine And.intro (by first | omega | exact ⟨rfl, rfl⟩) ?_ | ((with_reducible apply opt); (· (first | with_reducible assumption | rfl))) | ((with_reducible apply ldrw); (· (first | with_reducible assumption | (simp (disch := omega) only [go_sem, *]; try rfl))); (· (first | with_reducible assumption | rfl))) | ((with_reducible apply ldro); (· (first | with_reducible assumption | (simp (disch := omega) only [go_sem, *]; try rfl))); (· (first | with_reducible assumption | rfl))) | ((with_reducible apply st1); (· (first | with_reducible assumption | (simp (disch := omega) only [go_sem, *]; try rfl))); (· simp); (· rfl)) | with_reducible refine ifT rfl ?_ | with_reducible refine ifF (not_not_intro rfl) ?_ | with_reducible refine ifT (by omega) ?_ | with_reducible refine ifF (by omega) ?_)
    refine again ⟨k + 1, ⟨by omega, by omega, by omega, by repeat (with_reducible first | assumption | exact Mem.Only.refl _ _ | exact Mem.Same.refl _ | refine Mem.Only.bump ?_ _ | refine Mem.Only.put ?_ (by simp) _ | refine Mem.Only.put ?_ (.inr (by first | omega | (simp only [Mem.next_bump, Mem.next_put]; omega))) _ | refine Mem.Same.bump ?_ _ | refine Mem.Same.put ?_ (by first | omega | (simp only [Mem.next_bump, Mem.next_put]; omega)) _), by simp only [Mem.next_bump, Mem.next_put]; omega, ?_, ⟨l, ?_, hl⟩, ?_⟩, by omega⟩
    · rw [Mem.get_bump, Mem.get_put_ne _ (by omega)]; exact e0
    · rw [Mem.get_bump, Mem.get_put_ne _ (by omega)]; exact e1
    · rw [Mem.get_bump, gS', ic_set, arr_set, arr_ext fun j hj => ?_]
      by_cases hjk : j = k
      · subst hjk; rw [if_pos rfl, if_pos (by omega)]; omega
      · rw [if_neg hjk]
        by_cases hj' : j < k
        · rw [if_pos hj', if_pos (by omega)]
        · rw [if_neg hj', if_neg (by omega)]
  · obtain rfl : k = 16 := by omega
    rw [arr_ext (g := fun n => ((fc L n : Nat) : Int)) fun j hj => if_pos hj, ← fA_zero] at e2
    refine ldnq e2 rfl (by rw [fA_len]; omega) ?_
    rw [List.drop_zero, List.take_of_length_le (by rw [fA_len]; omega)]
    refine stn e1 (by rw [hl]; omega) (fA_len L 0) (ic_one _) ?_
    rw [setAt_whole (by rw [hl, fA_len])]
    refine ldnq gS' rfl (by rw [fA_len]; omega) ?_
    rw [List.drop_zero, List.take_of_length_le (by rw [fA_len]; omega)]
    exact ⟨rfl, by repeat (with_reducible first | assumption | exact Mem.Only.refl _ _ | exact Mem.Same.refl _ | refine Mem.Only.bump ?_ _ | refine Mem.Only.put ?_ (by simp) _ | refine Mem.Only.put ?_ (.inr (by first | omega | (simp only [Mem.next_bump, Mem.next_put]; omega))) _ | refine Mem.Same.bump ?_ _ | refine Mem.Same.put ?_ (by first | omega | (simp only [Mem.next_bump, Mem.next_put]; omega)) _)⟩
end Go.Vit
