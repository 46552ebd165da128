/- Which codes lengths have. -/
import Derived.Test.YthkehkmnfaaagaaVH1
import Derived.Test.YthkehkmnfaaagaaVm3
set_option linter.unusedVariables false
set_option linter.unusedSimpArgs false
set_option linter.unusedSimpArgs false
set_option maxRecDepth 20000
namespace Go.Vit
open Go.Proofs
theorem law02_ints {a b : AV} {L M : List Int} {σ : Mem} (ha : RdS 1 σ a (ic L) L.length) (hb : RdS 1 σ b (ic M) M.length) (hl : L.length ≤ 2 ^ 60) :
    ACalls PG n_law02_ints [a, b] σ fun v σ' => v = .bool (decide (L = M)) ∧ σ.Same σ' := by
  refine ok_law02_ints fun live => ?_
  unfold F_law02_ints
  have hla := ha.lt live
  have hlb := hb.lt live
  refine ha.len ?_
  refine hb.len ?_
  refine ifD (fun hne => ?_) (fun heq => ?_)
  · refine ⟨?_, (Mem.Same.refl σ).bump _⟩
    rw [decide_eq_false]
    rintro rfl
    exact hne rfl
  · have hlen : L.length = M.length := by omega
    refine loop1 (fun (i : Nat) (x : Int) σ' => x = i ∧ i ≤ L.length ∧ L.take i = M.take i ∧ σ.Same σ') (fun i => L.length - i) 0 ⟨rfl, by omega, by simp, (Mem.Same.refl σ).bump _⟩ ?_
    rintro i _ σ1 ⟨rfl, hi, ht, s1⟩
    unfold F_law02_ints_l1
    have ha1 := ha.keep fun b hb => s1.get b (hla b hb)
    have hb1 := hb.keep fun b hb => s1.get b (hlb b hb)
    refine ha1.len ?_
    refine ifD (fun hlt => ?_) (fun hge => ?_)
    · have hil : i < L.length := by omega
      have him : i < M.length := by omega
      obtain ⟨p, c, rfl, hp⟩ := ha1.at hil
      obtain ⟨q, d, rfl, hq⟩ := hb1.at him
      repeat (first | refine To.go ?_ | with_reducible refine And.intro (by first | omega | exact ⟨rfl, rfl⟩) ?_ | ((with_reducible apply opt); (· (first | with_reducible assumption | rfl))) | ((with_reducible apply ldrw); (· (first | with_reducible assumption | (simp (disch := omega) only [go_sem, *]; try rfl))); (· (first | with_reducible assumption | rfl))) | ((with_reducible apply ldro); (· (first | with_reducible assumption | (simp (disch := omega) only [go_sem, *]; try rfl))); (· (first | with_reducible assumption | rfl))) | ((with_reducible apply st1); (· (first | with_reducible assumption | (simp (disch := omega) only [go_sem, *]; try rfl))); (· simp); (· rfl)) | with_reducible refine ifT rfl ?_ | with_reducible refine ifF (not_not_intro rfl) ?_ | with_reducible refine ifT (by omega) ?_ | with_reducible refine ifF (by omega) ?_)
      refine hp _ ?_
      repeat (first | refine To.go ?_ | with_reducible refine And.intro (by first | omega | exact ⟨rfl, rfl⟩) ?_ | ((with_reducible apply opt); (· (first | with_reducible assumption | rfl))) | ((with_reducible apply ldrw); (· (first | with_reducible assumption | (simp (disch := omega) only [go_sem, *]; try rfl))); (· (first | with_reducible assumption | rfl))) | ((with_reducible apply ldro); (· (first | with_reducible assumption | (simp (disch := omega) only [go_sem, *]; try rfl))); (· (first | with_reducible assumption | rfl))) | ((with_reducible apply st1); (· (first | with_reducible assumption | (simp (disch := omega) only [go_sem, *]; try rfl))); (· simp); (· rfl)) | with_reducible refine ifT rfl ?_ | with_reducible refine ifF (not_not_intro rfl) ?_ | with_reducible refine ifT (by omega) ?_ | with_reducible refine ifF (by omega) ?_)
      refine hq _ ?_
      obtain ⟨t, htl⟩ : ∃ t, L[i] = t := ⟨_, rfl⟩
      obtain ⟨u, hum⟩ : ∃ u, M[i] = u := ⟨_, rfl⟩
      rw [htl, hum]
      refine To.go ?_
      refine ifD (fun h => ?_) (fun h => ?_)
      · refine ⟨?_, s1.bump _⟩
        rw [decide_eq_false]
        rintro rfl
        rw [htl] at hum
        exact h hum
      · repeat (first | refine To.go ?_ | with_reducible refine And.intro (by first | omega | exact ⟨rfl, rfl⟩) ?_ | ((with_reducible apply opt); (· (first | with_reducible assumption | rfl))) | ((with_reducible apply ldrw); (· (first | with_reducible assumption | (simp (disch := omega) only [go_sem, *]; try rfl))); (· (first | with_reducible assumption | rfl))) | ((with_reducible apply ldro); (· (first | with_reducible assumption | (simp (disch := omega) only [go_sem, *]; try rfl))); (· (first | with_reducible assumption | rfl))) | ((with_reducible apply st1); (· (first | with_reducible assumption | (simp (disch := omega) only [go_sem, *]; try rfl))); (· simp); (· rfl)) | with_reducible refine ifT rfl ?_ | with_reducible refine ifF (not_not_intro rfl) ?_ | with_reducible refine ifT (by omega) ?_ | with_reducible refine ifF (by omega) ?_)
        refine again ⟨i + 1, ⟨by omega, by omega, ?_, s1.bump _⟩, by omega⟩
        rw [List.take_succ_eq_append_getElem hil, List.take_succ_eq_append_getElem him, ht, htl, hum, Decidable.not_not.1 h]
    · refine ⟨?_, s1.bump _⟩
      rw [decide_eq_true]
      obtain rfl : i = L.length := by omega
      rw [List.take_length, hlen, List.take_length] at ht
      exact ht
end Go.Vit
