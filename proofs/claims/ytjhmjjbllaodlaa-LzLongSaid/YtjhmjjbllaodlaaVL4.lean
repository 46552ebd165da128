/- The law LzTokens. -/
import Derived.Test.YtjhmjjbllaodlaaVL3
set_option linter.unusedVariables false
set_option linter.unusedSimpArgs false
set_option linter.unusedSimpArgs false
set_option maxRecDepth 20000
namespace Go.Vit
open Go.Proofs
theorem runs_awake4 : runsTo PG 4000 40 n_law04_awake [] (.bool true) = true := by kernel_rfl
theorem law04_awake (σ : Mem) : ACalls PG n_law04_awake [] σ fun v σ' => v = .bool true ∧ σ' = σ := ACalls.runs mixed 4000 40 runs_awake4 rfl rfl σ
theorem args_s {σ : Mem} {l : List AV} (hw : Wts PG σ [9] l) : ∃ s, l = [.str s] ∧ s.size ≤ reachBytes := by
  obtain ⟨s, r, rfl, hs, hw⟩ := hw.str (by kernel_rfl)
  obtain rfl := hw.nil_inv
  exact ⟨s, rfl, hs⟩
theorem law04_LzTokens (σ : Mem) (l : List AV) (_ : σ.Ro) (hw : Wts PG σ Try.f3.params.toList l) : ACalls PG n_law04_LzTokens l σ fun v _ => isTrue v := by
  obtain ⟨s, rfl, hs⟩ := args_s (show Wts PG σ [9] l by rw [Try.params3] at hw; exact hw)
  clear hw
  refine ok_law04_LzTokens fun live => ?_
  unfold F_law04_LzTokens
  refine ifD (fun h => ?_) (fun h => ?_)
  · refine callW_of (law04_awake _) ?_
    rintro v σ1 ⟨rfl, rfl⟩
    repeat (first | refine To.go ?_ | with_reducible refine And.intro (by first | omega | exact ⟨rfl, rfl⟩) ?_ | ((with_reducible apply opt); (· (first | with_reducible assumption | rfl))) | ((with_reducible apply ldrw); (· (first | with_reducible assumption | (simp (disch := omega) only [go_sem, *]; try rfl))); (· (first | with_reducible assumption | rfl))) | ((with_reducible apply ldro); (· (first | with_reducible assumption | (simp (disch := omega) only [go_sem, *]; try rfl))); (· (first | with_reducible assumption | rfl))) | ((with_reducible apply st1); (· (first | with_reducible assumption | (simp (disch := omega) only [go_sem, *]; try rfl))); (· simp); (· rfl)) | with_reducible refine ifT rfl ?_ | with_reducible refine ifF (not_not_intro rfl) ?_ | with_reducible refine ifT (by omega) ?_ | with_reducible refine ifF (by omega) ?_)
    exact rfl
  · refine callW_of (lz_Tokens s (by omega) _) ?_
    rintro v σ1 ⟨k, hk, own, s1⟩
    refine callW_of (ref04_Tokens s (by omega) _) ?_
    rintro v' σ2 ⟨k', hk', own', s2⟩
    obtain rfl := done_unique hk hk'
    have own := own.same s2
    have hl := toks_len s k
    refine callW_of (law04_tokens (l := toks s k) (m := toks s k) ?_ ?_ ?_) ?_
    · rw [hl]; exact own.1.rd
    · rw [hl]; exact own'.1.rd
    · rw [hl]; have := done_len hk; omega
    rintro _ σ3 ⟨rfl, s3⟩
    rw [decide_eq_true rfl]
    repeat (first | refine To.go ?_ | with_reducible refine And.intro (by first | omega | exact ⟨rfl, rfl⟩) ?_ | ((with_reducible apply opt); (· (first | with_reducible assumption | rfl))) | ((with_reducible apply ldrw); (· (first | with_reducible assumption | (simp (disch := omega) only [go_sem, *]; try rfl))); (· (first | with_reducible assumption | rfl))) | ((with_reducible apply ldro); (· (first | with_reducible assumption | (simp (disch := omega) only [go_sem, *]; try rfl))); (· (first | with_reducible assumption | rfl))) | ((with_reducible apply st1); (· (first | with_reducible assumption | (simp (disch := omega) only [go_sem, *]; try rfl))); (· simp); (· rfl)) | with_reducible refine ifT rfl ?_ | with_reducible refine ifF (not_not_intro rfl) ?_ | with_reducible refine ifT (by omega) ?_ | with_reducible refine ifF (by omega) ?_)
    refine callW_of (law04_awake _) ?_
    rintro v σ1 ⟨rfl, rfl⟩
    repeat (first | refine To.go ?_ | with_reducible refine And.intro (by first | omega | exact ⟨rfl, rfl⟩) ?_ | ((with_reducible apply opt); (· (first | with_reducible assumption | rfl))) | ((with_reducible apply ldrw); (· (first | with_reducible assumption | (simp (disch := omega) only [go_sem, *]; try rfl))); (· (first | with_reducible assumption | rfl))) | ((with_reducible apply ldro); (· (first | with_reducible assumption | (simp (disch := omega) only [go_sem, *]; try rfl))); (· (first | with_reducible assumption | rfl))) | ((with_reducible apply st1); (· (first | with_reducible assumption | (simp (disch := omega) only [go_sem, *]; try rfl))); (· simp); (· rfl)) | with_reducible refine ifT rfl ?_ | with_reducible refine ifF (not_not_intro rfl) ?_ | with_reducible refine ifT (by omega) ?_ | with_reducible refine ifF (by omega) ?_)
    exact rfl
end Go.Vit
