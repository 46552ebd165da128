/- The law InflateSays. -/
import Derived.Test.YtjddffdjbeemaaaV3RB
import Derived.Test.YtjddffdjbeemaaaV3L
set_option linter.unusedVariables false
set_option linter.unusedSimpArgs false
set_option linter.unusedSimpArgs false
set_option maxRecDepth 20000
set_option maxRecDepth 100000
namespace Go.Vit
open Go.Proofs
theorem law03_InflateSays (σ : Mem) (l : List AV) (_ : σ.Ro) (hw : Wts PG σ Try.f3.params.toList l) : ACalls PG n_law03_InflateSays l σ fun v _ => isTrue v := by
  rw [show Try.f3.params.toList = [9, 3] from by rw [Try.params3]] at hw
  obtain ⟨s, r, rfl, hs, hw⟩ := hw.str (by kernel_rfl)
  obtain ⟨most, r, rfl, hm, hw⟩ := hw.int (k := .i64) (by kernel_rfl)
  obtain rfl := hw.nil_inv
  rw [reach_eq] at hs
  have hm := wf_i64 hm
  unfold inI64 at hm
  refine ok_law03_InflateSays fun live => ?_
  unfold F_law03_InflateSays
  have awk : ∀ (σ1 : Mem) (k : Nat), callW PG n_law03_awake [] (σ1.bump k) fun v σ4 => castB v fun v5 => (fun v _ => isTrue v) (AV.bool v5) σ4 := by
    intro σ1 k
    refine callW_of (law03_awake _) ?_
    rintro _ σ2 ⟨rfl, _⟩
    repeat (first | refine To.go ?_ | with_reducible refine And.intro (by first | omega | exact ⟨rfl, rfl⟩) ?_ | ((with_reducible apply opt); (· (first | with_reducible assumption | rfl))) | ((with_reducible apply ldrw); (· (first | with_reducible assumption | (simp (disch := omega) only [go_sem, *]; try rfl))); (· (first | with_reducible assumption | rfl))) | ((with_reducible apply ldro); (· (first | with_reducible assumption | (simp (disch := omega) only [go_sem, *]; try rfl))); (· (first | with_reducible assumption | rfl))) | ((with_reducible apply st1); (· (first | with_reducible assumption | (simp (disch := omega) only [go_sem, *]; try rfl))); (· simp); (· rfl)) | with_reducible refine ifT rfl ?_ | with_reducible refine ifF (not_not_intro rfl) ?_ | with_reducible refine ifT (by omega) ?_ | with_reducible refine ifF (by omega) ?_)
    exact rfl
  refine ifD (fun h => awk _ _) (fun hsz => ?_)
  refine ifD (fun h => awk _ _) (fun hmz => ?_)
  refine callW_of (inflate_Inflate (F := 200000) (by omega) (by omega) (by omega)) ?_
  rintro _ σ1 ⟨rfl, s1⟩
  obtain ⟨w1, w2, w3, hw⟩ : ∃ w1 w2 w3, inflR (rInfl most 200000 s 0) = .tup [.str w1, .int .i64 w2, .int .i64 w3] := by
    cases rInfl most 200000 s 0 with
    | error z => exact ⟨_, _, _, rfl⟩
    | ok y => exact ⟨_, _, _, rfl⟩
  rw [hw]
  repeat (first | refine To.go ?_ | with_reducible refine And.intro (by first | omega | exact ⟨rfl, rfl⟩) ?_ | ((with_reducible apply opt); (· (first | with_reducible assumption | rfl))) | ((with_reducible apply ldrw); (· (first | with_reducible assumption | (simp (disch := omega) only [go_sem, *]; try rfl))); (· (first | with_reducible assumption | rfl))) | ((with_reducible apply ldro); (· (first | with_reducible assumption | (simp (disch := omega) only [go_sem, *]; try rfl))); (· (first | with_reducible assumption | rfl))) | ((with_reducible apply st1); (· (first | with_reducible assumption | (simp (disch := omega) only [go_sem, *]; try rfl))); (· simp); (· rfl)) | with_reducible refine ifT rfl ?_ | with_reducible refine ifF (not_not_intro rfl) ?_ | with_reducible refine ifT (by omega) ?_ | with_reducible refine ifF (by omega) ?_)
  refine callW_of (ref03_Inflate (F := 200000) (by omega) (by omega) (by omega)) ?_
  rintro _ σ2 ⟨rfl, s2⟩
  rw [hw]
  repeat (first | refine To.go ?_ | with_reducible refine And.intro (by first | omega | exact ⟨rfl, rfl⟩) ?_ | ((with_reducible apply opt); (· (first | with_reducible assumption | rfl))) | ((with_reducible apply ldrw); (· (first | with_reducible assumption | (simp (disch := omega) only [go_sem, *]; try rfl))); (· (first | with_reducible assumption | rfl))) | ((with_reducible apply ldro); (· (first | with_reducible assumption | (simp (disch := omega) only [go_sem, *]; try rfl))); (· (first | with_reducible assumption | rfl))) | ((with_reducible apply st1); (· (first | with_reducible assumption | (simp (disch := omega) only [go_sem, *]; try rfl))); (· simp); (· rfl)) | with_reducible refine ifT rfl ?_ | with_reducible refine ifF (not_not_intro rfl) ?_ | with_reducible refine ifT (by omega) ?_ | with_reducible refine ifF (by omega) ?_)
  exact awk _ _
end Go.Vit
