/- The laws DeflateStored, DeflateFixed, DeflateLeast. -/
import Derived.Test.YtcliekhikcaoiaaV5LA
set_option linter.unusedVariables false
set_option linter.unusedSimpArgs false
set_option linter.unusedSimpArgs false
set_option maxRecDepth 20000
set_option maxRecDepth 20000
namespace Go.Vit
open Go.Proofs
theorem law05_DeflateStored (σ : Mem) (l : List AV) (_ : σ.Ro) (hw : Wts PG σ Try.f4.params.toList l) : ACalls PG n_law05_DeflateStored l σ fun v _ => isTrue v := by
  obtain ⟨s, rfl, hs⟩ := args_s (show Wts PG σ [9] l by rw [Try.params4] at hw; exact hw)
  clear hw
  refine ok_law05_DeflateStored fun live => ?_
  unfold F_law05_DeflateStored
  refine ifD (fun h => ?_) (fun h => ?_)
  · refine callW_of (law05_awake _) ?_
    rintro v σ1 ⟨rfl, _⟩
    exact rfl
  · refine callW_of (deflate_Stored (s := s) (by omega)) ?_
    rintro _ σ1 ⟨rfl, s1⟩
    refine To.go ?_
    refine callW_of (ref05_Stored (s := s) (by omega)) ?_
    rintro _ σ2 ⟨rfl, s2⟩
    refine To.go ?_
    refine ifT rfl ?_
    refine callW_of (law05_awake _) ?_
    rintro v σ3 ⟨rfl, _⟩
    exact rfl
end Go.Vit
