/- Tables of codes. -/
import Derived.Test.YthkehkmnfaaagaaVS4
import Derived.Test.YthkehkmnfaaagaaVm3
import Derived.Test.YthkehkmnfaaagaaVH5
set_option linter.unusedVariables false
set_option linter.unusedSimpArgs false
set_option linter.unusedSimpArgs false
set_option maxRecDepth 20000
namespace Go.Vit
open Go.Proofs
theorem cmp_isNaN_int (x : Int) (σ : Mem) : ACalls PG n_cmp_isNaN_int_ [.int .i64 x] σ fun v σ' => v = .bool false ∧ σ.Same σ' := by
  refine ok_cmp_isNaN_int_ fun live => ?_
  unfold F_cmp_isNaN_int_
  exact ⟨by simp, (Mem.Same.refl σ).bump _⟩
theorem cmp_Compare_int (x y : Int) (σ : Mem) : ACalls PG n_cmp_Compare_int_ [.int .i64 x, .int .i64 y] σ fun v σ' => ∃ c, v = .int .i64 c ∧ (c < 0 ↔ x < y) ∧ σ.Same σ' := by
  refine ok_cmp_Compare_int_ fun live => ?_
  unfold F_cmp_Compare_int_
  refine callW_of (cmp_isNaN_int _ _) ?_
  rintro _ σ1 ⟨rfl, s1⟩
  replace s1 := s1.ob
  refine To.go ?_
  refine callW_of (cmp_isNaN_int _ _) ?_
  rintro _ σ2 ⟨rfl, s2⟩
  replace s2 := s2.ob
  have s := s1.trans s2
  refine To.go ?_
  repeat (first | refine To.go ?_ | with_reducible refine And.intro (by first | omega | exact ⟨rfl, rfl⟩) ?_ | ((with_reducible apply opt); (· (first | with_reducible assumption | rfl))) | ((with_reducible apply ldrw); (· (first | with_reducible assumption | (simp (disch := omega) only [go_sem, *]; try rfl))); (· (first | with_reducible assumption | rfl))) | ((with_reducible apply ldro); (· (first | with_reducible assumption | (simp (disch := omega) only [go_sem, *]; try rfl))); (· (first | with_reducible assumption | rfl))) | ((with_reducible apply st1); (· (first | with_reducible assumption | (simp (disch := omega) only [go_sem, *]; try rfl))); (· simp); (· rfl)) | with_reducible refine ifT rfl ?_ | with_reducible refine ifF (not_not_intro rfl) ?_ | with_reducible refine ifT (by omega) ?_ | with_reducible refine ifF (by omega) ?_)
  refine ifD (fun h => ?_) (fun h => ?_)
  · exact ⟨_, rfl, ⟨fun _ => h, fun _ => by omega⟩, s.bump _⟩
  refine ifD (fun h => ?_) (fun h => ?_)
  · exact ⟨_, rfl, ⟨fun _ => by omega, fun _ => by omega⟩, s.bump _⟩
  · exact ⟨_, rfl, ⟨fun _ => by omega, fun _ => by omega⟩, s.bump _⟩
end Go.Vit
