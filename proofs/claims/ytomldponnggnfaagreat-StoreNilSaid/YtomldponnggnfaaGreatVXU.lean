/- Closed runs of a raster. -/
import Derived.Test.YtomldponnggnfaaGreatVX1
import Derived.Test.YtomldponnggnfaaGreatVm3
set_option linter.unusedVariables false
set_option linter.unusedSimpArgs false
set_option maxRecDepth 1000000
namespace Go.Vit
open Go.Proofs
def smallR9 : AV := .agg [.int .i64 1, .int .i64 12, .str ⟨#[1, 1, 1, 1, 1, 1, 1, 1, 1, 1, 1, 1, 1, 1, 1, 1, 1, 1, 1, 1, 1, 1, 1, 1, 1, 1, 1, 1, 1, 1, 1, 1, 1, 1, 1, 1, 1, 1, 1, 1, 1, 1, 1, 1, 1, 1, 1, 1, 1, 1, 1, 1, 1, 1, 1, 1, 1, 1, 1, 1, 1, 1, 1, 1, 1, 1, 1, 1, 1, 1, 1, 1, 1, 1, 1, 1, 1, 1, 1, 1, 1, 1, 1, 1, 1, 1, 1, 1, 1, 1, 1, 1, 1, 1, 1, 1]⟩]
theorem small_9 : runsTo PG 4000 60 61 [.int .i64 9] smallR9 = true := by kernel_rfl
def smallR4 : AV := .agg [.int .i64 2, .int .i64 12, .str ⟨#[0, 0, 0, 0, 0, 0, 0, 0, 0, 0, 0, 0, 0, 0, 0, 0, 0, 0, 0, 0, 0, 0, 0, 0, 0, 0, 0, 0, 0, 0, 0, 0, 0, 0, 0, 0, 0, 0, 0, 0, 0, 0, 0, 0, 0, 0, 0, 0, 0, 0, 0, 0, 0, 0, 0, 0, 0, 0, 0, 0, 0, 0, 0, 0, 0, 0, 0, 0, 0, 0, 0, 0, 0, 0, 0, 0, 0, 0, 0, 0, 0, 0, 0, 0, 0, 0, 0, 0, 0, 0, 0, 0, 0, 0, 0, 0, 0, 0, 0, 0, 0, 0, 0, 0, 0, 0, 0, 0, 0, 0, 0, 0, 0, 0, 0, 0, 0, 0, 0, 0, 0, 0, 0, 0, 0, 0, 0, 0, 4, 4, 4, 4, 4, 4, 4, 4, 4, 4, 4, 4, 4, 4, 4, 4, 4, 4, 4, 4, 4, 4, 4, 4, 4, 4, 4, 4, 4, 4, 4, 4, 4, 4, 4, 4, 4, 4, 4, 4, 4, 4, 4, 4, 4, 4, 4, 4, 4, 4, 4, 4, 4, 4, 4, 4, 4, 4, 4, 4, 4, 4, 4, 4]⟩]
theorem small_4 : runsTo PG 4000 60 61 [.int .i64 4] smallR4 = true := by kernel_rfl
def tabS : List (Nat × List AV × AV) := [(61, [.int .i64 9], smallR9), (61, [.int .i64 4], smallR4)]
theorem tabS_ok : ∀ e ∈ tabS, ∀ σ, ACalls PG e.1 e.2.1 σ fun v σ' => v = e.2.2 ∧ σ' = σ := by
  intro e he σ
  unfold tabS at he
  simp only [List.mem_cons, List.not_mem_nil, or_false] at he
  rcases he with rfl | rfl
  · exact ACalls.runsF mixed 4000 60 small_9 rfl rfl σ
  · exact ACalls.runsF mixed 4000 60 small_4 rfl rfl σ
end Go.Vit
