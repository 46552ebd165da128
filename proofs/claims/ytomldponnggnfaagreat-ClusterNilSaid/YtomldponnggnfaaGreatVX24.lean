/- The examples of chapter 24. -/
import Derived.Test.YtomldponnggnfaaGreatVXM
set_option linter.unusedVariables false
set_option linter.unusedSimpArgs false
set_option maxRecDepth 1000000
namespace Go.Vit
open Go.Proofs
abbrev orcL24 : CallL := orOrc (orcG tabM) (orcD 149)
theorem orc24 : CallOkL PG orcL24 := orOrc_ok (orcG_ok tabM_ok) orcDel
theorem law24_runs : runsOrc PG [148, 104, 149] orcL24 4000 90 27 [] (.bool true) = true := by kernel_rfl
theorem law24_awake (σ : Mem) : ACalls PG 27 [] σ fun v σ' => v = .bool true ∧ σ' = σ := ACalls.runsOrc mixed orc24 4000 90 law24_runs rfl rfl σ
end Go.Vit
