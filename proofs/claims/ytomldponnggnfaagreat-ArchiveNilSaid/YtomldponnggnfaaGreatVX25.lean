/- The examples of chapter 25. -/
import Derived.Test.YtomldponnggnfaaGreatVXM
set_option linter.unusedVariables false
set_option linter.unusedSimpArgs false
set_option maxRecDepth 1000000
namespace Go.Vit
open Go.Proofs
abbrev orcL25 : CallL := orOrc (orcG tabM) (orcD 149)
theorem orc25 : CallOkL PG orcL25 := orOrc_ok (orcG_ok tabM_ok) orcDel
theorem law25_runs : runsOrc PG [148, 104, 149] orcL25 4000 90 57 [] (.bool true) = true := by kernel_rfl
theorem law25_awake (σ : Mem) : ACalls PG 57 [] σ fun v σ' => v = .bool true ∧ σ' = σ := ACalls.runsOrc mixed orc25 4000 90 law25_runs rfl rfl σ
end Go.Vit
