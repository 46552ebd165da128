/- The chapter's examples, run. -/
import Derived.Test.YthkehkmnfaaagaaV2C
import Derived.Test.YthkehkmnfaaagaaVm3
set_option linter.unusedVariables false
set_option linter.unusedSimpArgs false
set_option linter.unusedSimpArgs false
set_option maxRecDepth 20000
namespace Go.Vit
open Go.Proofs
theorem runs_awake2 : runsTo PG 4000 40 n_law02_awake [] (.bool true) = true := by kernel_rfl
theorem law02_awake (σ : Mem) : ACalls PG n_law02_awake [] σ fun v σ' => v = .bool true ∧ σ' = σ := ACalls.runs mixed 4000 40 runs_awake2 rfl rfl σ
end Go.Vit
