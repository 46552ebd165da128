/- The chapter's examples. -/
import Derived.Test.YtgdaiahnceaieaaV9W
import Derived.Test.YtgdaiahnceaieaaVm3
set_option linter.unusedVariables false
set_option linter.unusedSimpArgs false
set_option maxRecDepth 1000000
namespace Go.Vit
open Go.Proofs
theorem orc17 : CallOkL PG (orcB 69 71 5 [98]) := orcB_ok
  (fun T hT σ b buf bs s h hl => by obtain rfl := List.mem_singleton.1 hT; exact Builder_Write h s hl)
  (fun T hT σ b buf bs h hn => by obtain rfl := List.mem_singleton.1 hT; exact Builder_String h hn)
theorem law17_runs : runsOrc PG [69, 71] (orcB 69 71 5 [98]) 4000 60 n_law17_awake [] (.bool true) = true := by kernel_rfl
theorem law17_awake (σ : Mem) : ACalls PG n_law17_awake [] σ fun v σ' => v = .bool true ∧ σ' = σ := ACalls.runsOrc mixed orc17 4000 60 law17_runs rfl rfl σ
end Go.Vit
