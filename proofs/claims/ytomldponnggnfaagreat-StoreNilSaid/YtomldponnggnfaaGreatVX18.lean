/- The examples of chapter 18. -/
import Derived.Test.YtomldponnggnfaaGreatVXT
import Derived.Test.YtomldponnggnfaaGreatVXU
import Derived.Test.YtomldponnggnfaaGreatVXR
set_option linter.unusedVariables false
set_option linter.unusedSimpArgs false
set_option maxRecDepth 1000000
namespace Go.Vit
open Go.Proofs
abbrev orcL18 : CallL := orOrc (orcT 70 tab18) (orOrc (orcG tabS) (orOrc (orcN 151 crcOf) (orOrc (orcJ 97) (orcB 86 88 5 [150, 267]))))
theorem orc18 : CallOkL PG orcL18 := orOrc_ok (orcT_ok tab18_ok) (orOrc_ok (orcG_ok tabS_ok) (orOrc_ok (orcN_ok fun s hs σ => bits_Crc s (by unfold reachBytes; omega) σ) (orOrc_ok orcJ97 orcX1)))
theorem law18_runs : runsOrc PG [70, 61, 151, 97, 86, 88] orcL18 4000 90 15 [] (.bool true) = true := by kernel_rfl
theorem law18_awake (σ : Mem) : ACalls PG 15 [] σ fun v σ' => v = .bool true ∧ σ' = σ := ACalls.runsOrc mixed orc18 4000 90 law18_runs rfl rfl σ
end Go.Vit
