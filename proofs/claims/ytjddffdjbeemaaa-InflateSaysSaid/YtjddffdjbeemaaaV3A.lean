/- The chapter's examples. -/
import Derived.Test.YtjddffdjbeemaaaV3W9
set_option linter.unusedVariables false
set_option linter.unusedSimpArgs false
set_option linter.unusedSimpArgs false
set_option maxRecDepth 20000
set_option maxRecDepth 100000
namespace Go.Vit
open Go.Proofs
theorem ex2 : rInfl 9 60 ⟨#[3, 0]⟩ 0 = .ok ([], 10) := by kernel_rfl
theorem ex1 : rInfl 9 60 ⟨#[1, 2, 0, 253, 255, 97, 98]⟩ 0 = .ok ([97, 98], 56) := by kernel_rfl
theorem ex4 : rInfl 9 60 ⟨#[7]⟩ 0 = .error 13 := by kernel_rfl
theorem ex5 : rInfl 9 60 ⟨#[1, 2, 0, 253, 254]⟩ 0 = .error 14 := by kernel_rfl
theorem ex3 : rInfl 1 60 ⟨#[75, 4, 0]⟩ 0 = .ok ([97], 18) := by kernel_rfl
end Go.Vit
