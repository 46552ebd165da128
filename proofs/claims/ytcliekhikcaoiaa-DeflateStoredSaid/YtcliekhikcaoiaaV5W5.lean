/- Inflate's walk 5 (as in the third seat) -/
import Derived.Test.YtcliekhikcaoiaaV5W4
set_option linter.unusedVariables false
set_option linter.unusedSimpArgs false
set_option linter.unusedSimpArgs false
set_option maxRecDepth 20000
namespace Go.Vit
open Go.Proofs
section

section
variable {σ σ' : Mem} {o : List Nat} {x r p : Nat} {s : ByteArray} {most : Int} {out : List UInt8} {v : AV}
theorem ordr_lt {i : Nat} (h : i < 19) : ∃ j : Nat, ordr[i]? = some (j : Int) ∧ j < 19 := by
  have : ∀ i : Fin 19, ∃ j : Fin 19, ordr[i.val]? = some ((j.val : Nat) : Int) := by decide
  obtain ⟨j, hj⟩ := this ⟨i, h⟩
  exact ⟨j.val, hj, j.isLt⟩
end
end
end Go.Vit
