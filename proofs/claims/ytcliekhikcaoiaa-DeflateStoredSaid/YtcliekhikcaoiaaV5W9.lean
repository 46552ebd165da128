/- Inflate's walk 9 (as in the third seat) -/
import Derived.Test.YtcliekhikcaoiaaV5W8
set_option linter.unusedVariables false
set_option linter.unusedSimpArgs false
set_option linter.unusedSimpArgs false
set_option maxRecDepth 20000
namespace Go.Vit
open Go.Proofs
section

section
variable {σ σ' : Mem} {o : List Nat} {x r p : Nat} {s : ByteArray} {most : Int} {out : List UInt8} {v : AV}
end
theorem fixL_len : fixL.length = 288 := arr_len _ _
theorem fixD_len : fixD.length = 32 := arr_len _ _
end
end Go.Vit
