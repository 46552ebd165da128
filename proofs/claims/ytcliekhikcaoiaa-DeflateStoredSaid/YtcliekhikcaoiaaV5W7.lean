/- Inflate's walk 7 (as in the third seat) -/
import Derived.Test.YtcliekhikcaoiaaV5W6
set_option linter.unusedVariables false
set_option linter.unusedSimpArgs false
set_option linter.unusedSimpArgs false
set_option maxRecDepth 20000
namespace Go.Vit
open Go.Proofs
section

section
variable {σ σ' : Mem} {o : List Nat} {x r p : Nat} {s : ByteArray} {most : Int} {out : List UInt8} {v : AV}
theorem TabB.only {lo hi t : Nat} {D : List Int} {o : List Nat} (ht : TabB lo hi D σ t) (h : Mem.Only o σ σ') (hhi : hi ≤ σ.next) (ho : ∀ b ∈ o, b < lo ∨ hi ≤ b) : TabB lo hi D σ' t :=
  ht.keep fun b h1 h2 => h.get b (by omega) fun hm => by have := ho b hm; omega
end
end
end Go.Vit
