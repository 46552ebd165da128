/- What is laid is read again: dynamic blocks. -/
import Derived.Test.YtloeboiajgfigaaGreatV7F1
set_option linter.unusedVariables false
set_option linter.unusedSimpArgs false
set_option maxRecDepth 20000
namespace Go.Vit
open Go.Proofs
/-! ### The small codes' lengths -/
def small (S:List Int) (is acc:List Int):List Int:=is.foldl (λa i=>a.set i.toNat (S.getD i.toNat 0)) acc
/-! ### Runs -/
/-! ### The symbols that stand have codes -/
section
variable {α:Type} {F:List Int->α->List Int} {k:Nat}
end
/-! ### The dynamic block -/
end Go.Vit
