/- Rows -/
import Derived.Test.YthkehkmnfaaagaaV2O
import Derived.Test.YthkehkmnfaaagaaVm3
set_option linter.unusedVariables false
set_option linter.unusedSimpArgs false
set_option linter.unusedSimpArgs false
set_option maxRecDepth 20000
namespace Go.Vit
open Go.Proofs
section

structure Th where
  n : Int
  c : Bool
  v : AV
  one : v.one = true
  t : Pm
def thC (x : Th) : List AV := [.int .i64 x.n, .bool x.c, x.v]
def th3 (X : List Th) : List AV := X.flatMap thC
end
end Go.Vit
