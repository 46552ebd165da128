/- The document's rows: coins and pairs are merged. -/
import Derived.Test.YtcliekhikcaoiaaV5O
import Derived.Test.YtcliekhikcaoiaaVm3
set_option linter.unusedVariables false
set_option linter.unusedSimpArgs false
set_option linter.unusedSimpArgs false
set_option maxRecDepth 20000
namespace Go.Vit
open Go.Proofs
structure Th where
  n : Int
  c : Bool
  v : AV
  one : v.one = true
  t : Pm
def thC (x : Th) : List AV := [.int .i64 x.n, .bool x.c, x.v]
def th3 (X : List Th) : List AV := X.flatMap thC
end Go.Vit
