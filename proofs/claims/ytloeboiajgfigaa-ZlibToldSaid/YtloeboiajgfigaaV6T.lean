/- The document's numbers of symbols (as in the third seat) -/
import Derived.Test.YtloeboiajgfigaaV6W
set_option linter.unusedVariables false
set_option linter.unusedSimpArgs false
set_option linter.unusedSimpArgs false
set_option maxRecDepth 20000
namespace Go.Vit
open Go.Proofs
section
def lenB (c:Nat):Nat:=if c<265 then 0 else if c=285 then 0 else (c-261) / 4
def lenS:Nat->Nat
 | 0=>3
 | j+1=>lenS j+2^lenB (257+j)
def lenA (c:Nat):Nat:=if c=285 then 258 else lenS (c-257)
def disB (c:Nat):Nat:=if c<4 then 0 else c / 2-1
def disS:Nat->Nat
 | 0=>1
 | j+1=>disS j+2^disB j
theorem lenB_le {c:Nat} (h:c<=285):lenB c<=5:=by unfold lenB;split;omega;split<;>omega
theorem disB_le {c:Nat} (h:c<=29):disB c<=13:=by unfold disB;split<;>omega
end
section
end
end Go.Vit
