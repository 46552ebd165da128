/- Rows 4 -/
import Derived.Test.YthkehkmnfaaagaaV2Y3
set_option linter.unusedVariables false
set_option linter.unusedSimpArgs false
set_option linter.unusedSimpArgs false
set_option maxRecDepth 20000
namespace Go.Vit
open Go.Proofs
section

end
end Go.Vit
