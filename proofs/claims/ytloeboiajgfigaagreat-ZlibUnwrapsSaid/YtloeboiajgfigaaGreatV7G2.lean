import Derived.Test.YtloeboiajgfigaaGreatV7G
set_option linter.unusedVariables false
set_option linter.unusedSimpArgs false
set_option maxRecDepth 100000
namespace Go.Vit
open Go.Proofs
/-! vitrine/vitrineref05.Dynamic -/
end Go.Vit
