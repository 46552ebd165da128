/- A log's calls: Sync, Compact. -/
import Derived.Test.YtgdaiahnceaieaaV9Y
set_option linter.unusedVariables false
set_option linter.unusedSimpArgs false
set_option linter.unusedSimpArgs false
set_option maxRecDepth 20000
namespace Go.Vit
open Go.Proofs
end Go.Vit
