/- Runs of lengths, as the document tells them. -/
import Derived.Test.YtcliekhikcaoiaaV5P
set_option linter.unusedVariables false
set_option linter.unusedSimpArgs false
set_option linter.unusedSimpArgs false
set_option maxRecDepth 20000
namespace Go.Vit
open Go.Proofs
end Go.Vit
