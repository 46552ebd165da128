/- Symbols of tokens are laid, as the document does. -/
import Derived.Test.YtcliekhikcaoiaaV5X6
set_option linter.unusedVariables false
set_option linter.unusedSimpArgs false
set_option linter.unusedSimpArgs false
set_option maxRecDepth 20000
namespace Go.Vit
open Go.Proofs
end Go.Vit
