import Derived.Test.YtcliekhikcaoiaaV5L
set_option linter.unusedVariables false
set_option linter.unusedSimpArgs false
set_option linter.unusedVariables false
set_option maxRecDepth 100000
namespace Go.Vit
open Go.Proofs
/-! vitrine/vitrinelaw05.DeflateBack -/
/-! vitrine/inflate.Inflate -/
/-! (*vitrine/inflate.stream).several -/
/-! (*vitrine/inflate.stream).stored -/
/-! vitrine/inflate.fixed -/
/-! (*vitrine/inflate.stream).dynamic -/
/-! (*vitrine/inflate.stream).room -/
/-! (*vitrine/inflate.stream).match -/
end Go.Vit
