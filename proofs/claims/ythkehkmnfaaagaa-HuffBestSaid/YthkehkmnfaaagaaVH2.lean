/- The law HuffChecks. -/
import Derived.Test.YthkehkmnfaaagaaVH1
import Derived.Test.YthkehkmnfaaagaaVHa
set_option linter.unusedVariables false
set_option linter.unusedSimpArgs false
set_option linter.unusedSimpArgs false
set_option maxRecDepth 20000
namespace Go.Vit
open Go.Proofs
theorem args_L {σ : Mem} {l : List AV} (hw : Wts PG σ [22] l) : ∃ a L, l = [a] ∧ RdS 1 σ a (ic L) L.length ∧ L.length ≤ 2 ^ 44 ∧ ∀ x ∈ L, -9223372036854775808 ≤ x ∧ x ≤ 9223372036854775807 :=
  args_ints (e := 3) (by kernel_rfl) (by kernel_rfl) (by kernel_rfl) (by kernel_rfl) hw
end Go.Vit
