/- HuffLimits. -/
import Derived.Test.YthkehkmnfaaagaaV2Y5
import Derived.Test.YthkehkmnfaaagaaVH3
import Derived.Test.YthkehkmnfaaagaaVHa
set_option linter.unusedVariables false
set_option linter.unusedSimpArgs false
set_option linter.unusedSimpArgs false
set_option maxRecDepth 20000
namespace Go.Vit
open Go.Proofs
theorem args_nL {σ : Mem} {l : List AV} (hw : Wts PG σ [3, 22] l) : ∃ n a L, l = [.int .i64 n, a] ∧ RdS 1 σ a (ic L) L.length ∧ L.length ≤ 2 ^ 44 ∧ (-9223372036854775808 ≤ n ∧ n ≤ 9223372036854775807) := by
  obtain ⟨n, r, rfl, hn, hw⟩ := hw.int (k := .i64) (by kernel_rfl)
  obtain ⟨a, L, rfl, h1, h2, _⟩ := args_L hw
  exact ⟨n, a, L, rfl, h1, h2, wf_i64 hn⟩
end Go.Vit
