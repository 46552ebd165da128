/- Which codes lengths have: both answers. -/
import Derived.Test.YthkehkmnfaaagaaVH3
set_option linter.unusedVariables false
set_option linter.unusedSimpArgs false
set_option linter.unusedSimpArgs false
set_option maxRecDepth 20000
namespace Go.Vit
open Go.Proofs
def CodesR (L : List Int) (σ σ' : Mem) (v : AV) : Prop :=
  ∃ c, v = .tup [c, .int .i64 (chk L)] ∧ (chk L ≠ 0 → c = .nils) ∧ (chk L = 0 → lens L ∧ ∃ b, c = .slice b 0 L.length (.ex L.length) ∧ σ'.get b = some (.rw (ic (codes L))) ∧ σ.next ≤ b ∧ b < σ'.next) ∧ σ.Same σ'
end Go.Vit
