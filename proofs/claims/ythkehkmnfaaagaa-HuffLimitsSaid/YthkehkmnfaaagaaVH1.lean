/- Lists of numbers; whether lengths are those of a full set of codes. -/
import Derived.Test.YthkehkmnfaaagaaV2C
import Derived.Test.YthkehkmnfaaagaaVm3
set_option linter.unusedVariables false
set_option linter.unusedSimpArgs false
set_option linter.unusedSimpArgs false
set_option maxRecDepth 20000
namespace Go.Vit
open Go.Proofs
theorem RdS.at {σ : Mem} {v : AV} {L : List Int} (h : RdS 1 σ v (ic L) L.length) {i : Nat} (hi : i < L.length) : ∃ b c, v = .slice b 0 L.length c ∧ ∀ {K : AV → Prop} (n : Nat), K (.int .i64 L[i]) → ldW (σ.bump n) (.ptr b i) K := by
  obtain ⟨b, c, rfl, h1, _⟩ := h.pos (by omega)
  exact ⟨b, c, rfl, fun n hk => ld_rd (σ := σ.bump n) h1 (ic_get hi) hk⟩
def cA (L : List Int) : List AV := ic (arr (fun n => (cN L n : Nat)) 16)
theorem args_ints {σ : Mem} {l : List AV} {t e : TypeId} (hu : PG.underlying t = some (.slice e)) (he : PG.underlying e = some (.int .i64)) (hc : PG.cellsOf e = 1) (hb : PG.bytesOf e = 8) (hw : Wts PG σ [t] l) :
    ∃ a L, l = [a] ∧ RdS 1 σ a (ic L) L.length ∧ L.length ≤ 2 ^ 44 ∧ ∀ x ∈ L, -9223372036854775808 ≤ x ∧ x ≤ 9223372036854775807 := by
  obtain ⟨a, r, L, rfl, hw, ha, hn, hL⟩ := hw.ints hu he hc hb
  obtain rfl := hw.nil_inv
  exact ⟨a, L, rfl, ha, hn, hL⟩
end Go.Vit
