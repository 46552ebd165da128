/- Codes in plain words. -/
import Derived.Test.YthkehkmnfaaagaaVsN
set_option linter.unusedVariables false
set_option linter.unusedSimpArgs false
namespace Go.Vit
/-- The first code of each length. -/
def fc (L : List Int) : Nat → Nat
  | 0 => 0
  | n + 1 => (fc L n + cN L n) * 2
theorem fc_le (L : List Int) : ∀ n, fc L n + 2 * L.length ≤ L.length * 2 ^ (n + 1)
  | 0 => by rw [fc]; omega
  | n + 1 => by
    have h1 := fc_le L n
    have h2 := cN_le L n
    rw [fc, Nat.pow_succ, ← Nat.mul_assoc]
    omega
theorem fc_bound {L : List Int} (hL : L.length ≤ 288) {n : Nat} (hn : n ≤ 15) : fc L n ≤ 288 * 65536 := by
  have h1 := fc_le L n
  have h2 : 2 ^ (n + 1) ≤ 2 ^ 16 := pow_le (by omega)
  have h3 : L.length * 2 ^ (n + 1) ≤ 288 * 2 ^ 16 := Nat.mul_le_mul hL h2
  omega
/-- The code of a symbol. -/
def cd (L : List Int) (i : Nat) : Nat := if 0 < L.getD i 0 then fc L (L.getD i 0).toNat + cN (L.take i) (L.getD i 0).toNat else 0
def codes (L : List Int) : List Int := arr (fun i => (cd L i : Nat)) L.length
theorem codes_len (L : List Int) : (codes L).length = L.length := arr_len _ _
theorem getD_of {L : List Int} {i : Nat} (h : i < L.length) : L.getD i 0 = L[i] := by simp [List.getD, List.getElem?_eq_getElem h]
theorem cd_at {L : List Int} {i n : Nat} (h : i < L.length) (hn : L[i] = (n : Nat)) (h0 : 0 < n) : cd L i = fc L n + cN (L.take i) n := by
  unfold cd
  rw [getD_of h, hn, if_pos (by omega), Int.toNat_natCast]
theorem cd_none {L : List Int} {i : Nat} (h : i < L.length) (hn : ¬ 0 < L[i]) : cd L i = 0 := by
  unfold cd
  rw [getD_of h, if_neg hn]
end Go.Vit
