/- Which codes lengths have: the document's answer, and the law. -/
import Derived.Test.YthkehkmnfaaagaaVH4
import Derived.Test.YthkehkmnfaaagaaVH2
set_option linter.unusedVariables false
set_option linter.unusedSimpArgs false
set_option linter.unusedSimpArgs false
set_option maxRecDepth 20000
namespace Go.Vit
open Go.Proofs
def CW (L : List Int) (n i : Nat) (code was : Int) : Prop :=
  (was = 0 ∧ code = 0 ∧ fc L n + cN (L.take i) n = 0) ∨ ∃ w c : Nat, was = w ∧ code = c ∧ 1 ≤ w ∧ w ≤ n ∧ (c + 1) * 2 ^ (n - w) = fc L n + cN (L.take i) n
theorem CW.next {L : List Int} {n i : Nat} {code was : Int} (h : CW L n i code was) (hi : L.length ≤ i) : CW L (n + 1) 0 code was := by
  have e : fc L (n + 1) + cN (L.take 0) (n + 1) = (fc L n + cN (L.take i) n) * 2 := by
    rw [fc, List.take_of_length_le hi]; simp [cN]
  rcases h with ⟨h1, h2, h3⟩ | ⟨w, c, h1, h2, h3, h4, h5⟩
  · refine .inl ⟨h1, h2, ?_⟩
    rw [e, h3]
  · refine .inr ⟨w, c, h1, h2, h3, by omega, ?_⟩
    rw [e, ← h5, show n + 1 - w = (n - w) + 1 from by omega, Nat.pow_succ, Nat.mul_assoc]
theorem CodesR.rd {L : List Int} {σ σ' : Mem} {v : AV} (h : CodesR L σ σ' v) : ∃ c l, v = .tup [c, .int .i64 (chk L)] ∧ l.length ≤ L.length ∧ l = (if chk L = 0 then codes L else []) ∧ RdS 1 σ' c (ic l) l.length ∧ (∀ b ∈ blkOf c, σ.next ≤ b ∧ b < σ'.next) ∧ (∀ n : Nat, n = l.length → (n ≠ 0 → ∃ b, c = .slice b 0 n (.ex n) ∧ σ'.get b = some (.rw (ic l)) ∧ σ.next ≤ b ∧ b < σ'.next)) ∧ σ.Same σ' := by
  obtain ⟨c, rfl, h1, h2, h3⟩ := h
  by_cases hc : chk L = 0
  · obtain ⟨hL, b, rfl, hg, hb, hb'⟩ := h2 hc
    refine ⟨_, codes L, rfl, by rw [codes_len]; omega, by rw [if_pos hc], .inr ⟨b, _, by rw [codes_len], ⟨_, hg, rfl⟩, by rw [ic_len]; omega⟩, fun b' hm => by simp [blkOf] at hm; omega, ?_, h3⟩
    rintro n rfl hn
    exact ⟨b, by rw [codes_len], hg, hb, hb'⟩
  · rw [h1 hc]
    exact ⟨_, [], rfl, by simp, by rw [if_neg hc], .inl ⟨rfl, rfl, rfl⟩, fun b' hm => by simp [blkOf] at hm, fun n hn h => absurd hn h, h3⟩
end Go.Vit
