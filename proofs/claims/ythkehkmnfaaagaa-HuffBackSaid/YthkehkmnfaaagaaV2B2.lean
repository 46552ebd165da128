/- Two writers, and what was laid is read (as in the first seat) -/
import Derived.Test.YthkehkmnfaaagaaV2B
set_option linter.unusedVariables false
set_option linter.unusedSimpArgs false
set_option linter.unusedSimpArgs false
set_option maxRecDepth 20000
namespace Go.Vit
open Go.Proofs

theorem WrP.keep {σ σ' : Mem} {w : Nat} {o : List Nat} {W N : Nat} (h : WrP σ w o W N) (hb : ∀ b ∈ o, σ'.get b = σ.get b) : WrP σ' w o W N := ⟨h.1, h.2.keep hb⟩
/-- Both writers, each with its own memory. -/
def Two (σ σ' : Mem) (w x : Nat) (p q : Nat × Nat) : Prop :=
  ∃ o1 o2, WrP σ' w o1 p.1 p.2 ∧ WrR σ' x o2 q.1 q.2 ∧ (∀ b ∈ o1, b < σ'.next ∧ b ∉ o2) ∧ (∀ b ∈ o2, b < σ'.next ∧ b ∉ o1) ∧ (∀ b ∈ o1, σ.next ≤ b) ∧ (∀ b ∈ o2, σ.next ≤ b) ∧ σ.Same σ'
theorem Two.same {σ σ1 σ2 : Mem} {w x : Nat} {p q : Nat × Nat} (h : Two σ σ1 w x p q) (s : σ1.Same σ2) : Two σ σ2 w x p q := by
  obtain ⟨o1, o2, h1, h2, h3, h4, h5, h6, h7⟩ := h
  exact ⟨o1, o2, h1.keep fun b hb => s.get b (h3 b hb).1, h2.keep fun b hb => s.get b (h4 b hb).1, fun b hb => ⟨Nat.lt_of_lt_of_le (h3 b hb).1 s.next, (h3 b hb).2⟩, fun b hb => ⟨Nat.lt_of_lt_of_le (h4 b hb).1 s.next, (h4 b hb).2⟩, h5, h6, h7.trans s⟩
theorem Two.left {σ σ1 : Mem} {w x : Nat} {p q : Nat × Nat} (h : Two σ σ1 w x p q) : ∃ o, WrP σ1 w o p.1 p.2 ∧ ∀ σ2 p', (∃ o', WrP σ2 w o' p'.1 p'.2 ∧ Grow o o' σ1 σ2) → Two σ σ2 w x p' q := by
  obtain ⟨o1, o2, h1, h2, h3, h4, h5, h6, h7⟩ := h
  refine ⟨o1, h1, fun σ2 p' ⟨o', h8, g⟩ => ?_⟩
  obtain ⟨s, hn⟩ := g.same h7 h5
  obtain ⟨a1, a2⟩ := g.apart h4
  exact ⟨o', o2, h8, h2.keep a2, fun b hb => ⟨g.lt b hb, fun hm => (a1 b hm).2 hb⟩, a1, hn, h6, s⟩
theorem Two.right {σ σ1 : Mem} {w x : Nat} {p q : Nat × Nat} (h : Two σ σ1 w x p q) : ∃ o, WrR σ1 x o q.1 q.2 ∧ ∀ σ2 q', (∃ o', WrR σ2 x o' q'.1 q'.2 ∧ Grow o o' σ1 σ2) → Two σ σ2 w x p q' := by
  obtain ⟨o1, o2, h1, h2, h3, h4, h5, h6, h7⟩ := h
  refine ⟨o2, h2, fun σ2 q' ⟨o', h8, g⟩ => ?_⟩
  obtain ⟨s, hn⟩ := g.same h7 h6
  obtain ⟨a1, a2⟩ := g.apart h3
  exact ⟨o1, o', h1.keep a2, h8, a1, fun b hb => ⟨g.lt b hb, fun hm => (a1 b hm).2 hb⟩, h5, hn, s⟩

/-! ### The plain law -/
/-- What was laid stays, and more comes behind it. -/
def Front (p q : Nat × Nat) : Prop := p.2 ≤ q.2 ∧ ∃ z, q.1 = p.1 + z * 2 ^ p.2
theorem Front.refl (p : Nat × Nat) : Front p p := ⟨Nat.le_refl _, 0, by simp⟩
theorem Front.trans {p q r : Nat × Nat} (h : Front p q) (h' : Front q r) : Front p r := by
  obtain ⟨h1, z, h2⟩ := h
  obtain ⟨h3, y, h4⟩ := h'
  refine ⟨Nat.le_trans h1 h3, z + y * 2 ^ (q.2 - p.2), ?_⟩
  rw [h4, h2, Nat.add_mul, Nat.mul_assoc, ← Nat.pow_add, Nat.sub_add_cancel h1, Nat.add_assoc]
theorem front_div {p q : Nat × Nat} (h : Front p q) {m : Nat} (hm : m ≤ p.2) : ∃ z, q.1 / 2 ^ m = p.1 / 2 ^ m + z * 2 ^ (p.2 - m) := by
  obtain ⟨_, z, hz⟩ := h
  exact ⟨z, by rw [hz, add_div_pow _ _ hm]⟩
theorem read_bits {p q : Nat × Nat} {v : Int} {n : Nat} (hn : n ≤ 24) (hp : p.1 < 2 ^ p.2) (h : Front (lay p.1 p.2 v n) q) : rdBits (text q.1 q.2) p.2 n = ((v % 2 ^ n).toNat, 0, (lay p.1 p.2 v n).2) := by
  have hl : lay p.1 p.2 v n = (p.1 + (v % 2 ^ n).toNat * 2 ^ p.2, p.2 + n) := by rw [lay, if_neg (by omega), Int.toNat_natCast]
  rw [hl] at h ⊢
  have hq := h.1
  obtain ⟨z, hz⟩ := front_div h (m := p.2) (by dsimp only; omega)
  dsimp only at hq hz
  rw [add_div_pow _ _ (Nat.le_refl _), Nat.div_eq_of_lt hp, Nat.sub_self, Nat.pow_zero, Nat.mul_one, Nat.zero_add, Nat.add_sub_cancel_left] at hz
  rw [rdBits, if_neg (by omega), if_neg (by rw [size_text]; omega), Int.toNat_natCast, val_text (by omega), hz, Nat.add_mul_mod_self_right, Nat.mod_eq_of_lt (mod_pow_lt _ _)]
/-- The program's writer with its memory. -/
def Lone (σ σ' : Mem) (w : Nat) (p : Nat × Nat) : Prop := ∃ o, WrP σ' w o p.1 p.2 ∧ (∀ b ∈ o, σ.next ≤ b ∧ b < σ'.next) ∧ σ.Same σ'
theorem Lone.same {σ σ1 σ2 : Mem} {w : Nat} {p : Nat × Nat} (h : Lone σ σ1 w p) (s : σ1.Same σ2) : Lone σ σ2 w p := by
  obtain ⟨o, h1, h2, h3⟩ := h
  exact ⟨o, h1.keep fun b hb => s.get b (h2 b hb).2, fun b hb => ⟨(h2 b hb).1, Nat.lt_of_lt_of_le (h2 b hb).2 s.next⟩, h3.trans s⟩
theorem Lone.step {σ σ1 : Mem} {w : Nat} {p : Nat × Nat} (h : Lone σ σ1 w p) : ∃ o, WrP σ1 w o p.1 p.2 ∧ σ.Same σ1 ∧ ∀ σ2 p', (∃ o', WrP σ2 w o' p'.1 p'.2 ∧ Grow o o' σ1 σ2) → Lone σ σ2 w p' := by
  obtain ⟨o, h1, h2, h3⟩ := h
  refine ⟨o, h1, h3, fun σ2 p' ⟨o', h8, g⟩ => ?_⟩
  obtain ⟨s, hn⟩ := g.same h3 fun b hb => (h2 b hb).1
  exact ⟨o', h8, fun b hb => ⟨hn b hb, g.lt b hb⟩, s⟩
end Go.Vit
