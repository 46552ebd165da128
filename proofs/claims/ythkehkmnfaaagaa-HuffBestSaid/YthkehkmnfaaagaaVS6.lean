/- The table of lengths. -/
import Derived.Test.YthkehkmnfaaagaaVS5
set_option linter.unusedVariables false
set_option linter.unusedSimpArgs false
set_option linter.unusedSimpArgs false
set_option maxRecDepth 20000
namespace Go.Vit
open Go.Proofs
theorem one_cells {v : AV} (h : v.one = true) : v.cells = [v] := by cases v <;> first | rfl | exact Bool.noConfusion h
theorem RdS.one {k n : Nat} {σ : Mem} {v : AV} {cs : List AV} (h : RdS k σ v cs n) : v.one = true := by
  rcases h with ⟨rfl, _⟩ | ⟨b, c, rfl, _⟩ <;> rfl
theorem boxW_one {v : AV} {X : Prop} (h : v.one = true) (hx : X) : boxW v X := by cases v <;> first | exact Bool.noConfusion h | exact hx
theorem RdS.same {k n : Nat} {σ σ' : Mem} {v : AV} {cs : List AV} (h : RdS k σ v cs n) (s : σ.Same σ') (hb : ∀ b ∈ blkOf v, b < σ.next) : RdS k σ' v cs n := h.keep fun b h => s.get b (hb b h)
def tabC (l c : AV) (L : List Int) (s : AV) (n : Int) : List AV := [l, c] ++ cA L ++ [s, .int .i64 n]
def mostT (L : List Int) : Int := if many L < 2 then (many L : Nat) else 15
def Tab (lo : Nat) (L : List Int) (σ : Mem) (r : Nat) : Prop :=
  ∃ l c s T, σ.get r = some (.rw (tabC l c L s (mostT L))) ∧ RdS 1 σ l (ic L) L.length ∧ RdS 1 σ c (ic (codes L)) L.length ∧ RdS 1 σ s (ic T) T.length ∧ Stb (lkey L) (syms L L.length) T ∧ Srt (lkey L) T ∧ (lo ≤ r ∧ r < σ.next) ∧ (∀ b ∈ blkOf l, lo ≤ b ∧ b < σ.next) ∧ (∀ b ∈ blkOf c, lo ≤ b ∧ b < σ.next) ∧ (∀ b ∈ blkOf s, lo ≤ b ∧ b < σ.next)
theorem Tab.keep {lo hi : Nat} {L : List Int} {σ σ' : Mem} {r : Nat} (h : Tab lo L σ r) (hn : σ.next ≤ hi) (hg : ∀ b, lo ≤ b → b < hi → σ'.get b = σ.get b) (hs : σ.next ≤ σ'.next) : Tab lo L σ' r := by
  obtain ⟨l, c, s, T, h1, h2, h3, h4, h5, h6, h7, h8, h9, h10⟩ := h
  refine ⟨l, c, s, T, (hg r h7.1 (by omega)).trans h1, h2.keep fun b hb => hg b (h8 b hb).1 ?_, h3.keep fun b hb => hg b (h9 b hb).1 ?_, h4.keep fun b hb => hg b (h10 b hb).1 ?_, h5, h6, by omega, fun b hb => ?_, fun b hb => ?_, fun b hb => ?_⟩
  · have := h8 b hb; omega
  · have := h9 b hb; omega
  · have := h10 b hb; omega
  · have := h8 b hb; omega
  · have := h9 b hb; omega
  · have := h10 b hb; omega
end Go.Vit
