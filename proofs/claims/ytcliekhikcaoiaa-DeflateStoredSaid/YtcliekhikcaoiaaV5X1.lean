/- The parts of lengths and distances. -/
import Derived.Test.YtcliekhikcaoiaaV5T
set_option linter.unusedVariables false
set_option linter.unusedSimpArgs false
set_option linter.unusedSimpArgs false
set_option maxRecDepth 20000
namespace Go.Vit
open Go.Proofs
def lenSym (n : Nat) : Nat := (List.range 29).foldl (fun b j => if lenA (257 + j) ≤ n then 257 + j else b) 257
def disSym (n : Nat) : Nat := (List.range 30).foldl (fun b j => if disS j ≤ n then j else b) 0
theorem lenSym_small : ∀ n : Fin 11, 3 ≤ n.val → lenSym n = 254 + n.val ∧ lenA (lenSym n) = n.val ∧ lenB (lenSym n) = 0 := by decide +kernel
theorem lenSym_last : lenSym 258 = 285 ∧ lenA 285 = 258 ∧ lenB 285 = 0 := by decide +kernel
theorem lenSym_big : ∀ n : Fin 258, 11 ≤ n.val → ∀ k : Fin 8, (n.val - 3) / 2 ^ k.val < 8 → (k.val ≠ 0 → 8 ≤ (n.val - 3) / 2 ^ (k.val - 1)) → 257 + 4 * k.val + (n.val - 3) / 2 ^ k.val = lenSym n ∧ (n.val - 3) % 2 ^ k.val = n.val - lenA (lenSym n) ∧ k.val = lenB (lenSym n) := by decide +kernel
theorem lenSym_le : ∀ n : Fin 259, 3 ≤ n.val → 257 ≤ lenSym n ∧ lenSym n ≤ 285 ∧ lenA (lenSym n) ≤ n.val ∧ n.val - lenA (lenSym n) < 2 ^ lenB (lenSym n) := by decide +kernel
theorem disSym_small : ∀ n : Fin 5, 1 ≤ n.val → disSym n = n.val - 1 ∧ disS (disSym n) = n.val ∧ disB (disSym n) = 0 := by decide +kernel
theorem disSym_big : ∀ n : Fin 513, 5 ≤ n.val → ∀ k : Fin 9, (n.val - 1) / 2 ^ k.val < 4 → (k.val ≠ 0 → 4 ≤ (n.val - 1) / 2 ^ (k.val - 1)) → 2 * k.val + (n.val - 1) / 2 ^ k.val = disSym n ∧ (n.val - 1) % 2 ^ k.val = n.val - disS (disSym n) ∧ k.val = disB (disSym n) := by decide +kernel
theorem disSym_le : ∀ n : Fin 513, 1 ≤ n.val → disSym n ≤ 29 ∧ disS (disSym n) ≤ n.val ∧ n.val - disS (disSym n) < 2 ^ disB (disSym n) := by decide +kernel
def part (a b c : Int) : AV := .agg [.int .i64 a, .int .i64 b, .int .i64 c]
theorem part_of {σ : Mem} {b : Nat} {x y z u v w : Int} {K : AV → Mem → Prop} (h : σ.get b = some (.rw [.int .i64 u, .int .i64 v, .int .i64 w])) (hk : ∀ σ', σ' = σ.put b (some (.rw [.int .i64 x, .int .i64 y, .int .i64 z])) → K (part x y z) σ') :
    stW 3 σ (.ptr b 0) (.agg [.int .i64 x, .int .i64 y, .int .i64 z]) fun σ' => ldnW 3 σ' (.ptr b 0) fun v => K v σ' := by
  refine stn h (by simp) rfl rfl ?_
  refine ldnq gS' rfl (by simp [setAt]) ?_
  exact hk _ rfl
theorem deflate_length {n : Nat} (h1 : 3 ≤ n) (h2 : n ≤ 258) (σ : Mem) :
    ACalls PG n_deflate_length [.int .i64 (n : Nat)] σ fun v σ' => v = part (lenSym n : Nat) (n - lenA (lenSym n) : Nat) (lenB (lenSym n) : Nat) ∧ σ.Same σ' := by
  refine ok_deflate_length fun live => ?_
  unfold F_deflate_length
  refine To.go ?_
  refine ifD (fun h => ?_) (fun h => ?_)
  · refine part_of (gB gS') fun σ' e => ⟨?_, ?_⟩
    · obtain rfl : n = 258 := by omega
      rw [lenSym_last.1, lenSym_last.2.1, lenSym_last.2.2]; rfl
    · subst e; repeat (with_reducible first | assumption | exact Mem.Only.refl _ _ | exact Mem.Same.refl _ | refine Mem.Only.bump ?_ _ | refine Mem.Only.put ?_ (by simp) _ | refine Mem.Only.put ?_ (.inr (by first | omega | (simp only [Mem.next_bump, Mem.next_put]; omega))) _ | refine Mem.Same.bump ?_ _ | refine Mem.Same.put ?_ (by first | omega | (simp only [Mem.next_bump, Mem.next_put]; omega)) _)
  · refine ifD (fun h11 => ?_) (fun h11 => ?_)
    · refine iW_of (by omega) ?_
      refine iW_of (by omega) ?_
      have := lenSym_small ⟨n, by omega⟩ h1
      dsimp only at this
      refine part_of (gB gS') fun σ' e => ⟨?_, ?_⟩
      · rw [this.2.1, this.2.2, this.1, show n - n = 0 from by omega, show 257 + ((n : Nat) : Int) - 3 = ((254 + n : Nat) : Int) from by omega]; rfl
      · subst e; repeat (with_reducible first | assumption | exact Mem.Only.refl _ _ | exact Mem.Same.refl _ | refine Mem.Only.bump ?_ _ | refine Mem.Only.put ?_ (by simp) _ | refine Mem.Only.put ?_ (.inr (by first | omega | (simp only [Mem.next_bump, Mem.next_put]; omega))) _ | refine Mem.Same.bump ?_ _ | refine Mem.Same.put ?_ (by first | omega | (simp only [Mem.next_bump, Mem.next_put]; omega)) _)
    · refine iW_of (by omega) ?_
      obtain ⟨m, hm⟩ : ∃ m, n - 3 = m := ⟨_, rfl⟩
      rw [show ((n : Nat) : Int) - 3 = ((m : Nat) : Int) from by omega]
      refine loop1 (fun (k : Nat) (x : Int) σ' => x = k ∧ k ≤ 6 ∧ (k ≠ 0 → 8 ≤ m / 2 ^ (k - 1)) ∧ σ.Same σ' ∧ σ.next < σ'.next ∧ σ'.get σ.next = some (.rw [.int .i64 0, .int .i64 0, .int .i64 0])) (fun k => 7 - k) 0 ⟨rfl, by omega, fun h => absurd rfl h, by repeat (with_reducible first | assumption | exact Mem.Only.refl _ _ | exact Mem.Same.refl _ | refine Mem.Only.bump ?_ _ | refine Mem.Only.put ?_ (by simp) _ | refine Mem.Only.put ?_ (.inr (by first | omega | (simp only [Mem.next_bump, Mem.next_put]; omega))) _ | refine Mem.Same.bump ?_ _ | refine Mem.Same.put ?_ (by first | omega | (simp only [Mem.next_bump, Mem.next_put]; omega)) _), by simp only [Mem.next_put, Mem.next_bump]; omega, gB gS'⟩ ?_
      rintro k _ σ1 ⟨rfl, hk, hk1, s1, n1, g1⟩
      unfold F_deflate_length_l1
      have hdiv : m / 2 ^ k ≤ m := Nat.div_le_self _ _
      have hk6 : k = 6 → m / 2 ^ k < 8 := by
        rintro rfl
        show m / 64 < 8; omega
      have hmod : ((m : Nat) : Int) % 2 ^ k = ((m % 2 ^ k : Nat) : Int) := by simp
      have hdv : ((m : Nat) : Int) / 2 ^ k = ((m / 2 ^ k : Nat) : Int) := by simp
      have hp : 2 ^ k ≤ 2 ^ 6 := pow_le hk
      have hp1 := Nat.pow_pos (n := k) (show 0 < 2 by decide)
      have hs := lenSym_big ⟨n, by omega⟩
      dsimp only at hs
      have hs := fun h => hs h ⟨k, by omega⟩
      dsimp only at hs
      rw [hm] at hs
      have hpw : (1 : Int) * 2 ^ k = ((2 ^ k : Nat) : Int) := by simp
      refine To.go ?_
      refine And.intro (by omega) ?_
      rw [Int.toNat_natCast, hdv]
      have hk1' : 8 ≤ m / 2 ^ k → k + 1 ≠ 0 → 8 ≤ m / 2 ^ (k + 1 - 1) := fun h _ => by rw [Nat.add_sub_cancel]; exact h
      obtain ⟨q, hq⟩ : ∃ q, m / 2 ^ k = q := ⟨_, rfl⟩
      rw [hq] at hdiv hk6 hdv hs hk1' ⊢
      refine ifD (fun h8 => ?_) (fun h8 => ?_)
      · refine iW_of (by omega) ?_
        refine again ⟨k + 1, ⟨by omega, by omega, hk1' (by omega), s1.bump _, by simp only [Mem.next_bump]; omega, gB g1⟩, by omega⟩
      · refine iW_of (by omega) ?_
        refine iW_of (by omega) ?_
        refine To.go ?_
        refine And.intro (by omega) ?_
        rw [Int.toNat_natCast, hdv]
        refine iW_of (by omega) ?_
        refine To.go ?_
        refine And.intro (by omega) ?_
        rw [Int.toNat_natCast, hpw]
        obtain ⟨e1, e2, e3⟩ := hs (by omega) (by omega) hk1
        refine iW_of (by omega) ?_
        refine iW_of (by omega) ?_
        refine To.go ?_
        rw [show ((2 ^ k : Nat) : Int) - 1 = ((2 ^ k - 1 : Nat) : Int) from by omega]
        rw [bits_mask (by omega) (by omega) (by omega)]
        refine part_of (gB g1) fun σ' e => ⟨?_, ?_⟩
        · rw [hmod, Int.toNat_natCast, e2, ← e3, ← e1]
          rw [show ((257 + 4 * k + q : Nat) : Int) = 257 + 4 * (k : Int) + ((q : Nat) : Int) from by push_cast; rfl]
        · subst e
          exact Mem.Same.put (s1.bump _) (Nat.le_refl _) _
theorem deflate_distance {n : Nat} (h1 : 1 ≤ n) (h2 : n ≤ 512) (σ : Mem) :
    ACalls PG n_deflate_distance [.int .i64 (n : Nat)] σ fun v σ' => v = part (disSym n : Nat) (n - disS (disSym n) : Nat) (disB (disSym n) : Nat) ∧ σ.Same σ' := by
  refine ok_deflate_distance fun live => ?_
  unfold F_deflate_distance
  refine To.go ?_
  refine iW_of (by omega) ?_
  obtain ⟨m, hm⟩ : ∃ m, n - 1 = m := ⟨_, rfl⟩
  rw [show ((n : Nat) : Int) - 1 = ((m : Nat) : Int) from by omega]
  refine ifD (fun h => ?_) (fun h => ?_)
  · have := disSym_small ⟨n, by omega⟩ h1
    dsimp only at this
    refine part_of (gB gS') fun σ' e => ⟨?_, ?_⟩
    · rw [this.2.1, this.2.2, this.1, show n - n = 0 from by omega, hm]; rfl
    · subst e; repeat (with_reducible first | assumption | exact Mem.Only.refl _ _ | exact Mem.Same.refl _ | refine Mem.Only.bump ?_ _ | refine Mem.Only.put ?_ (by simp) _ | refine Mem.Only.put ?_ (.inr (by first | omega | (simp only [Mem.next_bump, Mem.next_put]; omega))) _ | refine Mem.Same.bump ?_ _ | refine Mem.Same.put ?_ (by first | omega | (simp only [Mem.next_bump, Mem.next_put]; omega)) _)
  · refine loop1 (fun (k : Nat) (x : Int) σ' => x = k ∧ k ≤ 8 ∧ (k ≠ 0 → 4 ≤ m / 2 ^ (k - 1)) ∧ σ.Same σ' ∧ σ.next < σ'.next ∧ σ'.get σ.next = some (.rw [.int .i64 0, .int .i64 0, .int .i64 0])) (fun k => 9 - k) 0 ⟨rfl, by omega, fun h => absurd rfl h, by repeat (with_reducible first | assumption | exact Mem.Only.refl _ _ | exact Mem.Same.refl _ | refine Mem.Only.bump ?_ _ | refine Mem.Only.put ?_ (by simp) _ | refine Mem.Only.put ?_ (.inr (by first | omega | (simp only [Mem.next_bump, Mem.next_put]; omega))) _ | refine Mem.Same.bump ?_ _ | refine Mem.Same.put ?_ (by first | omega | (simp only [Mem.next_bump, Mem.next_put]; omega)) _), by simp only [Mem.next_put, Mem.next_bump]; omega, gB gS'⟩ ?_
    rintro k _ σ1 ⟨rfl, hk, hk1, s1, n1, g1⟩
    unfold F_deflate_distance_l1
    have hdiv : m / 2 ^ k ≤ m := Nat.div_le_self _ _
    have hk6 : k = 8 → m / 2 ^ k < 4 := by
      rintro rfl
      show m / 256 < 4; omega
    have hmod : ((m : Nat) : Int) % 2 ^ k = ((m % 2 ^ k : Nat) : Int) := by simp
    have hdv : ((m : Nat) : Int) / 2 ^ k = ((m / 2 ^ k : Nat) : Int) := by simp
    have hp : 2 ^ k ≤ 2 ^ 8 := pow_le hk
    have hp1 := Nat.pow_pos (n := k) (show 0 < 2 by decide)
    have hs := disSym_big ⟨n, by omega⟩
    dsimp only at hs
    have hs := fun h => hs h ⟨k, by omega⟩
    dsimp only at hs
    rw [hm] at hs
    have hpw : (1 : Int) * 2 ^ k = ((2 ^ k : Nat) : Int) := by simp
    refine To.go ?_
    refine And.intro (by omega) ?_
    rw [Int.toNat_natCast, hdv]
    have hk1' : 4 ≤ m / 2 ^ k → k + 1 ≠ 0 → 4 ≤ m / 2 ^ (k + 1 - 1) := fun h _ => by rw [Nat.add_sub_cancel]; exact h
    obtain ⟨q, hq⟩ : ∃ q, m / 2 ^ k = q := ⟨_, rfl⟩
    rw [hq] at hdiv hk6 hdv hs hk1' ⊢
    refine ifD (fun h8 => ?_) (fun h8 => ?_)
    · refine iW_of (by omega) ?_
      refine again ⟨k + 1, ⟨by omega, by omega, hk1' (by omega), s1.bump _, by simp only [Mem.next_bump]; omega, gB g1⟩, by omega⟩
    · refine iW_of (by omega) ?_
      refine To.go ?_
      refine And.intro (by omega) ?_
      rw [Int.toNat_natCast, hdv]
      refine iW_of (by omega) ?_
      refine To.go ?_
      refine And.intro (by omega) ?_
      rw [Int.toNat_natCast, hpw]
      obtain ⟨e1, e2, e3⟩ := hs (by omega) (by omega) hk1
      refine iW_of (by omega) ?_
      refine iW_of (by omega) ?_
      refine To.go ?_
      rw [show ((2 ^ k : Nat) : Int) - 1 = ((2 ^ k - 1 : Nat) : Int) from by omega]
      rw [bits_mask (by omega) (by omega) (by omega)]
      refine part_of (gB g1) fun σ' e => ⟨?_, ?_⟩
      · rw [hmod, Int.toNat_natCast, e2, ← e3, ← e1]
        rw [show ((2 * k + q : Nat) : Int) = 2 * (k : Int) + ((q : Nat) : Int) from by push_cast; rfl]
      · subst e
        exact Mem.Same.put (s1.bump _) (Nat.le_refl _) _
end Go.Vit
