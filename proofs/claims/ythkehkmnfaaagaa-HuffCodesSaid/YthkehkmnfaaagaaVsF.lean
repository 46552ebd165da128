/- Memory of which some blocks may have changed; bits of bytes; sums and bit operations. -/
import Derived.Test.YthkehkmnfaaagaaVsE
set_option linter.unusedVariables false
set_option linter.unusedSimpArgs false
namespace Go.Vit
/-- Nothing that was there has changed but for some blocks. -/
structure Mem.Only (l : List Nat) (σ σ' : Mem) : Prop where
  next : σ.next ≤ σ'.next
  get : ∀ b, b < σ.next → b ∉ l → σ'.get b = σ.get b
theorem Mem.Same.only {σ σ' : Mem} (h : σ.Same σ') (l : List Nat) : Mem.Only l σ σ' := ⟨h.next, fun b hb _ => h.get b hb⟩
theorem Mem.Only.refl (l : List Nat) (σ : Mem) : Mem.Only l σ σ := ⟨Nat.le_refl _, fun _ _ _ => rfl⟩
theorem Mem.Only.trans {l : List Nat} {σ σ' σ'' : Mem} (h : Mem.Only l σ σ') (h' : Mem.Only l σ' σ'') : Mem.Only l σ σ'' :=
  ⟨Nat.le_trans h.next h'.next, fun b hb hn => (h'.get b (Nat.lt_of_lt_of_le hb h.next) hn).trans (h.get b hb hn)⟩
theorem Mem.Only.mono {l l' : List Nat} {σ σ' : Mem} (h : Mem.Only l σ σ') (hl : ∀ b ∈ l, b ∈ l' ∨ σ.next ≤ b) : Mem.Only l' σ σ' :=
  ⟨h.next, fun b hb hn => h.get b hb fun hm => by rcases hl b hm with h | h; exact hn h; omega⟩
theorem Mem.Only.bump {l : List Nat} {σ σ' : Mem} (h : Mem.Only l σ σ') (n : Nat) : Mem.Only l σ (σ'.bump n) := ⟨Nat.le_trans h.next (Nat.le_add_right _ _), fun b hb hn => h.get b hb hn⟩
theorem Mem.Only.put {l : List Nat} {σ σ' : Mem} (h : Mem.Only l σ σ') {b : Nat} (hb : b ∈ l ∨ σ.next ≤ b) (o : Option Blk) : Mem.Only l σ (σ'.put b o) :=
  ⟨h.next, fun c hc hn => (Mem.get_put_ne _ (by rintro rfl; rcases hb with hb | hb; exact hn hb; omega) _).trans (h.get c hc hn)⟩
theorem Mem.Only.same {σ σ' : Mem} (h : Mem.Only [] σ σ') : σ.Same σ' := ⟨h.next, fun b hb => h.get b hb (by simp)⟩
/-- What is read behind it. -/
theorem Mem.Only.keep {l : List Nat} {σ σ' : Mem} (h : Mem.Only l σ σ') {b : Nat} {o : Option Blk} (hg : σ.get b = o) (hb : b < σ.next) (hn : b ∉ l) : σ'.get b = o := (h.get b hb hn).trans hg
theorem Mem.Same.keep {σ σ' : Mem} (h : σ.Same σ') {b : Nat} {o : Option Blk} (hg : σ.get b = o) (hb : b < σ.next) : σ'.get b = o := (h.get b hb).trans hg
theorem Mem.Same.ob {σ σ' : Mem} {n : Nat} (h : (σ.bump n).Same σ') : σ.Same σ' := ⟨Nat.le_trans (Nat.le_add_right _ _) h.next, fun b hb => h.get b (Nat.lt_of_lt_of_le hb (Nat.le_add_right _ _))⟩
theorem Mem.Only.ob {l : List Nat} {σ σ' : Mem} {n : Nat} (h : Mem.Only l (σ.bump n) σ') : Mem.Only l σ σ' := ⟨Nat.le_trans (Nat.le_add_right _ _) h.next, fun b hb => h.get b (Nat.lt_of_lt_of_le hb (Nat.le_add_right _ _))⟩
theorem Mem.Only.then {l : List Nat} {σ σ' σ'' : Mem} (h : Mem.Only l σ σ') (h' : σ'.Same σ'') : Mem.Only l σ σ'' := h.trans (h'.only l)
theorem Mem.Live.lt {σ : Mem} (h : σ.Live) {b : Nat} {k : Blk} (hg : σ.get b = some k) : b < σ.next := h b k hg

/-! ### Bits of bytes -/
def bitAt (s : ByteArray) (i : Nat) : Nat := byteAt s (i / 8) / 2 ^ (i % 8) % 2
/-- n bits from a place on, the lowest one first. -/
def val (s : ByteArray) (at' : Nat) : Nat → Nat
  | 0 => 0
  | n + 1 => val s at' n + bitAt s (at' + n) * 2 ^ n
theorem bitAt_lt (s : ByteArray) (i : Nat) : bitAt s i < 2 := Nat.mod_lt _ (by decide)
theorem val_lt (s : ByteArray) (at' : Nat) : ∀ n, val s at' n < 2 ^ n
  | 0 => by simp [val]
  | n + 1 => by
    have := val_lt s at' n
    have hb := bitAt_lt s (at' + n)
    simp only [val]
    rw [Nat.pow_succ]
    rcases Nat.lt_or_ge (bitAt s (at' + n)) 1 with h | h
    · have : bitAt s (at' + n) = 0 := by omega
      rw [this]; omega
    · have : bitAt s (at' + n) = 1 := by omega
      rw [this]; omega
theorem val_add (s : ByteArray) (at' m : Nat) : ∀ n, val s at' (m + n) = val s at' m + 2 ^ m * val s (at' + m) n
  | 0 => by simp [val]
  | n + 1 => by
    rw [← Nat.add_assoc, val, val_add s at' m n, val, Nat.mul_add, Nat.pow_add, Nat.add_assoc, Nat.add_assoc]
    congr 2
    rw [Nat.mul_comm (bitAt s _), Nat.mul_comm (bitAt s _), Nat.mul_assoc]
theorem val_mod (s : ByteArray) (at' : Nat) {m n : Nat} (h : n ≤ m) : val s at' m % 2 ^ n = val s at' n := by
  obtain ⟨k, rfl⟩ := Nat.exists_eq_add_of_le h
  rw [val_add, Nat.add_mul_mod_self_left, Nat.mod_eq_of_lt (val_lt _ _ _)]
theorem val_div (s : ByteArray) (at' : Nat) {m n : Nat} (h : n ≤ m) : val s at' m / 2 ^ n = val s (at' + n) (m - n) := by
  obtain ⟨k, rfl⟩ := Nat.exists_eq_add_of_le h
  rw [val_add, Nat.add_mul_div_left _ _ (Nat.pow_pos (by decide)), Nat.div_eq_of_lt (val_lt _ _ _), Nat.zero_add, Nat.add_sub_cancel_left]
theorem bits8 {x : Nat} (h : x < 256) : 0 + x / 2 ^ 0 % 2 * 2 ^ 0 + x / 2 ^ 1 % 2 * 2 ^ 1 + x / 2 ^ 2 % 2 * 2 ^ 2 + x / 2 ^ 3 % 2 * 2 ^ 3 + x / 2 ^ 4 % 2 * 2 ^ 4 + x / 2 ^ 5 % 2 * 2 ^ 5 + x / 2 ^ 6 % 2 * 2 ^ 6 + x / 2 ^ 7 % 2 * 2 ^ 7 = x := by
  have step : ∀ j, x / 2 ^ j = 2 * (x / 2 ^ (j + 1)) + x / 2 ^ j % 2 := by
    intro j
    rw [Nat.pow_succ, ← Nat.div_div_eq_div_mul]; omega
  have h0 := step 0
  have h1 := step 1
  have h2 := step 2
  have h3 := step 3
  have h4 := step 4
  have h5 := step 5
  have h6 := step 6
  have h7 := step 7
  have h8 : x / 2 ^ 8 = 0 := Nat.div_eq_of_lt h
  have hx : x / 2 ^ 0 = x := by simp
  simp only [Nat.zero_add, Nat.reduceAdd] at h0 h1 h2 h3 h4 h5 h6 h7 ⊢
  generalize x / 2 ^ 0 = y0 at *
  generalize x / 2 ^ 1 = y1 at *
  generalize x / 2 ^ 2 = y2 at *
  generalize x / 2 ^ 3 = y3 at *
  generalize x / 2 ^ 4 = y4 at *
  generalize x / 2 ^ 5 = y5 at *
  generalize x / 2 ^ 6 = y6 at *
  generalize x / 2 ^ 7 = y7 at *
  generalize x / 2 ^ 8 = y8 at *
  generalize y0 % 2 = b0 at *
  generalize y1 % 2 = b1 at *
  generalize y2 % 2 = b2 at *
  generalize y3 % 2 = b3 at *
  generalize y4 % 2 = b4 at *
  generalize y5 % 2 = b5 at *
  generalize y6 % 2 = b6 at *
  generalize y7 % 2 = b7 at *
  clear step
  omega
theorem val_byte (s : ByteArray) (k : Nat) : val s (8 * k) 8 = byteAt s k := by
  have hb : ∀ j, j < 8 → bitAt s (8 * k + j) = byteAt s k / 2 ^ j % 2 := by
    intro j hj
    unfold bitAt
    rw [show (8 * k + j) / 8 = k by omega, show (8 * k + j) % 8 = j by omega]
  have := bits8 (byteAt_lt s k)
  simp only [val]
  rw [hb 0 (by omega), hb 1 (by omega), hb 2 (by omega), hb 3 (by omega), hb 4 (by omega), hb 5 (by omega), hb 6 (by omega), hb 7 (by omega)]
  exact this
theorem or_shift {a b n : Nat} (h : a < 2 ^ n) : a ||| (b * 2 ^ n) = a + b * 2 ^ n := by
  have := Nat.two_pow_add_eq_or_of_lt h b
  rw [Nat.or_comm, Nat.mul_comm b, ← this, Nat.add_comm]
theorem and_mask (a n : Nat) : a &&& (2 ^ n - 1) = a % 2 ^ n := Nat.and_two_pow_sub_one_eq_mod a n
theorem pow_le {a b : Nat} (h : a ≤ b) : 2 ^ a ≤ 2 ^ b := Nat.pow_le_pow_right (by decide) h
theorem mul_pow_lt {x a m n : Nat} (h : x < 2 ^ a) (hn : n + a ≤ m) : x * 2 ^ n < 2 ^ m := by
  calc x * 2 ^ n < 2 ^ a * 2 ^ n := Nat.mul_lt_mul_of_pos_right h (Nat.pow_pos (by decide))
    _ = 2 ^ (n + a) := by rw [← Nat.pow_add, Nat.add_comm]
    _ ≤ 2 ^ m := pow_le hn

/-! ### Pieces of strings -/
theorem size_extract (s : ByteArray) (i j : Nat) : (s.extract i j).size = min j s.size - i := ByteArray.size_extract
theorem bytesL_extract (s : ByteArray) (i j : Nat) : bytesL (s.extract i j) = ((bytesL s).drop i).take (j - i) := by
  simp only [bytesL, ByteArray.data_extract, Array.toList_extract, List.extract_eq_take_drop]
theorem byteAt_extract (s : ByteArray) (i j k : Nat) (h : i + k < j) : byteAt (s.extract i j) k = byteAt s (i + k) := by
  unfold byteAt
  rw [bytesL_extract, List.getElem?_take_of_lt (by omega), List.getElem?_drop]
theorem extract_extract (s : ByteArray) {i j k l : Nat} (h : i + l ≤ j) : (s.extract i j).extract k l = s.extract (i + k) (i + l) := by
  refine bytesL_inj ?_
  rw [bytesL_extract, bytesL_extract, bytesL_extract, List.drop_take, List.take_take, List.drop_drop]
  congr 1
  omega
end Go.Vit
