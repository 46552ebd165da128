/- Numbers as bytes: what bits that were laid are as bytes, and as bits again. -/
import Derived.Test.YthkehkmnfaaagaaVsH
set_option linter.unusedVariables false
set_option linter.unusedSimpArgs false
namespace Go.Vit
def wb (W k : Nat) : List UInt8 := (List.range k).map fun i => UInt8.ofNat (W / 2 ^ (8 * i) % 256)
theorem wb_length (W k : Nat) : (wb W k).length = k := by simp [wb]
theorem wb_succ (W k : Nat) : wb W (k + 1) = wb W k ++ [UInt8.ofNat (W / 2 ^ (8 * k) % 256)] := by simp [wb, List.range_succ]
theorem wb_get {W k i : Nat} (h : i < k) : (wb W k)[i]? = some (UInt8.ofNat (W / 2 ^ (8 * i) % 256)) := by
  simp [wb, List.getElem?_range h]
theorem add_div_pow (W x : Nat) {N m : Nat} (h : m ≤ N) : (W + x * 2 ^ N) / 2 ^ m = W / 2 ^ m + x * 2 ^ (N - m) := by
  obtain ⟨d, rfl⟩ := Nat.exists_eq_add_of_le h
  rw [Nat.add_sub_cancel_left, Nat.pow_add, show x * (2 ^ m * 2 ^ d) = 2 ^ m * (x * 2 ^ d) from by rw [Nat.mul_left_comm], Nat.add_mul_div_left _ _ (Nat.pow_pos (by decide))]
theorem mul_pow_mod {x d : Nat} (h : 8 ≤ d) : x * 2 ^ d % 256 = 0 := by
  obtain ⟨e, rfl⟩ := Nat.exists_eq_add_of_le h
  rw [Nat.pow_add, show x * (2 ^ 8 * 2 ^ e) = 256 * (x * 2 ^ e) from by rw [Nat.mul_left_comm]]
  exact Nat.mul_mod_right _ _
theorem wb_add {W x k N : Nat} (h : 8 * k ≤ N) : wb (W + x * 2 ^ N) k = wb W k := by
  unfold wb
  refine List.map_congr_left fun i hi => ?_
  have hi := List.mem_range.1 hi
  rw [add_div_pow W x (by omega), Nat.add_mod, mul_pow_mod (by omega), Nat.add_zero, Nat.mod_mod]
theorem wb_set_last (W k : Nat) (x : UInt8) : (wb W (k + 1)).set k x = wb W k ++ [x] := by
  rw [wb_succ, List.set_append_right _ _ (by rw [wb_length]; omega), wb_length, Nat.sub_self]; rfl
theorem bl_byte (y : Nat) : bl [UInt8.ofNat (y % 256)] = [AV.int .u8 ((y : Int) % 256)] := by
  simp [bl, UInt8.toNat_ofNat']
theorem div_lt_pow {W N m : Nat} (h : W < 2 ^ N) (hm : m ≤ N) : W / 2 ^ m < 2 ^ (N - m) := by
  rw [Nat.div_lt_iff_lt_mul (Nat.pow_pos (by decide)), ← Nat.pow_add, Nat.sub_add_cancel hm]; exact h
def text (W N : Nat) : ByteArray := ⟨(wb W ((N + 7) / 8)).toArray⟩
theorem size_text (W N : Nat) : (text W N).size = (N + 7) / 8 := by unfold text; rw [size_mk, wb_length]
theorem byteAt_text {W N i : Nat} (h : i < (N + 7) / 8) : byteAt (text W N) i = W / 2 ^ (8 * i) % 256 := by
  unfold text
  rw [byteAt_mk, wb_get h, Option.getD_some, UInt8.toNat_ofNat', Nat.mod_mod_of_dvd _ (by decide)]
theorem mod_bit (a : Nat) {m j : Nat} (h : j < m) : a % 2 ^ m / 2 ^ j % 2 = a / 2 ^ j % 2 := by
  have := Nat.testBit_mod_two_pow a m j
  rw [Nat.testBit_eq_decide_div_mod_eq, Nat.testBit_eq_decide_div_mod_eq, decide_eq_true h, Bool.true_and] at this
  have := decide_eq_decide.1 this
  have h1 := Nat.mod_two_eq_zero_or_one (a % 2 ^ m / 2 ^ j)
  have h2 := Nat.mod_two_eq_zero_or_one (a / 2 ^ j)
  omega
theorem bitAt_text {W N i : Nat} (h : i < 8 * ((N + 7) / 8)) : bitAt (text W N) i = W / 2 ^ i % 2 := by
  unfold bitAt
  rw [byteAt_text (by omega), show 256 = 2 ^ 8 from rfl, mod_bit _ (by omega), Nat.div_div_eq_div_mul, ← Nat.pow_add, show 8 * (i / 8) + i % 8 = i from by omega]
theorem val_text {W N at' : Nat} : ∀ {n : Nat}, at' + n ≤ 8 * ((N + 7) / 8) → val (text W N) at' n = W / 2 ^ at' % 2 ^ n
  | 0, _ => by simp [val, Nat.mod_one]
  | n + 1, h => by
    rw [val, val_text (by omega), bitAt_text (by omega), Nat.mod_pow_succ, Nat.div_div_eq_div_mul, ← Nat.pow_add, Nat.mul_comm (2 ^ n)]
def num (s : ByteArray) : Nat := val s 0 (8 * s.size)
theorem num_lt (s : ByteArray) : num s < 2 ^ (8 * s.size) := val_lt _ _ _
theorem num_byte (s : ByteArray) {i : Nat} (h : i < s.size) : num s / 2 ^ (8 * i) % 256 = byteAt s i := by
  unfold num
  rw [val_div s 0 (by omega), show 256 = 2 ^ 8 from rfl, val_mod _ _ (by omega), Nat.zero_add, val_byte]
theorem wb_num (s : ByteArray) : wb (num s) s.size = bytesL s := by
  refine List.ext_getElem? fun i => ?_
  rcases Nat.lt_or_ge i s.size with h | h
  · rw [wb_get h, num_byte s h, byteAt_get h]
  · rw [List.getElem?_eq_none (by rw [wb_length]; exact h), List.getElem?_eq_none (by rw [bytesL_length]; exact h)]
theorem wb_append {W k : Nat} (x m : Nat) (h : W < 2 ^ (8 * k)) : wb (W + x * 2 ^ (8 * k)) (k + m) = wb W k ++ wb x m := by
  induction m with
  | zero => rw [Nat.add_zero, wb_add (Nat.le_refl _)]; simp [wb]
  | succ m ih =>
    rw [← Nat.add_assoc, wb_succ, ih, wb_succ, List.append_assoc]
    congr 4
    rw [Nat.mul_add, Nat.pow_add, ← Nat.div_div_eq_div_mul, add_div_pow W x (Nat.le_refl _), Nat.sub_self, Nat.pow_zero, Nat.mul_one, Nat.div_eq_of_lt h, Nat.zero_add]
def lay (W N : Nat) (v n : Int) : Nat × Nat :=
  if n < 0 ∨ 24 < n then (W, N) else (W + (v % 2 ^ n.toNat).toNat * 2 ^ N, N + n.toNat)
theorem mod_pow_lt (v : Int) (n : Nat) : (v % 2 ^ n).toNat < 2 ^ n := by
  have h : (0 : Int) < 2 ^ n := Int.pow_pos (by decide)
  have h1 := Int.emod_nonneg v (Int.ne_of_gt h)
  have h2 := Int.emod_lt_of_pos v h
  have : ((2 : Int) ^ n) = ((2 ^ n : Nat) : Int) := by simp
  omega
theorem lay_lt {W N : Nat} (v n : Int) (h : W < 2 ^ N) : (lay W N v n).1 < 2 ^ (lay W N v n).2 := by
  unfold lay
  split
  · exact h
  · dsimp only
    have hx := mod_pow_lt v n.toNat
    rw [Nat.pow_add]
    generalize (v % 2 ^ n.toNat).toNat = x at *
    calc W + x * 2 ^ N < 2 ^ N + x * 2 ^ N := by omega
      _ = (x + 1) * 2 ^ N := by rw [Nat.add_mul, Nat.one_mul, Nat.add_comm]
      _ ≤ 2 ^ n.toNat * 2 ^ N := Nat.mul_le_mul_right _ hx
      _ = _ := Nat.mul_comm _ _
theorem bits_mask {v : Int} {n : Nat} (h1 : -9223372036854775808 ≤ v) (h2 : v ≤ 9223372036854775807) (hn : n ≤ 62) : bitsOp .and .i64 v ((2 ^ n - 1 : Nat) : Int) = (((v % 2 ^ n).toNat : Nat) : Int) := by
  show IntKind.i64.wrap (((BitVec.ofInt 64 v &&& BitVec.ofInt 64 ((2 ^ n - 1 : Nat) : Int)).toNat : Nat) : Int) = _
  have hp : 2 ^ n ≤ 2 ^ 62 := pow_le hn
  have hp1 := Nat.pow_pos (n := n) (show 0 < 2 by decide)
  rw [bits_nat (by omega), BitVec.toNat_and, BitVec.toNat_ofNat, Nat.mod_eq_of_lt (by omega : 2 ^ n - 1 < 2 ^ 64), Nat.and_two_pow_sub_one_eq_mod, BitVec.toNat_ofInt]
  have e : (v % ((2 ^ 64 : Nat) : Int)).toNat % 2 ^ n = (v % 2 ^ n).toNat := by
    have h0 : 0 ≤ v % ((2 ^ 64 : Nat) : Int) := Int.emod_nonneg _ (by decide)
    have : (((v % ((2 ^ 64 : Nat) : Int)).toNat % 2 ^ n : Nat) : Int) = ((v % 2 ^ n).toNat : Int) := by
      rw [Int.natCast_emod, Int.toNat_of_nonneg h0, Int.toNat_of_nonneg (Int.emod_nonneg _ (Int.ne_of_gt (Int.pow_pos (by decide))))]
      have hd : ((2 ^ n : Nat) : Int) ∣ ((2 ^ 64 : Nat) : Int) := Int.ofNat_dvd.2 (Nat.pow_dvd_pow 2 (by omega))
      rw [Int.emod_emod_of_dvd _ hd]; simp
    exact Int.ofNat_inj.1 this
  rw [e]
  exact wrap_nat (Nat.lt_of_lt_of_le (mod_pow_lt v n) (Nat.le_trans hp (by decide)))
def layB (W N : Nat) (s : ByteArray) : Nat × Nat := (W + num s * 2 ^ (8 * ((N + 7) / 8)), 8 * ((N + 7) / 8) + 8 * s.size)
theorem layB_lt {W N : Nat} (s : ByteArray) (h : W < 2 ^ N) : (layB W N s).1 < 2 ^ (layB W N s).2 := by
  unfold layB
  dsimp only
  have h1 : W < 2 ^ (8 * ((N + 7) / 8)) := Nat.lt_of_lt_of_le h (pow_le (by omega))
  have h2 := num_lt s
  generalize num s = x at *
  rw [Nat.pow_add]
  generalize 2 ^ (8 * ((N + 7) / 8)) = p at *
  calc W + x * p < p + x * p := by omega
    _ = (x + 1) * p := by rw [Nat.add_mul, Nat.one_mul, Nat.add_comm]
    _ ≤ 2 ^ (8 * s.size) * p := Nat.mul_le_mul_right _ h2
    _ = _ := Nat.mul_comm _ _
theorem lay_zero (W N : Nat) {n : Nat} (hn : n ≤ 24) : lay W N 0 n = (W, N + n) := by
  rw [lay, if_neg (by omega), Int.toNat_natCast]; simp
end Go.Vit
