/- Words for going through code: memory behind a store, temporaries, what stays the same, bits. -/
import Derived.Test.YthkehkmnfaaagaaVitW
import Derived.IntWalk
set_option linter.unusedVariables false
set_option linter.unusedSimpArgs false
namespace Go.Vit
theorem Mem.cell_put (σ : Mem) (b b' o : Nat) (k : Blk) : (σ.put b (some k)).cell b' o = if b' = b then k.cellsR.bind (fun c => c[o]?) else σ.cell b' o := by
  unfold Mem.cell; rw [Mem.get_put]; split <;> rfl
theorem Mem.cell_bump (σ : Mem) (n b o : Nat) : (σ.bump n).cell b o = σ.cell b o := rfl
theorem Mem.cells_put (σ : Mem) (b b' o n : Nat) (k : Blk) : (σ.put b (some k)).cells b' o n = if b' = b then k.cellsR.bind (fun c => if o + n ≤ c.length then some ((c.drop o).take n) else none) else σ.cells b' o n := by
  unfold Mem.cells; rw [Mem.get_put]; split <;> rfl
theorem Mem.cells_bump (σ : Mem) (n b o m : Nat) : (σ.bump n).cells b o m = σ.cells b o m := rfl
theorem Mem.cell_of {σ : Mem} {b : Nat} {l : List AV} (h : σ.get b = some (.rw l)) (o : Nat) : σ.cell b o = l[o]? := by simp [Mem.cell, h, Blk.cellsR]
theorem Mem.cell_ro {σ : Mem} {b : Nat} {l : List AV} (h : σ.get b = some (.ro l)) (o : Nat) : σ.cell b o = l[o]? := by simp [Mem.cell, h, Blk.cellsR]
theorem Mem.cells_of {σ : Mem} {b : Nat} {l : List AV} (h : σ.get b = some (.rw l)) (o n : Nat) : σ.cells b o n = if o + n ≤ l.length then some ((l.drop o).take n) else none := by simp [Mem.cells, h, Blk.cellsR]
theorem Mem.cells_ro {σ : Mem} {b : Nat} {l : List AV} (h : σ.get b = some (.ro l)) (o n : Nat) : σ.cells b o n = if o + n ≤ l.length then some ((l.drop o).take n) else none := by simp [Mem.cells, h, Blk.cellsR]
theorem Nat.beq_eq_decide (a b : Nat) : Nat.beq a b = decide (a = b) := by
  by_cases h : a = b
  · subst h; simp
  · rw [decide_eq_false h]; exact Bool.eq_false_iff.2 fun e => h (Nat.eq_of_beq_eq_true e)

/-- Temporaries, written out. -/
def tm : List (Nat × AV) → Tmps
  | [] => .leaf
  | p :: l => Tr.put (tm l) p.1 (some p.2)

/-- Nothing that was there has changed. -/
structure Mem.Same (σ σ' : Mem) : Prop where
  next : σ.next ≤ σ'.next
  get : ∀ b, b < σ.next → σ'.get b = σ.get b
theorem Mem.Same.refl (σ : Mem) : σ.Same σ := ⟨Nat.le_refl _, fun _ _ => rfl⟩
theorem Mem.Same.trans {σ σ' σ'' : Mem} (h : σ.Same σ') (h' : σ'.Same σ'') : σ.Same σ'' :=
  ⟨Nat.le_trans h.next h'.next, fun b hb => (h'.get b (Nat.lt_of_lt_of_le hb h.next)).trans (h.get b hb)⟩
theorem Mem.Same.bump {σ σ' : Mem} (h : σ.Same σ') (n : Nat) : σ.Same (σ'.bump n) := ⟨Nat.le_trans h.next (Nat.le_add_right _ _), fun b hb => h.get b hb⟩
theorem Mem.Same.put {σ σ' : Mem} (h : σ.Same σ') {b : Nat} (hb : σ.next ≤ b) (o : Option Blk) : σ.Same (σ'.put b o) :=
  ⟨h.next, fun c hc => (Mem.get_put_ne _ (by omega) _).trans (h.get c hc)⟩
def Mem.Live (σ : Mem) : Prop := ∀ b k, σ.get b = some k → b < σ.next
/-! ### Bits -/
theorem wrap_nat {n : Nat} (h : n < 2 ^ 63) : IntKind.i64.wrap (n : Int) = n := IntWalk.i64_in _ (by omega)
theorem bits_nat {x : Nat} (h : x < 2 ^ 63) : (BitVec.ofInt 64 (x : Int)) = BitVec.ofNat 64 x := by
  simp
theorem bits_xor {x y : Nat} (hx : x < 2 ^ 63) (hy : y < 2 ^ 63) : bitsOp .xor .i64 (x : Int) (y : Int) = ((x ^^^ y : Nat) : Int) := by
  show IntKind.i64.wrap (((BitVec.ofInt 64 (x : Int) ^^^ BitVec.ofInt 64 (y : Int)).toNat : Nat) : Int) = _
  rw [bits_nat hx, bits_nat hy, BitVec.toNat_xor, BitVec.toNat_ofNat, BitVec.toNat_ofNat, Nat.mod_eq_of_lt (by omega), Nat.mod_eq_of_lt (by omega)]
  exact wrap_nat (Nat.xor_lt_two_pow hx hy)
theorem bits_and {x y : Nat} (hx : x < 2 ^ 63) (hy : y < 2 ^ 63) : bitsOp .and .i64 (x : Int) (y : Int) = ((x &&& y : Nat) : Int) := by
  show IntKind.i64.wrap (((BitVec.ofInt 64 (x : Int) &&& BitVec.ofInt 64 (y : Int)).toNat : Nat) : Int) = _
  rw [bits_nat hx, bits_nat hy, BitVec.toNat_and, BitVec.toNat_ofNat, BitVec.toNat_ofNat, Nat.mod_eq_of_lt (by omega), Nat.mod_eq_of_lt (by omega)]
  exact wrap_nat (Nat.lt_of_le_of_lt Nat.and_le_left hx)
theorem bits_or {x y : Nat} (hx : x < 2 ^ 63) (hy : y < 2 ^ 63) : bitsOp .or .i64 (x : Int) (y : Int) = ((x ||| y : Nat) : Int) := by
  show IntKind.i64.wrap (((BitVec.ofInt 64 (x : Int) ||| BitVec.ofInt 64 (y : Int)).toNat : Nat) : Int) = _
  rw [bits_nat hx, bits_nat hy, BitVec.toNat_or, BitVec.toNat_ofNat, BitVec.toNat_ofNat, Nat.mod_eq_of_lt (by omega), Nat.mod_eq_of_lt (by omega)]
  exact wrap_nat (Nat.or_lt_two_pow hx hy)
theorem fdiv_pow (x n : Nat) : ((x : Int).fdiv (2 ^ n)) = ((x >>> n : Nat) : Int) := by
  rw [Nat.shiftRight_eq_div_pow, Int.fdiv_eq_ediv_of_nonneg _ (by exact Int.le_of_lt (Int.pow_pos (by decide)))]
  simp
theorem int_nat {x : Int} (h : 0 ≤ x) : ∃ n : Nat, x = n := ⟨x.toNat, (Int.toNat_of_nonneg h).symm⟩
theorem bitsX {x y : Int} (hx : 0 ≤ x ∧ x < 9223372036854775808) (hy : 0 ≤ y ∧ y < 9223372036854775808) : bitsOp .xor .i64 x y = ((x.toNat ^^^ y.toNat : Nat) : Int) := by
  obtain ⟨m, rfl⟩ := int_nat hx.1
  obtain ⟨n, rfl⟩ := int_nat hy.1
  exact bits_xor (by omega) (by omega)
theorem bitsA {x y : Int} (hx : 0 ≤ x ∧ x < 9223372036854775808) (hy : 0 ≤ y ∧ y < 9223372036854775808) : bitsOp .and .i64 x y = ((x.toNat &&& y.toNat : Nat) : Int) := by
  obtain ⟨m, rfl⟩ := int_nat hx.1
  obtain ⟨n, rfl⟩ := int_nat hy.1
  exact bits_and (by omega) (by omega)
theorem bitsO {x y : Int} (hx : 0 ≤ x ∧ x < 9223372036854775808) (hy : 0 ≤ y ∧ y < 9223372036854775808) : bitsOp .or .i64 x y = ((x.toNat ||| y.toNat : Nat) : Int) := by
  obtain ⟨m, rfl⟩ := int_nat hx.1
  obtain ⟨n, rfl⟩ := int_nat hy.1
  exact bits_or (by omega) (by omega)
theorem shrI {x : Int} (h : 0 ≤ x) (n : Nat) : x.fdiv (2 ^ n) = ((x.toNat >>> n : Nat) : Int) := by
  obtain ⟨m, rfl⟩ := int_nat h
  exact fdiv_pow m n
end Go.Vit
