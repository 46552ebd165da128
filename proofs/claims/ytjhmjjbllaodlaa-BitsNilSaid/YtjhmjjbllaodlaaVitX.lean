/- Words for going through code: memory behind a store, and the list of what a simplification uses. -/
import Derived.Test.YtjhmjjbllaodlaaVitW
import Derived.IntWalk
namespace Go.Vit
theorem Mem.cell_put (σ : Mem) (b b' o : Nat) (k : Blk) : (σ.put b (some k)).cell b' o = if b' = b then k.cellsR.bind (fun c => c[o]?) else σ.cell b' o := by
  unfold Mem.cell; rw [Mem.get_put]; split <;> rfl
theorem Mem.cell_bump (σ : Mem) (n b o : Nat) : (σ.bump n).cell b o = σ.cell b o := rfl
theorem Mem.cells_put (σ : Mem) (b b' o n : Nat) (k : Blk) : (σ.put b (some k)).cells b' o n = if b' = b then k.cellsR.bind (fun c => if o + n ≤ c.length then some ((c.drop o).take n) else none) else σ.cells b' o n := by
  unfold Mem.cells; rw [Mem.get_put]; split <;> rfl
theorem Mem.cells_bump (σ : Mem) (n b o m : Nat) : (σ.bump n).cells b o m = σ.cells b o m := rfl
theorem Mem.cell_of {σ : Mem} {b : Nat} {l : List AV} (h : σ.get b = some (.rw l)) (o : Nat) : σ.cell b o = l[o]? := by simp [Mem.cell, h, Blk.cellsR]
theorem Mem.cell_ro {σ : Mem} {b : Nat} {l : List AV} (h : σ.get b = some (.ro l)) (o : Nat) : σ.cell b o = l[o]? := by simp [Mem.cell, h, Blk.cellsR]
theorem Mem.cells_of {σ : Mem} {b : Nat} {l : List AV} (h : σ.get b = some (.rw l)) (o n : Nat) : σ.cells b o n = if o + n ≤ l.length then some ((l.drop o).take n) else none := by simp [Mem.cells, h, Blk.cellsR]
theorem Mem.cells_ro {σ : Mem} {b : Nat} {l : List AV} (h : σ.get b = some (.ro l)) (o n : Nat) : σ.cells b o n = if o + n ≤ l.length then some ((l.drop o).take n) else none := by simp [Mem.cells, h, Blk.cellsR]
theorem Nat.beq_eq_decide (a b : Nat) : Nat.beq a b = decide (a = b) := by
  by_cases h : a = b
  · subst h; simp
  · rw [decide_eq_false h]; exact Bool.eq_false_iff.2 fun e => h (Nat.eq_of_beq_eq_true e)
end Go.Vit
