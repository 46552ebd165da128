/- A disk: its memory, and what asks little. -/
import Derived.Test.YtgdaiahnceaieaaV9C
import Derived.Test.YtgdaiahnceaieaaVm3
set_option linter.unusedVariables false
set_option linter.unusedSimpArgs false
set_option linter.unusedSimpArgs false
set_option maxRecDepth 20000
namespace Go.Vit
open Go.Proofs
theorem iW_of {n : Int} {K : Int → Prop} (h : -9223372036854775808 ≤ n ∧ n ≤ 9223372036854775807) (hk : K n) : iW n K := by rw [iW_eq h]; exact hk
theorem tpB_of {l : List AV} {i : Nat} {x : Bool} {K : Bool → Prop} (h : l[i]? = some (.bool x)) (hk : K x) : tpB (.tup l) i K := by
  show optW l[i]? fun a => castB a K
  rw [h]; exact hk
theorem tpS_of {l : List AV} {i : Nat} {x : ByteArray} {K : ByteArray → Prop} (h : l[i]? = some (.str x)) (hk : K x) : tpS (.tup l) i K := by
  show optW l[i]? fun a => castS a K
  rw [h]; exact hk
abbrev Fil := ByteArray × Nat
def filA (x : Fil) : AV := .agg [.str x.1, .int .i64 x.2]
structure Ds where
  fs : List (Int × Fil × Nat)
  clock : Nat
  limit : Int
  armed : Int
  dead : Bool
  steps : Int
def fsE (l : List (Int × Fil × Nat)) : List (Int × AV × Nat) := l.map fun e => (e.1, filA e.2.1, e.2.2)
def Ds.cells (D : Ds) (m : Nat) : List AV := [.map m, .int .i64 D.limit, .int .i64 D.armed, .bool D.dead, .int .i64 D.steps]
structure Ds.ok (D : Ds) : Prop where
  born : ∀ e ∈ D.fs, e.2.2 < D.clock
  bnd : (D.fs.map (·.2.2)).Nodup
  knd : (D.fs.map (·.1)).Nodup
  arm : 0 ≤ D.armed ∧ D.armed ≤ 9223372036854775807
  stp : 0 ≤ D.steps ∧ D.steps ≤ 2 ^ 62
  lim : 1 ≤ D.limit ∧ D.limit ≤ 16777216
  syn : ∀ e ∈ D.fs, e.2.1.2 ≤ e.2.1.1.size
  sum : ((D.fs.map fun e => e.2.1.1.size).sum : Nat) ≤ 16777216
structure Dsk (σ : Mem) (b m : Nat) (D : Ds) : Prop where
  gb : σ.get b = some (.rw (D.cells m))
  gm : σ.get m = some (.map (encE (fsE D.fs)) D.clock)
  ne : b ≠ m
  ok : D.ok
theorem Dsk.keep {σ σ' : Mem} {b m : Nat} {D : Ds} (h : Dsk σ b m D) (h1 : σ'.get b = σ.get b) (h2 : σ'.get m = σ.get m) : Dsk σ' b m D := ⟨h1.trans h.gb, h2.trans h.gm, h.ne, h.ok⟩
theorem Dsk.same {σ σ' : Mem} {b m : Nat} {D : Ds} (h : Dsk σ b m D) (s : σ.Same σ') (hb : b < σ.next) (hm : m < σ.next) : Dsk σ' b m D := h.keep (s.get b hb) (s.get m hm)
theorem Dsk.lt {σ : Mem} {b m : Nat} {D : Ds} (h : Dsk σ b m D) (live : σ.Live) : b < σ.next ∧ m < σ.next := ⟨live.lt h.gb, live.lt h.gm⟩
theorem disk_New_ok {n : Int} (h : 1 ≤ n ∧ n ≤ 16777216) {σ : Mem} : ACalls PG n_disk_New [.int .i64 n] σ fun v σ' => ∃ b m, v = .tup [.ptr b 0, .int .i64 0] ∧ σ.next ≤ b ∧ b < σ'.next ∧ σ.next ≤ m ∧ m < σ'.next ∧ Dsk σ' b m ⟨[], 0, n, 0, false, 0⟩ ∧ σ.Same σ' := by
  refine ok_disk_New fun live => ?_
  unfold F_disk_New
  refine ifF (by omega) ?_
  refine ifF (by omega) ?_
  refine To.go ?_
  refine And.intro rfl ?_
  refine To.go ?_
  refine ⟨σ.next + 11, σ.next + 8, rfl, by omega, by simp only [Mem.next_put, Mem.next_bump]; omega, by omega, by simp only [Mem.next_put, Mem.next_bump]; omega, ⟨gS', gN (by omega) gS', by omega, ?_⟩, ?_⟩
  · exact ⟨by simp, by simp, by simp, ⟨Int.le_refl _, by dsimp only; omega⟩, ⟨Int.le_refl _, by dsimp only; omega⟩, h, by simp, by simp⟩
  · exact Mem.Same.put (Mem.Same.put ((Mem.Same.refl σ).bump _) (by omega) _) (by omega) _
def wrongD (D : Ds) (f : Int) : Int := if D.dead = true then 50 else if f < 0 ∨ 65536 ≤ f then 1 else 0
theorem disk_wrong {σ : Mem} {b m : Nat} {D : Ds} {f : Int} (h : Dsk σ b m D) : ACalls PG n_disk_Disk_wrong [.ptr b 0, .int .i64 f] σ fun v σ' => v = .int .i64 (wrongD D f) ∧ σ.Same σ' := by
  refine ok_disk_Disk_wrong fun live => ?_
  unfold F_disk_Disk_wrong
  have g := h.gb
  unfold Ds.cells at g
  have s : ∀ k, σ.Same (σ.bump k) := fun k => (Mem.Same.refl σ).bump k
  refine To.go ?_
  refine ifF (p := False) id ?_
  refine To.go ?_
  refine To.go ?_
  refine ldrw (σ := σ.bump 9) (K := fun a => castB a _) g (v := .bool D.dead) rfl ?_
  refine To.go ?_
  unfold wrongD
  cases hd : D.dead with
  | true => exact ⟨by simp, s _⟩
  | false =>
    refine ifF (p := False) id ?_
    refine ifD (fun h0 => ⟨by simp [h0], s _⟩) (fun h0 => ?_)
    refine ifD (fun h1 => ⟨by simp [h1], s _⟩) (fun h1 => ⟨by simp [h0, h1], s _⟩)
end Go.Vit
