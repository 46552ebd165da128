/- A disk: a step, Append, Read and what asks little. -/
import Derived.Test.YtgdaiahnceaieaaV9D
set_option linter.unusedVariables false
set_option linter.unusedSimpArgs false
set_option linter.unusedSimpArgs false
set_option maxRecDepth 20000
namespace Go.Vit
open Go.Proofs
def stepD (D : Ds) : Ds := { D with steps := D.steps + 1, armed := if 0 < D.armed then D.armed - 1 else D.armed, dead := if 0 < D.armed then decide (D.armed - 1 = 0) else D.dead }
def deadE (D : Ds) : Int := if D.dead = true then 50 else 0
theorem stepD_ok {D : Ds} (ok : D.ok) (hs : D.steps < 2 ^ 62) : (stepD D).ok := by
  have h1 := ok.arm
  have h2 := ok.stp
  refine ⟨ok.born, ok.bnd, ok.knd, ?_, ?_, ok.lim, ok.syn, ok.sum⟩
  · unfold stepD; dsimp only; split <;> omega
  · unfold stepD; dsimp only; omega
theorem Only.of_same {l : List Nat} {σ σ' : Mem} (s : σ.Same σ') : Mem.Only l σ σ' := ⟨s.next, fun b hb _ => s.get b hb⟩
theorem disk_step {σ : Mem} {b m : Nat} {D : Ds} (h : Dsk σ b m D) (hs : D.steps < 2 ^ 62) : ACalls PG n_disk_Disk_step [.ptr b 0] σ fun v σ' => v = .int .i64 (deadE (stepD D)) ∧ Dsk σ' b m (stepD D) ∧ Mem.Only [b] σ σ' := by
  refine ok_disk_Disk_step fun live => ?_
  unfold F_disk_Disk_step
  obtain ⟨hbl, hml⟩ := h.lt live
  have g := h.gb
  have gm := h.gm
  have hne := h.ne
  unfold Ds.cells at g
  have ok := h.ok
  have h1 := ok.arm
  have h2 := ok.stp
  refine To.go ?_
  refine To.go ?_
  refine ldrw (σ := σ.bump 9) (K := fun a => castI .i64 a _) g (v := .int .i64 D.steps) rfl ?_
  refine To.go ?_
  refine iW_of (by omega) ?_
  refine To.go ?_
  refine st1 (σ := σ.bump 9) g (by simp) rfl ?_
  obtain ⟨σ1, e1⟩ : ∃ σ1, σ1 = (σ.bump 9).put b (some (.rw ([AV.map m, .int .i64 D.limit, .int .i64 D.armed, .bool D.dead, .int .i64 D.steps].set 4 (.int .i64 (D.steps + 1))))) := ⟨_, rfl⟩
  rw [← e1]
  have g1 : σ1.get b = some (.rw [AV.map m, .int .i64 D.limit, .int .i64 D.armed, .bool D.dead, .int .i64 (D.steps + 1)]) := by rw [e1, gS']; rfl
  have o1 : Mem.Only [b] σ σ1 := by rw [e1]; exact Mem.Only.put ((Mem.Only.refl _ _).bump _) (by simp) _
  have gm1 : σ1.get m = σ.get m := o1.get m hml (by simp; exact fun e => hne e.symm)
  clear e1
  refine To.go ?_
  refine To.go ?_
  refine ldrw (σ := σ1.bump 5) (K := fun a => castI .i64 a _) g1 (v := .int .i64 D.armed) rfl ?_
  refine To.go ?_
  refine join0 (fun σ' => σ'.get b = some (.rw ((stepD D).cells m)) ∧ Mem.Only [b] σ σ') ?_ ?_
  · refine ifD (fun ha => ?_) (fun ha => ?_)
    · refine To.go ?_
      refine To.go ?_
      refine ldrw (σ := σ1.bump 13) (K := fun a => castI .i64 a _) g1 (v := .int .i64 D.armed) rfl ?_
      refine To.go ?_
      refine iW_of (by omega) ?_
      refine To.go ?_
      refine st1 (σ := σ1.bump 13) g1 (by simp) rfl ?_
      obtain ⟨σ2, e2⟩ : ∃ σ2, σ2 = (σ1.bump 13).put b (some (.rw ([AV.map m, .int .i64 D.limit, .int .i64 D.armed, .bool D.dead, .int .i64 (D.steps + 1)].set 2 (.int .i64 (D.armed - 1))))) := ⟨_, rfl⟩
      rw [← e2]
      have g2 : σ2.get b = some (.rw [AV.map m, .int .i64 D.limit, .int .i64 (D.armed - 1), .bool D.dead, .int .i64 (D.steps + 1)]) := by rw [e2, gS']; rfl
      have o2 : Mem.Only [b] σ σ2 := by rw [e2]; exact Mem.Only.put (o1.bump _) (by simp) _
      clear e2
      refine To.go ?_
      refine To.go ?_
      refine ldrw (σ := σ2.bump 9) (K := fun a => castI .i64 a _) g2 (v := .int .i64 (D.armed - 1)) rfl ?_
      refine To.go ?_
      refine To.go ?_
      refine st1 (σ := σ2.bump 9) g2 (by simp) rfl ?_
      refine ⟨?_, Mem.Only.put (o2.bump _) (by simp) _⟩
      rw [gS']
      unfold Ds.cells stepD
      dsimp only
      rw [if_pos ha, if_pos ha]; rfl
    · refine ⟨?_, o1.bump _⟩
      show σ1.get b = _
      rw [g1]
      unfold Ds.cells stepD
      dsimp only
      rw [if_neg ha, if_neg ha]
  · rintro σ2 ⟨g2, o2⟩
    unfold F_disk_Disk_step_j1
    have hD : Dsk σ2 b m (stepD D) := ⟨g2, (o2.get m hml (by simp; exact fun e => hne e.symm)).trans gm, hne, stepD_ok ok hs⟩
    unfold Ds.cells at g2
    refine To.go ?_
    refine To.go ?_
    refine ldrw (σ := σ2.bump 4) (K := fun a => castB a _) g2 (v := .bool (stepD D).dead) rfl ?_
    refine To.go ?_
    have fin : ∀ k, Dsk (σ2.bump k) b m (stepD D) ∧ Mem.Only [b] σ (σ2.bump k) := fun k => ⟨hD.keep rfl rfl, o2.bump k⟩
    unfold deadE
    cases hd : (stepD D).dead with
    | true => exact ⟨by simp, fin _⟩
    | false => exact ⟨by simp, fin _⟩
theorem disk_Read {σ : Mem} {b m : Nat} {D : Ds} {f : Int} (h : Dsk σ b m D) (hw : wrongD D f = 0) : ACalls PG n_disk_Disk_Read [.ptr b 0, .int .i64 f] σ fun v σ' => v = .tup [.str ((getF D.fs f).getD (⟨#[]⟩, 0)).1, .int .i64 0] ∧ σ.Same σ' := by
  refine ok_disk_Disk_Read fun live => ?_
  unfold F_disk_Disk_Read
  obtain ⟨hbl, hml⟩ := h.lt live
  refine callW_of (disk_wrong (σ := σ.bump 6) (h.keep rfl rfl)) ?_
  rintro _ σ1 ⟨rfl, s1⟩
  rw [hw]
  have s01 := s1.ob
  refine To.go ?_
  refine ifF (by decide) ?_
  have h1 := h.same s01 hbl hml
  have g := h1.gb
  unfold Ds.cells at g
  refine To.go ?_
  refine ldrw (σ := σ1.bump 11) g (v := .map m) rfl ?_
  refine look_val (σ := σ1.bump 11) h1.gm ?_
  exact ⟨rfl, s01.bump _⟩
theorem disk_Dead {σ : Mem} {b m : Nat} {D : Ds} (h : Dsk σ b m D) : ACalls PG n_disk_Disk_Dead [.ptr b 0] σ fun v σ' => v = .bool D.dead ∧ σ.Same σ' := by
  refine ok_disk_Disk_Dead fun live => ?_
  unfold F_disk_Disk_Dead
  have g := h.gb
  unfold Ds.cells at g
  refine To.go ?_
  refine ifT (p := True) trivial ?_
  refine To.go ?_
  refine To.go ?_
  refine To.go ?_
  refine ldrw (σ := σ.bump 10) (K := fun a => castB a _) g (v := .bool D.dead) rfl ?_
  refine To.go ?_
  exact ⟨rfl, (Mem.Same.refl σ).bump _⟩
end Go.Vit
