/- The law DiskNil. -/
import Derived.Test.YtojgemdgadfncaaV8L
set_option linter.unusedVariables false
set_option linter.unusedSimpArgs false
set_option linter.unusedSimpArgs false
set_option maxRecDepth 20000
set_option maxRecDepth 20000
namespace Go.Vit
open Go.Proofs
theorem boxW_nilp {X : Prop} (h : X) : boxW .nilp X := h
theorem nil_Sync {σ : Mem} {f : Int} : ACalls PG n_disk_Disk_Sync [.nilp, .int .i64 f] σ fun v _ => v = .int .i64 2 := by
  refine ok_disk_Disk_Sync fun live => ?_
  unfold F_disk_Disk_Sync
  refine boxW_nilp ?_
  refine To.go ?_
  refine To.go ?_
  refine ldrw (v := .nilp) (gB (gN (by omega) gS')) rfl ?_
  refine To.go ?_
  refine ldrw (K := fun a => castI .i64 a _) (v := .int .i64 f) (gB gS') rfl ?_
  refine To.go ?_
  refine callW_of disk_wrong_nil ?_
  rintro _ σ1 ⟨rfl, s1⟩
  refine To.go ?_
  exact ifT (by decide) rfl
theorem nil_Drop {σ : Mem} {f : Int} : ACalls PG n_disk_Disk_Drop [.nilp, .int .i64 f] σ fun v _ => v = .int .i64 2 := by
  refine ok_disk_Disk_Drop fun live => ?_
  unfold F_disk_Disk_Drop
  refine boxW_nilp ?_
  refine To.go ?_
  refine To.go ?_
  refine ldrw (v := .nilp) (gB (gN (by omega) gS')) rfl ?_
  refine To.go ?_
  refine ldrw (K := fun a => castI .i64 a _) (v := .int .i64 f) (gB gS') rfl ?_
  refine To.go ?_
  refine callW_of disk_wrong_nil ?_
  rintro _ σ1 ⟨rfl, s1⟩
  refine To.go ?_
  exact ifT (by decide) rfl
theorem nil_Cut {σ : Mem} {f n : Int} : ACalls PG n_disk_Disk_Cut [.nilp, .int .i64 f, .int .i64 n] σ fun v _ => v = .int .i64 2 := by
  refine ok_disk_Disk_Cut fun live => ?_
  unfold F_disk_Disk_Cut
  refine boxW_nilp ?_
  refine To.go ?_
  refine To.go ?_
  refine To.go ?_
  refine ldrw (v := .nilp) (gB (gN (by omega) (gN (by omega) gS'))) rfl ?_
  refine To.go ?_
  refine ldrw (K := fun a => castI .i64 a _) (v := .int .i64 f) (gB (gN (by omega) gS')) rfl ?_
  refine To.go ?_
  refine callW_of disk_wrong_nil ?_
  rintro _ σ1 ⟨rfl, s1⟩
  refine To.go ?_
  exact ifT (by decide) rfl
theorem nil_Append {σ : Mem} {f : Int} {s : ByteArray} : ACalls PG n_disk_Disk_Append [.nilp, .int .i64 f, .str s] σ fun v _ => v = .int .i64 2 := by
  refine ok_disk_Disk_Append fun live => ?_
  unfold F_disk_Disk_Append
  refine callW_of disk_wrong_nil ?_
  rintro _ σ1 ⟨rfl, s1⟩
  refine To.go ?_
  exact ifT (by decide) rfl
theorem nil_Read {σ : Mem} {f : Int} : ACalls PG n_disk_Disk_Read [.nilp, .int .i64 f] σ fun v _ => v = .tup [.str ⟨#[]⟩, .int .i64 2] := by
  refine ok_disk_Disk_Read fun live => ?_
  unfold F_disk_Disk_Read
  refine callW_of disk_wrong_nil ?_
  rintro _ σ1 ⟨rfl, s1⟩
  refine To.go ?_
  exact ifT (by decide) rfl
theorem law16_DiskNil (σ : Mem) (l : List AV) (_ : σ.Ro) (hw : Wts PG σ Try.f6.params.toList l) : ACalls PG n_law16_DiskNil l σ fun v _ => isTrue v := by
  rw [show Try.f6.params.toList = [3] from by rw [Try.params6]] at hw
  obtain ⟨n, r, rfl, hn, hw⟩ := hw.int (k := .i64) (by kernel_rfl)
  obtain rfl := hw.nil_inv
  refine ok_law16_DiskNil fun live => ?_
  unfold F_law16_DiskNil
  refine callW_of (Q := fun _ _ => True) ?_ ?_
  · refine ok_disk_Disk_Arm fun _ => ?_
    unfold F_disk_Disk_Arm
    refine To.go ?_
    refine joinI ?_
    refine ifF (p := False) id ?_
    unfold F_disk_Disk_Arm_j1
    exact trivial
  rintro _ σ1 _
  refine To.go ?_
  refine callW_of (Q := fun _ _ => True) ?_ ?_
  · refine ok_disk_Disk_Crash fun _ => ?_
    unfold F_disk_Disk_Crash
    refine To.go ?_
    exact ifT (p := True) trivial trivial
  rintro _ σ2 _
  refine callW_of nil_Read ?_
  rintro _ σ3 rfl
  refine tpS_of rfl ?_
  refine tpI_of rfl ?_
  refine callW_of nil_Append ?_
  rintro _ σ4 rfl
  refine To.go ?_
  refine ifT rfl ?_
  refine callW_of nil_Sync ?_
  rintro _ σ5 rfl
  refine To.go ?_
  refine ifT rfl ?_
  refine callW_of nil_Cut ?_
  rintro _ σ6 rfl
  refine To.go ?_
  refine ifT rfl ?_
  refine callW_of nil_Drop ?_
  rintro _ σ7 rfl
  refine To.go ?_
  refine ifT rfl ?_
  refine ifT rfl ?_
  refine callW_of (Q := fun v _ => v = .nils) ?_ ?_
  · refine ok_disk_Disk_Files fun _ => ?_
    unfold F_disk_Disk_Files
    refine To.go ?_
    exact ifT (p := True) trivial rfl
  rintro _ σ8 rfl
  refine To.go ?_
  refine ifT rfl ?_
  refine callW_of (Q := fun v _ => v = .int .i64 0) ?_ ?_
  · refine ok_disk_Disk_Size fun _ => ?_
    unfold F_disk_Disk_Size
    refine To.go ?_
    refine joinI ?_
    refine ifF (p := False) id ?_
    unfold F_disk_Disk_Size_j1
    exact rfl
  rintro _ σ9 rfl
  refine To.go ?_
  refine ifT rfl ?_
  refine callW_of (Q := fun v _ => v = .bool false) ?_ ?_
  · refine ok_disk_Disk_Dead fun _ => ?_
    unfold F_disk_Disk_Dead
    refine To.go ?_
    exact ifF (p := False) id rfl
  rintro _ σ10 rfl
  refine To.go ?_
  refine ifT (p := True) trivial ?_
  refine callW_of (Q := fun v _ => v = .int .i64 0) ?_ ?_
  · refine ok_disk_Disk_Steps fun _ => ?_
    unfold F_disk_Disk_Steps
    refine To.go ?_
    exact ifT (p := True) trivial rfl
  rintro _ σ11 rfl
  refine To.go ?_
  refine ifT rfl ?_
  refine callW_of (law16_awake _) ?_
  rintro _ σ12 rfl
  exact rfl
end Go.Vit
