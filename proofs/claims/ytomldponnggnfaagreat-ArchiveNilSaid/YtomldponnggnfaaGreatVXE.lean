/- The law ArchiveNil. -/
import Derived.Test.YtomldponnggnfaaGreatVX25
import Derived.Test.YtomldponnggnfaaGreatVm3
import Derived.Test.YtomldponnggnfaaGreatVm4
set_option linter.unusedVariables false
set_option linter.unusedSimpArgs false
set_option linter.unusedSimpArgs false
set_option maxRecDepth 20000
set_option maxRecDepth 100000
namespace Go.Vit
open Go.Proofs
theorem tpS_of' {l : List AV} {i : Nat} {x : ByteArray} {K : ByteArray → Prop} (h : l[i]? = some (.str x)) (hk : K x) : tpS (.tup l) i K := by
  show optW l[i]? fun a => castS a K
  rw [h]; exact hk
theorem law25_ArchiveNil (σ : Mem) (l : List AV) (_ : σ.Ro) (hw : Wts PG σ Tryz.f9.params.toList l) : ACalls PG n_law25_ArchiveNil l σ fun v _ => isTrue v := by
  rw [Tryz.params9] at hw
  obtain ⟨s, r, rfl, hs, hw⟩ := hw.str (by kernel_rfl)
  obtain ⟨n, r, rfl, hn, hw⟩ := hw.int (k := .i64) (by kernel_rfl)
  obtain rfl := hw.nil_inv
  refine ok_law25_ArchiveNil fun live => ?_
  unfold F_law25_ArchiveNil
  refine callW_of (Q := fun v _ => v = .tup [.str ⟨#[]⟩, .int .i64 2]) ?_ ?_
  · refine ok_archive_Archive_Get fun _ => ?_
    unfold F_archive_Archive_Get
    refine To.go ?_
    exact ifT (p := True) trivial rfl
  rintro _ σ1 rfl
  refine tpS_of' rfl ?_
  refine tpI_of rfl ?_
  refine callW_of (Q := fun v _ => v = .tup [.nils, .int .i64 2]) ?_ ?_
  · refine ok_archive_Archive_List fun _ => ?_
    unfold F_archive_Archive_List
    refine To.go ?_
    exact ifT (p := True) trivial rfl
  rintro _ σ2 rfl
  refine tupW_of rfl ?_
  refine tpI_of rfl ?_
  refine callW_of (Q := fun v _ => v = .tup [.int .i64 0, .int .i64 2]) ?_ ?_
  · refine ok_archive_Archive_Repair fun _ => ?_
    unfold F_archive_Archive_Repair
    refine To.go ?_
    exact ifT (p := True) trivial rfl
  rintro _ σ3 rfl
  refine tpI_of rfl ?_
  refine tpI_of rfl ?_
  refine callW_of (Q := fun v _ => v = .int .i64 2) ?_ ?_
  · refine ok_archive_Archive_Put fun _ => ?_
    unfold F_archive_Archive_Put
    refine To.go ?_
    exact ifT (p := True) trivial rfl
  rintro _ σPut rfl
  refine To.go ?_
  refine ifT rfl ?_
  refine ifT rfl ?_
  refine ifT rfl ?_
  refine ifT rfl ?_
  refine callW_of (Q := fun v _ => v = .int .i64 2) ?_ ?_
  · refine ok_archive_Archive_Again fun _ => ?_
    unfold F_archive_Archive_Again
    refine To.go ?_
    exact ifT (p := True) trivial rfl
  rintro _ σAgain rfl
  refine To.go ?_
  refine ifT rfl ?_
  refine callW_of (Q := fun v _ => v = .int .i64 2) ?_ ?_
  · refine ok_archive_Archive_Down fun _ => ?_
    unfold F_archive_Archive_Down
    refine To.go ?_
    exact ifT (p := True) trivial rfl
  rintro _ σDown rfl
  refine To.go ?_
  refine ifT rfl ?_
  refine callW_of (Q := fun v _ => v = .int .i64 2) ?_ ?_
  · refine ok_archive_Archive_Arm fun _ => ?_
    unfold F_archive_Archive_Arm
    refine To.go ?_
    exact ifT (p := True) trivial rfl
  rintro _ σArm rfl
  refine To.go ?_
  refine ifT rfl ?_
  refine To.go ?_
  refine callW_of (Q := fun v _ => v = .int .i64 2) ?_ ?_
  · refine ok_archive_Archive_Start fun _ => ?_
    unfold F_archive_Archive_Start
    refine To.go ?_
    exact ifT (p := True) trivial rfl
  rintro _ σStart rfl
  refine To.go ?_
  refine ifT rfl ?_
  refine callW_of (Q := fun v _ => v = .int .i64 2) ?_ ?_
  · refine ok_archive_Archive_Compact fun _ => ?_
    unfold F_archive_Archive_Compact
    refine To.go ?_
    exact ifT (p := True) trivial rfl
  rintro _ σCompact rfl
  refine To.go ?_
  refine ifT rfl ?_
  refine callW_of (law25_awake _) ?_
  rintro _ σ8 ⟨rfl, _⟩
  exact rfl
end Go.Vit
