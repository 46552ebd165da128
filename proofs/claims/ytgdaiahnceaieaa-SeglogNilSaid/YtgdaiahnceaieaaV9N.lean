/- The law SeglogNil. -/
import Derived.Test.YtgdaiahnceaieaaV9A0
import Derived.Test.YtgdaiahnceaieaaVm3
import Derived.Test.YtgdaiahnceaieaaVm4
set_option linter.unusedVariables false
set_option linter.unusedSimpArgs false
set_option linter.unusedSimpArgs false
set_option maxRecDepth 20000
set_option maxRecDepth 100000
namespace Go.Vit
open Go.Proofs
theorem nil_wrong {σ : Mem} {v : AV} : ACalls PG n_seglog_Log_wrong [.nilp, v] σ fun v _ => v = .int .i64 2 := by
  refine ok_seglog_Log_wrong fun _ => ?_
  unfold F_seglog_Log_wrong
  refine To.go ?_
  exact ifT (p := True) trivial rfl
theorem law17_SeglogNil (σ : Mem) (l : List AV) (_ : σ.Ro) (hw : Wts PG σ Try.f5.params.toList l) : ACalls PG n_law17_SeglogNil l σ fun v _ => isTrue v := by
  rw [Try.params5] at hw
  obtain ⟨s, r, rfl, hs, hw⟩ := hw.str (by kernel_rfl)
  obtain rfl := hw.nil_inv
  refine ok_law17_SeglogNil fun live => ?_
  unfold F_law17_SeglogNil
  refine callW_of (Q := fun v _ => v = .tup [.nilp, .nils, .int .i64 2]) ?_ ?_
  · refine ok_seglog_Open fun _ => ?_
    unfold F_seglog_Open
    refine To.go ?_
    exact ifT (p := True) trivial rfl
  rintro _ σ1 rfl
  refine tupW_of rfl ?_
  refine tupW_of rfl ?_
  refine tpI_of rfl ?_
  refine To.go ?_
  refine callW_of (Q := fun v _ => v = .int .i64 2) ?_ ?_
  · refine ok_seglog_Log_Append fun _ => ?_
    unfold F_seglog_Log_Append
    refine callW_of nil_wrong ?_
    rintro _ σ2 rfl
    refine To.go ?_
    exact ifT (by decide) rfl
  rintro _ σ2 rfl
  refine To.go ?_
  refine ifT rfl ?_
  refine callW_of (Q := fun v _ => v = .int .i64 2) ?_ ?_
  · refine ok_seglog_Log_Sync fun _ => ?_
    unfold F_seglog_Log_Sync
    refine callW_of nil_wrong ?_
    rintro _ σ2 rfl
    refine To.go ?_
    exact ifT (by decide) rfl
  rintro _ σ3 rfl
  refine To.go ?_
  refine ifT rfl ?_
  refine To.go ?_
  refine callW_of (Q := fun v _ => v = .int .i64 2) ?_ ?_
  · refine ok_seglog_Log_Compact fun _ => ?_
    unfold F_seglog_Log_Compact
    refine callW_of nil_wrong ?_
    rintro _ σ2 rfl
    refine To.go ?_
    exact ifT (by decide) rfl
  rintro _ σ4 rfl
  refine To.go ?_
  refine ifT rfl ?_
  refine To.go ?_
  refine ifT (p := True) trivial ?_
  refine To.go ?_
  refine ifT rfl ?_
  refine ifT rfl ?_
  refine callW_of (law17_awake _) ?_
  rintro _ σ5 ⟨rfl, _⟩
  exact rfl
end Go.Vit
