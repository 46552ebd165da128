/- The law ReplicaNil. -/
import Derived.Test.YtomldponnggnfaaGreatVXC
import Derived.Test.YtomldponnggnfaaGreatVm3
import Derived.Test.YtomldponnggnfaaGreatVm4
set_option linter.unusedVariables false
set_option linter.unusedSimpArgs false
set_option linter.unusedSimpArgs false
set_option maxRecDepth 20000
set_option maxRecDepth 100000
namespace Go.Vit
open Go.Proofs
theorem law21_runs : runsAll PG 4000 60 n_law21_awake [] (.bool true) = true := by kernel_rfl
theorem law21_awake (σ : Mem) : ACalls PG n_law21_awake [] σ fun v σ' => v = .bool true ∧ σ' = σ := ACalls.runsAll mixed 4000 60 law21_runs rfl rfl σ
theorem law21_ReplicaNil (σ : Mem) (l : List AV) (_ : σ.Ro) (hw : Wts PG σ Tryz.f3.params.toList l) : ACalls PG n_law21_ReplicaNil l σ fun v _ => isTrue v := by
  rw [Tryz.params3] at hw
  obtain ⟨c, r, rfl, hc, h1, _, hw⟩ := Wts.st 20 (by kernel_rfl) (by kernel_rfl) hw
  obtain rfl := hw.nil_inv
  rw [show PG.cellsOf _ = 9 from by kernel_rfl] at hc
  refine ok_law21_ReplicaNil fun live => ?_
  unfold F_law21_ReplicaNil
  refine And.intro h1 ?_
  refine To.go ?_
  refine ldnq (σ := Mem.bump _ 9) (gB gS') rfl (by show 0 + 9 ≤ c.length; omega) ?_
  show callW PG n_replica_Replica_Handle [.nilp, .agg ((c.drop 0).take 9)] _ _
  rw [List.drop_zero, List.take_of_length_le (by omega)]
  refine callW_of (Q := fun v _ => v = .tup [.nils, .int .i64 2]) ?_ ?_
  · refine ok_replica_Replica_Handle fun _ => ?_
    unfold F_replica_Replica_Handle
    refine And.intro h1 ?_
    refine To.go ?_
    refine To.go ?_
    exact ifT (p := True) trivial rfl
  rintro _ σ1 rfl
  refine tupW_of rfl ?_
  refine tpI_of rfl ?_
  refine callW_of (Q := fun v _ => v = .tup [.nilp, .int .i64 2]) ?_ ?_
  · refine ok_replica_New fun _ => ?_
    unfold F_replica_New
    refine To.go ?_
    exact ifT (p := True) trivial rfl
  rintro _ σ2 rfl
  refine tupW_of rfl ?_
  refine tpI_of rfl ?_
  refine To.go ?_
  refine ifT rfl ?_
  refine ifT rfl ?_
  refine To.go ?_
  refine ifT (p := True) trivial ?_
  refine ifT rfl ?_
  refine callW_of (law21_awake _) ?_
  rintro _ σ3 ⟨rfl, _⟩
  exact rfl
end Go.Vit
