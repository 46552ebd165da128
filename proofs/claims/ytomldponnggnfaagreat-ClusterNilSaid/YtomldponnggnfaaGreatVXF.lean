/- The law ClusterNil. -/
import Derived.Test.YtomldponnggnfaaGreatVX24
import Derived.Test.YtomldponnggnfaaGreatVXH2
import Derived.Test.YtomldponnggnfaaGreatVm3
import Derived.Test.YtomldponnggnfaaGreatVm4
set_option linter.unusedVariables false
set_option linter.unusedSimpArgs false
set_option linter.unusedSimpArgs false
set_option maxRecDepth 20000
set_option maxRecDepth 100000
namespace Go.Vit
open Go.Proofs
theorem tpS_of' {l : List AV} {i : Nat} {x : ByteArray} {K : ByteArray → Prop} (h : l[i]? = some (.str x)) (hk : K x) : tpS (.tup l) i K := by
  show optW l[i]? fun a => castS a K
  rw [h]; exact hk
theorem nil_tick {σ : Mem} {n : Int} {v : AV} : ACalls PG n_cluster_Cluster_tick [.nilp, .int .i64 n, v] σ fun u σ' => u = .int .i64 2 ∧ σ' = σ.bump 4 := by
  refine ok_cluster_Cluster_tick fun _ => ?_
  unfold F_cluster_Cluster_tick
  refine To.go ?_
  exact ifT (p := True) trivial ⟨rfl, rfl⟩
theorem nil_people {σ : Mem} : ACalls PG n_cluster_Cluster_people [.nilp] σ fun u σ' => u = .int .i64 0 ∧ σ' = σ.bump 4 := by
  refine ok_cluster_Cluster_people fun _ => ?_
  unfold F_cluster_Cluster_people
  refine To.go ?_
  exact ifT (p := True) trivial ⟨rfl, rfl⟩
theorem nil_places {σ : Mem} : ACalls PG n_cluster_Cluster_places [.nilp] σ fun u σ' => u = .int .i64 0 ∧ σ' = σ.bump 4 := by
  refine ok_cluster_Cluster_places fun _ => ?_
  unfold F_cluster_Cluster_places
  refine To.go ?_
  exact ifT (p := True) trivial ⟨rfl, rfl⟩
theorem nil_Net {σ : Mem} : ACalls PG n_cluster_Cluster_Net [.nilp] σ fun u σ' => u = .int .i64 0 ∧ σ' = σ.bump 4 := by
  refine ok_cluster_Cluster_Net fun _ => ?_
  unfold F_cluster_Cluster_Net
  refine To.go ?_
  exact ifT (p := True) trivial ⟨rfl, rfl⟩
theorem nil_take {σ : Mem} {n : Int} : ACalls PG n_cluster_Cluster_take [.nilp, .int .i64 n] σ fun u _ => u = .tup [.str ⟨#[]⟩, .int .i64 2] := by
  refine ok_cluster_Cluster_take fun _ => ?_
  unfold F_cluster_Cluster_take
  refine callW_of nil_Net ?_
  rintro _ τ1 ⟨rfl, rfl⟩
  refine To.go ?_
  refine To.go ?_
  refine callW_of nil_tick ?_
  rintro _ τ2 ⟨rfl, rfl⟩
  refine To.go ?_
  exact ifT (by decide) rfl
theorem law24_ClusterNil (σ : Mem) (l : List AV) (_ : σ.Ro) (hw : Wts PG σ Tryz.f8.params.toList l) : ACalls PG n_law24_ClusterNil l σ fun v _ => isTrue v := by
  rw [Tryz.params8] at hw
  obtain ⟨n, r, rfl, hn, hw⟩ := hw.int (k := .i64) (by kernel_rfl)
  obtain rfl := hw.nil_inv
  refine ok_law24_ClusterNil fun live => ?_
  unfold F_law24_ClusterNil
  refine callW_of (Q := fun v σ' => v = .tup [.agg [.int .i64 0, .int .i64 0, .int .i64 0], .int .i64 2]) ?_ ?_
  · refine ok_cluster_Cluster_Sync fun _ => ?_
    unfold F_cluster_Cluster_Sync
    refine To.go ?_
    refine callW_of nil_places ?_
    rintro _ τ1 ⟨rfl, rfl⟩
    refine To.go ?_
    refine To.go ?_
    refine callW_of nil_tick ?_
    rintro _ τ2 ⟨rfl, rfl⟩
    refine To.go ?_
    refine ifF (by decide) ?_
    refine joinI ?_
    unfold F_cluster_Cluster_Sync_j2
    refine ifT (by decide) ?_
    refine stn (l := [.int .i64 0, .int .i64 0, .int .i64 0]) (gB (gB (gB (gN (by simp only [Mem.next_bump, Mem.next_put]; omega) (gB (gB gS')))))) (by decide) rfl rfl ?_
    refine ldnq gS' rfl (by decide) ?_
    exact rfl
  rintro _ σ1 rfl
  refine tupW_of rfl ?_
  refine tpI_of rfl ?_
  refine To.go ?_
  refine stn gS' (by decide) rfl rfl ?_
  refine callW_of (Q := fun v _ => v = .tup [.nils, .int .i64 2]) ?_ ?_
  · refine ok_cluster_Cluster_Entries fun _ => ?_
    unfold F_cluster_Cluster_Entries
    refine To.go ?_
    exact ifT (p := True) trivial rfl
  rintro _ σ2 rfl
  refine tupW_of rfl ?_
  refine tpI_of rfl ?_
  refine callW_of (Q := fun v σ' => v = .tup [.agg [.int .i64 0, .int .i64 0], .str ⟨#[]⟩, .nils, .int .i64 2]) ?_ ?_
  · refine ok_cluster_Cluster_Result fun _ => ?_
    unfold F_cluster_Cluster_Result
    refine To.go ?_
    refine To.go ?_
    refine ifT (p := True) trivial ?_
    refine stn (gB gS') (by decide) rfl rfl ?_
    refine ldnq gS' rfl (by decide) ?_
    exact rfl
  rintro _ σ3 rfl
  refine tupW_of rfl ?_
  refine tpS_of' rfl ?_
  refine tupW_of rfl ?_
  refine tpI_of rfl ?_
  refine To.go ?_
  refine stn gS' (by decide) rfl rfl ?_
  refine callW_of (Q := fun v _ => v = .int .i64 2) ?_ ?_
  · refine ok_cluster_Cluster_Put fun _ => ?_
    unfold F_cluster_Cluster_Put
    refine callW_of nil_people ?_
    rintro _ τ1 ⟨rfl, rfl⟩
    refine To.go ?_
    refine To.go ?_
    refine callW_of nil_tick ?_
    rintro _ τ2 ⟨rfl, rfl⟩
    refine To.go ?_
    exact ifT (by decide) rfl
  rintro _ σPut rfl
  refine To.go ?_
  refine ifT rfl ?_
  refine callW_of (Q := fun v _ => v = .int .i64 2) ?_ ?_
  · refine ok_cluster_Cluster_Get fun _ => ?_
    unfold F_cluster_Cluster_Get
    refine callW_of nil_people ?_
    rintro _ τ1 ⟨rfl, rfl⟩
    refine To.go ?_
    refine To.go ?_
    refine callW_of nil_tick ?_
    rintro _ τ2 ⟨rfl, rfl⟩
    refine To.go ?_
    exact ifT (by decide) rfl
  rintro _ σGet rfl
  refine To.go ?_
  refine ifT rfl ?_
  refine callW_of (Q := fun v _ => v = .int .i64 2) ?_ ?_
  · refine ok_cluster_Cluster_Resend fun _ => ?_
    unfold F_cluster_Cluster_Resend
    refine callW_of nil_people ?_
    rintro _ τ1 ⟨rfl, rfl⟩
    refine To.go ?_
    refine To.go ?_
    refine callW_of nil_tick ?_
    rintro _ τ2 ⟨rfl, rfl⟩
    refine To.go ?_
    exact ifT (by decide) rfl
  rintro _ σResend rfl
  refine To.go ?_
  refine ifT rfl ?_
  refine callW_of nil_Net ?_
  rintro _ σNet ⟨rfl, rfl⟩
  refine To.go ?_
  refine ifT rfl ?_
  refine callW_of (Q := fun v _ => v = .int .i64 2) ?_ ?_
  · refine ok_cluster_Cluster_Deliver fun _ => ?_
    unfold F_cluster_Cluster_Deliver
    refine callW_of nil_take ?_
    rintro _ τ1 rfl
    refine tpS_of' rfl ?_
    refine tpI_of rfl ?_
    exact ifT (by decide) rfl
  rintro _ σDel rfl
  refine To.go ?_
  refine ifT rfl ?_
  refine callW_of (Q := fun v _ => v = .int .i64 2) ?_ ?_
  · refine ok_cluster_Cluster_Drop fun _ => ?_
    unfold F_cluster_Cluster_Drop
    refine callW_of nil_take ?_
    rintro _ τ1 rfl
    refine tpS_of' rfl ?_
    refine tpI_of rfl ?_
    exact rfl
  rintro _ σDrop rfl
  refine To.go ?_
  refine ifT rfl ?_
  refine callW_of (Q := fun v _ => v = .int .i64 2) ?_ ?_
  · refine ok_cluster_Cluster_Again fun _ => ?_
    unfold F_cluster_Cluster_Again
    refine callW_of nil_Net ?_
    rintro _ τ1 ⟨rfl, rfl⟩
    refine To.go ?_
    refine To.go ?_
    refine callW_of nil_tick ?_
    rintro _ τ2 ⟨rfl, rfl⟩
    refine To.go ?_
    exact ifT (by decide) rfl
  rintro _ σAgain rfl
  refine To.go ?_
  refine ifT rfl ?_
  refine callW_of (Q := fun v _ => v = .int .i64 2) ?_ ?_
  · refine ok_cluster_Cluster_Down fun _ => ?_
    unfold F_cluster_Cluster_Down
    refine callW_of nil_places ?_
    rintro _ τ1 ⟨rfl, rfl⟩
    refine To.go ?_
    refine To.go ?_
    refine callW_of nil_tick ?_
    rintro _ τ2 ⟨rfl, rfl⟩
    refine To.go ?_
    exact ifT (by decide) rfl
  rintro _ σDown rfl
  refine To.go ?_
  refine ifT rfl ?_
  refine callW_of (Q := fun v _ => v = .int .i64 2) ?_ ?_
  · refine ok_cluster_Cluster_Arm fun _ => ?_
    unfold F_cluster_Cluster_Arm
    refine callW_of nil_places ?_
    rintro _ τ1 ⟨rfl, rfl⟩
    refine To.go ?_
    refine To.go ?_
    refine callW_of nil_tick ?_
    rintro _ τ2 ⟨rfl, rfl⟩
    refine To.go ?_
    exact ifT (by decide) rfl
  rintro _ σArm rfl
  refine To.go ?_
  refine ifT rfl ?_
  refine To.go ?_
  refine callW_of (Q := fun v _ => v = .int .i64 2) ?_ ?_
  · refine ok_cluster_Cluster_Start fun _ => ?_
    unfold F_cluster_Cluster_Start
    refine callW_of nil_places ?_
    rintro _ τ1 ⟨rfl, rfl⟩
    refine To.go ?_
    refine To.go ?_
    refine callW_of nil_tick ?_
    rintro _ τ2 ⟨rfl, rfl⟩
    refine To.go ?_
    exact ifT (by decide) rfl
  rintro _ σStart rfl
  refine To.go ?_
  refine ifT rfl ?_
  refine callW_of (Q := fun v _ => v = .int .i64 2) ?_ ?_
  · refine ok_cluster_Cluster_Compact fun _ => ?_
    unfold F_cluster_Cluster_Compact
    refine callW_of nil_places ?_
    rintro _ τ1 ⟨rfl, rfl⟩
    refine To.go ?_
    refine To.go ?_
    refine callW_of nil_tick ?_
    rintro _ τ2 ⟨rfl, rfl⟩
    refine To.go ?_
    exact ifT (by decide) rfl
  rintro _ σCompact rfl
  refine To.go ?_
  refine ifT rfl ?_
  refine ifT rfl ?_
  refine ifT rfl ?_
  refine ifT rfl ?_
  refine callW_of (Q := fun v _ => v = .nils) ?_ ?_
  · refine ok_cluster_Cluster_Events fun _ => ?_
    unfold F_cluster_Cluster_Events
    refine To.go ?_
    exact ifT (p := True) trivial rfl
  rintro _ σEv rfl
  refine To.go ?_
  refine ifT rfl ?_
  refine callW_of (law24_awake _) ?_
  rintro _ σ8 ⟨rfl, _⟩
  exact rfl
end Go.Vit
