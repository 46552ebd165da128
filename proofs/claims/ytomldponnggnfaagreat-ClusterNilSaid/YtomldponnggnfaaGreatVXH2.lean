/- More functions, as printed conditions. -/
import Derived.Test.YtomldponnggnfaaGreatVXC
set_option linter.unusedVariables false
set_option linter.unusedSimpArgs false
set_option linter.unusedVariables false
set_option maxRecDepth 100000
namespace Go.Vit
open Go.Proofs
/-! (*vitrine/cluster.Cluster).tick -/
def F_cluster_Cluster_tick_l1 (a1 : Int) (a2 : AV) (Q : AV → Mem → Prop) (v5 : Int) (next6 : Int → Mem → Prop) (v7 : Int) (σ8 : Mem) : Prop :=
ifB (decide (v7 < v5)) (
idxW 1 a2 v7 fun v9 =>
ldI (σ8.bump 4) v9 fun v10 =>
ifB (decide (v10 < 0)) (
Q (.int .i64 1) (σ8.bump 12)) (
ifB (decide (a1 ≤ v10)) (
Q (.int .i64 1) (σ8.bump 12)) (
iW (v7 + 1) fun v11 =>
next6 v11 (σ8.bump 13)))) (
Q (.int .i64 0) (σ8.bump 2))
def F_cluster_Cluster_tick (a0 : AV) (a1 : Int) (a2 : AV) (σ : Mem) (Q : AV → Mem → Prop) : Prop :=
eqW .ptr a0 .nilp fun v0 =>
ifB v0 (
Q (.int .i64 2) (σ.bump 4)) (
lfI 3 (σ.bump 11) a0 fun v1 =>
iW (v1 + 1) fun v2 =>
nfW 3 a0 fun v3 =>
stW 1 (σ.bump 11) v3 (.int .i64 v2) fun σ4 =>
slenW a2 fun v5 =>
loopF [tI] (F_cluster_Cluster_tick_l1 a1 a2 Q v5) 0 (σ4.bump 3))
theorem ok_cluster_Cluster_tick {a0 a1 a2 σ Q} (h : σ.Live → F_cluster_Cluster_tick a0 a1 a2 σ Q) : ACalls PG n_cluster_Cluster_tick [a0, .int .i64 a1, a2] σ Q :=
  .of_sem [none, none, none, none, none, none, none, some ([1, 18, 19], [20]), none, none, none, none, none, none, none, none, none] [(14, tI), (20, tI), (23, tI)] mixed (by kernel_rfl) (by kernel_rfl) h
/-! (*vitrine/cluster.Cluster).people -/
def F_cluster_Cluster_people (a0 : AV) (σ : Mem) (Q : AV → Mem → Prop) : Prop :=
eqW .ptr a0 .nilp fun v0 =>
ifB v0 (
Q (.int .i64 0) (σ.bump 4)) (
lfW 1 (σ.bump 9) a0 fun v1 =>
slenW v1 fun v2 =>
Q (.int .i64 v2) (σ.bump 9))
theorem ok_cluster_Cluster_people {a0 σ Q} (h : σ.Live → F_cluster_Cluster_people a0 σ Q) : ACalls PG n_cluster_Cluster_people [a0] σ Q :=
  .of_sem [none, none, none, none, none] [] mixed (by kernel_rfl) (by kernel_rfl) h
/-! (*vitrine/cluster.Cluster).places -/
def F_cluster_Cluster_places (a0 : AV) (σ : Mem) (Q : AV → Mem → Prop) : Prop :=
eqW .ptr a0 .nilp fun v0 =>
ifB v0 (
Q (.int .i64 0) (σ.bump 4)) (
lfW 0 (σ.bump 9) a0 fun v1 =>
slenW v1 fun v2 =>
Q (.int .i64 v2) (σ.bump 9))
theorem ok_cluster_Cluster_places {a0 σ Q} (h : σ.Live → F_cluster_Cluster_places a0 σ Q) : ACalls PG n_cluster_Cluster_places [a0] σ Q :=
  .of_sem [none, none, none, none, none] [] mixed (by kernel_rfl) (by kernel_rfl) h
/-! (*vitrine/cluster.Cluster).take -/
def F_cluster_Cluster_take (a0 : AV) (a1 : Int) (σ : Mem) (Q : AV → Mem → Prop) : Prop :=
callW PG n_cluster_Cluster_Net [a0] (σ.bump 9) fun v0 σ1 =>
castI .i64 v0 fun v2 =>
newW σ1 (σ.next + 6) (.rw [.int .i64 a1]) fun σ3 =>
callW PG n_cluster_Cluster_tick [a0, .int .i64 v2, .slice (σ.next + 6) 0 1 (.ex 1)] σ3 fun v4 σ5 =>
castI .i64 v4 fun v6 =>
ifB (decide (v6 ≠ 0)) (
Q (.tup [.str ⟨#[]⟩, .int .i64 v6]) (σ5.bump 5)) (
lfW 2 (σ5.bump 10) a0 fun v7 =>
idxW 1 v7 a1 fun v8 =>
ldS (σ5.bump 10) v8 fun v9 =>
lfW 2 (σ5.bump 22) a0 fun v10 =>
iW (a1 + 1) fun v11 =>
callW PG n_slices_Delete___string_string_ [v10, .int .i64 a1, .int .i64 v11] (σ5.bump 22) fun v12 σ13 =>
nfW 2 a0 fun v14 =>
stW 1 σ13 v14 v12 fun σ15 =>
Q (.tup [.str v9, .int .i64 0]) (σ15.bump 3))
theorem ok_cluster_Cluster_take {a0 a1 σ Q} (h : σ.Live → F_cluster_Cluster_take a0 a1 σ Q) : ACalls PG n_cluster_Cluster_take [a0, .int .i64 a1] σ Q :=
  .of_sem [none, none, none, none, none, none, none, none] [(10, tI), (13, tI), (23, .s)] mixed (by kernel_rfl) (by kernel_rfl) h
/-! (*vitrine/archive.Archive).sites -/
end Go.Vit
