/- The functions, as printed conditions. -/
import Derived.Test.YtomldponnggnfaaGreatVm2
import Derived.Test.YtomldponnggnfaaGreatChecked
import Derived.KernelRfl
set_option linter.unusedVariables false
set_option linter.unusedSimpArgs false
set_option linter.unusedVariables false
set_option maxRecDepth 100000
namespace Go.Vit
open Go.Proofs
noncomputable abbrev PG : Program := Tryz.prog
theorem mixed : PG.follows .mixedOrders = true := by kernel_rfl
abbrev n_law24_ClusterNil : Nat := 8
abbrev n_replica_Replica_Handle : Nat := 10
abbrev n_store_Store_Compact : Nat := 19
abbrev n_store_Store_Entries : Nat := 20
abbrev n_session_Run : Nat := 24
abbrev n_law24_awake : Nat := 27
abbrev n_cluster_Cluster_Put : Nat := 31
abbrev n_cluster_Cluster_Get : Nat := 33
abbrev n_cluster_Cluster_Result : Nat := 34
abbrev n_cluster_Cluster_Events : Nat := 36
abbrev n_cluster_Cluster_Sync : Nat := 37
abbrev n_cluster_Cluster_Entries : Nat := 38
abbrev n_cluster_Cluster_Resend : Nat := 39
abbrev n_cluster_Cluster_Net : Nat := 40
abbrev n_cluster_Cluster_Deliver : Nat := 41
abbrev n_cluster_Cluster_Drop : Nat := 42
abbrev n_cluster_Cluster_Again : Nat := 43
abbrev n_cluster_Cluster_Down : Nat := 44
abbrev n_cluster_Cluster_Arm : Nat := 45
abbrev n_cluster_Cluster_Start : Nat := 46
abbrev n_cluster_Cluster_Compact : Nat := 47
abbrev n_cluster_site_open : Nat := 84
abbrev n_cluster_Cluster_tick : Nat := 91
abbrev n_cluster_Cluster_people : Nat := 92
abbrev n_client_Client_Put : Nat := 93
abbrev n_cluster_Cluster_begins : Nat := 94
abbrev n_client_Client_Get : Nat := 95
abbrev n_client_Client_Result : Nat := 96
abbrev n_slices_Clone___cluster_Event_cluster_Event_ : Nat := 98
abbrev n_cluster_Cluster_places : Nat := 99
abbrev n_cluster_site_fell : Nat := 100
abbrev n_cluster_Cluster_send : Nat := 101
abbrev n_client_Client_Resend : Nat := 102
abbrev n_cluster_Cluster_take : Nat := 103
abbrev n_wire_Decode : Nat := 104
abbrev n_client_Client_Handle : Nat := 105
abbrev n_cluster_Cluster_ended : Nat := 106
abbrev n_disk_Disk_Arm : Nat := 107
abbrev n_disk_Disk_Crash : Nat := 108
abbrev n_slices_Delete___string_string_ : Nat := 149
abbrev n_bits_Crc : Nat := 151
/-! vitrine/vitrinelaw21.ReplicaNil -/
/-! (*vitrine/replica.Replica).Handle -/
/-! vitrine/replica.New -/
/-! vitrine/vitrinelaw18.StoreNewer -/
/-! vitrine/store.Newer -/
/-! vitrine/vitrineref18.Newer -/
/-! cmp.Or[int] -/
/-! cmp.Compare[int] -/
/-! cmp.isNaN[int] -/
/-! vitrine/vitrinelaw18.StoreNil -/
/-! (*vitrine/store.Store).Get -/
/-! vitrine/store.Open -/
/-! (*vitrine/store.Store).Put -/
/-! (*vitrine/store.Store).Compact -/
/-! (*vitrine/store.Store).Entries -/
/-! (*vitrine/store.Store).Bands -/
/-! (*vitrine/store.Store).Has -/
/-! vitrine/seglog.Open -/
/-! vitrine/vitrinelaw24.ClusterNil -/
def F_law24_ClusterNil (a0 : Int) (σ : Mem) (Q : AV → Mem → Prop) : Prop :=
callW PG n_cluster_Cluster_Sync [.nilp, .int .i64 a0, .int .i64 a0] (σ.bump 12) fun v0 σ1 =>
tupW v0 0 fun v2 =>
tpI v0 1 fun v3 =>
newW σ1 (σ.next + 9) (.rw [.int .i64 0, .int .i64 0, .int .i64 0]) fun σ4 =>
stW 3 σ4 (.ptr (σ.next + 9) 0) v2 fun σ5 =>
callW PG n_cluster_Cluster_Entries [.nilp, .int .i64 a0] (σ5.bump 8) fun v6 σ7 =>
tupW v6 0 fun v8 =>
tpI v6 1 fun v9 =>
callW PG n_cluster_Cluster_Result [.nilp, .int .i64 a0] (σ7.bump 13) fun v10 σ11 =>
tupW v10 0 fun v12 =>
tpS v10 1 fun v13 =>
tupW v10 2 fun v14 =>
tpI v10 3 fun v15 =>
newW σ11 (σ7.next + 8) (.rw [.int .i64 0, .int .i64 0]) fun σ16 =>
stW 2 σ16 (.ptr (σ7.next + 8) 0) v12 fun σ17 =>
callW PG n_cluster_Cluster_Put [.nilp, .int .i64 a0, .str ⟨#[97]⟩, .str ⟨#[]⟩, .nils] (σ17.bump 88) fun v18 σ19 =>
castI .i64 v18 fun v20 =>
ifB (decide (v20 = 2)) (
callW PG n_cluster_Cluster_Get [.nilp, .int .i64 a0, .str ⟨#[97]⟩] σ19 fun v21 σ22 =>
castI .i64 v21 fun v23 =>
ifB (decide (v23 = 2)) (
callW PG n_cluster_Cluster_Resend [.nilp, .int .i64 a0] σ22 fun v24 σ25 =>
castI .i64 v24 fun v26 =>
ifB (decide (v26 = 2)) (
callW PG n_cluster_Cluster_Net [.nilp] σ25 fun v27 σ28 =>
castI .i64 v27 fun v29 =>
ifB (decide (v29 = 0)) (
callW PG n_cluster_Cluster_Deliver [.nilp, .int .i64 a0] σ28 fun v30 σ31 =>
castI .i64 v30 fun v32 =>
ifB (decide (v32 = 2)) (
callW PG n_cluster_Cluster_Drop [.nilp, .int .i64 a0] σ31 fun v33 σ34 =>
castI .i64 v33 fun v35 =>
ifB (decide (v35 = 2)) (
callW PG n_cluster_Cluster_Again [.nilp, .int .i64 a0] σ34 fun v36 σ37 =>
castI .i64 v36 fun v38 =>
ifB (decide (v38 = 2)) (
callW PG n_cluster_Cluster_Down [.nilp, .int .i64 a0] σ37 fun v39 σ40 =>
castI .i64 v39 fun v41 =>
ifB (decide (v41 = 2)) (
callW PG n_cluster_Cluster_Arm [.nilp, .int .i64 a0, .int .i64 a0] σ40 fun v42 σ43 =>
castI .i64 v42 fun v44 =>
ifB (decide (v44 = 2)) (
newW σ43 (σ17.next + 56) (.rw [.int .i64 a0]) fun σ45 =>
callW PG n_cluster_Cluster_Start [.nilp, .int .i64 a0, .slice (σ17.next + 56) 0 1 (.ex 1)] σ45 fun v46 σ47 =>
castI .i64 v46 fun v48 =>
ifB (decide (v48 = 2)) (
callW PG n_cluster_Cluster_Compact [.nilp, .int .i64 a0] σ47 fun v49 σ50 =>
castI .i64 v49 fun v51 =>
ifB (decide (v51 = 2)) (
ifB (decide (v3 = 2)) (
ifB (decide (v9 = 2)) (
ifB (decide (v15 = 2)) (
callW PG n_cluster_Cluster_Events [.nilp] σ50 fun v52 σ53 =>
slenW v52 fun v54 =>
ifB (decide (v54 = 0)) (
callW PG n_law24_awake [] σ53 fun v55 σ56 =>
castB v55 fun v57 =>
Q (.bool v57) σ56) (
Q (.bool false) σ53)) (
Q (.bool false) σ50)) (
Q (.bool false) σ50)) (
Q (.bool false) σ50)) (
Q (.bool false) σ50)) (
Q (.bool false) σ47)) (
Q (.bool false) σ43)) (
Q (.bool false) σ40)) (
Q (.bool false) σ37)) (
Q (.bool false) σ34)) (
Q (.bool false) σ31)) (
Q (.bool false) σ28)) (
Q (.bool false) σ25)) (
Q (.bool false) σ22)) (
Q (.bool false) σ19)
theorem ok_law24_ClusterNil {a0 σ Q} (h : σ.Live → F_law24_ClusterNil a0 σ Q) : ACalls PG n_law24_ClusterNil [.int .i64 a0] σ Q :=
  .of_sem [none, none, none, none, none, none] [(18, tI), (24, tI), (30, .s), (32, tI), (35, tI), (40, tI), (46, tI), (51, tI), (57, tI), (63, tI), (69, tI), (75, tI), (82, tI), (90, tI), (96, tI), (118, .b)] mixed (by kernel_rfl) (by kernel_rfl) h
/-! vitrine/cluster.New -/
/-! (*vitrine/cluster.Cluster).Put -/
def F_cluster_Cluster_Put_j1 (Q : AV → Mem → Prop) (v14 : Int) (σ15 : Mem) : Prop :=
Q (.int .i64 v14) (σ15.bump 2)
def F_cluster_Cluster_Put (a0 : AV) (a1 : Int) (a2 : ByteArray) (a3 : ByteArray) (a4 : AV) (σ : Mem) (Q : AV → Mem → Prop) : Prop :=
callW PG n_cluster_Cluster_people [a0] (σ.bump 8) fun v0 σ1 =>
castI .i64 v0 fun v2 =>
newW σ1 (σ.next + 5) (.rw [.int .i64 a1]) fun σ3 =>
callW PG n_cluster_Cluster_tick [a0, .int .i64 v2, .slice (σ.next + 5) 0 1 (.ex 1)] σ3 fun v4 σ5 =>
castI .i64 v4 fun v6 =>
ifB (decide (v6 ≠ 0)) (
Q (.int .i64 v6) (σ5.bump 4)) (
lfW 1 (σ5.bump 21) a0 fun v7 =>
idxW 1 v7 a1 fun v8 =>
ldW (σ5.bump 21) v8 fun v9 =>
lfW 0 (σ5.bump 21) v9 fun v10 =>
callW PG n_client_Client_Put [v10, .str a2, .str a3, a4] (σ5.bump 21) fun v11 σ12 =>
tupW v11 0 fun v13 =>
tpI v11 1 fun v14 =>
joinF [] (fun (k16 : Mem → Prop) =>
ifB (decide (v14 = 0)) (
callW PG n_cluster_Cluster_begins [a0, .int .i64 a1, .agg [.int .i64 0, .int .i64 0, .bool true, .str a2, .str a3, .int .i64 0, .int .i64 0, .int .i64 0, .int .i64 0, .int .i64 0], v13] (σ12.bump 9) fun v17 σ18 =>
k16 σ18) (
k16 (σ12.bump 2))) (F_cluster_Cluster_Put_j1 Q v14))
theorem ok_cluster_Cluster_Put {a0 a1 a2 a3 a4 σ Q} (h : σ.Live → F_cluster_Cluster_Put a0 a1 a2 a3 a4 σ Q) : ACalls PG n_cluster_Cluster_Put [a0, .int .i64 a1, .str a2, .str a3, a4] σ Q :=
  .of_sem [none, none, none, none, none, none, none, some ([13], []), none, none] [(16, tI), (19, tI), (39, tI)] mixed (by kernel_rfl) (by kernel_rfl) h
/-! (*vitrine/cluster.Cluster).Get -/
def F_cluster_Cluster_Get_j1 (Q : AV → Mem → Prop) (v14 : Int) (σ15 : Mem) : Prop :=
Q (.int .i64 v14) (σ15.bump 2)
def F_cluster_Cluster_Get (a0 : AV) (a1 : Int) (a2 : ByteArray) (σ : Mem) (Q : AV → Mem → Prop) : Prop :=
callW PG n_cluster_Cluster_people [a0] (σ.bump 8) fun v0 σ1 =>
castI .i64 v0 fun v2 =>
newW σ1 (σ.next + 5) (.rw [.int .i64 a1]) fun σ3 =>
callW PG n_cluster_Cluster_tick [a0, .int .i64 v2, .slice (σ.next + 5) 0 1 (.ex 1)] σ3 fun v4 σ5 =>
castI .i64 v4 fun v6 =>
ifB (decide (v6 ≠ 0)) (
Q (.int .i64 v6) (σ5.bump 4)) (
lfW 1 (σ5.bump 19) a0 fun v7 =>
idxW 1 v7 a1 fun v8 =>
ldW (σ5.bump 19) v8 fun v9 =>
lfW 0 (σ5.bump 19) v9 fun v10 =>
callW PG n_client_Client_Get [v10, .str a2] (σ5.bump 19) fun v11 σ12 =>
tupW v11 0 fun v13 =>
tpI v11 1 fun v14 =>
joinF [] (fun (k16 : Mem → Prop) =>
ifB (decide (v14 = 0)) (
callW PG n_cluster_Cluster_begins [a0, .int .i64 a1, .agg [.int .i64 0, .int .i64 0, .bool false, .str a2, .str ⟨#[]⟩, .int .i64 0, .int .i64 0, .int .i64 0, .int .i64 0, .int .i64 0], v13] (σ12.bump 8) fun v17 σ18 =>
k16 σ18) (
k16 (σ12.bump 2))) (F_cluster_Cluster_Get_j1 Q v14))
theorem ok_cluster_Cluster_Get {a0 a1 a2 σ Q} (h : σ.Live → F_cluster_Cluster_Get a0 a1 a2 σ Q) : ACalls PG n_cluster_Cluster_Get [a0, .int .i64 a1, .str a2] σ Q :=
  .of_sem [none, none, none, none, none, none, none, some ([9], []), none, none] [(12, tI), (15, tI), (33, tI)] mixed (by kernel_rfl) (by kernel_rfl) h
/-! (*vitrine/cluster.Cluster).Result -/
def F_cluster_Cluster_Result (a0 : AV) (a1 : Int) (σ : Mem) (Q : AV → Mem → Prop) : Prop :=
newW (σ.bump 4) σ.next (.rw [.int .i64 0, .int .i64 0]) fun σ0 =>
eqW .ptr a0 .nilp fun v1 =>
ifB v1 (
stW 2 (σ0.bump 8) (.ptr σ.next 0) (.agg [.int .i64 0, .int .i64 0]) fun σ2 =>
ldnW 2 σ2 (.ptr σ.next 0) fun v3 =>
Q (.tup [v3, .str ⟨#[]⟩, .nils, .int .i64 2]) σ2) (
ifB (decide (a1 < 0)) (
stW 2 (σ0.bump 20) (.ptr σ.next 0) (.agg [.int .i64 0, .int .i64 0]) fun σ4 =>
ldnW 2 σ4 (.ptr σ.next 0) fun v5 =>
Q (.tup [v5, .str ⟨#[]⟩, .nils, .int .i64 1]) σ4) (
nchkW a0 fun v6 =>
fldW 1 v6 fun v7 =>
ldW (σ0.bump 15) v7 fun v8 =>
slenW v8 fun v9 =>
ifB (decide (v9 ≤ a1)) (
stW 2 (σ0.bump 20) (.ptr σ.next 0) (.agg [.int .i64 0, .int .i64 0]) fun σ10 =>
ldnW 2 σ10 (.ptr σ.next 0) fun v11 =>
Q (.tup [v11, .str ⟨#[]⟩, .nils, .int .i64 1]) σ10) (
lfW 1 (σ0.bump 34) a0 fun v12 =>
idxW 1 v12 a1 fun v13 =>
ldW (σ0.bump 34) v13 fun v14 =>
lfW 0 (σ0.bump 34) v14 fun v15 =>
callW PG n_client_Client_Result [v15] (σ0.bump 34) fun v16 σ17 =>
tupW v16 0 fun v18 =>
tpS v16 1 fun v19 =>
tupW v16 2 fun v20 =>
tpI v16 3 fun v21 =>
stW 2 σ17 (.ptr σ.next 0) v18 fun σ22 =>
ldnW 2 σ22 (.ptr σ.next 0) fun v23 =>
Q (.tup [v23, .str v19, v20, .int .i64 v21]) σ22)))
theorem ok_cluster_Cluster_Result {a0 a1 σ Q} (h : σ.Live → F_cluster_Cluster_Result a0 a1 σ Q) : ACalls PG n_cluster_Cluster_Result [a0, .int .i64 a1] σ Q :=
  .of_sem [none, none, none, none, none, none, none, none, none] [(37, .s), (39, tI)] mixed (by kernel_rfl) (by kernel_rfl) h
/-! (*vitrine/cluster.Cluster).Events -/
def F_cluster_Cluster_Events (a0 : AV) (σ : Mem) (Q : AV → Mem → Prop) : Prop :=
eqW .ptr a0 .nilp fun v0 =>
ifB v0 (
Q .nils (σ.bump 4)) (
lfW 4 (σ.bump 9) a0 fun v1 =>
callW PG n_slices_Clone___cluster_Event_cluster_Event_ [v1] (σ.bump 9) fun v2 σ3 =>
Q v2 σ3)
theorem ok_cluster_Cluster_Events {a0 σ Q} (h : σ.Live → F_cluster_Cluster_Events a0 σ Q) : ACalls PG n_cluster_Cluster_Events [a0] σ Q :=
  .of_sem [none, none, none, none, none] [] mixed (by kernel_rfl) (by kernel_rfl) h
/-! (*vitrine/cluster.Cluster).Sync -/
def F_cluster_Cluster_Sync_j1 (a0 : AV) (a1 : Int) (a2 : Int) (Q : AV → Mem → Prop) (σ : Mem) (v8 : Int) (σ9 : Mem) : Prop :=
ifB (decide (v8 ≠ 0)) (
stW 3 (σ9.bump 6) (.ptr σ.next 0) (.agg [.int .i64 0, .int .i64 0, .int .i64 0]) fun σ10 =>
ldnW 3 σ10 (.ptr σ.next 0) fun v11 =>
Q (.tup [v11, .int .i64 v8]) σ10) (
lfW 0 (σ9.bump 18) a0 fun v12 =>
idxW 1 v12 a1 fun v13 =>
ldW (σ9.bump 18) v13 fun v14 =>
lfW 0 (σ9.bump 18) a0 fun v15 =>
idxW 1 v15 a2 fun v16 =>
ldW (σ9.bump 18) v16 fun v17 =>
lfW 2 (σ9.bump 30) v14 fun v18 =>
eqW .ptr v18 .nilp fun v19 =>
ifB v19 (
stW 3 (σ9.bump 33) (.ptr σ.next 0) (.agg [.int .i64 0, .int .i64 0, .int .i64 0]) fun σ20 =>
ldnW 3 σ20 (.ptr σ.next 0) fun v21 =>
Q (.tup [v21, .int .i64 50]) σ20) (
nchkW v17 fun v22 =>
fldW 2 v22 fun v23 =>
ldW (σ9.bump 30) v23 fun v24 =>
eqW .ptr v24 .nilp fun v25 =>
ifB v25 (
stW 3 (σ9.bump 33) (.ptr σ.next 0) (.agg [.int .i64 0, .int .i64 0, .int .i64 0]) fun σ26 =>
ldnW 3 σ26 (.ptr σ.next 0) fun v27 =>
Q (.tup [v27, .int .i64 50]) σ26) (
lfW 1 (σ9.bump 45) v14 fun v28 =>
lfW 1 (σ9.bump 45) v17 fun v29 =>
newW (σ9.bump 45) (σ9.next + 42) (.rw [.int .i64 0, .int .i64 0, .int .i64 0]) fun σ30 =>
callW PG n_session_Run [v28, v29] σ30 fun v31 σ32 =>
tupW v31 0 fun v33 =>
tpI v31 1 fun v34 =>
stW 3 σ32 (.ptr (σ9.next + 42) 0) v33 fun σ35 =>
callW PG n_cluster_site_fell [v14] (σ35.bump 2) fun v36 σ37 =>
callW PG n_cluster_site_fell [v17] (σ37.bump 2) fun v38 σ39 =>
ldnW 3 (σ39.bump 4) (.ptr (σ9.next + 42) 0) fun v40 =>
stW 3 (σ39.bump 4) (.ptr σ.next 0) v40 fun σ41 =>
ldnW 3 σ41 (.ptr σ.next 0) fun v42 =>
Q (.tup [v42, .int .i64 v34]) σ41)))
def F_cluster_Cluster_Sync_j2 (a0 : AV) (a1 : Int) (a2 : Int) (Q : AV → Mem → Prop) (σ : Mem) (v44 : Int) (σ45 : Mem) : Prop :=
ifB (decide (v44 ≠ 0)) (
stW 3 (σ45.bump 6) (.ptr σ.next 0) (.agg [.int .i64 0, .int .i64 0, .int .i64 0]) fun σ46 =>
ldnW 3 σ46 (.ptr σ.next 0) fun v47 =>
Q (.tup [v47, .int .i64 v44]) σ46) (
lfW 0 (σ45.bump 18) a0 fun v48 =>
idxW 1 v48 a1 fun v49 =>
ldW (σ45.bump 18) v49 fun v50 =>
lfW 0 (σ45.bump 18) a0 fun v51 =>
idxW 1 v51 a2 fun v52 =>
ldW (σ45.bump 18) v52 fun v53 =>
lfW 2 (σ45.bump 30) v50 fun v54 =>
eqW .ptr v54 .nilp fun v55 =>
ifB v55 (
stW 3 (σ45.bump 33) (.ptr σ.next 0) (.agg [.int .i64 0, .int .i64 0, .int .i64 0]) fun σ56 =>
ldnW 3 σ56 (.ptr σ.next 0) fun v57 =>
Q (.tup [v57, .int .i64 50]) σ56) (
nchkW v53 fun v58 =>
fldW 2 v58 fun v59 =>
ldW (σ45.bump 30) v59 fun v60 =>
eqW .ptr v60 .nilp fun v61 =>
ifB v61 (
stW 3 (σ45.bump 33) (.ptr σ.next 0) (.agg [.int .i64 0, .int .i64 0, .int .i64 0]) fun σ62 =>
ldnW 3 σ62 (.ptr σ.next 0) fun v63 =>
Q (.tup [v63, .int .i64 50]) σ62) (
lfW 1 (σ45.bump 45) v50 fun v64 =>
lfW 1 (σ45.bump 45) v53 fun v65 =>
newW (σ45.bump 45) (σ45.next + 42) (.rw [.int .i64 0, .int .i64 0, .int .i64 0]) fun σ66 =>
callW PG n_session_Run [v64, v65] σ66 fun v67 σ68 =>
tupW v67 0 fun v69 =>
tpI v67 1 fun v70 =>
stW 3 σ68 (.ptr (σ45.next + 42) 0) v69 fun σ71 =>
callW PG n_cluster_site_fell [v50] (σ71.bump 2) fun v72 σ73 =>
callW PG n_cluster_site_fell [v53] (σ73.bump 2) fun v74 σ75 =>
ldnW 3 (σ75.bump 4) (.ptr (σ45.next + 42) 0) fun v76 =>
stW 3 (σ75.bump 4) (.ptr σ.next 0) v76 fun σ77 =>
ldnW 3 σ77 (.ptr σ.next 0) fun v78 =>
Q (.tup [v78, .int .i64 v70]) σ77)))
def F_cluster_Cluster_Sync (a0 : AV) (a1 : Int) (a2 : Int) (σ : Mem) (Q : AV → Mem → Prop) : Prop :=
newW (σ.bump 2) σ.next (.rw [.int .i64 0, .int .i64 0, .int .i64 0]) fun σ0 =>
callW PG n_cluster_Cluster_places [a0] (σ0.bump 8) fun v1 σ2 =>
castI .i64 v1 fun v3 =>
newW σ2 (σ0.next + 5) (.rw [.int .i64 a1, .int .i64 a2]) fun σ4 =>
callW PG n_cluster_Cluster_tick [a0, .int .i64 v3, .slice (σ0.next + 5) 0 2 (.ex 2)] σ4 fun v5 σ6 =>
castI .i64 v5 fun v7 =>
ifB (decide (v7 = 0)) (
joinF [tI] (fun (k43 : Int → Mem → Prop) =>
ifB (decide (a1 = a2)) (
k43 1 (σ6.bump 8)) (
k43 v7 (σ6.bump 7))) (F_cluster_Cluster_Sync_j1 a0 a1 a2 Q σ)) (
joinF [tI] (fun (k79 : Int → Mem → Prop) =>
k79 v7 (σ6.bump 7)) (F_cluster_Cluster_Sync_j2 a0 a1 a2 Q σ))
theorem ok_cluster_Cluster_Sync {a0 a1 a2 σ Q} (h : σ.Live → F_cluster_Cluster_Sync a0 a1 a2 σ Q) : ACalls PG n_cluster_Cluster_Sync [a0, .int .i64 a1, .int .i64 a2] σ Q :=
  .of_sem [none, none, none, some ([0, 1, 2, 6], [8]), none, none, none, none, none, none, none, none, none, none, none, none] [(14, tI), (18, tI), (8, tI), (68, tI)] mixed (by kernel_rfl) (by kernel_rfl) h
/-! (*vitrine/cluster.Cluster).Entries -/
def F_cluster_Cluster_Entries (a0 : AV) (a1 : Int) (σ : Mem) (Q : AV → Mem → Prop) : Prop :=
eqW .ptr a0 .nilp fun v0 =>
ifB v0 (
Q (.tup [.nils, .int .i64 2]) (σ.bump 7)) (
ifB (decide (a1 < 0)) (
Q (.tup [.nils, .int .i64 1]) (σ.bump 19)) (
nchkW a0 fun v1 =>
fldW 0 v1 fun v2 =>
ldW (σ.bump 17) v2 fun v3 =>
slenW v3 fun v4 =>
ifB (decide (v4 ≤ a1)) (
Q (.tup [.nils, .int .i64 1]) (σ.bump 19)) (
lfW 0 (σ.bump 29) a0 fun v5 =>
idxW 1 v5 a1 fun v6 =>
ldW (σ.bump 29) v6 fun v7 =>
lfW 2 (σ.bump 29) v7 fun v8 =>
eqW .ptr v8 .nilp fun v9 =>
ifB v9 (
Q (.tup [.nils, .int .i64 50]) (σ.bump 31)) (
lfW 0 (σ.bump 42) a0 fun v10 =>
idxW 1 v10 a1 fun v11 =>
ldW (σ.bump 42) v11 fun v12 =>
lfW 1 (σ.bump 42) v12 fun v13 =>
callW PG n_store_Store_Entries [v13] (σ.bump 42) fun v14 σ15 =>
Q (.tup [v14, .int .i64 0]) σ15))))
theorem ok_cluster_Cluster_Entries {a0 a1 σ Q} (h : σ.Live → F_cluster_Cluster_Entries a0 a1 σ Q) : ACalls PG n_cluster_Cluster_Entries [a0, .int .i64 a1] σ Q :=
  .of_sem [none, none, none, none, none, none, none, none, none, none, none, none] [] mixed (by kernel_rfl) (by kernel_rfl) h
/-! (*vitrine/cluster.Cluster).Resend -/
def F_cluster_Cluster_Resend (a0 : AV) (a1 : Int) (σ : Mem) (Q : AV → Mem → Prop) : Prop :=
callW PG n_cluster_Cluster_people [a0] (σ.bump 8) fun v0 σ1 =>
castI .i64 v0 fun v2 =>
newW σ1 (σ.next + 5) (.rw [.int .i64 a1]) fun σ3 =>
callW PG n_cluster_Cluster_tick [a0, .int .i64 v2, .slice (σ.next + 5) 0 1 (.ex 1)] σ3 fun v4 σ5 =>
castI .i64 v4 fun v6 =>
ifB (decide (v6 ≠ 0)) (
Q (.int .i64 v6) (σ5.bump 4)) (
lfW 1 (σ5.bump 15) a0 fun v7 =>
idxW 1 v7 a1 fun v8 =>
ldW (σ5.bump 15) v8 fun v9 =>
lfW 0 (σ5.bump 15) v9 fun v10 =>
callW PG n_client_Client_Resend [v10] (σ5.bump 15) fun v11 σ12 =>
callW PG n_cluster_Cluster_send [a0, v11] σ12 fun v13 σ14 =>
Q (.int .i64 0) (σ14.bump 1))
theorem ok_cluster_Cluster_Resend {a0 a1 σ Q} (h : σ.Live → F_cluster_Cluster_Resend a0 a1 σ Q) : ACalls PG n_cluster_Cluster_Resend [a0, .int .i64 a1] σ Q :=
  .of_sem [none, none, none, none, none, none, none] [(8, tI), (11, tI)] mixed (by kernel_rfl) (by kernel_rfl) h
/-! (*vitrine/cluster.Cluster).Net -/
def F_cluster_Cluster_Net (a0 : AV) (σ : Mem) (Q : AV → Mem → Prop) : Prop :=
eqW .ptr a0 .nilp fun v0 =>
ifB v0 (
Q (.int .i64 0) (σ.bump 4)) (
lfW 2 (σ.bump 9) a0 fun v1 =>
slenW v1 fun v2 =>
Q (.int .i64 v2) (σ.bump 9))
theorem ok_cluster_Cluster_Net {a0 σ Q} (h : σ.Live → F_cluster_Cluster_Net a0 σ Q) : ACalls PG n_cluster_Cluster_Net [a0] σ Q :=
  .of_sem [none, none, none, none, none] [] mixed (by kernel_rfl) (by kernel_rfl) h
/-! (*vitrine/cluster.Cluster).Deliver -/
def F_cluster_Cluster_Deliver_j1 (Q : AV → Mem → Prop) (σ30 : Mem) : Prop :=
Q (.int .i64 0) (σ30.bump 1)
def F_cluster_Cluster_Deliver_j2 (Q : AV → Mem → Prop) (σ41 : Mem) : Prop :=
Q (.int .i64 0) (σ41.bump 1)
def F_cluster_Cluster_Deliver (a0 : AV) (a1 : Int) (σ : Mem) (Q : AV → Mem → Prop) : Prop :=
callW PG n_cluster_Cluster_take [a0, .int .i64 a1] (σ.bump 9) fun v0 σ1 =>
tpS v0 0 fun v2 =>
tpI v0 1 fun v3 =>
ifB (decide (v3 ≠ 0)) (
Q (.int .i64 v3) (σ1.bump 4)) (
callW PG n_wire_Decode [.str v2] (σ1.bump 10) fun v4 σ5 =>
tupW v4 0 fun v6 =>
tpI v4 1 fun v7 =>
newW σ5 (σ1.next + 7) (.rw [.int .i64 0, .int .i64 0, .int .i64 0, .int .i64 0, .str ⟨#[]⟩, .int .i64 0, .int .i64 0, .str ⟨#[]⟩, .nils]) fun σ8 =>
stW 9 σ8 (.ptr (σ1.next + 7) 0) v6 fun σ9 =>
fldW 2 (.ptr (σ1.next + 7) 0) fun v10 =>
ldI (σ9.bump 9) v10 fun v11 =>
lfW 0 (σ9.bump 9) a0 fun v12 =>
slenW v12 fun v13 =>
iW (v11 - v13) fun v14 =>
ifB (decide (v7 ≠ 0)) (
Q (.int .i64 0) (σ9.bump 22)) (
nchkW a0 fun v15 =>
fldW 1 v15 fun v16 =>
ldW (σ9.bump 21) v16 fun v17 =>
slenW v17 fun v18 =>
ifB (decide (v18 ≤ v14)) (
Q (.int .i64 0) (σ9.bump 22)) (
ifB (decide (0 ≤ v14)) (
lfW 1 (σ9.bump 32) a0 fun v19 =>
idxW 1 v19 v14 fun v20 =>
ldW (σ9.bump 32) v20 fun v21 =>
lfW 0 (σ9.bump 43) v21 fun v22 =>
ldnW 9 (σ9.bump 43) (.ptr (σ1.next + 7) 0) fun v23 =>
callW PG n_client_Client_Handle [v22, v23] (σ9.bump 43) fun v24 σ25 =>
tupW v24 0 fun v26 =>
tpB v24 1 fun v27 =>
callW PG n_cluster_Cluster_send [a0, v26] (σ25.bump 3) fun v28 σ29 =>
joinF [] (fun (k31 : Mem → Prop) =>
ifB v27 (
callW PG n_cluster_Cluster_ended [a0, v21] (σ29.bump 4) fun v32 σ33 =>
k31 σ33) (
k31 (σ29.bump 1))) (F_cluster_Cluster_Deliver_j1 Q)) (
lfW 0 (σ9.bump 33) a0 fun v34 =>
fldW 2 (.ptr (σ1.next + 7) 0) fun v35 =>
ldI (σ9.bump 33) v35 fun v36 =>
idxW 1 v34 v36 fun v37 =>
ldW (σ9.bump 33) v37 fun v38 =>
lfW 2 (σ9.bump 38) v38 fun v39 =>
eqW .ptr v39 .nilp fun v40 =>
joinF [] (fun (k42 : Mem → Prop) =>
ifB (!v40) (
lfW 2 (σ9.bump 49) v38 fun v43 =>
ldnW 9 (σ9.bump 49) (.ptr (σ1.next + 7) 0) fun v44 =>
callW PG n_replica_Replica_Handle [v43, v44] (σ9.bump 49) fun v45 σ46 =>
tupW v45 0 fun v47 =>
tpI v45 1 fun v48 =>
callW PG n_cluster_Cluster_send [a0, v47] (σ46.bump 3) fun v49 σ50 =>
callW PG n_cluster_site_fell [v38] (σ50.bump 2) fun v51 σ52 =>
k42 σ52) (
k42 (σ9.bump 38))) (F_cluster_Cluster_Deliver_j2 Q)))))
theorem ok_cluster_Cluster_Deliver {a0 a1 σ Q} (h : σ.Live → F_cluster_Cluster_Deliver a0 a1 σ Q) : ACalls PG n_cluster_Cluster_Deliver [a0, .int .i64 a1] σ Q :=
  .of_sem [none, none, none, none, none, none, none, none, none, none, none, none, none, none, none, none, none, some ([], []), none, none, none, none, some ([], []), none, none, none, none] [(19, .s), (20, tI), (28, tI), (30, tI), (67, .b), (80, tI), (96, tI)] mixed (by kernel_rfl) (by kernel_rfl) h
/-! (*vitrine/cluster.Cluster).Drop -/
def F_cluster_Cluster_Drop (a0 : AV) (a1 : Int) (σ : Mem) (Q : AV → Mem → Prop) : Prop :=
callW PG n_cluster_Cluster_take [a0, .int .i64 a1] (σ.bump 9) fun v0 σ1 =>
tpS v0 0 fun v2 =>
tpI v0 1 fun v3 =>
Q (.int .i64 v3) (σ1.bump 2)
theorem ok_cluster_Cluster_Drop {a0 a1 σ Q} (h : σ.Live → F_cluster_Cluster_Drop a0 a1 σ Q) : ACalls PG n_cluster_Cluster_Drop [a0, .int .i64 a1] σ Q :=
  .of_sem [none, none, none] [(11, .s), (12, tI)] mixed (by kernel_rfl) (by kernel_rfl) h
/-! (*vitrine/cluster.Cluster).Again -/
def F_cluster_Cluster_Again_j1 (Q : AV → Mem → Prop) (σ9 : Mem) : Prop :=
Q (.int .i64 0) (σ9.bump 1)
def F_cluster_Cluster_Again (a0 : AV) (a1 : Int) (σ : Mem) (Q : AV → Mem → Prop) : Prop :=
callW PG n_cluster_Cluster_Net [a0] (σ.bump 8) fun v0 σ1 =>
castI .i64 v0 fun v2 =>
newW σ1 (σ.next + 5) (.rw [.int .i64 a1]) fun σ3 =>
callW PG n_cluster_Cluster_tick [a0, .int .i64 v2, .slice (σ.next + 5) 0 1 (.ex 1)] σ3 fun v4 σ5 =>
castI .i64 v4 fun v6 =>
ifB (decide (v6 ≠ 0)) (
Q (.int .i64 v6) (σ5.bump 4)) (
lfW 2 (σ5.bump 8) a0 fun v7 =>
slenW v7 fun v8 =>
joinF [] (fun (k10 : Mem → Prop) =>
ifB (decide (v8 < 500)) (
lfW 2 (σ5.bump 25) a0 fun v11 =>
lfW 2 (σ5.bump 25) a0 fun v12 =>
idxW 1 v12 a1 fun v13 =>
ldS (σ5.bump 25) v13 fun v14 =>
newW (σ5.bump 25) (σ5.next + 20) (.rw [.str v14]) fun σ15 =>
apW 1 16 (σ5.next + 21) σ15 v11 (.slice (σ5.next + 20) 0 1 (.ex 1)) fun v16 σ17 =>
nfW 2 a0 fun v18 =>
stW 1 σ17 v18 v16 fun σ19 =>
k10 σ19) (
k10 (σ5.bump 8))) (F_cluster_Cluster_Again_j1 Q))
theorem ok_cluster_Cluster_Again {a0 a1 σ Q} (h : σ.Live → F_cluster_Cluster_Again a0 a1 σ Q) : ACalls PG n_cluster_Cluster_Again [a0, .int .i64 a1] σ Q :=
  .of_sem [none, none, none, none, none, none, some ([], []), none, none] [(8, tI), (11, tI), (32, .s)] mixed (by kernel_rfl) (by kernel_rfl) h
/-! (*vitrine/cluster.Cluster).Down -/
def F_cluster_Cluster_Down (a0 : AV) (a1 : Int) (σ : Mem) (Q : AV → Mem → Prop) : Prop :=
callW PG n_cluster_Cluster_places [a0] (σ.bump 8) fun v0 σ1 =>
castI .i64 v0 fun v2 =>
newW σ1 (σ.next + 5) (.rw [.int .i64 a1]) fun σ3 =>
callW PG n_cluster_Cluster_tick [a0, .int .i64 v2, .slice (σ.next + 5) 0 1 (.ex 1)] σ3 fun v4 σ5 =>
castI .i64 v4 fun v6 =>
ifB (decide (v6 ≠ 0)) (
Q (.int .i64 v6) (σ5.bump 4)) (
lfW 0 (σ5.bump 12) a0 fun v7 =>
idxW 1 v7 a1 fun v8 =>
ldW (σ5.bump 12) v8 fun v9 =>
nfW 2 v9 fun v10 =>
stW 1 (σ5.bump 12) v10 .nilp fun σ11 =>
Q (.int .i64 0) (σ11.bump 1))
theorem ok_cluster_Cluster_Down {a0 a1 σ Q} (h : σ.Live → F_cluster_Cluster_Down a0 a1 σ Q) : ACalls PG n_cluster_Cluster_Down [a0, .int .i64 a1] σ Q :=
  .of_sem [none, none, none, none, none, none, none] [(8, tI), (11, tI)] mixed (by kernel_rfl) (by kernel_rfl) h
/-! (*vitrine/cluster.Cluster).Arm -/
def F_cluster_Cluster_Arm (a0 : AV) (a1 : Int) (a2 : Int) (σ : Mem) (Q : AV → Mem → Prop) : Prop :=
callW PG n_cluster_Cluster_places [a0] (σ.bump 8) fun v0 σ1 =>
castI .i64 v0 fun v2 =>
newW σ1 (σ.next + 5) (.rw [.int .i64 a1]) fun σ3 =>
callW PG n_cluster_Cluster_tick [a0, .int .i64 v2, .slice (σ.next + 5) 0 1 (.ex 1)] σ3 fun v4 σ5 =>
castI .i64 v4 fun v6 =>
ifB (decide (v6 ≠ 0)) (
Q (.int .i64 v6) (σ5.bump 4)) (
lfW 0 (σ5.bump 14) a0 fun v7 =>
idxW 1 v7 a1 fun v8 =>
ldW (σ5.bump 14) v8 fun v9 =>
lfW 0 (σ5.bump 14) v9 fun v10 =>
callW PG n_disk_Disk_Arm [v10, .int .i64 a2] (σ5.bump 14) fun v11 σ12 =>
Q (.int .i64 0) (σ12.bump 1))
theorem ok_cluster_Cluster_Arm {a0 a1 a2 σ Q} (h : σ.Live → F_cluster_Cluster_Arm a0 a1 a2 σ Q) : ACalls PG n_cluster_Cluster_Arm [a0, .int .i64 a1, .int .i64 a2] σ Q :=
  .of_sem [none, none, none, none, none, none, none] [(10, tI), (13, tI)] mixed (by kernel_rfl) (by kernel_rfl) h
/-! (*vitrine/cluster.Cluster).Start -/
def F_cluster_Cluster_Start (a0 : AV) (a1 : Int) (a2 : AV) (σ : Mem) (Q : AV → Mem → Prop) : Prop :=
callW PG n_cluster_Cluster_places [a0] (σ.bump 8) fun v0 σ1 =>
castI .i64 v0 fun v2 =>
newW σ1 (σ.next + 5) (.rw [.int .i64 a1]) fun σ3 =>
callW PG n_cluster_Cluster_tick [a0, .int .i64 v2, .slice (σ.next + 5) 0 1 (.ex 1)] σ3 fun v4 σ5 =>
castI .i64 v4 fun v6 =>
ifB (decide (v6 ≠ 0)) (
Q (.int .i64 v6) (σ5.bump 4)) (
lfW 0 (σ5.bump 14) a0 fun v7 =>
idxW 1 v7 a1 fun v8 =>
ldW (σ5.bump 14) v8 fun v9 =>
lfW 0 (σ5.bump 14) v9 fun v10 =>
callW PG n_disk_Disk_Crash [v10, a2] (σ5.bump 14) fun v11 σ12 =>
lfW 0 (σ12.bump 10) a0 fun v13 =>
idxW 1 v13 a1 fun v14 =>
ldW (σ12.bump 10) v14 fun v15 =>
callW PG n_cluster_site_open [v15, .int .i64 a1] (σ12.bump 10) fun v16 σ17 =>
castI .i64 v16 fun v18 =>
Q (.int .i64 v18) σ17)
theorem ok_cluster_Cluster_Start {a0 a1 a2 σ Q} (h : σ.Live → F_cluster_Cluster_Start a0 a1 a2 σ Q) : ACalls PG n_cluster_Cluster_Start [a0, .int .i64 a1, a2] σ Q :=
  .of_sem [none, none, none, none, none, none, none] [(10, tI), (13, tI), (37, tI)] mixed (by kernel_rfl) (by kernel_rfl) h
/-! (*vitrine/cluster.Cluster).Compact -/
def F_cluster_Cluster_Compact (a0 : AV) (a1 : Int) (σ : Mem) (Q : AV → Mem → Prop) : Prop :=
callW PG n_cluster_Cluster_places [a0] (σ.bump 8) fun v0 σ1 =>
castI .i64 v0 fun v2 =>
newW σ1 (σ.next + 5) (.rw [.int .i64 a1]) fun σ3 =>
callW PG n_cluster_Cluster_tick [a0, .int .i64 v2, .slice (σ.next + 5) 0 1 (.ex 1)] σ3 fun v4 σ5 =>
castI .i64 v4 fun v6 =>
ifB (decide (v6 ≠ 0)) (
Q (.int .i64 v6) (σ5.bump 4)) (
lfW 0 (σ5.bump 10) a0 fun v7 =>
idxW 1 v7 a1 fun v8 =>
ldW (σ5.bump 10) v8 fun v9 =>
lfW 2 (σ5.bump 15) v9 fun v10 =>
eqW .ptr v10 .nilp fun v11 =>
ifB v11 (
Q (.int .i64 50) (σ5.bump 16)) (
lfW 1 (σ5.bump 21) v9 fun v12 =>
callW PG n_store_Store_Compact [v12] (σ5.bump 21) fun v13 σ14 =>
castI .i64 v13 fun v15 =>
callW PG n_cluster_site_fell [v9] (σ14.bump 2) fun v16 σ17 =>
Q (.int .i64 v15) (σ17.bump 2)))
theorem ok_cluster_Cluster_Compact {a0 a1 σ Q} (h : σ.Live → F_cluster_Cluster_Compact a0 a1 σ Q) : ACalls PG n_cluster_Cluster_Compact [a0, .int .i64 a1] σ Q :=
  .of_sem [none, none, none, none, none, none, none, none, none, none, none, none] [(10, tI), (13, tI), (33, tI)] mixed (by kernel_rfl) (by kernel_rfl) h
/-! vitrine/vitrinelaw25.ArchiveNil -/
/-! (*vitrine/archive.Archive).Get -/
/-! (*vitrine/archive.Archive).List -/
/-! (*vitrine/archive.Archive).Repair -/
/-! (*vitrine/archive.Archive).Put -/
/-! (*vitrine/archive.Archive).Again -/
/-! (*vitrine/archive.Archive).Down -/
/-! (*vitrine/archive.Archive).Arm -/
/-! (*vitrine/archive.Archive).Start -/
/-! (*vitrine/archive.Archive).Compact -/
/-! (*vitrine/archive.Archive).run -/
/-! (*vitrine/archive.Archive).up -/
/-! vitrine/vitrinelaw23.SessionNil -/
/-! vitrine/session.Run -/
/-! vitrine/session.way -/
/-! (*vitrine/store.Store).lives -/
/-! vitrine/archive.New -/
end Go.Vit
