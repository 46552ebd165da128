/- The functions, as printed conditions. -/
import Derived.Test.YtomldponnggnfaaGreatVm2
import Derived.Test.YtomldponnggnfaaGreatChecked
import Derived.KernelRfl
set_option linter.unusedVariables false
set_option linter.unusedSimpArgs false
set_option linter.unusedVariables false
set_option maxRecDepth 100000
namespace Go.Vit
open Go.Proofs
noncomputable abbrev PG : Program := Tryz.prog
theorem mixed : PG.follows .mixedOrders = true := by kernel_rfl
abbrev n_law25_ArchiveNil : Nat := 9
abbrev n_bands_Manifest : Nat := 28
abbrev n_bands_Cut : Nat := 30
abbrev n_cluster_Cluster_Put : Nat := 31
abbrev n_cluster_Cluster_Get : Nat := 33
abbrev n_cluster_Cluster_Result : Nat := 34
abbrev n_bands_Join : Nat := 35
abbrev n_cluster_Cluster_Sync : Nat := 37
abbrev n_cluster_Cluster_Entries : Nat := 38
abbrev n_cluster_Cluster_Resend : Nat := 39
abbrev n_cluster_Cluster_Down : Nat := 44
abbrev n_cluster_Cluster_Arm : Nat := 45
abbrev n_cluster_Cluster_Start : Nat := 46
abbrev n_cluster_Cluster_Compact : Nat := 47
abbrev n_archive_Archive_Get : Nat := 48
abbrev n_archive_Archive_List : Nat := 49
abbrev n_archive_Archive_Repair : Nat := 50
abbrev n_archive_Archive_Put : Nat := 51
abbrev n_archive_Archive_Again : Nat := 52
abbrev n_archive_Archive_Down : Nat := 53
abbrev n_archive_Archive_Arm : Nat := 54
abbrev n_archive_Archive_Start : Nat := 55
abbrev n_archive_Archive_Compact : Nat := 56
abbrev n_law25_awake : Nat := 57
abbrev n_bands_Name : Nat := 67
abbrev n_archive_Archive_run : Nat := 109
abbrev n_png_Encode : Nat := 110
abbrev n_archive_Archive_up : Nat := 111
abbrev n_slices_Sort___string_string_ : Nat := 112
abbrev n_slices_Compact___string_string_ : Nat := 113
abbrev n_archive_Archive_sites : Nat := 114
abbrev n_slices_Contains___int_int_ : Nat := 115
abbrev n_png_Decode : Nat := 116
abbrev n_bits_Crc : Nat := 151
/-! vitrine/vitrinelaw21.ReplicaNil -/
/-! (*vitrine/replica.Replica).Handle -/
/-! vitrine/replica.New -/
/-! vitrine/vitrinelaw18.StoreNewer -/
/-! vitrine/store.Newer -/
/-! vitrine/vitrineref18.Newer -/
/-! cmp.Or[int] -/
/-! cmp.Compare[int] -/
/-! cmp.isNaN[int] -/
/-! vitrine/vitrinelaw18.StoreNil -/
/-! (*vitrine/store.Store).Get -/
/-! vitrine/store.Open -/
/-! (*vitrine/store.Store).Put -/
/-! (*vitrine/store.Store).Compact -/
/-! (*vitrine/store.Store).Entries -/
/-! (*vitrine/store.Store).Bands -/
/-! (*vitrine/store.Store).Has -/
/-! vitrine/seglog.Open -/
/-! vitrine/vitrinelaw24.ClusterNil -/
/-! vitrine/cluster.New -/
/-! (*vitrine/cluster.Cluster).Put -/
/-! (*vitrine/cluster.Cluster).Get -/
/-! (*vitrine/cluster.Cluster).Result -/
/-! (*vitrine/cluster.Cluster).Events -/
/-! (*vitrine/cluster.Cluster).Sync -/
/-! (*vitrine/cluster.Cluster).Entries -/
/-! (*vitrine/cluster.Cluster).Resend -/
/-! (*vitrine/cluster.Cluster).Net -/
/-! (*vitrine/cluster.Cluster).Deliver -/
/-! (*vitrine/cluster.Cluster).Drop -/
/-! (*vitrine/cluster.Cluster).Again -/
/-! (*vitrine/cluster.Cluster).Down -/
/-! (*vitrine/cluster.Cluster).Arm -/
/-! (*vitrine/cluster.Cluster).Start -/
/-! (*vitrine/cluster.Cluster).Compact -/
/-! vitrine/vitrinelaw25.ArchiveNil -/
def F_law25_ArchiveNil (a0 : ByteArray) (a1 : Int) (σ : Mem) (Q : AV → Mem → Prop) : Prop :=
callW PG n_archive_Archive_Get [.nilp, .str a0] (σ.bump 10) fun v0 σ1 =>
tpS v0 0 fun v2 =>
tpI v0 1 fun v3 =>
callW PG n_archive_Archive_List [.nilp] (σ1.bump 7) fun v4 σ5 =>
tupW v4 0 fun v6 =>
tpI v4 1 fun v7 =>
callW PG n_archive_Archive_Repair [.nilp] (σ5.bump 7) fun v8 σ9 =>
tpI v8 0 fun v10 =>
tpI v8 1 fun v11 =>
callW PG n_archive_Archive_Put [.nilp, .str a0, .str a0] (σ9.bump 53) fun v12 σ13 =>
castI .i64 v12 fun v14 =>
ifB (decide (v14 = 2)) (
ifB (decide (v3 = 2)) (
ifB (decide (v7 = 2)) (
ifB (decide (v11 = 2)) (
callW PG n_archive_Archive_Again [.nilp] σ13 fun v15 σ16 =>
castI .i64 v15 fun v17 =>
ifB (decide (v17 = 2)) (
callW PG n_archive_Archive_Down [.nilp, .int .i64 a1] σ16 fun v18 σ19 =>
castI .i64 v18 fun v20 =>
ifB (decide (v20 = 2)) (
callW PG n_archive_Archive_Arm [.nilp, .int .i64 a1, .int .i64 a1] σ19 fun v21 σ22 =>
castI .i64 v21 fun v23 =>
ifB (decide (v23 = 2)) (
newW σ22 (σ9.next + 39) (.rw [.int .i64 a1]) fun σ24 =>
callW PG n_archive_Archive_Start [.nilp, .int .i64 a1, .slice (σ9.next + 39) 0 1 (.ex 1)] σ24 fun v25 σ26 =>
castI .i64 v25 fun v27 =>
ifB (decide (v27 = 2)) (
callW PG n_archive_Archive_Compact [.nilp, .int .i64 a1] σ26 fun v28 σ29 =>
castI .i64 v28 fun v30 =>
ifB (decide (v30 = 2)) (
callW PG n_law25_awake [] σ29 fun v31 σ32 =>
castB v31 fun v33 =>
Q (.bool v33) σ32) (
Q (.bool false) σ29)) (
Q (.bool false) σ26)) (
Q (.bool false) σ22)) (
Q (.bool false) σ19)) (
Q (.bool false) σ16)) (
Q (.bool false) σ13)) (
Q (.bool false) σ13)) (
Q (.bool false) σ13)) (
Q (.bool false) σ13)
theorem ok_law25_ArchiveNil {a0 a1 σ Q} (h : σ.Live → F_law25_ArchiveNil a0 a1 σ Q) : ACalls PG n_law25_ArchiveNil [.str a0, .int .i64 a1] σ Q :=
  .of_sem [none, none, none, none, none, none] [(16, .s), (17, tI), (22, tI), (26, tI), (27, tI), (31, tI), (47, tI), (53, tI), (60, tI), (68, tI), (74, tI), (78, .b)] mixed (by kernel_rfl) (by kernel_rfl) h
/-! (*vitrine/archive.Archive).Get -/
def F_archive_Archive_Get (a0 : AV) (a1 : ByteArray) (σ : Mem) (Q : AV → Mem → Prop) : Prop :=
eqW .ptr a0 .nilp fun v0 =>
ifB v0 (
Q (.tup [.str ⟨#[]⟩, .int .i64 2]) (σ.bump 6)) (
lfW 0 (σ.bump 11) a0 fun v1 =>
callW PG n_cluster_Cluster_Get [v1, .int .i64 0, .str a1] (σ.bump 11) fun v2 σ3 =>
castI .i64 v2 fun v4 =>
ifB (decide (v4 ≠ 0)) (
Q (.tup [.str ⟨#[]⟩, .int .i64 v4]) (σ3.bump 5)) (
callW PG n_archive_Archive_run [a0] (σ3.bump 5) fun v5 σ6 =>
castI .i64 v5 fun v7 =>
ifB (decide (v7 ≠ 0)) (
Q (.tup [.str ⟨#[]⟩, .int .i64 v7]) (σ6.bump 5)) (
lfW 0 (σ6.bump 17) a0 fun v8 =>
callW PG n_cluster_Cluster_Result [v8, .int .i64 0] (σ6.bump 17) fun v9 σ10 =>
tupW v9 0 fun v11 =>
tpS v9 1 fun v12 =>
tupW v9 2 fun v13 =>
tpI v9 3 fun v14 =>
newW σ10 (σ6.next + 12) (.rw [.int .i64 0, .int .i64 0]) fun σ15 =>
stW 2 σ15 (.ptr (σ6.next + 12) 0) v11 fun σ16 =>
ifB (decide (v14 ≠ 0)) (
Q (.tup [.str ⟨#[]⟩, .int .i64 v14]) (σ16.bump 5)) (
callW PG n_bands_Join [.str v12, v13] (σ16.bump 11) fun v17 σ18 =>
tupW v17 0 fun v19 =>
tpI v17 1 fun v20 =>
newW σ18 (σ16.next + 8) (.rw [.int .i64 0, .int .i64 0, .str ⟨#[]⟩]) fun σ21 =>
stW 3 σ21 (.ptr (σ16.next + 8) 0) v19 fun σ22 =>
ifB (decide (v20 ≠ 0)) (
Q (.tup [.str ⟨#[]⟩, .int .i64 v20]) (σ22.bump 5)) (
ldnW 3 (σ22.bump 8) (.ptr (σ16.next + 8) 0) fun v23 =>
callW PG n_png_Encode [v23] (σ22.bump 8) fun v24 σ25 =>
tpS v24 0 fun v26 =>
tpI v24 1 fun v27 =>
Q (.tup [.str v26, .int .i64 v27]) σ25)))))
theorem ok_archive_Archive_Get {a0 a1 σ Q} (h : σ.Live → F_archive_Archive_Get a0 a1 σ Q) : ACalls PG n_archive_Archive_Get [a0, .str a1] σ Q :=
  .of_sem [none, none, none, none, none, none, none, none, none, none, none, none, none, none, none, none, none, none, none, none, none] [(20, tI), (25, tI), (36, .s), (38, tI), (47, tI), (53, .s), (54, tI)] mixed (by kernel_rfl) (by kernel_rfl) h
/-! (*vitrine/archive.Archive).List -/
def F_archive_Archive_List_l2 (next6 : AV → Int → Mem → Prop) (v8 : Int) (v15 : AV) (v17 : Int) (next18 : AV → Int → Mem → Prop) (v19 : AV) (v20 : Int) (σ21 : Mem) : Prop :=
ifB (decide (v20 < v17)) (
idxW 4 v15 v20 fun v22 =>
ldnW 4 (σ21.bump 5) v22 fun v23 =>
newW (σ21.bump 5) (σ21.next + 3) (.rw [.str ⟨#[]⟩, .int .i64 0, .int .i64 0, .str ⟨#[]⟩]) fun σ24 =>
stW 4 σ24 (.ptr (σ21.next + 3) 0) v23 fun σ25 =>
fldW 0 (.ptr (σ21.next + 3) 0) fun v26 =>
ldS (σ25.bump 6) v26 fun v27 =>
newW (σ25.bump 6) (σ25.next + 3) (.rw [.str v27]) fun σ28 =>
apW 1 16 (σ25.next + 4) σ28 v19 (.slice (σ25.next + 3) 0 1 (.ex 1)) fun v29 σ30 =>
iW (v20 + 1) fun v31 =>
next18 v29 v31 (σ30.bump 2)) (
iW (v8 + 1) fun v32 =>
next6 v19 v32 (σ21.bump 3))
def F_archive_Archive_List_l1 (a0 : AV) (Q : AV → Mem → Prop) (v1 : AV) (v5 : Int) (next6 : AV → Int → Mem → Prop) (v7 : AV) (v8 : Int) (σ9 : Mem) : Prop :=
ifB (decide (v8 < v5)) (
idxW 1 v1 v8 fun v10 =>
ldI (σ9.bump 4) v10 fun v11 =>
lfW 0 (σ9.bump 15) a0 fun v12 =>
callW PG n_cluster_Cluster_Entries [v12, .int .i64 v11] (σ9.bump 15) fun v13 σ14 =>
tupW v13 0 fun v15 =>
tpI v13 1 fun v16 =>
slenW v15 fun v17 =>
loopF [.v, tI] (F_archive_Archive_List_l2 next6 v8 v15 v17) v7 0 (σ14.bump 3)) (
callW PG n_slices_Sort___string_string_ [v7] (σ9.bump 3) fun v33 σ34 =>
callW PG n_slices_Compact___string_string_ [v7] (σ34.bump 4) fun v35 σ36 =>
Q (.tup [v35, .int .i64 0]) σ36)
def F_archive_Archive_List (a0 : AV) (σ : Mem) (Q : AV → Mem → Prop) : Prop :=
eqW .ptr a0 .nilp fun v0 =>
ifB v0 (
Q (.tup [.nils, .int .i64 2]) (σ.bump 6)) (
callW PG n_archive_Archive_up [a0] (σ.bump 7) fun v1 σ2 =>
slenW v1 fun v3 =>
lfI 1 (σ2.bump 7) a0 fun v4 =>
ifB (decide (v3 ≤ v4)) (
Q (.tup [.nils, .int .i64 50]) (σ2.bump 9)) (
slenW v1 fun v5 =>
loopF [.v, tI] (F_archive_Archive_List_l1 a0 Q v1 v5) .nils 0 (σ2.bump 11)))
theorem ok_archive_Archive_List {a0 σ Q} (h : σ.Live → F_archive_Archive_List a0 σ Q) : ACalls PG n_archive_Archive_List [a0] σ Q :=
  .of_sem [none, none, none, none, none, none, none, none, none, none, none, some ([0, 23, 24], [5, 25]), none, none, none, none, none, none, none, some ([0, 23, 24, 25, 38, 39], [5, 40]), none, none, none, none, none, none, none, none, none] [(21, tI), (25, tI), (28, tI), (37, tI), (40, tI), (46, .s)] mixed (by kernel_rfl) (by kernel_rfl) h
/-! (*vitrine/archive.Archive).Repair -/
def F_archive_Archive_Repair_j1 (next9 : Int → Int → Mem → Prop) (v11 : Int) (v16 : Int) (σ17 : Mem) : Prop :=
iW (v11 + 1) fun v18 =>
next9 v16 v18 (σ17.bump 3)
def F_archive_Archive_Repair_l2 (a0 : AV) (Q : AV → Mem → Prop) (next4 : Int → Int → Mem → Prop) (v6 : Int) (next9 : Int → Int → Mem → Prop) (v10 : Int) (v11 : Int) (σ12 : Mem) : Prop :=
callW PG n_archive_Archive_sites [a0] (σ12.bump 4) fun v13 σ14 =>
castI .i64 v13 fun v15 =>
ifB (decide (v11 < v15)) (
joinF [tI] (fun (k19 : Int → Mem → Prop) =>
callW PG n_archive_Archive_up [a0] (σ14.bump 3) fun v20 σ21 =>
callW PG n_slices_Contains___int_int_ [v20, .int .i64 v6] (σ21.bump 10) fun v22 σ23 =>
castB v22 fun v24 =>
ifB (!v24) (
k19 v10 σ23) (
callW PG n_slices_Contains___int_int_ [v20, .int .i64 v11] σ23 fun v25 σ26 =>
castB v25 fun v27 =>
ifB (!v27) (
k19 v10 σ26) (
lfW 0 (σ26.bump 13) a0 fun v28 =>
callW PG n_cluster_Cluster_Sync [v28, .int .i64 v6, .int .i64 v11] (σ26.bump 13) fun v29 σ30 =>
tupW v29 0 fun v31 =>
tpI v29 1 fun v32 =>
newW σ30 (σ26.next + 10) (.rw [.int .i64 0, .int .i64 0, .int .i64 0]) fun σ33 =>
stW 3 σ33 (.ptr (σ26.next + 10) 0) v31 fun σ34 =>
ifB (decide (v32 ≠ 0)) (
Q (.tup [.int .i64 0, .int .i64 v32]) (σ34.bump 5)) (
fldW 1 (.ptr (σ26.next + 10) 0) fun v35 =>
ldI (σ34.bump 7) v35 fun v36 =>
iW (v10 + v36) fun v37 =>
k19 v37 (σ34.bump 7))))) (F_archive_Archive_Repair_j1 next9 v11)) (
iW (v6 + 1) fun v38 =>
next4 v10 v38 (σ14.bump 2))
def F_archive_Archive_Repair_l1 (a0 : AV) (Q : AV → Mem → Prop) (v3 : Int) (next4 : Int → Int → Mem → Prop) (v5 : Int) (v6 : Int) (σ7 : Mem) : Prop :=
ifB (decide (v6 < v3)) (
iW (v6 + 1) fun v8 =>
loopF [tI, tI] (F_archive_Archive_Repair_l2 a0 Q next4 v6) v5 v8 (σ7.bump 6)) (
Q (.tup [.int .i64 v5, .int .i64 0]) (σ7.bump 4))
def F_archive_Archive_Repair (a0 : AV) (σ : Mem) (Q : AV → Mem → Prop) : Prop :=
eqW .ptr a0 .nilp fun v0 =>
ifB v0 (
Q (.tup [.int .i64 0, .int .i64 2]) (σ.bump 6)) (
callW PG n_archive_Archive_sites [a0] (σ.bump 8) fun v1 σ2 =>
castI .i64 v1 fun v3 =>
loopF [tI, tI] (F_archive_Archive_Repair_l1 a0 Q v3) 0 0 σ2)
theorem ok_archive_Archive_Repair {a0 σ Q} (h : σ.Live → F_archive_Archive_Repair a0 σ Q) : ACalls PG n_archive_Archive_Repair [a0] σ Q :=
  .of_sem [none, none, none, none, none, none, none, some ([0, 13], [4, 14]), none, none, none, none, none, none, some ([0, 5, 13, 14], [4, 6]), none, none, some ([0, 5, 6, 13, 14], [4]), none, none, none, none, none, none, none, none, none, none, none] [(4, tI), (13, tI), (14, tI), (6, tI), (21, tI), (29, .b), (34, .b), (46, tI), (52, tI)] mixed (by kernel_rfl) (by kernel_rfl) h
/-! (*vitrine/archive.Archive).Put -/
def F_archive_Archive_Put (a0 : AV) (a1 : ByteArray) (a2 : ByteArray) (σ : Mem) (Q : AV → Mem → Prop) : Prop :=
eqW .ptr a0 .nilp fun v0 =>
ifB v0 (
Q (.int .i64 2) (σ.bump 4)) (
callW PG n_bands_Name [.str a1] (σ.bump 6) fun v1 σ2 =>
castI .i64 v1 fun v3 =>
ifB (decide (v3 ≠ 0)) (
Q (.int .i64 v3) (σ2.bump 4)) (
callW PG n_png_Decode [.str a2] (σ2.bump 10) fun v4 σ5 =>
tupW v4 0 fun v6 =>
tpI v4 1 fun v7 =>
newW σ5 (σ2.next + 7) (.rw [.int .i64 0, .int .i64 0, .str ⟨#[]⟩]) fun σ8 =>
stW 3 σ8 (.ptr (σ2.next + 7) 0) v6 fun σ9 =>
ifB (decide (v7 ≠ 0)) (
Q (.int .i64 v7) (σ9.bump 4)) (
ldnW 3 (σ9.bump 9) (.ptr (σ2.next + 7) 0) fun v10 =>
callW PG n_bands_Manifest [v10] (σ9.bump 9) fun v11 σ12 =>
tpS v11 0 fun v13 =>
tpI v11 1 fun v14 =>
ifB (decide (v14 ≠ 0)) (
Q (.int .i64 v14) (σ12.bump 4)) (
ldnW 3 (σ12.bump 9) (.ptr (σ2.next + 7) 0) fun v15 =>
callW PG n_bands_Cut [v15] (σ12.bump 9) fun v16 σ17 =>
tupW v16 0 fun v18 =>
tpI v16 1 fun v19 =>
ifB (decide (v19 ≠ 0)) (
Q (.int .i64 v19) (σ17.bump 4)) (
lfW 0 (σ17.bump 11) a0 fun v20 =>
callW PG n_cluster_Cluster_Put [v20, .int .i64 0, .str a1, .str v13, v18] (σ17.bump 11) fun v21 σ22 =>
castI .i64 v21 fun v23 =>
ifB (decide (v23 ≠ 0)) (
Q (.int .i64 v23) (σ22.bump 4)) (
callW PG n_archive_Archive_run [a0] (σ22.bump 5) fun v24 σ25 =>
castI .i64 v24 fun v26 =>
Q (.int .i64 v26) σ25))))))
theorem ok_archive_Archive_Put {a0 a1 a2 σ Q} (h : σ.Live → F_archive_Archive_Put a0 a1 a2 σ Q) : ACalls PG n_archive_Archive_Put [a0, .str a1, .str a2] σ Q :=
  .of_sem [none, none, none, none, none, none, none, none, none, none, none, none, none, none, none, none, none, none, none, none, none, none, none, none, none] [(16, tI), (24, tI), (31, .s), (32, tI), (40, tI), (51, tI), (56, tI)] mixed (by kernel_rfl) (by kernel_rfl) h
/-! (*vitrine/archive.Archive).Again -/
def F_archive_Archive_Again (a0 : AV) (σ : Mem) (Q : AV → Mem → Prop) : Prop :=
eqW .ptr a0 .nilp fun v0 =>
ifB v0 (
Q (.int .i64 2) (σ.bump 4)) (
lfW 0 (σ.bump 9) a0 fun v1 =>
callW PG n_cluster_Cluster_Resend [v1, .int .i64 0] (σ.bump 9) fun v2 σ3 =>
castI .i64 v2 fun v4 =>
ifB (decide (v4 ≠ 0)) (
Q (.int .i64 v4) (σ3.bump 4)) (
callW PG n_archive_Archive_run [a0] (σ3.bump 5) fun v5 σ6 =>
castI .i64 v5 fun v7 =>
Q (.int .i64 v7) σ6))
theorem ok_archive_Archive_Again {a0 σ Q} (h : σ.Live → F_archive_Archive_Again a0 σ Q) : ACalls PG n_archive_Archive_Again [a0] σ Q :=
  .of_sem [none, none, none, none, none, none, none, none, none] [(10, tI), (15, tI)] mixed (by kernel_rfl) (by kernel_rfl) h
/-! (*vitrine/archive.Archive).Down -/
def F_archive_Archive_Down (a0 : AV) (a1 : Int) (σ : Mem) (Q : AV → Mem → Prop) : Prop :=
eqW .ptr a0 .nilp fun v0 =>
ifB v0 (
Q (.int .i64 2) (σ.bump 4)) (
lfW 0 (σ.bump 10) a0 fun v1 =>
callW PG n_cluster_Cluster_Down [v1, .int .i64 a1] (σ.bump 10) fun v2 σ3 =>
castI .i64 v2 fun v4 =>
Q (.int .i64 v4) σ3)
theorem ok_archive_Archive_Down {a0 a1 σ Q} (h : σ.Live → F_archive_Archive_Down a0 a1 σ Q) : ACalls PG n_archive_Archive_Down [a0, .int .i64 a1] σ Q :=
  .of_sem [none, none, none, none, none] [(12, tI)] mixed (by kernel_rfl) (by kernel_rfl) h
/-! (*vitrine/archive.Archive).Arm -/
def F_archive_Archive_Arm (a0 : AV) (a1 : Int) (a2 : Int) (σ : Mem) (Q : AV → Mem → Prop) : Prop :=
eqW .ptr a0 .nilp fun v0 =>
ifB v0 (
Q (.int .i64 2) (σ.bump 4)) (
lfW 0 (σ.bump 11) a0 fun v1 =>
callW PG n_cluster_Cluster_Arm [v1, .int .i64 a1, .int .i64 a2] (σ.bump 11) fun v2 σ3 =>
castI .i64 v2 fun v4 =>
Q (.int .i64 v4) σ3)
theorem ok_archive_Archive_Arm {a0 a1 a2 σ Q} (h : σ.Live → F_archive_Archive_Arm a0 a1 a2 σ Q) : ACalls PG n_archive_Archive_Arm [a0, .int .i64 a1, .int .i64 a2] σ Q :=
  .of_sem [none, none, none, none, none] [(15, tI)] mixed (by kernel_rfl) (by kernel_rfl) h
/-! (*vitrine/archive.Archive).Start -/
def F_archive_Archive_Start (a0 : AV) (a1 : Int) (a2 : AV) (σ : Mem) (Q : AV → Mem → Prop) : Prop :=
eqW .ptr a0 .nilp fun v0 =>
ifB v0 (
Q (.int .i64 2) (σ.bump 4)) (
lfW 0 (σ.bump 11) a0 fun v1 =>
callW PG n_cluster_Cluster_Start [v1, .int .i64 a1, a2] (σ.bump 11) fun v2 σ3 =>
castI .i64 v2 fun v4 =>
Q (.int .i64 v4) σ3)
theorem ok_archive_Archive_Start {a0 a1 a2 σ Q} (h : σ.Live → F_archive_Archive_Start a0 a1 a2 σ Q) : ACalls PG n_archive_Archive_Start [a0, .int .i64 a1, a2] σ Q :=
  .of_sem [none, none, none, none, none] [(15, tI)] mixed (by kernel_rfl) (by kernel_rfl) h
/-! (*vitrine/archive.Archive).Compact -/
def F_archive_Archive_Compact (a0 : AV) (a1 : Int) (σ : Mem) (Q : AV → Mem → Prop) : Prop :=
eqW .ptr a0 .nilp fun v0 =>
ifB v0 (
Q (.int .i64 2) (σ.bump 4)) (
lfW 0 (σ.bump 10) a0 fun v1 =>
callW PG n_cluster_Cluster_Compact [v1, .int .i64 a1] (σ.bump 10) fun v2 σ3 =>
castI .i64 v2 fun v4 =>
Q (.int .i64 v4) σ3)
theorem ok_archive_Archive_Compact {a0 a1 σ Q} (h : σ.Live → F_archive_Archive_Compact a0 a1 σ Q) : ACalls PG n_archive_Archive_Compact [a0, .int .i64 a1] σ Q :=
  .of_sem [none, none, none, none, none] [(12, tI)] mixed (by kernel_rfl) (by kernel_rfl) h
/-! (*vitrine/archive.Archive).run -/
/-! (*vitrine/archive.Archive).up -/
/-! vitrine/vitrinelaw23.SessionNil -/
/-! vitrine/session.Run -/
/-! vitrine/session.way -/
/-! (*vitrine/store.Store).lives -/
/-! vitrine/archive.New -/
end Go.Vit
