/- The functions, as printed conditions. -/
import Derived.Test.YtomldponnggnfaaGreatVm2
import Derived.Test.YtomldponnggnfaaGreatChecked
import Derived.KernelRfl
set_option linter.unusedVariables false
set_option linter.unusedSimpArgs false
set_option linter.unusedVariables false
set_option maxRecDepth 100000
namespace Go.Vit
open Go.Proofs
noncomputable abbrev PG : Program := Tryz.prog
theorem mixed : PG.follows .mixedOrders = true := by kernel_rfl
abbrev n_law18_StoreNil : Nat := 5
abbrev n_law18_awake : Nat := 15
abbrev n_store_Store_Get : Nat := 16
abbrev n_store_Open : Nat := 17
abbrev n_store_Store_Put : Nat := 18
abbrev n_store_Store_Compact : Nat := 19
abbrev n_store_Store_Entries : Nat := 20
abbrev n_store_Store_Bands : Nat := 21
abbrev n_store_Store_Has : Nat := 22
abbrev n_store_Store_find : Nat := 63
abbrev n_seglog_Open : Nat := 64
abbrev n_store_Store_takes : Nat := 65
abbrev n_store_Store_lives : Nat := 66
abbrev n_bands_Name : Nat := 67
abbrev n_store_right : Nat := 68
abbrev n_store_Store_older : Nat := 69
abbrev n_sha_Sum : Nat := 70
abbrev n_store_Store_told : Nat := 71
abbrev n_seglog_Log_Append : Nat := 72
abbrev n_store_lay : Nat := 73
abbrev n_seglog_Log_Sync : Nat := 74
abbrev n_maps_Copy_map_string_string_map_string_string_string_string_ : Nat := 75
abbrev n_slices_Sorted_string_ : Nat := 76
abbrev n_maps_Keys_map_string_store_content_string_store_content_ : Nat := 77
abbrev n_bands_Read : Nat := 78
abbrev n_seglog_Log_Compact : Nat := 79
abbrev n_disk_Disk_Dead : Nat := 120
abbrev n_seglog_newest : Nat := 121
abbrev n_seglog_Log_tidy : Nat := 122
abbrev n_sha_begin : Nat := 124
abbrev n_sha_constants : Nat := 125
abbrev n_sha_state_block : Nat := 126
abbrev n_bits_Crc : Nat := 151
abbrev n_sha_schedule : Nat := 172
abbrev n_sha_turn : Nat := 173
/-! vitrine/vitrinelaw21.ReplicaNil -/
/-! (*vitrine/replica.Replica).Handle -/
/-! vitrine/replica.New -/
/-! vitrine/vitrinelaw18.StoreNewer -/
/-! vitrine/store.Newer -/
/-! vitrine/vitrineref18.Newer -/
/-! cmp.Or[int] -/
/-! cmp.Compare[int] -/
/-! cmp.isNaN[int] -/
/-! vitrine/vitrinelaw18.StoreNil -/
def F_law18_StoreNil (a0 : ByteArray) (σ : Mem) (Q : AV → Mem → Prop) : Prop :=
callW PG n_store_Store_Get [.nilp, .str a0] (σ.bump 15) fun v0 σ1 =>
tupW v0 0 fun v2 =>
tpS v0 1 fun v3 =>
tupW v0 2 fun v4 =>
tpI v0 3 fun v5 =>
newW σ1 (σ.next + 10) (.rw [.int .i64 0, .int .i64 0]) fun σ6 =>
stW 2 σ6 (.ptr (σ.next + 10) 0) v2 fun σ7 =>
callW PG n_store_Open [.nilp] (σ7.bump 6) fun v8 σ9 =>
tupW v8 0 fun v10 =>
tpI v8 1 fun v11 =>
callW PG n_store_Store_Put [.nilp, .str a0, .agg [.int .i64 0, .int .i64 0], .str a0, .nils] (σ9.bump 44) fun v12 σ13 =>
castI .i64 v12 fun v14 =>
ifB (decide (v14 = 2)) (
callW PG n_store_Store_Compact [.nilp] σ13 fun v15 σ16 =>
castI .i64 v15 fun v17 =>
ifB (decide (v17 = 2)) (
ifB (decide (v5 = 2)) (
callW PG n_store_Store_Entries [.nilp] σ16 fun v18 σ19 =>
slenW v18 fun v20 =>
ifB (decide (v20 = 0)) (
callW PG n_store_Store_Bands [.nilp] σ19 fun v21 σ22 =>
castI .i64 v21 fun v23 =>
ifB (decide (v23 = 0)) (
callW PG n_store_Store_Has [.nilp, .str a0] σ22 fun v24 σ25 =>
castB v24 fun v26 =>
ifB (!v26) (
eqW .ptr v10 .nilp fun v27 =>
ifB v27 (
ifB (decide (v11 = 2)) (
callW PG n_law18_awake [] σ25 fun v28 σ29 =>
castB v28 fun v30 =>
Q (.bool v30) σ29) (
Q (.bool false) σ25)) (
Q (.bool false) σ25)) (
Q (.bool false) σ25)) (
Q (.bool false) σ22)) (
Q (.bool false) σ19)) (
Q (.bool false) σ16)) (
Q (.bool false) σ16)) (
Q (.bool false) σ13)
theorem ok_law18_StoreNil {a0 σ Q} (h : σ.Live → F_law18_StoreNil a0 σ Q) : ACalls PG n_law18_StoreNil [.str a0] σ Q :=
  .of_sem [none, none, none, none, none] [(15, .s), (17, tI), (21, tI), (26, tI), (30, tI), (45, tI), (51, .b), (63, .b)] mixed (by kernel_rfl) (by kernel_rfl) h
/-! (*vitrine/store.Store).Get -/
def F_store_Store_Get (a0 : AV) (a1 : ByteArray) (σ : Mem) (Q : AV → Mem → Prop) : Prop :=
newW (σ.bump 4) σ.next (.rw [.int .i64 0, .int .i64 0]) fun σ0 =>
eqW .ptr a0 .nilp fun v1 =>
ifB v1 (
stW 2 (σ0.bump 7) (.ptr σ.next 0) (.agg [.int .i64 0, .int .i64 0]) fun σ2 =>
ldnW 2 σ2 (.ptr σ.next 0) fun v3 =>
Q (.tup [v3, .str ⟨#[]⟩, .nils, .int .i64 2]) σ2) (
lfW 2 (σ0.bump 14) a0 fun v4 =>
lookW (σ0.bump 14) (.agg [.int .i64 0, .int .i64 0, .str ⟨#[]⟩]) true v4 (.str a1) fun v5 =>
tupW v5 0 fun v6 =>
tpB v5 1 fun v7 =>
newW (σ0.bump 14) (σ0.next + 11) (.rw [.int .i64 0, .int .i64 0, .str ⟨#[]⟩]) fun σ8 =>
stW 3 σ8 (.ptr (σ0.next + 11) 0) v6 fun σ9 =>
ifB (!v7) (
stW 2 (σ9.bump 7) (.ptr σ.next 0) (.agg [.int .i64 0, .int .i64 0]) fun σ10 =>
ldnW 2 σ10 (.ptr σ.next 0) fun v11 =>
Q (.tup [v11, .str ⟨#[]⟩, .nils, .int .i64 41]) σ10) (
fldW 2 (.ptr (σ0.next + 11) 0) fun v12 =>
ldS (σ9.bump 11) v12 fun v13 =>
callW PG n_store_Store_find [a0, .str v13, .nils] (σ9.bump 11) fun v14 σ15 =>
tupW v14 0 fun v16 =>
tpI v14 1 fun v17 =>
fldW 0 (.ptr (σ0.next + 11) 0) fun v18 =>
ldnW 2 (σ15.bump 10) v18 fun v19 =>
fldW 2 (.ptr (σ0.next + 11) 0) fun v20 =>
ldS (σ15.bump 10) v20 fun v21 =>
stW 2 (σ15.bump 10) (.ptr σ.next 0) v19 fun σ22 =>
fltS.sameW (σ15.bump 10) σ22 v20 (
ldnW 2 σ22 (.ptr σ.next 0) fun v23 =>
Q (.tup [v23, .str v21, v16, .int .i64 v17]) σ22)))
theorem ok_store_Store_Get {a0 a1 σ Q} (h : σ.Live → F_store_Store_Get a0 a1 σ Q) : ACalls PG n_store_Store_Get [a0, .str a1] σ Q :=
  .of_sem [none, none, none, none, none, none, none, none, none, none] [(23, .b), (30, .s), (33, tI), (37, .s)] mixed (by kernel_rfl) (by kernel_rfl) h
/-! vitrine/store.Open -/
def F_store_Open_l1 (Q : AV → Mem → Prop) (σ1 : Mem) (v3 : AV) (v8 : Int) (next9 : Int → Mem → Prop) (v10 : Int) (σ11 : Mem) : Prop :=
ifB (decide (v10 < v8)) (
idxW 1 v3 v10 fun v12 =>
ldS (σ11.bump 4) v12 fun v13 =>
callW PG n_store_Store_takes [.ptr (σ1.next + 6) 0, .str v13] (σ11.bump 8) fun v14 σ15 =>
castI .i64 v14 fun v16 =>
ifB (decide (v16 ≠ 0)) (
Q (.tup [.nilp, .int .i64 v16]) (σ15.bump 5)) (
iW (v10 + 1) fun v17 =>
next9 v17 (σ15.bump 4))) (
Q (.tup [.ptr (σ1.next + 6) 0, .int .i64 0]) (σ11.bump 4))
def F_store_Open (a0 : AV) (σ : Mem) (Q : AV → Mem → Prop) : Prop :=
callW PG n_seglog_Open [a0] (σ.bump 11) fun v0 σ1 =>
tupW v0 0 fun v2 =>
tupW v0 1 fun v3 =>
tpI v0 2 fun v4 =>
ifB (decide (v4 ≠ 0)) (
Q (.tup [.nilp, .int .i64 v4]) (σ1.bump 5)) (
newW (σ1.bump 8) (σ1.next + 3) (.map [] 0) fun σ5 =>
newW σ5 (σ1.next + 4) (.map [] 0) fun σ6 =>
cellOkW v2 1 (
boxW (AV.agg (setAt (setAt (setAt [.nilp, .nilm, .nilm, .bool false] 0 v2.cells) 1 [.map (σ1.next + 3)]) 2 [.map (σ1.next + 4)])) (
newW σ6 (σ1.next + 6) (.rw (setAt (setAt (setAt [.nilp, .nilm, .nilm, .bool false] 0 v2.cells) 1 [.map (σ1.next + 3)]) 2 [.map (σ1.next + 4)])) fun σ7 =>
slenW v3 fun v8 =>
loopF [tI] (F_store_Open_l1 Q σ1 v3 v8) 0 (σ7.bump 3))))
theorem ok_store_Open {a0 σ Q} (h : σ.Live → F_store_Open a0 σ Q) : ACalls PG n_store_Open [a0] σ Q :=
  .of_sem [none, none, none, none, none, none, none, none, some ([7, 25, 26], [27]), none, none, none, none, none, none, none, none, none, none] [(16, tI), (27, tI), (30, .s), (33, tI)] mixed (by kernel_rfl) (by kernel_rfl) h
/-! (*vitrine/store.Store).Put -/
def F_store_Store_Put_j1 (next21 : AV → Int → Mem → Prop) (v23 : Int) (v36 : AV) (σ37 : Mem) : Prop :=
iW (v23 + 1) fun v38 =>
next21 v36 v38 (σ37.bump 2)
def F_store_Store_Put_j2 (next21 : AV → Int → Mem → Prop) (v23 : Int) (v47 : AV) (σ48 : Mem) : Prop :=
iW (v23 + 1) fun v49 =>
next21 v47 v49 (σ48.bump 2)
def F_store_Store_Put_l1 (a0 : AV) (a1 : ByteArray) (a3 : ByteArray) (Q : AV → Mem → Prop) (σ : Mem) (v13 : AV) (σ17 : Mem) (v20 : Int) (next21 : AV → Int → Mem → Prop) (v22 : AV) (v23 : Int) (σ24 : Mem) : Prop :=
ifB (decide (v23 < v20)) (
idxW 1 v13 v23 fun v25 =>
ldS (σ24.bump 4) v25 fun v26 =>
callW PG n_sha_Sum [.str v26] (σ24.bump 7) fun v27 σ28 =>
castS v27 fun v29 =>
lookW (σ28.bump 8) (.str ⟨#[]⟩) true (.map σ17.next) (.str v29) fun v30 =>
tpS v30 0 fun v31 =>
tpB v30 1 fun v32 =>
ifB (!v32) (
callW PG n_store_Store_Has [a0, .str v29] (σ28.bump 16) fun v33 σ34 =>
castB v33 fun v35 =>
joinF [.v] (fun (k39 : AV → Mem → Prop) =>
ifB (!v35) (
mupW (σ34.bump 4) (.map σ17.next) (.str v29) (.str v26) fun σ40 =>
newW (σ40.bump 8) (σ40.next + 1) (.rw [.int .u8 66]) fun σ41 =>
bstrW σ41 (.slice (σ40.next + 1) 0 1 (.ex 1)) fun v42 =>
catW v42 v26 fun v43 =>
newW σ41 (σ40.next + 5) (.rw [.str v43]) fun σ44 =>
apW 1 16 (σ40.next + 6) σ44 v22 (.slice (σ40.next + 5) 0 1 (.ex 1)) fun v45 σ46 =>
k39 v45 σ46) (
k39 v22 σ34)) (F_store_Store_Put_j1 next21 v23)) (
joinF [.v] (fun (k50 : AV → Mem → Prop) =>
k50 v22 (σ28.bump 16)) (F_store_Store_Put_j2 next21 v23))) (
ldnW 2 (σ24.bump 6) (.ptr σ.next 0) fun v51 =>
cellOkW v51 2 (
newW (σ24.bump 6) (σ24.next + 4) (.rw [.int .i64 0, .int .i64 0, .str ⟨#[]⟩]) fun σ52 =>
stW 3 σ52 (.ptr (σ24.next + 4) 0) (AV.agg (setAt (setAt [.int .i64 0, .int .i64 0, .str ⟨#[]⟩] 0 v51.cells) 2 [.str a3])) fun σ53 =>
nfW 0 a0 fun v54 =>
ldW (σ53.bump 14) v54 fun v55 =>
ldnW 3 (σ53.bump 14) (.ptr (σ24.next + 4) 0) fun v56 =>
callW PG n_store_lay [.str a1, v56] (σ53.bump 14) fun v57 σ58 =>
fltS.sameW (σ53.bump 14) σ58 v54 (
castS v57 fun v59 =>
newW σ58 (σ53.next + 9) (.rw [.str v59]) fun σ60 =>
apW 1 16 (σ53.next + 10) σ60 v22 (.slice (σ53.next + 9) 0 1 (.ex 1)) fun v61 σ62 =>
fltS.sameW σ60 σ62 v54 (
callW PG n_seglog_Log_Append [v55, v61] σ62 fun v63 σ64 =>
castI .i64 v63 fun v65 =>
callW PG n_store_Store_told [a0, .int .i64 v65] σ64 fun v66 σ67 =>
castI .i64 v66 fun v68 =>
ifB (decide (v68 ≠ 0)) (
Q (.int .i64 v68) (σ67.bump 4)) (
lfW 0 (σ67.bump 10) a0 fun v69 =>
callW PG n_seglog_Log_Sync [v69] (σ67.bump 10) fun v70 σ71 =>
castI .i64 v70 fun v72 =>
callW PG n_store_Store_told [a0, .int .i64 v72] σ71 fun v73 σ74 =>
castI .i64 v73 fun v75 =>
ifB (decide (v75 ≠ 0)) (
Q (.int .i64 v75) (σ74.bump 4)) (
lfW 1 (σ74.bump 8) a0 fun v76 =>
callW PG n_maps_Copy_map_string_string_map_string_string_string_string_ [v76, .map σ17.next] (σ74.bump 8) fun v77 σ78 =>
lfW 2 (σ78.bump 7) a0 fun v79 =>
ldnW 3 (σ78.bump 7) (.ptr (σ24.next + 4) 0) fun v80 =>
mupW (σ78.bump 7) v79 (.str a1) v80 fun σ81 =>
Q (.int .i64 0) (σ81.bump 1)))))))
def F_store_Store_Put (a0 : AV) (a1 : ByteArray) (a2 : AV) (a3 : ByteArray) (a4 : AV) (σ : Mem) (Q : AV → Mem → Prop) : Prop :=
boxW a2 (
newW (σ.bump 2) σ.next (.rw a2.cells) fun σ0 =>
callW PG n_store_Store_lives [a0] (σ0.bump 3) fun v1 σ2 =>
castI .i64 v1 fun v3 =>
ifB (decide (v3 ≠ 0)) (
Q (.int .i64 v3) (σ2.bump 4)) (
callW PG n_bands_Name [.str a1] (σ2.bump 5) fun v4 σ5 =>
castI .i64 v4 fun v6 =>
ifB (decide (v6 ≠ 0)) (
Q (.int .i64 v6) (σ5.bump 4)) (
ldnW 2 (σ5.bump 5) (.ptr σ.next 0) fun v7 =>
callW PG n_store_right [v7] (σ5.bump 5) fun v8 σ9 =>
castB v8 fun v10 =>
ifB (!v10) (
Q (.int .i64 1) (σ9.bump 1)) (
callW PG n_store_Store_find [a0, .str a3, a4] (σ9.bump 9) fun v11 σ12 =>
tupW v11 0 fun v13 =>
tpI v11 1 fun v14 =>
ifB (decide (v14 ≠ 0)) (
Q (.int .i64 v14) (σ12.bump 4)) (
ldnW 2 (σ12.bump 7) (.ptr σ.next 0) fun v15 =>
callW PG n_store_Store_older [a0, .str a1, v15] (σ12.bump 7) fun v16 σ17 =>
castB v16 fun v18 =>
ifB (!v18) (
Q (.int .i64 0) (σ17.bump 1)) (
newW (σ17.bump 2) σ17.next (.map [] 0) fun σ19 =>
slenW v13 fun v20 =>
loopF [.v, tI] (F_store_Store_Put_l1 a0 a1 a3 Q σ v13 σ17 v20) .nils 0 (σ19.bump 4)))))))
theorem ok_store_Store_Put {a0 a1 a2 a3 a4 σ Q} (h : σ.Live → F_store_Store_Put a0 a1 a2 a3 a4 σ Q) : ACalls PG n_store_Store_Put [a0, .str a1, a2, .str a3, a4] σ Q :=
  .of_sem [none, none, none, none, none, none, none, none, none, none, none, none, none, none, none, none, none, none, none, none, none, none, none, some ([0, 1, 3, 7, 15, 54, 55], [16, 56]), none, none, none, none, none, none, none, some ([0, 1, 3, 7, 15, 54, 55, 56], [16]), none, none, none, none, none, none, none, none, none, none, none, none, none, none, none] [(26, tI), (31, tI), (36, .b), (44, tI), (51, .b), (56, tI), (59, .s), (61, .s), (66, .s), (67, .b), (73, .b), (98, .s), (101, tI), (102, tI), (111, tI), (112, tI)] mixed (by kernel_rfl) (by kernel_rfl) h
/-! (*vitrine/store.Store).Compact -/
def F_store_Store_Compact_j1 (next30 : AV → Int → Mem → Prop) (v32 : Int) (v37 : AV) (σ38 : Mem) : Prop :=
iW (v32 + 1) fun v39 =>
next30 v37 v39 (σ38.bump 2)
def F_store_Store_Compact_l2 (a0 : AV) (σ1 : Mem) (next10 : AV → AV → Int → Mem → Prop) (v12 : AV) (v13 : Int) (σ14 : Mem) (v16 : ByteArray) (v27 : AV) (v29 : Int) (next30 : AV → Int → Mem → Prop) (v31 : AV) (v32 : Int) (σ33 : Mem) : Prop :=
ifB (decide (v32 < v29)) (
idxW 1 v27 v32 fun v34 =>
ldS (σ33.bump 4) v34 fun v35 =>
lookW (σ33.bump 8) (.bool false) false (.map (σ1.next + 2)) (.str v35) fun a => castB a fun v36 =>
joinF [.v] (fun (k40 : AV → Mem → Prop) =>
ifB (!v36) (
mupW (σ33.bump 11) (.map (σ1.next + 2)) (.str v35) (.bool true) fun σ41 =>
newW (σ41.bump 13) (σ41.next + 1) (.rw [.int .u8 66]) fun σ42 =>
bstrW σ42 (.slice (σ41.next + 1) 0 1 (.ex 1)) fun v43 =>
lfW 1 σ42 a0 fun v44 =>
lookW σ42 (.str ⟨#[]⟩) false v44 (.str v35) fun a => castS a fun v45 =>
catW v43 v45 fun v46 =>
newW σ42 (σ41.next + 10) (.rw [.str v46]) fun σ47 =>
apW 1 16 (σ41.next + 11) σ47 v31 (.slice (σ41.next + 10) 0 1 (.ex 1)) fun v48 σ49 =>
k40 v48 σ49) (
k40 v31 (σ33.bump 8))) (F_store_Store_Compact_j1 next30 v32)) (
ldnW 3 (σ33.bump 8) (.ptr (σ14.next + 10) 0) fun v50 =>
callW PG n_store_lay [.str v16, v50] (σ33.bump 8) fun v51 σ52 =>
castS v51 fun v53 =>
newW σ52 (σ33.next + 5) (.rw [.str v53]) fun σ54 =>
apW 1 16 (σ33.next + 6) σ54 v12 (.slice (σ33.next + 5) 0 1 (.ex 1)) fun v55 σ56 =>
iW (v13 + 1) fun v57 =>
next10 v31 v55 v57 (σ56.bump 2))
def F_store_Store_Compact_j2 (next71 : Mem → Prop) (σ79 : Mem) : Prop :=
next71 σ79
def F_store_Store_Compact_l3 (a0 : AV) (Q : AV → Mem → Prop) (σ1 : Mem) (σ66 : Mem) (next71 : Mem → Prop) (σ72 : Mem) : Prop :=
nextMW (σ72.bump 2) (.ptr (σ66.next + 6) 0) fun v73 σ74 =>
tpB v73 0 fun v75 =>
ifB v75 (
entMW (σ74.bump 3) (.ptr (σ66.next + 6) 0) fun v76 =>
tpS v76 0 fun v77 =>
lookW (σ74.bump 7) (.bool false) false (.map (σ1.next + 2)) (.str v77) fun a => castB a fun v78 =>
joinF [] (fun (k80 : Mem → Prop) =>
ifB (!v78) (
lfW 1 (σ74.bump 13) a0 fun v81 =>
mdelW (σ74.bump 13) v81 (.str v77) fun σ82 =>
k80 σ82) (
k80 (σ74.bump 7))) (F_store_Store_Compact_j2 next71)) (
Q (.int .i64 0) (σ74.bump 1))
def F_store_Store_Compact_l1 (a0 : AV) (Q : AV → Mem → Prop) (σ1 : Mem) (v7 : AV) (v9 : Int) (next10 : AV → AV → Int → Mem → Prop) (v11 : AV) (v12 : AV) (v13 : Int) (σ14 : Mem) : Prop :=
ifB (decide (v13 < v9)) (
idxW 1 v7 v13 fun v15 =>
ldS (σ14.bump 4) v15 fun v16 =>
lfW 2 (σ14.bump 12) a0 fun v17 =>
lookW (σ14.bump 12) (.agg [.int .i64 0, .int .i64 0, .str ⟨#[]⟩]) false v17 (.str v16) fun v18 =>
newW (σ14.bump 12) (σ14.next + 10) (.rw [.int .i64 0, .int .i64 0, .str ⟨#[]⟩]) fun σ19 =>
stW 3 σ19 (.ptr (σ14.next + 10) 0) v18 fun σ20 =>
fldW 2 (.ptr (σ14.next + 10) 0) fun v21 =>
ldS (σ20.bump 12) v21 fun v22 =>
callW PG n_bands_Read [.str v22] (σ20.bump 12) fun v23 σ24 =>
tpI v23 0 fun v25 =>
tpI v23 1 fun v26 =>
tupW v23 2 fun v27 =>
tpI v23 3 fun v28 =>
slenW v27 fun v29 =>
loopF [.v, tI] (F_store_Store_Compact_l2 a0 σ1 next10 v12 v13 σ14 v16 v27 v29) v11 0 (σ24.bump 3)) (
nfW 0 a0 fun v58 =>
ldW (σ14.bump 12) v58 fun v59 =>
apW 1 16 (σ14.next + 8) (σ14.bump 12) v11 v12 fun v60 σ61 =>
fltS.sameW (σ14.bump 12) σ61 v58 (
callW PG n_seglog_Log_Compact [v59, v60] σ61 fun v62 σ63 =>
castI .i64 v62 fun v64 =>
callW PG n_store_Store_told [a0, .int .i64 v64] σ63 fun v65 σ66 =>
castI .i64 v65 fun v67 =>
ifB (decide (v67 ≠ 0)) (
Q (.int .i64 v67) (σ66.bump 4)) (
lfW 1 (σ66.bump 7) a0 fun v68 =>
rangeMW (σ66.bump 7) v68 fun q69 =>
newW (σ66.bump 7) (σ66.next + 6) q69 fun σ70 =>
loopF [] (F_store_Store_Compact_l3 a0 Q σ1 σ66) σ70)))
def F_store_Store_Compact (a0 : AV) (σ : Mem) (Q : AV → Mem → Prop) : Prop :=
callW PG n_store_Store_lives [a0] (σ.bump 4) fun v0 σ1 =>
castI .i64 v0 fun v2 =>
ifB (decide (v2 ≠ 0)) (
Q (.int .i64 v2) (σ1.bump 4)) (
newW (σ1.bump 4) (σ1.next + 2) (.map [] 0) fun σ3 =>
lfW 2 (σ3.bump 10) a0 fun v4 =>
callW PG n_maps_Keys_map_string_store_content_string_store_content_ [v4] (σ3.bump 10) fun v5 σ6 =>
callW PG n_slices_Sorted_string_ [v5] σ6 fun v7 σ8 =>
slenW v7 fun v9 =>
loopF [.v, .v, tI] (F_store_Store_Compact_l1 a0 Q σ1 v7 v9) .nils .nils 0 σ8)
theorem ok_store_Store_Compact {a0 σ Q} (h : σ.Live → F_store_Store_Compact a0 σ Q) : ACalls PG n_store_Store_Compact [a0] σ Q :=
  .of_sem [none, none, none, none, none, none, none, none, none, some ([0, 4, 29, 30], [5, 6, 31]), none, none, none, none, none, none, none, none, some ([0, 4, 6, 8, 9, 29, 30, 31, 49, 50], [5, 51]), none, none, none, none, none, some ([0, 4, 6, 8, 9, 29, 30, 31, 49, 50, 51], [5]), none, none, none, none, none, none, none, none, none, none, none, some ([0, 4, 98], []), none, none, none, none, none, some ([0, 4, 98], []), none, none] [(19, tI), (31, tI), (34, .s), (43, .s), (45, tI), (46, tI), (48, tI), (51, tI), (54, .s), (57, .b), (69, .s), (77, .s), (89, tI), (90, tI), (100, .b), (102, .s), (105, .b)] mixed (by kernel_rfl) (by kernel_rfl) h
/-! (*vitrine/store.Store).Entries -/
def F_store_Store_Entries_l1 (a0 : AV) (Q : AV → Mem → Prop) (v4 : AV) (v6 : Int) (next7 : AV → Int → Mem → Prop) (v8 : AV) (v9 : Int) (σ10 : Mem) : Prop :=
ifB (decide (v9 < v6)) (
idxW 1 v4 v9 fun v11 =>
ldS (σ10.bump 4) v11 fun v12 =>
nfW 2 a0 fun v13 =>
ldW (σ10.bump 25) v13 fun v14 =>
lookW (σ10.bump 25) (.agg [.int .i64 0, .int .i64 0, .str ⟨#[]⟩]) false v14 (.str v12) fun v15 =>
aggW 0 (some 2) v15 fun v16 =>
lfW 2 (σ10.bump 25) a0 fun v17 =>
lookW (σ10.bump 25) (.agg [.int .i64 0, .int .i64 0, .str ⟨#[]⟩]) false v17 (.str v12) fun v18 =>
aggW 2 none v18 fun a => castS a fun v19 =>
callW PG n_sha_Sum [.str v19] (σ10.bump 25) fun v20 σ21 =>
fltS.sameW (σ10.bump 25) σ21 v13 (
fltS.sameW (σ10.bump 25) σ21 v14 (
castS v20 fun v22 =>
cellOkW v16 2 (
cellOkW (AV.agg (setAt (setAt [.str v12, .int .i64 0, .int .i64 0, .str ⟨#[]⟩] 1 v16.cells) 3 [.str v22])) 4 (
newW σ21 (σ10.next + 22) (.rw (setAt [.str ⟨#[]⟩, .int .i64 0, .int .i64 0, .str ⟨#[]⟩] 0 (AV.agg (setAt (setAt [.str v12, .int .i64 0, .int .i64 0, .str ⟨#[]⟩] 1 v16.cells) 3 [.str v22])).cells)) fun σ23 =>
apW 4 48 (σ10.next + 23) σ23 v8 (.slice (σ10.next + 22) 0 1 (.ex 1)) fun v24 σ25 =>
iW (v9 + 1) fun v26 =>
next7 v24 v26 (σ25.bump 2)))))) (
Q v8 (σ10.bump 3))
def F_store_Store_Entries (a0 : AV) (σ : Mem) (Q : AV → Mem → Prop) : Prop :=
eqW .ptr a0 .nilp fun v0 =>
ifB v0 (
Q .nils (σ.bump 4)) (
lfW 2 (σ.bump 12) a0 fun v1 =>
callW PG n_maps_Keys_map_string_store_content_string_store_content_ [v1] (σ.bump 12) fun v2 σ3 =>
callW PG n_slices_Sorted_string_ [v2] σ3 fun v4 σ5 =>
slenW v4 fun v6 =>
loopF [.v, tI] (F_store_Store_Entries_l1 a0 Q v4 v6) .nils 0 σ5)
theorem ok_store_Store_Entries {a0 σ Q} (h : σ.Live → F_store_Store_Entries a0 σ Q) : ACalls PG n_store_Store_Entries [a0] σ Q :=
  .of_sem [none, none, none, none, none, none, none, some ([0, 13, 14], [3, 15]), none, none, none, none, none, none, none] [(15, tI), (18, .s), (34, .s), (35, .s)] mixed (by kernel_rfl) (by kernel_rfl) h
/-! (*vitrine/store.Store).Bands -/
def F_store_Store_Bands (a0 : AV) (σ : Mem) (Q : AV → Mem → Prop) : Prop :=
eqW .ptr a0 .nilp fun v0 =>
ifB v0 (
Q (.int .i64 0) (σ.bump 4)) (
lfW 1 (σ.bump 9) a0 fun v1 =>
mlenW (σ.bump 9) v1 fun v2 =>
Q (.int .i64 v2) (σ.bump 9))
theorem ok_store_Store_Bands {a0 σ Q} (h : σ.Live → F_store_Store_Bands a0 σ Q) : ACalls PG n_store_Store_Bands [a0] σ Q :=
  .of_sem [none, none, none, none, none] [] mixed (by kernel_rfl) (by kernel_rfl) h
/-! (*vitrine/store.Store).Has -/
def F_store_Store_Has (a0 : AV) (a1 : ByteArray) (σ : Mem) (Q : AV → Mem → Prop) : Prop :=
eqW .ptr a0 .nilp fun v0 =>
ifB v0 (
Q (.bool false) (σ.bump 4)) (
lfW 1 (σ.bump 14) a0 fun v1 =>
lookW (σ.bump 14) (.str ⟨#[]⟩) true v1 (.str a1) fun v2 =>
tpS v2 0 fun v3 =>
tpB v2 1 fun v4 =>
Q (.bool v4) (σ.bump 16))
theorem ok_store_Store_Has {a0 a1 σ Q} (h : σ.Live → F_store_Store_Has a0 a1 σ Q) : ACalls PG n_store_Store_Has [a0, .str a1] σ Q :=
  .of_sem [none, none, none, none, none, none] [(16, .s), (17, .b)] mixed (by kernel_rfl) (by kernel_rfl) h
/-! vitrine/seglog.Open -/
def F_seglog_Open (a0 : AV) (σ : Mem) (Q : AV → Mem → Prop) : Prop :=
eqW .ptr a0 .nilp fun v0 =>
ifB v0 (
Q (.tup [.nilp, .nils, .int .i64 2]) (σ.bump 9)) (
callW PG n_disk_Disk_Dead [a0] (σ.bump 9) fun v1 σ2 =>
castB v1 fun v3 =>
ifB v3 (
Q (.tup [.nilp, .nils, .int .i64 50]) (σ2.bump 3)) (
callW PG n_seglog_newest [a0] (σ2.bump 11) fun v4 σ5 =>
tupW v4 0 fun v6 =>
tupW v4 1 fun v7 =>
tpI v4 2 fun v8 =>
tpI v4 3 fun v9 =>
ifB (decide (v9 ≠ 0)) (
Q (.tup [.nilp, .nils, .int .i64 v9]) (σ5.bump 6)) (
callW PG n_seglog_Log_tidy [v6, .int .i64 v8] (σ5.bump 6) fun v10 σ11 =>
castI .i64 v10 fun v12 =>
ifB (decide (v12 ≠ 0)) (
Q (.tup [.nilp, .nils, .int .i64 v12]) (σ11.bump 6)) (
Q (.tup [v6, v7, .int .i64 0]) (σ11.bump 7)))))
theorem ok_seglog_Open {a0 σ Q} (h : σ.Live → F_seglog_Open a0 σ Q) : ACalls PG n_seglog_Open [a0] σ Q :=
  .of_sem [none, none, none, none, none, none, none, none, none, none, none, none, none, none, none, none, none] [(15, .b), (21, tI), (22, tI), (28, tI)] mixed (by kernel_rfl) (by kernel_rfl) h
/-! vitrine/vitrinelaw24.ClusterNil -/
/-! vitrine/cluster.New -/
/-! (*vitrine/cluster.Cluster).Put -/
/-! (*vitrine/cluster.Cluster).Get -/
/-! (*vitrine/cluster.Cluster).Result -/
/-! (*vitrine/cluster.Cluster).Events -/
/-! (*vitrine/cluster.Cluster).Sync -/
/-! (*vitrine/cluster.Cluster).Entries -/
/-! (*vitrine/cluster.Cluster).Resend -/
/-! (*vitrine/cluster.Cluster).Net -/
/-! (*vitrine/cluster.Cluster).Deliver -/
/-! (*vitrine/cluster.Cluster).Drop -/
/-! (*vitrine/cluster.Cluster).Again -/
/-! (*vitrine/cluster.Cluster).Down -/
/-! (*vitrine/cluster.Cluster).Arm -/
/-! (*vitrine/cluster.Cluster).Start -/
/-! (*vitrine/cluster.Cluster).Compact -/
/-! vitrine/vitrinelaw25.ArchiveNil -/
/-! (*vitrine/archive.Archive).Get -/
/-! (*vitrine/archive.Archive).List -/
/-! (*vitrine/archive.Archive).Repair -/
/-! (*vitrine/archive.Archive).Put -/
/-! (*vitrine/archive.Archive).Again -/
/-! (*vitrine/archive.Archive).Down -/
/-! (*vitrine/archive.Archive).Arm -/
/-! (*vitrine/archive.Archive).Start -/
/-! (*vitrine/archive.Archive).Compact -/
/-! (*vitrine/archive.Archive).run -/
/-! (*vitrine/archive.Archive).up -/
/-! vitrine/vitrinelaw23.SessionNil -/
/-! vitrine/session.Run -/
/-! vitrine/session.way -/
/-! (*vitrine/store.Store).lives -/
def F_store_Store_lives (a0 : AV) (σ : Mem) (Q : AV → Mem → Prop) : Prop :=
eqW .ptr a0 .nilp fun v0 =>
ifB v0 (
Q (.int .i64 2) (σ.bump 5)) (
lfB 3 (σ.bump 9) a0 fun v1 =>
ifB v1 (
Q (.int .i64 50) (σ.bump 10)) (
Q (.int .i64 0) (σ.bump 10)))
theorem ok_store_Store_lives {a0 σ Q} (h : σ.Live → F_store_Store_lives a0 σ Q) : ACalls PG n_store_Store_lives [a0] σ Q :=
  .of_sem [none, none, none, none, none, none, none, none, none] [(10, .b)] mixed (by kernel_rfl) (by kernel_rfl) h
/-! vitrine/archive.New -/
end Go.Vit
