/- The functions, as printed conditions. -/
import Derived.Test.YtojgemdgadfncaaVm2
import Derived.Test.YtojgemdgadfncaaChecked
import Derived.KernelRfl
set_option linter.unusedVariables false
set_option linter.unusedSimpArgs false
set_option linter.unusedVariables false
set_option maxRecDepth 100000
namespace Go.Vit
open Go.Proofs
noncomputable abbrev PG : Program := Try.prog
theorem mixed : PG.follows .mixedOrders = true := by kernel_rfl
abbrev n_law16_DiskLasts : Nat := 3
abbrev n_disk_New : Nat := 7
abbrev n_law16_awake : Nat := 8
abbrev n_disk_Disk_Append : Nat := 9
abbrev n_disk_Disk_Sync : Nat := 10
abbrev n_disk_Disk_Crash : Nat := 11
abbrev n_disk_Disk_Read : Nat := 12
abbrev n_disk_Disk_Arm : Nat := 13
abbrev n_law16_ints : Nat := 26
abbrev n_disk_Disk_Files : Nat := 27
abbrev n_disk_Disk_Size : Nat := 29
abbrev n_disk_Disk_wrong : Nat := 34
abbrev n_disk_Disk_step : Nat := 35
abbrev n_disk_Disk_change : Nat := 36
abbrev n_disk_Disk_Sync_1 : Nat := 37
abbrev n_slices_Sorted_int_ : Nat := 43
abbrev n_maps_Keys_map_int_disk_file_int_disk_file_ : Nat := 44
abbrev n_slices_Collect_int_ : Nat := 45
abbrev n_slices_Sort___int_int_ : Nat := 46
abbrev n_maps_Keys_map_int_disk_file_int_disk_file__1 : Nat := 47
abbrev n_slices_AppendSeq___int_int_ : Nat := 48
abbrev n_slices_pdqsortOrdered_int_ : Nat := 49
abbrev n_math_bits_Len : Nat := 50
abbrev n_slices_insertionSortOrdered_int_ : Nat := 51
abbrev n_slices_heapSortOrdered_int_ : Nat := 52
abbrev n_slices_breakPatternsOrdered_int_ : Nat := 53
abbrev n_slices_choosePivotOrdered_int_ : Nat := 54
abbrev n_slices_reverseRangeOrdered_int_ : Nat := 55
abbrev n_slices_partialInsertionSortOrdered_int_ : Nat := 56
abbrev n_cmp_Less_int_ : Nat := 57
abbrev n_slices_partitionEqualOrdered_int_ : Nat := 58
abbrev n_slices_partitionOrdered_int_ : Nat := 59
abbrev n_cmp_isNaN_int_ : Nat := 67
/-! vitrine/vitrinelaw16.DiskLasts -/
def F_law16_DiskLasts_j1 (a2 : Int) (Q : AV → Mem → Prop) (v2 : AV) (v5 : ByteArray) (v6 : ByteArray) (σ7 : Mem) : Prop :=
newW (σ7.bump 4) (σ7.next + 2) (.rw [.int .i64 a2]) fun σ8 =>
callW PG n_disk_Disk_Crash [v2, .slice (σ7.next + 2) 0 1 (.ex 1)] σ8 fun v9 σ10 =>
callW PG n_disk_Disk_Read [v2, .int .i64 3] (σ10.bump 7) fun v11 σ12 =>
tpS v11 0 fun v13 =>
tpI v11 1 fun v14 =>
ifB (decide (v14 ≠ 0)) (
Q (.bool false) (σ12.bump 42)) (
ifB (decide ((v13.size : Int) < (v5.size : Int))) (
Q (.bool false) (σ12.bump 42)) (
iW ((v5.size : Int) + (v6.size : Int)) fun v15 =>
ifB (decide (v15 < (v13.size : Int))) (
Q (.bool false) (σ12.bump 42)) (
subW v13 0 (v5.size : Int) fun v16 =>
ifB (decide (v16 ≠ v5)) (
Q (.bool false) (σ12.bump 42)) (
subW v13 (v5.size : Int) v13.size fun v17 =>
iW ((v13.size : Int) - (v5.size : Int)) fun v18 =>
subW v6 0 v18 fun v19 =>
ifB (decide (v17 ≠ v19)) (
Q (.bool false) (σ12.bump 42)) (
newW (σ12.bump 44) (σ12.next + 42) (.rw [.int .i64 0]) fun σ20 =>
callW PG n_disk_Disk_Crash [v2, .slice (σ12.next + 42) 0 1 (.ex 1)] σ20 fun v21 σ22 =>
callW PG n_disk_Disk_Read [v2, .int .i64 3] (σ22.bump 7) fun v23 σ24 =>
tpS v23 0 fun v25 =>
tpI v23 1 fun v26 =>
ifB (decide (v26 = 0)) (
ifB (decide (v25 = v13)) (
callW PG n_law16_awake [] (σ24.bump 11) fun v27 σ28 =>
castB v27 fun v29 =>
Q (.bool v29) σ28) (
Q (.bool false) (σ24.bump 11))) (
Q (.bool false) (σ24.bump 11)))))))
def F_law16_DiskLasts_j2 (next31 : ByteArray → ByteArray → Int → Mem → Prop) (v34 : Int) (v53 : ByteArray) (v54 : ByteArray) (σ55 : Mem) : Prop :=
iW (v34 + 1) fun v56 =>
next31 v53 v54 v56 (σ55.bump 3)
def F_law16_DiskLasts_j3 (next31 : ByteArray → ByteArray → Int → Mem → Prop) (v34 : Int) (v62 : ByteArray) (v63 : ByteArray) (σ64 : Mem) : Prop :=
iW (v34 + 1) fun v65 =>
next31 v62 v63 v65 (σ64.bump 3)
def F_law16_DiskLasts_l1 (a0 : AV) (a1 : AV) (Q : AV → Mem → Prop) (v2 : AV) (k30 : ByteArray → ByteArray → Mem → Prop) (next31 : ByteArray → ByteArray → Int → Mem → Prop) (v32 : ByteArray) (v33 : ByteArray) (v34 : Int) (σ35 : Mem) : Prop :=
slenW a0 fun v36 =>
ifB (decide (v34 < v36)) (
ifB (decide (v34 < 100)) (
idxW 1 a0 v34 fun v37 =>
ldS (σ35.bump 14) v37 fun v38 =>
ifB (decide (1000 < (v38.size : Int))) (
callW PG n_law16_awake [] (σ35.bump 16) fun v39 σ40 =>
castB v39 fun v41 =>
Q (.bool v41) σ40) (
idxW 1 a0 v34 fun v42 =>
ldS (σ35.bump 21) v42 fun v43 =>
callW PG n_disk_Disk_Append [v2, .int .i64 3, .str v43] (σ35.bump 21) fun v44 σ45 =>
castI .i64 v44 fun v46 =>
ifB (decide (v46 ≠ 0)) (
Q (.bool false) (σ45.bump 1)) (
idxW 1 a0 v34 fun v47 =>
ldS (σ45.bump 7) v47 fun v48 =>
catW v33 v48 fun v49 =>
slenW a1 fun v50 =>
ifB (decide (v34 < v50)) (
idxW 1 a1 v34 fun v51 =>
ldB (σ45.bump 17) v51 fun v52 =>
joinF [.s, .s] (fun (k57 : ByteArray → ByteArray → Mem → Prop) =>
ifB v52 (
callW PG n_disk_Disk_Sync [v2, .int .i64 3] (σ45.bump 20) fun v58 σ59 =>
castI .i64 v58 fun v60 =>
ifB (decide (v60 ≠ 0)) (
Q (.bool false) (σ59.bump 1)) (
catW v32 v49 fun v61 =>
k57 v61 ⟨#[]⟩ (σ59.bump 5))) (
k57 v32 v49 (σ45.bump 17))) (F_law16_DiskLasts_j2 next31 v34)) (
joinF [.s, .s] (fun (k66 : ByteArray → ByteArray → Mem → Prop) =>
k66 v32 v49 (σ45.bump 17)) (F_law16_DiskLasts_j3 next31 v34))))) (
k30 v32 v33 (σ35.bump 8))) (
k30 v32 v33 (σ35.bump 8))
def F_law16_DiskLasts (a0 : AV) (a1 : AV) (a2 : Int) (σ : Mem) (Q : AV → Mem → Prop) : Prop :=
callW PG n_disk_New [.int .i64 1048576] (σ.bump 7) fun v0 σ1 =>
tupW v0 0 fun v2 =>
tpI v0 1 fun v3 =>
ifB (decide (v3 ≠ 0)) (
Q (.bool false) (σ1.bump 7)) (
eqW .ptr v2 .nilp fun v4 =>
ifB v4 (
Q (.bool false) (σ1.bump 7)) (
joinF [.s, .s] (fun (k30 : ByteArray → ByteArray → Mem → Prop) =>
loopF [.s, .s, tI] (F_law16_DiskLasts_l1 a0 a1 Q v2 k30) ⟨#[]⟩ ⟨#[]⟩ 0 (σ1.bump 9)) (F_law16_DiskLasts_j1 a2 Q v2)))
theorem ok_law16_DiskLasts {a0 a1 a2 σ Q} (h : σ.Live → F_law16_DiskLasts a0 a1 a2 σ Q) : ACalls PG n_law16_DiskLasts [a0, a1, .int .i64 a2] σ Q :=
  .of_sem [none, none, none, none, none, none, none, none, some ([2, 7], [9, 10]), some ([0, 1, 2, 7], [9, 10, 11]), none, none, none, none, none, none, none, none, none, none, none, some ([0, 1, 2, 7, 11], [9, 10]), none, none, none, none, none, none, none, none, none, none, none, none, none, none] [(19, tI), (9, .s), (10, .s), (11, tI), (39, .s), (42, .b), (47, .s), (48, tI), (54, .s), (64, .b), (67, tI), (79, .s), (80, tI), (128, .s), (129, tI), (138, .b)] mixed (by kernel_rfl) (by kernel_rfl) h
/-! vitrine/vitrinelaw16.DiskDies -/
/-! vitrine/vitrinelaw16.DiskNil -/
/-! vitrine/disk.New -/
def F_disk_New (a0 : Int) (σ : Mem) (Q : AV → Mem → Prop) : Prop :=
ifB (decide (a0 < 1)) (
Q (.tup [.nilp, .int .i64 1]) (σ.bump 10)) (
ifB (decide (16777216 < a0)) (
Q (.tup [.nilp, .int .i64 1]) (σ.bump 10)) (
newW (σ.bump 14) (σ.next + 8) (.map [] 0) fun σ0 =>
boxW (.agg [.map (σ.next + 8), .int .i64 a0, .int .i64 0, .bool false, .int .i64 0]) (
newW σ0 (σ.next + 11) (.rw [.map (σ.next + 8), .int .i64 a0, .int .i64 0, .bool false, .int .i64 0]) fun σ1 =>
Q (.tup [.ptr (σ.next + 11) 0, .int .i64 0]) σ1)))
theorem ok_disk_New {a0 σ Q} (h : σ.Live → F_disk_New a0 σ Q) : ACalls PG n_disk_New [.int .i64 a0] σ Q :=
  .of_sem [none, none, none, none, none] [] mixed (by kernel_rfl) (by kernel_rfl) h
/-! vitrine/vitrinelaw16.awake -/
def F_law16_awake (σ : Mem) (Q : AV → Mem → Prop) : Prop :=
callW PG n_disk_New [.int .i64 10] (σ.bump 7) fun v0 σ1 =>
tupW v0 0 fun v2 =>
tpI v0 1 fun v3 =>
ifB (decide (v3 ≠ 0)) (
Q (.bool false) (σ1.bump 7)) (
eqW .ptr v2 .nilp fun v4 =>
ifB v4 (
Q (.bool false) (σ1.bump 7)) (
callW PG n_disk_Disk_Append [v2, .int .i64 0, .str ⟨#[97, 98, 99]⟩] (σ1.bump 9) fun v5 σ6 =>
castI .i64 v5 fun v7 =>
callW PG n_disk_Disk_Sync [v2, .int .i64 0] (σ6.bump 3) fun v8 σ9 =>
castI .i64 v8 fun v10 =>
callW PG n_disk_Disk_Append [v2, .int .i64 0, .str ⟨#[100, 101, 102]⟩] (σ9.bump 3) fun v11 σ12 =>
castI .i64 v11 fun v13 =>
newW (σ12.bump 3) (σ12.next + 1) (.rw [.int .i64 2]) fun σ14 =>
callW PG n_disk_Disk_Crash [v2, .slice (σ12.next + 1) 0 1 (.ex 1)] σ14 fun v15 σ16 =>
callW PG n_disk_Disk_Read [v2, .int .i64 0] (σ16.bump 7) fun v17 σ18 =>
tpS v17 0 fun v19 =>
tpI v17 1 fun v20 =>
callW PG n_disk_Disk_Append [v2, .int .i64 0, .str ⟨#[49, 50, 51, 52, 53, 54]⟩] (σ18.bump 3) fun v21 σ22 =>
castI .i64 v21 fun v23 =>
callW PG n_disk_Disk_Arm [v2, .int .i64 1] (σ22.bump 2) fun v24 σ25 =>
callW PG n_disk_Disk_Append [v2, .int .i64 1, .str ⟨#[120]⟩] (σ25.bump 3) fun v26 σ27 =>
castI .i64 v26 fun v28 =>
newW (σ27.bump 3) (σ27.next + 1) (.rw [.int .i64 1]) fun σ29 =>
callW PG n_disk_Disk_Crash [v2, .slice (σ27.next + 1) 0 1 (.ex 1)] σ29 fun v30 σ31 =>
callW PG n_disk_Disk_Read [v2, .int .i64 1] (σ31.bump 7) fun v32 σ33 =>
tpS v32 0 fun v34 =>
tpI v32 1 fun v35 =>
ifB (decide (v7 = 0)) (
ifB (decide (v10 = 0)) (
ifB (decide (v13 = 0)) (
ifB (decide (v20 = 0)) (
ifB (decide (v19 = ⟨#[97, 98, 99, 100, 101]⟩)) (
ifB (decide (v23 = 51)) (
ifB (decide (v28 = 50)) (
ifB (decide (v35 = 0)) (
ifB (decide (v34 = ⟨#[120]⟩)) (
callW PG n_disk_Disk_Files [v2] (σ33.bump 41) fun v36 σ37 =>
newW σ37 (σ33.next + 37) (.rw [.int .i64 0, .int .i64 1]) fun σ38 =>
callW PG n_law16_ints [v36, .slice (σ33.next + 37) 0 2 (.ex 2)] σ38 fun v39 σ40 =>
castB v39 fun v41 =>
Q (.bool v41) σ40) (
Q (.bool false) (σ33.bump 41))) (
Q (.bool false) (σ33.bump 41))) (
Q (.bool false) (σ33.bump 41))) (
Q (.bool false) (σ33.bump 41))) (
Q (.bool false) (σ33.bump 41))) (
Q (.bool false) (σ33.bump 41))) (
Q (.bool false) (σ33.bump 41))) (
Q (.bool false) (σ33.bump 41))) (
Q (.bool false) (σ33.bump 41))))
theorem ok_law16_awake {σ Q} (h : σ.Live → F_law16_awake σ Q) : ACalls PG n_law16_awake [] σ Q :=
  .of_sem [none, none, none, none, none, none, none, none, none, none, none, none, none, none, none, none] [(15, tI), (23, tI), (25, tI), (27, tI), (34, .s), (35, tI), (37, tI), (41, tI), (48, .s), (49, tI), (88, .b)] mixed (by kernel_rfl) (by kernel_rfl) h
/-! (*vitrine/disk.Disk).Append -/
def F_disk_Disk_Append (a0 : AV) (a1 : Int) (a2 : ByteArray) (σ : Mem) (Q : AV → Mem → Prop) : Prop :=
callW PG n_disk_Disk_wrong [a0, .int .i64 a1] (σ.bump 5) fun v0 σ1 =>
castI .i64 v0 fun v2 =>
ifB (decide (v2 ≠ 0)) (
Q (.int .i64 v2) (σ1.bump 4)) (
nfW 1 a0 fun v3 =>
ldI (σ1.bump 12) v3 fun v4 =>
callW PG n_disk_Disk_Size [a0] (σ1.bump 12) fun v5 σ6 =>
fltS.sameW (σ1.bump 12) σ6 v3 (
castI .i64 v5 fun v7 =>
iW (v7 + (a2.size : Int)) fun v8 =>
ifB (decide (v4 < v8)) (
Q (.int .i64 51) (σ6.bump 1)) (
lfW 0 (σ6.bump 8) a0 fun v9 =>
lookW (σ6.bump 8) (.agg [.str ⟨#[]⟩, .int .i64 0]) false v9 (.int .i64 a1) fun v10 =>
newW (σ6.bump 8) (σ6.next + 6) (.rw [.str ⟨#[]⟩, .int .i64 0]) fun σ11 =>
stW 2 σ11 (.ptr (σ6.next + 6) 0) v10 fun σ12 =>
fldW 0 (.ptr (σ6.next + 6) 0) fun v13 =>
ldS (σ12.bump 6) v13 fun v14 =>
catW v14 a2 fun v15 =>
fldW 0 (.ptr (σ6.next + 6) 0) fun v16 =>
stW 1 (σ12.bump 6) v16 (.str v15) fun σ17 =>
lfW 0 (σ17.bump 7) a0 fun v18 =>
ldnW 2 (σ17.bump 7) (.ptr (σ6.next + 6) 0) fun v19 =>
mupW (σ17.bump 7) v18 (.int .i64 a1) v19 fun σ20 =>
callW PG n_disk_Disk_step [a0] (σ20.bump 3) fun v21 σ22 =>
castI .i64 v21 fun v23 =>
Q (.int .i64 v23) σ22)))
theorem ok_disk_Disk_Append {a0 a1 a2 σ Q} (h : σ.Live → F_disk_Disk_Append a0 a1 a2 σ Q) : ACalls PG n_disk_Disk_Append [a0, .int .i64 a1, .str a2] σ Q :=
  .of_sem [none, none, none, none, none, none, none, none, none, none, none, none] [(11, tI), (16, tI), (23, tI), (32, .s), (43, tI)] mixed (by kernel_rfl) (by kernel_rfl) h
/-! (*vitrine/disk.Disk).Sync -/
def F_disk_Disk_Sync (a0 : AV) (a1 : Int) (σ : Mem) (Q : AV → Mem → Prop) : Prop :=
boxW a0 (
newW (σ.bump 3) σ.next (.rw a0.cells) fun σ0 =>
newW σ0 (σ.next + 1) (.rw [.int .i64 a1]) fun σ1 =>
ldW (σ1.bump 4) (.ptr σ.next 0) fun v2 =>
ldI (σ1.bump 4) (.ptr (σ.next + 1) 0) fun v3 =>
callW PG n_disk_Disk_wrong [v2, .int .i64 v3] (σ1.bump 4) fun v4 σ5 =>
castI .i64 v4 fun v6 =>
ifB (decide (v6 ≠ 0)) (
Q (.int .i64 v6) (σ5.bump 4)) (
ldW (σ5.bump 7) (.ptr σ.next 0) fun v7 =>
ldI (σ5.bump 7) (.ptr (σ.next + 1) 0) fun v8 =>
callW PG n_disk_Disk_change [v7, .int .i64 v8, .func n_disk_Disk_Sync_1 [.ptr σ.next 0, .ptr (σ.next + 1) 0]] (σ5.bump 7) fun v9 σ10 =>
castI .i64 v9 fun v11 =>
Q (.int .i64 v11) σ10))
theorem ok_disk_Disk_Sync {a0 a1 σ Q} (h : σ.Live → F_disk_Disk_Sync a0 a1 σ Q) : ACalls PG n_disk_Disk_Sync [a0, .int .i64 a1] σ Q :=
  .of_sem [none, none, none, none, none, none] [(7, tI), (8, tI), (13, tI), (15, tI)] mixed (by kernel_rfl) (by kernel_rfl) h
/-! (*vitrine/disk.Disk).Crash -/
def F_disk_Disk_Crash_j1 (next4 : AV → Int → Mem → Prop) (v6 : Int) (v8 : AV) (σ9 : Mem) : Prop :=
iW (v6 + 1) fun v10 =>
next4 v8 v10 (σ9.bump 2)
def F_disk_Disk_Crash_j3 (a0 : AV) (σ7 : Mem) (k11 : AV → Mem → Prop) (v13 : Int) (v22 : Int) (v24 : AV) (v27 : Int) (σ28 : Mem) : Prop :=
fldW 1 (.ptr (σ7.next + 10) 0) fun v29 =>
ldI (σ28.bump 9) v29 fun v30 =>
iW (v22 + 1) fun v31 =>
remW v27 v31 fun v32 =>
iW (v30 + v32) fun v33 =>
fldW 1 (.ptr (σ7.next + 10) 0) fun v34 =>
stW 1 (σ28.bump 9) v34 (.int .i64 v33) fun σ35 =>
lfW 0 (σ35.bump 14) a0 fun v36 =>
fldW 0 (.ptr (σ7.next + 10) 0) fun v37 =>
ldS (σ35.bump 14) v37 fun v38 =>
fldW 1 (.ptr (σ7.next + 10) 0) fun v39 =>
ldI (σ35.bump 14) v39 fun v40 =>
subW v38 0 v40 fun v41 =>
fldW 1 (.ptr (σ7.next + 10) 0) fun v42 =>
ldI (σ35.bump 14) v42 fun v43 =>
mupW (σ35.bump 14) v36 (.int .i64 v13) (.agg [.str v41, .int .i64 v43]) fun σ44 =>
k11 v24 σ44
def F_disk_Disk_Crash_j2 (a0 : AV) (σ7 : Mem) (k11 : AV → Mem → Prop) (v13 : Int) (v22 : Int) (v24 : AV) (v25 : Int) (σ26 : Mem) : Prop :=
joinF [tI] (fun (k45 : Int → Mem → Prop) =>
ifB (decide (v25 < 0)) (
iW ((-1) - v25) fun v46 =>
k45 v46 (σ26.bump 5)) (
k45 v25 (σ26.bump 2))) (F_disk_Disk_Crash_j3 a0 σ7 k11 v13 v22 v24)
def F_disk_Disk_Crash_l1 (a0 : AV) (Q : AV → Mem → Prop) (v1 : AV) (v3 : Int) (next4 : AV → Int → Mem → Prop) (v5 : AV) (v6 : Int) (σ7 : Mem) : Prop :=
ifB (decide (v6 < v3)) (
joinF [.v] (fun (k11 : AV → Mem → Prop) =>
idxW 1 v1 v6 fun v12 =>
ldI (σ7.bump 4) v12 fun v13 =>
lfW 0 (σ7.bump 12) a0 fun v14 =>
lookW (σ7.bump 12) (.agg [.str ⟨#[]⟩, .int .i64 0]) false v14 (.int .i64 v13) fun v15 =>
newW (σ7.bump 12) (σ7.next + 10) (.rw [.str ⟨#[]⟩, .int .i64 0]) fun σ16 =>
stW 2 σ16 (.ptr (σ7.next + 10) 0) v15 fun σ17 =>
fldW 0 (.ptr (σ7.next + 10) 0) fun v18 =>
ldS (σ17.bump 7) v18 fun v19 =>
fldW 1 (.ptr (σ7.next + 10) 0) fun v20 =>
ldI (σ17.bump 7) v20 fun v21 =>
iW ((v19.size : Int) - v21) fun v22 =>
ifB (decide (v22 = 0)) (
k11 v5 (σ17.bump 9)) (
slenW v5 fun v23 =>
joinF [.v, tI] (fun (k47 : AV → Int → Mem → Prop) =>
ifB (decide (0 < v23)) (
idxW 1 v5 0 fun v48 =>
ldI (σ17.bump 20) v48 fun v49 =>
slcW 1 v5 (some 1) none fun v50 =>
k47 v50 v49 (σ17.bump 20)) (
k47 v5 0 (σ17.bump 13))) (F_disk_Disk_Crash_j2 a0 σ7 k11 v13 v22))) (F_disk_Disk_Crash_j1 next4 v6)) (
nfW 3 a0 fun v51 =>
stW 1 (σ7.bump 9) v51 (.bool false) fun σ52 =>
nfW 2 a0 fun v53 =>
stW 1 σ52 v53 (.int .i64 0) fun σ54 =>
Q (.tup []) σ54)
def F_disk_Disk_Crash (a0 : AV) (a1 : AV) (σ : Mem) (Q : AV → Mem → Prop) : Prop :=
eqW .ptr a0 .nilp fun v0 =>
ifB v0 (
Q (.tup []) (σ.bump 2)) (
callW PG n_disk_Disk_Files [a0] (σ.bump 6) fun v1 σ2 =>
slenW v1 fun v3 =>
loopF [.v, tI] (F_disk_Disk_Crash_l1 a0 Q v1 v3) a1 0 σ2)
theorem ok_disk_Disk_Crash {a0 a1 σ Q} (h : σ.Live → F_disk_Disk_Crash a0 a1 σ Q) : ACalls PG n_disk_Disk_Crash [a0, a1] σ Q :=
  .of_sem [none, none, none, none, some ([0, 12, 13], [1, 14]), none, none, some ([0, 12, 13, 14], [1]), none, none, none, none, none, none, none, some ([0, 5, 6, 7, 12, 13, 14], [1, 8]), none, none, some ([0, 1, 5, 6, 7, 12, 13, 14], [8]), none, none, none, none, none] [(14, tI), (17, tI), (25, .s), (28, tI), (8, tI), (37, tI), (45, tI), (58, .s), (60, tI), (63, tI)] mixed (by kernel_rfl) (by kernel_rfl) h
/-! (*vitrine/disk.Disk).Read -/
def F_disk_Disk_Read (a0 : AV) (a1 : Int) (σ : Mem) (Q : AV → Mem → Prop) : Prop :=
callW PG n_disk_Disk_wrong [a0, .int .i64 a1] (σ.bump 6) fun v0 σ1 =>
castI .i64 v0 fun v2 =>
ifB (decide (v2 ≠ 0)) (
Q (.tup [.str ⟨#[]⟩, .int .i64 v2]) (σ1.bump 5)) (
lfW 0 (σ1.bump 11) a0 fun v3 =>
lookW (σ1.bump 11) (.agg [.str ⟨#[]⟩, .int .i64 0]) false v3 (.int .i64 a1) fun v4 =>
aggW 0 none v4 fun a => castS a fun v5 =>
Q (.tup [.str v5, .int .i64 0]) (σ1.bump 11))
theorem ok_disk_Disk_Read {a0 a1 σ Q} (h : σ.Live → F_disk_Disk_Read a0 a1 σ Q) : ACalls PG n_disk_Disk_Read [a0, .int .i64 a1] σ Q :=
  .of_sem [none, none, none, none, none, none] [(9, tI), (19, .s)] mixed (by kernel_rfl) (by kernel_rfl) h
/-! (*vitrine/disk.Disk).Arm -/
def F_disk_Disk_Arm_j1 (Q : AV → Mem → Prop) (σ1 : Mem) : Prop :=
Q (.tup []) σ1
def F_disk_Disk_Arm (a0 : AV) (a1 : Int) (σ : Mem) (Q : AV → Mem → Prop) : Prop :=
eqW .ptr a0 .nilp fun v0 =>
joinF [] (fun (k2 : Mem → Prop) =>
ifB (!v0) (
letW (imax a1 0) fun v3 =>
nfW 2 a0 fun v4 =>
stW 1 (σ.bump 8) v4 (.int .i64 v3) fun σ5 =>
k2 σ5) (
k2 (σ.bump 2))) (F_disk_Disk_Arm_j1 Q)
theorem ok_disk_Disk_Arm {a0 a1 σ Q} (h : σ.Live → F_disk_Disk_Arm a0 a1 σ Q) : ACalls PG n_disk_Disk_Arm [a0, .int .i64 a1] σ Q :=
  .of_sem [none, some ([], []), none] [] mixed (by kernel_rfl) (by kernel_rfl) h
/-! (*vitrine/disk.Disk).Dead -/
/-! (*vitrine/disk.Disk).Cut -/
/-! (*vitrine/disk.Disk).Drop -/
/-! vitrine/vitrinelaw16.ints -/
def F_law16_ints_l1 (a0 : AV) (a1 : AV) (Q : AV → Mem → Prop) (next2 : Int → Mem → Prop) (v3 : Int) (σ4 : Mem) : Prop :=
slenW a0 fun v5 =>
ifB (decide (v3 < v5)) (
idxW 1 a0 v3 fun v6 =>
ldI (σ4.bump 13) v6 fun v7 =>
idxW 1 a1 v3 fun v8 =>
ldI (σ4.bump 13) v8 fun v9 =>
ifB (decide (v7 ≠ v9)) (
Q (.bool false) (σ4.bump 14)) (
iW (v3 + 1) fun v10 =>
next2 v10 (σ4.bump 16))) (
Q (.bool true) (σ4.bump 5))
def F_law16_ints (a0 : AV) (a1 : AV) (σ : Mem) (Q : AV → Mem → Prop) : Prop :=
slenW a0 fun v0 =>
slenW a1 fun v1 =>
ifB (decide (v0 ≠ v1)) (
Q (.bool false) (σ.bump 7)) (
loopF [tI] (F_law16_ints_l1 a0 a1 Q) 0 (σ.bump 7))
theorem ok_law16_ints {a0 a1 σ Q} (h : σ.Live → F_law16_ints a0 a1 σ Q) : ACalls PG n_law16_ints [a0, a1] σ Q :=
  .of_sem [none, none, none, none, none, none, some ([0, 1], [5]), none, none, none, none, none, none, none, none] [(5, tI), (20, tI), (24, tI)] mixed (by kernel_rfl) (by kernel_rfl) h
/-! (*vitrine/disk.Disk).Files -/
def F_disk_Disk_Files (a0 : AV) (σ : Mem) (Q : AV → Mem → Prop) : Prop :=
eqW .ptr a0 .nilp fun v0 =>
ifB v0 (
Q .nils (σ.bump 4)) (
lfW 0 (σ.bump 10) a0 fun v1 =>
callW PG n_maps_Keys_map_int_disk_file_int_disk_file_ [v1] (σ.bump 10) fun v2 σ3 =>
callW PG n_slices_Sorted_int_ [v2] σ3 fun v4 σ5 =>
Q v4 σ5)
theorem ok_disk_Disk_Files {a0 σ Q} (h : σ.Live → F_disk_Disk_Files a0 σ Q) : ACalls PG n_disk_Disk_Files [a0] σ Q :=
  .of_sem [none, none, none, none, none] [] mixed (by kernel_rfl) (by kernel_rfl) h
/-! (*vitrine/disk.Disk).Size -/
def F_disk_Disk_Size_j1 (Q : AV → Mem → Prop) (v1 : Int) (σ2 : Mem) : Prop :=
Q (.int .i64 v1) (σ2.bump 2)
def F_disk_Disk_Size_l1 (σ : Mem) (k3 : Int → Mem → Prop) (next7 : Int → Mem → Prop) (v8 : Int) (σ9 : Mem) : Prop :=
nextMW (σ9.bump 2) (.ptr (σ.next + 8) 0) fun v10 σ11 =>
tpB v10 0 fun v12 =>
ifB v12 (
entMW (σ11.bump 4) (.ptr (σ.next + 8) 0) fun v13 =>
tupW v13 1 fun v14 =>
newW (σ11.bump 4) (σ11.next + 2) (.rw [.str ⟨#[]⟩, .int .i64 0]) fun σ15 =>
stW 2 σ15 (.ptr (σ11.next + 2) 0) v14 fun σ16 =>
fldW 0 (.ptr (σ11.next + 2) 0) fun v17 =>
ldS (σ16.bump 6) v17 fun v18 =>
iW (v8 + (v18.size : Int)) fun v19 =>
next7 v19 (σ16.bump 6)) (
k3 v8 σ11)
def F_disk_Disk_Size (a0 : AV) (σ : Mem) (Q : AV → Mem → Prop) : Prop :=
eqW .ptr a0 .nilp fun v0 =>
joinF [tI] (fun (k3 : Int → Mem → Prop) =>
ifB (!v0) (
lfW 0 (σ.bump 9) a0 fun v4 =>
rangeMW (σ.bump 9) v4 fun q5 =>
newW (σ.bump 9) (σ.next + 8) q5 fun σ6 =>
loopF [tI] (F_disk_Disk_Size_l1 σ k3) 0 σ6) (
k3 0 (σ.bump 4))) (F_disk_Disk_Size_j1 Q)
theorem ok_disk_Disk_Size {a0 σ Q} (h : σ.Live → F_disk_Disk_Size a0 σ Q) : ACalls PG n_disk_Disk_Size [a0] σ Q :=
  .of_sem [none, none, none, some ([], [3]), none, none, some ([12], [3]), none, none, none, none, none, none] [(3, tI), (14, .b), (19, .s)] mixed (by kernel_rfl) (by kernel_rfl) h
/-! (*vitrine/disk.Disk).Steps -/
/-! (*vitrine/disk.Disk).wrong -/
def F_disk_Disk_wrong (a0 : AV) (a1 : Int) (σ : Mem) (Q : AV → Mem → Prop) : Prop :=
eqW .ptr a0 .nilp fun v0 =>
ifB v0 (
Q (.int .i64 2) (σ.bump 5)) (
lfB 3 (σ.bump 9) a0 fun v1 =>
ifB v1 (
Q (.int .i64 50) (σ.bump 10)) (
ifB (decide (a1 < 0)) (
Q (.int .i64 1) (σ.bump 17)) (
ifB (decide (65536 ≤ a1)) (
Q (.int .i64 1) (σ.bump 17)) (
Q (.int .i64 0) (σ.bump 17)))))
theorem ok_disk_Disk_wrong {a0 a1 σ Q} (h : σ.Live → F_disk_Disk_wrong a0 a1 σ Q) : ACalls PG n_disk_Disk_wrong [a0, .int .i64 a1] σ Q :=
  .of_sem [none, none, none, none, none, none, none, none, none, none, none, none] [(12, .b)] mixed (by kernel_rfl) (by kernel_rfl) h
/-! (*vitrine/disk.Disk).step -/
def F_disk_Disk_step_j1 (a0 : AV) (Q : AV → Mem → Prop) (σ5 : Mem) : Prop :=
lfB 3 (σ5.bump 4) a0 fun v6 =>
ifB v6 (
Q (.int .i64 50) (σ5.bump 5)) (
Q (.int .i64 0) (σ5.bump 5))
def F_disk_Disk_step (a0 : AV) (σ : Mem) (Q : AV → Mem → Prop) : Prop :=
lfI 4 (σ.bump 9) a0 fun v0 =>
iW (v0 + 1) fun v1 =>
nfW 4 a0 fun v2 =>
stW 1 (σ.bump 9) v2 (.int .i64 v1) fun σ3 =>
lfI 2 (σ3.bump 5) a0 fun v4 =>
joinF [] (fun (k7 : Mem → Prop) =>
ifB (decide (0 < v4)) (
lfI 2 (σ3.bump 13) a0 fun v8 =>
iW (v8 - 1) fun v9 =>
nfW 2 a0 fun v10 =>
stW 1 (σ3.bump 13) v10 (.int .i64 v9) fun σ11 =>
lfI 2 (σ11.bump 9) a0 fun v12 =>
nfW 3 a0 fun v13 =>
stW 1 (σ11.bump 9) v13 (.bool (decide (v12 = 0))) fun σ14 =>
k7 σ14) (
k7 (σ3.bump 5))) (F_disk_Disk_step_j1 a0 Q)
theorem ok_disk_Disk_step {a0 σ Q} (h : σ.Live → F_disk_Disk_step a0 σ Q) : ACalls PG n_disk_Disk_step [a0] σ Q :=
  .of_sem [none, none, none, some ([0], []), none, none, none, none, none, none] [(6, tI), (13, tI), (18, tI), (26, tI), (33, .b)] mixed (by kernel_rfl) (by kernel_rfl) h
/-! (*vitrine/disk.Disk).change -/
def F_disk_Disk_change_j1 (Q : AV → Mem → Prop) (σ9 : Mem) : Prop :=
Q (.int .i64 0) (σ9.bump 1)
def F_disk_Disk_change (a0 : AV) (a1 : Int) (a2 : AV) (σ : Mem) (Q : AV → Mem → Prop) : Prop :=
callW PG n_disk_Disk_step [a0] (σ.bump 4) fun v0 σ1 =>
castI .i64 v0 fun v2 =>
ifB (decide (v2 ≠ 0)) (
Q (.int .i64 v2) (σ1.bump 4)) (
lfW 0 (σ1.bump 14) a0 fun v3 =>
lookW (σ1.bump 14) (.agg [.str ⟨#[]⟩, .int .i64 0]) true v3 (.int .i64 a1) fun v4 =>
tupW v4 0 fun v5 =>
tpB v4 1 fun v6 =>
newW (σ1.bump 14) (σ1.next + 11) (.rw [.str ⟨#[]⟩, .int .i64 0]) fun σ7 =>
stW 2 σ7 (.ptr (σ1.next + 11) 0) v5 fun σ8 =>
joinF [] (fun (k10 : Mem → Prop) =>
ifB v6 (
ldnW 2 (σ8.bump 4) (.ptr (σ1.next + 11) 0) fun v11 =>
callvW PG a2 [v11] (σ8.bump 4) fun v12 σ13 =>
k10 σ13) (
k10 (σ8.bump 1))) (F_disk_Disk_change_j1 Q))
theorem ok_disk_Disk_change {a0 a1 a2 σ Q} (h : σ.Live → F_disk_Disk_change a0 a1 a2 σ Q) : ACalls PG n_disk_Disk_change [a0, .int .i64 a1, a2] σ Q :=
  .of_sem [none, none, none, none, none, none, none, some ([], []), none, none] [(11, tI), (23, .b)] mixed (by kernel_rfl) (by kernel_rfl) h
/-! (*vitrine/disk.Disk).Sync$1 -/
def F_disk_Disk_Sync_1 (a0 : AV) (a1 : AV) (a2 : AV) (σ : Mem) (Q : AV → Mem → Prop) : Prop :=
boxW a0 (
newW (σ.bump 1) σ.next (.rw a0.cells) fun σ0 =>
ldW (σ0.bump 12) a1 fun v1 =>
lfW 0 (σ0.bump 12) v1 fun v2 =>
ldI (σ0.bump 12) a2 fun v3 =>
fldW 0 (.ptr σ.next 0) fun v4 =>
ldS (σ0.bump 12) v4 fun v5 =>
fldW 0 (.ptr σ.next 0) fun v6 =>
ldS (σ0.bump 12) v6 fun v7 =>
mupW (σ0.bump 12) v2 (.int .i64 v3) (.agg [.str v5, .int .i64 (v7.size : Int)]) fun σ8 =>
Q (.tup []) σ8)
theorem ok_disk_Disk_Sync_1 {a0 a1 a2 σ Q} (h : σ.Live → F_disk_Disk_Sync_1 a0 a1 a2 σ Q) : ACalls PG n_disk_Disk_Sync_1 [a0, a1, a2] σ Q :=
  .of_sem [none, none] [(8, tI), (10, .s), (12, .s)] mixed (by kernel_rfl) (by kernel_rfl) h
/-! (*vitrine/disk.Disk).Cut$1 -/
/-! (*vitrine/disk.Disk).Drop$1 -/
/-! slices.Sorted[int] -/
def F_slices_Sorted_int_ (a0 : AV) (σ : Mem) (Q : AV → Mem → Prop) : Prop :=
callW PG n_slices_Collect_int_ [a0] (σ.bump 4) fun v0 σ1 =>
callW PG n_slices_Sort___int_int_ [v0] (σ1.bump 2) fun v2 σ3 =>
Q v0 (σ3.bump 2)
theorem ok_slices_Sorted_int_ {a0 σ Q} (h : σ.Live → F_slices_Sorted_int_ a0 σ Q) : ACalls PG n_slices_Sorted_int_ [a0] σ Q :=
  .of_sem [none, none, none, none] [] mixed (by kernel_rfl) (by kernel_rfl) h
/-! maps.Keys[map[int]vitrine/disk.file,int,vitrine/disk.file] -/
def F_maps_Keys_map_int_disk_file_int_disk_file_ (a0 : AV) (σ : Mem) (Q : AV → Mem → Prop) : Prop :=
boxW a0 (
newW (σ.bump 2) σ.next (.rw a0.cells) fun σ0 =>
Q (.func n_maps_Keys_map_int_disk_file_int_disk_file__1 [.ptr σ.next 0]) (σ0.bump 2))
theorem ok_maps_Keys_map_int_disk_file_int_disk_file_ {a0 σ Q} (h : σ.Live → F_maps_Keys_map_int_disk_file_int_disk_file_ a0 σ Q) : ACalls PG n_maps_Keys_map_int_disk_file_int_disk_file_ [a0] σ Q :=
  .of_sem [none, none] [] mixed (by kernel_rfl) (by kernel_rfl) h
/-! slices.Collect[int] -/
def F_slices_Collect_int_ (a0 : AV) (σ : Mem) (Q : AV → Mem → Prop) : Prop :=
callW PG n_slices_AppendSeq___int_int_ [.nils, a0] (σ.bump 4) fun v0 σ1 =>
Q v0 σ1
theorem ok_slices_Collect_int_ {a0 σ Q} (h : σ.Live → F_slices_Collect_int_ a0 σ Q) : ACalls PG n_slices_Collect_int_ [a0] σ Q :=
  .of_sem [none, none] [] mixed (by kernel_rfl) (by kernel_rfl) h
/-! slices.Sort[[]int,int] -/
def F_slices_Sort___int_int_ (a0 : AV) (σ : Mem) (Q : AV → Mem → Prop) : Prop :=
slenW a0 fun v0 =>
wrW .u64 v0 fun v1 =>
callW PG n_math_bits_Len [.int .u64 v1] (σ.bump 9) fun v2 σ3 =>
castI .i64 v2 fun v4 =>
callW PG n_slices_pdqsortOrdered_int_ [a0, .int .i64 0, .int .i64 v0, .int .i64 v4] σ3 fun v5 σ6 =>
Q (.tup []) σ6
theorem ok_slices_Sort___int_int_ {a0 σ Q} (h : σ.Live → F_slices_Sort___int_int_ a0 σ Q) : ACalls PG n_slices_Sort___int_int_ [a0] σ Q :=
  .of_sem [none, none] [(9, tI)] mixed (by kernel_rfl) (by kernel_rfl) h
/-! maps.Keys[map[int]vitrine/disk.file,int,vitrine/disk.file]$1 -/
def F_maps_Keys_map_int_disk_file_int_disk_file__1_l1 (Y : YEnv) (a0 : AV) (Q : AV → Mem → Prop) (σ : Mem) (next3 : Mem → Prop) (σ4 : Mem) : Prop :=
nextMW (σ4.bump 2) (.ptr (σ.next + 1) 0) fun v5 σ6 =>
tpB v5 0 fun v7 =>
ifB v7 (
entMW (σ6.bump 3) (.ptr (σ.next + 1) 0) fun v8 =>
tpI v8 0 fun v9 =>
callvY PG Y a0 [.int .i64 v9] (σ6.bump 7) fun v10 σ11 =>
castB v10 fun v12 =>
ifB (!v12) (
Q (.tup []) σ11) (
next3 σ11)) (
Q (.tup []) σ6)
def F_maps_Keys_map_int_disk_file_int_disk_file__1 (Y : YEnv) (a0 : AV) (a1 : AV) (σ : Mem) (Q : AV → Mem → Prop) : Prop :=
ldW (σ.bump 2) a1 fun v0 =>
rangeMW (σ.bump 2) v0 fun q1 =>
newW (σ.bump 2) (σ.next + 1) q1 fun σ2 =>
loopF [] (F_maps_Keys_map_int_disk_file_int_disk_file__1_l1 Y a0 Q σ) σ2
theorem ok_maps_Keys_map_int_disk_file_int_disk_file__1 {Y : YEnv} {a0 a1 σ Q} (h : σ.Live → F_maps_Keys_map_int_disk_file_int_disk_file__1 Y a0 a1 σ Q) : ACallsY PG Y n_maps_Keys_map_int_disk_file_int_disk_file__1 [a0, a1] σ Q :=
  .of_sem [none, none, some ([0, 5], []), none, none, none, none, none, none] [(7, .b), (9, tI), (12, .b)] mixed (by kernel_rfl) (by kernel_rfl) h
/-! slices.AppendSeq[[]int,int] -/
def F_slices_AppendSeq___int_int_ (a0 : AV) (a1 : AV) (σ : Mem) (Q : AV → Mem → Prop) : Prop :=
boxW a0 (
newW (σ.bump 2) σ.next (.rw a0.cells) fun σ0 =>
rangeW PG a1 (fun args1 σ2 k3 =>
arg1W args1 fun v4 =>
ldW (σ2.bump 6) (.ptr σ.next 0) fun v5 =>
cellOkW v4 1 (
newW (σ2.bump 6) (σ2.next + 3) (.rw (setAt [.int .i64 0] 0 v4.cells)) fun σ6 =>
apW 1 8 (σ2.next + 4) σ6 v5 (.slice (σ2.next + 3) 0 1 (.ex 1)) fun v7 σ8 =>
stW 1 σ8 (.ptr σ.next 0) v7 fun σ9 =>
k3 (.bool true) σ9)) (σ0.bump 1) fun σ10 =>
ldW (σ10.bump 2) (.ptr σ.next 0) fun v11 =>
Q v11 (σ10.bump 2))
theorem ok_slices_AppendSeq___int_int_ {a0 a1 σ Q} (h : σ.Live → F_slices_AppendSeq___int_int_ a0 a1 σ Q) : ACalls PG n_slices_AppendSeq___int_int_ [a0, a1] σ Q :=
  .of_sem [none, none, none, none, none, none, none] [] mixed (by kernel_rfl) (by kernel_rfl) h
/-! math/bits.Len -/
/-! slices.insertionSortOrdered[int] -/
def F_slices_insertionSortOrdered_int__j1 (next1 : Int → Mem → Prop) (v2 : Int) (σ4 : Mem) : Prop :=
iW (v2 + 1) fun v5 =>
next1 v5 (σ4.bump 3)
def F_slices_insertionSortOrdered_int__l2 (a0 : AV) (a1 : Int) (k6 : Mem → Prop) (next7 : Int → Mem → Prop) (v8 : Int) (σ9 : Mem) : Prop :=
ifB (decide (a1 < v8)) (
idxW 1 a0 v8 fun v10 =>
ldI (σ9.bump 15) v10 fun v11 =>
iW (v8 - 1) fun v12 =>
idxW 1 a0 v12 fun v13 =>
ldI (σ9.bump 15) v13 fun v14 =>
callW PG n_cmp_Less_int_ [.int .i64 v11, .int .i64 v14] (σ9.bump 15) fun v15 σ16 =>
castB v15 fun v17 =>
ifB v17 (
iW (v8 - 1) fun v18 =>
iW (v8 - 1) fun v19 =>
idxW 1 a0 v19 fun v20 =>
ldI (σ16.bump 18) v20 fun v21 =>
idxW 1 a0 v8 fun v22 =>
ldI (σ16.bump 18) v22 fun v23 =>
idxW 1 a0 v8 fun v24 =>
stW 1 (σ16.bump 18) v24 (.int .i64 v21) fun σ25 =>
idxW 1 a0 v18 fun v26 =>
stW 1 σ25 v26 (.int .i64 v23) fun σ27 =>
iW (v8 - 1) fun v28 =>
next7 v28 (σ27.bump 3)) (
k6 σ16)) (
k6 (σ9.bump 15))
def F_slices_insertionSortOrdered_int__l1 (a0 : AV) (a1 : Int) (a2 : Int) (Q : AV → Mem → Prop) (next1 : Int → Mem → Prop) (v2 : Int) (σ3 : Mem) : Prop :=
ifB (decide (v2 < a2)) (
joinF [] (fun (k6 : Mem → Prop) =>
loopF [tI] (F_slices_insertionSortOrdered_int__l2 a0 a1 k6) v2 (σ3.bump 5)) (F_slices_insertionSortOrdered_int__j1 next1 v2)) (
Q (.tup []) (σ3.bump 3))
def F_slices_insertionSortOrdered_int_ (a0 : AV) (a1 : Int) (a2 : Int) (σ : Mem) (Q : AV → Mem → Prop) : Prop :=
iW (a1 + 1) fun v0 =>
loopF [tI] (F_slices_insertionSortOrdered_int__l1 a0 a1 a2 Q) v0 (σ.bump 3)
theorem ok_slices_insertionSortOrdered_int_ {a0 a1 a2 σ Q} (h : σ.Live → F_slices_insertionSortOrdered_int_ a0 a1 a2 σ Q) : ACalls PG n_slices_insertionSortOrdered_int_ [a0, .int .i64 a1, .int .i64 a2] σ Q :=
  .of_sem [none, none, some ([0, 1, 2], [6]), none, none, none, none, some ([0, 1, 2, 6], []), some ([0, 1, 2, 6], [7]), none, none, none, none, none, none] [(6, tI), (7, tI), (23, tI), (28, tI), (29, .b), (42, tI), (46, tI)] mixed (by kernel_rfl) (by kernel_rfl) h
/-! cmp.Less[int] -/
def F_cmp_Less_int_ (a0 : Int) (a1 : Int) (σ : Mem) (Q : AV → Mem → Prop) : Prop :=
callW PG n_cmp_isNaN_int_ [.int .i64 a0] (σ.bump 14) fun v0 σ1 =>
castB v0 fun v2 =>
ifB v2 (
callW PG n_cmp_isNaN_int_ [.int .i64 a1] σ1 fun v3 σ4 =>
castB v3 fun v5 =>
ifB (!v5) (
Q (.bool true) σ4) (
Q (.bool (decide (a0 < a1))) σ4)) (
Q (.bool (decide (a0 < a1))) σ1)
theorem ok_cmp_Less_int_ {a0 a1 σ Q} (h : σ.Live → F_cmp_Less_int_ a0 a1 σ Q) : ACalls PG n_cmp_Less_int_ [.int .i64 a0, .int .i64 a1] σ Q :=
  .of_sem [none, none] [(6, .b), (9, .b)] mixed (by kernel_rfl) (by kernel_rfl) h
/-! math/bits.Len32 -/
/-! math/bits.Len64 -/
/-! cmp.isNaN[int] -/
def F_cmp_isNaN_int_ (a0 : Int) (σ : Mem) (Q : AV → Mem → Prop) : Prop :=
Q (.bool (decide (a0 ≠ a0))) (σ.bump 5)
theorem ok_cmp_isNaN_int_ {a0 σ Q} (h : σ.Live → F_cmp_isNaN_int_ a0 σ Q) : ACalls PG n_cmp_isNaN_int_ [.int .i64 a0] σ Q :=
  .of_sem [none, none] [] mixed (by kernel_rfl) (by kernel_rfl) h
end Go.Vit
