/- The functions, as printed conditions. -/
import Derived.Test.YtgdaiahnceaieaaVm2
import Derived.Test.YtgdaiahnceaieaaChecked
import Derived.KernelRfl
set_option linter.unusedVariables false
set_option linter.unusedSimpArgs false
set_option linter.unusedVariables false
set_option maxRecDepth 100000
namespace Go.Vit
open Go.Proofs
noncomputable abbrev PG : Program := Try.prog
theorem mixed : PG.follows .mixedOrders = true := by kernel_rfl
abbrev n_law17_SeglogFrames : Nat := 4
abbrev n_law17_awake : Nat := 9
abbrev n_disk_New : Nat := 10
abbrev n_seglog_Open : Nat := 11
abbrev n_seglog_Log_Append : Nat := 12
abbrev n_law17_texts : Nat := 14
abbrev n_disk_Disk_Size : Nat := 15
abbrev n_disk_Disk_Files : Nat := 16
abbrev n_disk_Disk_Cut : Nat := 17
abbrev n_disk_Disk_Append : Nat := 29
abbrev n_disk_Disk_Dead : Nat := 34
abbrev n_disk_Disk_Read : Nat := 37
abbrev n_seglog_newest : Nat := 39
abbrev n_seglog_Log_tidy : Nat := 40
abbrev n_seglog_Log_wrong : Nat := 41
abbrev n_seglog_frames : Nat := 42
abbrev n_seglog_big : Nat := 43
abbrev n_seglog_Log_told : Nat := 44
abbrev n_disk_Disk_Sync : Nat := 45
abbrev n_disk_Disk_Drop : Nat := 46
abbrev n_slices_Sorted_int_ : Nat := 47
abbrev n_maps_Keys_map_int_disk_file_int_disk_file_ : Nat := 48
abbrev n_disk_Disk_wrong : Nat := 49
abbrev n_disk_Disk_change : Nat := 50
abbrev n_disk_Disk_Cut_1 : Nat := 51
abbrev n_disk_Disk_step : Nat := 61
abbrev n_slices_Reverse___int_int_ : Nat := 65
abbrev n_seglog_found : Nat := 66
abbrev n_slices_ContainsFunc___string_string_ : Nat := 67
abbrev n_seglog_Log_wrong_1 : Nat := 68
abbrev n_strings_Builder_WriteString : Nat := 69
abbrev n_bits_Crc : Nat := 70
abbrev n_strings_Builder_String : Nat := 71
abbrev n_disk_Disk_Sync_1 : Nat := 72
abbrev n_disk_Disk_Drop_1 : Nat := 73
abbrev n_slices_Collect_int_ : Nat := 74
abbrev n_slices_Sort___int_int_ : Nat := 75
abbrev n_maps_Keys_map_int_disk_file_int_disk_file__1 : Nat := 76
abbrev n_seglog_next : Nat := 80
abbrev n_seglog_number : Nat := 81
abbrev n_slices_IndexFunc___string_string_ : Nat := 82
abbrev n_slices_AppendSeq___int_int_ : Nat := 84
abbrev n_slices_pdqsortOrdered_int_ : Nat := 85
abbrev n_math_bits_Len : Nat := 86
abbrev n_slices_insertionSortOrdered_int_ : Nat := 88
abbrev n_slices_heapSortOrdered_int_ : Nat := 89
abbrev n_slices_breakPatternsOrdered_int_ : Nat := 90
abbrev n_slices_choosePivotOrdered_int_ : Nat := 91
abbrev n_slices_reverseRangeOrdered_int_ : Nat := 92
abbrev n_slices_partialInsertionSortOrdered_int_ : Nat := 93
abbrev n_cmp_Less_int_ : Nat := 94
abbrev n_slices_partitionEqualOrdered_int_ : Nat := 95
abbrev n_slices_partitionOrdered_int_ : Nat := 96
abbrev n_cmp_isNaN_int_ : Nat := 104
/-! vitrine/vitrinelaw17.SeglogKeeps -/
/-! vitrine/vitrinelaw17.SeglogFrames -/
def F_law17_SeglogFrames (a0 : ByteArray) (a1 : Int) (σ : Mem) (Q : AV → Mem → Prop) : Prop :=
ifB (decide ((a0.size : Int) < 1)) (
callW PG n_law17_awake [] (σ.bump 11) fun v0 σ1 =>
castB v0 fun v2 =>
Q (.bool v2) σ1) (
ifB (decide (2000 < (a0.size : Int))) (
callW PG n_law17_awake [] (σ.bump 11) fun v3 σ4 =>
castB v3 fun v5 =>
Q (.bool v5) σ4) (
callW PG n_disk_New [.int .i64 10000] (σ.bump 15) fun v6 σ7 =>
tupW v6 0 fun v8 =>
tpI v6 1 fun v9 =>
callW PG n_seglog_Open [v8] (σ7.bump 9) fun v10 σ11 =>
tupW v10 0 fun v12 =>
tupW v10 1 fun v13 =>
tpI v10 2 fun v14 =>
ifB (decide (v9 ≠ 0)) (
Q (.bool false) (σ11.bump 32)) (
ifB (decide (v14 ≠ 0)) (
Q (.bool false) (σ11.bump 32)) (
eqW .ptr v12 .nilp fun v15 =>
ifB v15 (
Q (.bool false) (σ11.bump 32)) (
newW (σ11.bump 31) (σ11.next + 12) (.rw [.str ⟨#[102, 105, 114, 115, 116]⟩]) fun σ16 =>
callW PG n_seglog_Log_Append [v12, .slice (σ11.next + 12) 0 1 (.ex 1)] σ16 fun v17 σ18 =>
castI .i64 v17 fun v19 =>
ifB (decide (v19 ≠ 0)) (
Q (.bool false) (σ18.bump 1)) (
newW σ18 (σ11.next + 19) (.rw [.str a0]) fun σ20 =>
callW PG n_seglog_Log_Append [v12, .slice (σ11.next + 19) 0 1 (.ex 1)] σ20 fun v21 σ22 =>
castI .i64 v21 fun v23 =>
ifB (decide (v23 ≠ 0)) (
Q (.bool false) (σ22.bump 1)) (
callW PG n_disk_Disk_Size [v8] σ22 fun v24 σ25 =>
castI .i64 v24 fun v26 =>
iW (33 + (a0.size : Int)) fun v27 =>
ifB (decide (v26 ≠ v27)) (
Q (.bool false) (σ25.bump 1)) (
iW (8 + (a0.size : Int)) fun v28 =>
remW a1 v28 fun v29 =>
iW (v29 + 8) fun v30 =>
iW (v30 + (a0.size : Int)) fun v31 =>
iW (8 + (a0.size : Int)) fun v32 =>
remW v31 v32 fun v33 =>
iW (25 + v33) fun v34 =>
callW PG n_disk_Disk_Cut [v8, .int .i64 0, .int .i64 v34] (σ25.bump 19) fun v35 σ36 =>
castI .i64 v35 fun v37 =>
ifB (decide (v37 ≠ 0)) (
Q (.bool false) (σ36.bump 1)) (
callW PG n_seglog_Open [v8] (σ36.bump 9) fun v38 σ39 =>
tupW v38 0 fun v40 =>
tupW v38 1 fun v41 =>
tpI v38 2 fun v42 =>
ifB (decide (v42 = 0)) (
newW (σ39.bump 16) (σ39.next + 4) (.rw [.str ⟨#[102, 105, 114, 115, 116]⟩]) fun σ43 =>
callW PG n_law17_texts [v41, .slice (σ39.next + 4) 0 1 (.ex 1)] σ43 fun v44 σ45 =>
castB v44 fun v46 =>
ifB v46 (
callW PG n_disk_Disk_Size [v8] σ45 fun v47 σ48 =>
castI .i64 v47 fun v49 =>
ifB (decide (v49 = 25)) (
callW PG n_law17_awake [] σ48 fun v50 σ51 =>
castB v50 fun v52 =>
Q (.bool v52) σ51) (
Q (.bool false) σ48)) (
Q (.bool false) σ45)) (
Q (.bool false) (σ39.bump 16)))))))))))
theorem ok_law17_SeglogFrames {a0 a1 σ Q} (h : σ.Live → F_law17_SeglogFrames a0 a1 σ Q) : ACalls PG n_law17_SeglogFrames [.str a0, .int .i64 a1] σ Q :=
  .of_sem [none, none, none, none, none, none, none, none, none, none, none, none, none, none, none] [(22, .b), (26, tI), (32, tI), (46, tI), (53, tI), (58, tI), (80, tI), (87, tI), (93, .b), (97, tI), (101, .b)] mixed (by kernel_rfl) (by kernel_rfl) h
/-! vitrine/vitrinelaw17.SeglogNil -/
/-! vitrine/vitrinelaw17.few -/
/-! vitrine/vitrinelaw17.awake -/
/-! vitrine/disk.New -/
def F_disk_New (a0 : Int) (σ : Mem) (Q : AV → Mem → Prop) : Prop :=
ifB (decide (a0 < 1)) (
Q (.tup [.nilp, .int .i64 1]) (σ.bump 10)) (
ifB (decide (16777216 < a0)) (
Q (.tup [.nilp, .int .i64 1]) (σ.bump 10)) (
newW (σ.bump 14) (σ.next + 8) (.map [] 0) fun σ0 =>
boxW (.agg [.map (σ.next + 8), .int .i64 a0, .int .i64 0, .bool false, .int .i64 0]) (
newW σ0 (σ.next + 11) (.rw [.map (σ.next + 8), .int .i64 a0, .int .i64 0, .bool false, .int .i64 0]) fun σ1 =>
Q (.tup [.ptr (σ.next + 11) 0, .int .i64 0]) σ1)))
theorem ok_disk_New {a0 σ Q} (h : σ.Live → F_disk_New a0 σ Q) : ACalls PG n_disk_New [.int .i64 a0] σ Q :=
  .of_sem [none, none, none, none, none] [] mixed (by kernel_rfl) (by kernel_rfl) h
/-! vitrine/seglog.Open -/
def F_seglog_Open (a0 : AV) (σ : Mem) (Q : AV → Mem → Prop) : Prop :=
eqW .ptr a0 .nilp fun v0 =>
ifB v0 (
Q (.tup [.nilp, .nils, .int .i64 2]) (σ.bump 9)) (
callW PG n_disk_Disk_Dead [a0] (σ.bump 9) fun v1 σ2 =>
castB v1 fun v3 =>
ifB v3 (
Q (.tup [.nilp, .nils, .int .i64 50]) (σ2.bump 3)) (
callW PG n_seglog_newest [a0] (σ2.bump 11) fun v4 σ5 =>
tupW v4 0 fun v6 =>
tupW v4 1 fun v7 =>
tpI v4 2 fun v8 =>
tpI v4 3 fun v9 =>
ifB (decide (v9 ≠ 0)) (
Q (.tup [.nilp, .nils, .int .i64 v9]) (σ5.bump 6)) (
callW PG n_seglog_Log_tidy [v6, .int .i64 v8] (σ5.bump 6) fun v10 σ11 =>
castI .i64 v10 fun v12 =>
ifB (decide (v12 ≠ 0)) (
Q (.tup [.nilp, .nils, .int .i64 v12]) (σ11.bump 6)) (
Q (.tup [v6, v7, .int .i64 0]) (σ11.bump 7)))))
theorem ok_seglog_Open {a0 σ Q} (h : σ.Live → F_seglog_Open a0 σ Q) : ACalls PG n_seglog_Open [a0] σ Q :=
  .of_sem [none, none, none, none, none, none, none, none, none, none, none, none, none, none, none, none, none] [(15, .b), (21, tI), (22, tI), (28, tI)] mixed (by kernel_rfl) (by kernel_rfl) h
/-! (*vitrine/seglog.Log).Append -/
def F_seglog_Log_Append_j2 (Q : AV → Mem → Prop) (v17 : Int) (σ18 : Mem) : Prop :=
Q (.int .i64 v17) (σ18.bump 2)
def F_seglog_Log_Append_j1 (a0 : AV) (Q : AV → Mem → Prop) (v8 : ByteArray) (σ9 : Mem) : Prop :=
lfW 0 (σ9.bump 13) a0 fun v10 =>
lfI 1 (σ9.bump 13) a0 fun v11 =>
callW PG n_disk_Disk_Append [v10, .int .i64 v11, .str v8] (σ9.bump 13) fun v12 σ13 =>
castI .i64 v12 fun v14 =>
callW PG n_seglog_Log_told [a0, .int .i64 v14] σ13 fun v15 σ16 =>
castI .i64 v15 fun v17 =>
joinF [] (fun (k19 : Mem → Prop) =>
lfB 2 (σ16.bump 12) a0 fun v20 =>
ifB v20 (
nfW 2 a0 fun v21 =>
stW 1 (σ16.bump 12) v21 (.bool true) fun σ22 =>
k19 σ22) (
nfW 2 a0 fun v23 =>
stW 1 (σ16.bump 12) v23 (.bool (decide (v17 = 0))) fun σ24 =>
k19 σ24)) (F_seglog_Log_Append_j2 Q v17)
def F_seglog_Log_Append (a0 : AV) (a1 : AV) (σ : Mem) (Q : AV → Mem → Prop) : Prop :=
callW PG n_seglog_Log_wrong [a0, a1] (σ.bump 5) fun v0 σ1 =>
castI .i64 v0 fun v2 =>
ifB (decide (v2 ≠ 0)) (
Q (.int .i64 v2) (σ1.bump 9)) (
slenW a1 fun v3 =>
ifB (decide (v3 = 0)) (
Q (.int .i64 v2) (σ1.bump 9)) (
callW PG n_seglog_frames [a1] (σ1.bump 10) fun v4 σ5 =>
castS v4 fun v6 =>
lfB 2 (σ5.bump 5) a0 fun v7 =>
joinF [.s] (fun (k25 : ByteArray → Mem → Prop) =>
ifB (!v7) (
callW PG n_seglog_big [.int .i64 0] (σ5.bump 11) fun v26 σ27 =>
castS v26 fun v28 =>
newW σ27 (σ5.next + 6) (.rw [.str v28]) fun σ29 =>
callW PG n_seglog_frames [.slice (σ5.next + 6) 0 1 (.ex 1)] σ29 fun v30 σ31 =>
castS v30 fun v32 =>
catW v32 v6 fun v33 =>
k25 v33 σ31) (
k25 v6 (σ5.bump 5))) (F_seglog_Log_Append_j1 a0 Q)))
theorem ok_seglog_Log_Append {a0 a1 σ Q} (h : σ.Live → F_seglog_Log_Append a0 a1 σ Q) : ACalls PG n_seglog_Log_Append [a0, a1] σ Q :=
  .of_sem [none, none, none, none, none, none, none, some ([0], [6]), none, none, some ([7], []), none] [(10, tI), (20, .s), (6, .s), (24, .b), (26, .s), (28, .s), (39, tI), (41, tI), (42, tI), (47, .b)] mixed (by kernel_rfl) (by kernel_rfl) h
/-! (*vitrine/seglog.Log).Compact -/
/-! vitrine/vitrinelaw17.texts -/
def F_law17_texts_l1 (a0 : AV) (a1 : AV) (Q : AV → Mem → Prop) (next2 : Int → Mem → Prop) (v3 : Int) (σ4 : Mem) : Prop :=
slenW a0 fun v5 =>
ifB (decide (v3 < v5)) (
idxW 1 a0 v3 fun v6 =>
ldS (σ4.bump 13) v6 fun v7 =>
idxW 1 a1 v3 fun v8 =>
ldS (σ4.bump 13) v8 fun v9 =>
ifB (decide (v7 ≠ v9)) (
Q (.bool false) (σ4.bump 14)) (
iW (v3 + 1) fun v10 =>
next2 v10 (σ4.bump 16))) (
Q (.bool true) (σ4.bump 5))
def F_law17_texts (a0 : AV) (a1 : AV) (σ : Mem) (Q : AV → Mem → Prop) : Prop :=
slenW a0 fun v0 =>
slenW a1 fun v1 =>
ifB (decide (v0 ≠ v1)) (
Q (.bool false) (σ.bump 7)) (
loopF [tI] (F_law17_texts_l1 a0 a1 Q) 0 (σ.bump 7))
theorem ok_law17_texts {a0 a1 σ Q} (h : σ.Live → F_law17_texts a0 a1 σ Q) : ACalls PG n_law17_texts [a0, a1] σ Q :=
  .of_sem [none, none, none, none, none, none, some ([0, 1], [5]), none, none, none, none, none, none, none, none] [(5, tI), (20, .s), (24, .s)] mixed (by kernel_rfl) (by kernel_rfl) h
/-! (*vitrine/disk.Disk).Size -/
def F_disk_Disk_Size_j1 (Q : AV → Mem → Prop) (v1 : Int) (σ2 : Mem) : Prop :=
Q (.int .i64 v1) (σ2.bump 2)
def F_disk_Disk_Size_l1 (σ : Mem) (k3 : Int → Mem → Prop) (next7 : Int → Mem → Prop) (v8 : Int) (σ9 : Mem) : Prop :=
nextMW (σ9.bump 2) (.ptr (σ.next + 8) 0) fun v10 σ11 =>
tpB v10 0 fun v12 =>
ifB v12 (
entMW (σ11.bump 4) (.ptr (σ.next + 8) 0) fun v13 =>
tupW v13 1 fun v14 =>
newW (σ11.bump 4) (σ11.next + 2) (.rw [.str ⟨#[]⟩, .int .i64 0]) fun σ15 =>
stW 2 σ15 (.ptr (σ11.next + 2) 0) v14 fun σ16 =>
fldW 0 (.ptr (σ11.next + 2) 0) fun v17 =>
ldS (σ16.bump 6) v17 fun v18 =>
iW (v8 + (v18.size : Int)) fun v19 =>
next7 v19 (σ16.bump 6)) (
k3 v8 σ11)
def F_disk_Disk_Size (a0 : AV) (σ : Mem) (Q : AV → Mem → Prop) : Prop :=
eqW .ptr a0 .nilp fun v0 =>
joinF [tI] (fun (k3 : Int → Mem → Prop) =>
ifB (!v0) (
lfW 0 (σ.bump 9) a0 fun v4 =>
rangeMW (σ.bump 9) v4 fun q5 =>
newW (σ.bump 9) (σ.next + 8) q5 fun σ6 =>
loopF [tI] (F_disk_Disk_Size_l1 σ k3) 0 σ6) (
k3 0 (σ.bump 4))) (F_disk_Disk_Size_j1 Q)
theorem ok_disk_Disk_Size {a0 σ Q} (h : σ.Live → F_disk_Disk_Size a0 σ Q) : ACalls PG n_disk_Disk_Size [a0] σ Q :=
  .of_sem [none, none, none, some ([], [3]), none, none, some ([12], [3]), none, none, none, none, none, none] [(3, tI), (14, .b), (19, .s)] mixed (by kernel_rfl) (by kernel_rfl) h
/-! (*vitrine/disk.Disk).Files -/
def F_disk_Disk_Files (a0 : AV) (σ : Mem) (Q : AV → Mem → Prop) : Prop :=
eqW .ptr a0 .nilp fun v0 =>
ifB v0 (
Q .nils (σ.bump 4)) (
lfW 0 (σ.bump 10) a0 fun v1 =>
callW PG n_maps_Keys_map_int_disk_file_int_disk_file_ [v1] (σ.bump 10) fun v2 σ3 =>
callW PG n_slices_Sorted_int_ [v2] σ3 fun v4 σ5 =>
Q v4 σ5)
theorem ok_disk_Disk_Files {a0 σ Q} (h : σ.Live → F_disk_Disk_Files a0 σ Q) : ACalls PG n_disk_Disk_Files [a0] σ Q :=
  .of_sem [none, none, none, none, none] [] mixed (by kernel_rfl) (by kernel_rfl) h
/-! (*vitrine/disk.Disk).Cut -/
def F_disk_Disk_Cut (a0 : AV) (a1 : Int) (a2 : Int) (σ : Mem) (Q : AV → Mem → Prop) : Prop :=
boxW a0 (
newW (σ.bump 4) σ.next (.rw a0.cells) fun σ0 =>
newW σ0 (σ.next + 1) (.rw [.int .i64 a1]) fun σ1 =>
newW σ1 (σ.next + 2) (.rw [.int .i64 a2]) fun σ2 =>
ldW (σ2.bump 4) (.ptr σ.next 0) fun v3 =>
ldI (σ2.bump 4) (.ptr (σ.next + 1) 0) fun v4 =>
callW PG n_disk_Disk_wrong [v3, .int .i64 v4] (σ2.bump 4) fun v5 σ6 =>
castI .i64 v5 fun v7 =>
ifB (decide (v7 ≠ 0)) (
Q (.int .i64 v7) (σ6.bump 4)) (
ldI (σ6.bump 16) (.ptr (σ.next + 2) 0) fun v8 =>
ifB (decide (v8 < 0)) (
Q (.int .i64 1) (σ6.bump 17)) (
ldI (σ6.bump 16) (.ptr (σ.next + 2) 0) fun v9 =>
ldW (σ6.bump 16) (.ptr σ.next 0) fun v10 =>
nchkW v10 fun v11 =>
fldW 0 v11 fun v12 =>
ldW (σ6.bump 16) v12 fun v13 =>
ldI (σ6.bump 16) (.ptr (σ.next + 1) 0) fun v14 =>
lookW (σ6.bump 16) (.agg [.str ⟨#[]⟩, .int .i64 0]) false v13 (.int .i64 v14) fun v15 =>
aggW 0 none v15 fun a => castS a fun v16 =>
ifB (decide ((v16.size : Int) < v9)) (
Q (.int .i64 1) (σ6.bump 17)) (
ldW (σ6.bump 21) (.ptr σ.next 0) fun v17 =>
ldI (σ6.bump 21) (.ptr (σ.next + 1) 0) fun v18 =>
callW PG n_disk_Disk_change [v17, .int .i64 v18, .func n_disk_Disk_Cut_1 [.ptr (σ.next + 2) 0, .ptr σ.next 0, .ptr (σ.next + 1) 0]] (σ6.bump 21) fun v19 σ20 =>
castI .i64 v19 fun v21 =>
Q (.int .i64 v21) σ20))))
theorem ok_disk_Disk_Cut {a0 a1 a2 σ Q} (h : σ.Live → F_disk_Disk_Cut a0 a1 a2 σ Q) : ACalls PG n_disk_Disk_Cut [a0, .int .i64 a1, .int .i64 a2] σ Q :=
  .of_sem [none, none, none, none, none, none, none, none, none] [(9, tI), (10, tI), (14, tI), (17, tI), (22, tI), (24, .s), (29, tI), (31, tI)] mixed (by kernel_rfl) (by kernel_rfl) h
/-! (*vitrine/seglog.Log).Sync -/
/-! (*vitrine/disk.Disk).Arm -/
/-! (*vitrine/disk.Disk).Crash -/
/-! vitrine/vitrinelaw17.begins -/
/-! (*vitrine/disk.Disk).Append -/
def F_disk_Disk_Append (a0 : AV) (a1 : Int) (a2 : ByteArray) (σ : Mem) (Q : AV → Mem → Prop) : Prop :=
callW PG n_disk_Disk_wrong [a0, .int .i64 a1] (σ.bump 5) fun v0 σ1 =>
castI .i64 v0 fun v2 =>
ifB (decide (v2 ≠ 0)) (
Q (.int .i64 v2) (σ1.bump 4)) (
nfW 1 a0 fun v3 =>
ldI (σ1.bump 12) v3 fun v4 =>
callW PG n_disk_Disk_Size [a0] (σ1.bump 12) fun v5 σ6 =>
fltS.sameW (σ1.bump 12) σ6 v3 (
castI .i64 v5 fun v7 =>
iW (v7 + (a2.size : Int)) fun v8 =>
ifB (decide (v4 < v8)) (
Q (.int .i64 51) (σ6.bump 1)) (
lfW 0 (σ6.bump 8) a0 fun v9 =>
lookW (σ6.bump 8) (.agg [.str ⟨#[]⟩, .int .i64 0]) false v9 (.int .i64 a1) fun v10 =>
newW (σ6.bump 8) (σ6.next + 6) (.rw [.str ⟨#[]⟩, .int .i64 0]) fun σ11 =>
stW 2 σ11 (.ptr (σ6.next + 6) 0) v10 fun σ12 =>
fldW 0 (.ptr (σ6.next + 6) 0) fun v13 =>
ldS (σ12.bump 6) v13 fun v14 =>
catW v14 a2 fun v15 =>
fldW 0 (.ptr (σ6.next + 6) 0) fun v16 =>
stW 1 (σ12.bump 6) v16 (.str v15) fun σ17 =>
lfW 0 (σ17.bump 7) a0 fun v18 =>
ldnW 2 (σ17.bump 7) (.ptr (σ6.next + 6) 0) fun v19 =>
mupW (σ17.bump 7) v18 (.int .i64 a1) v19 fun σ20 =>
callW PG n_disk_Disk_step [a0] (σ20.bump 3) fun v21 σ22 =>
castI .i64 v21 fun v23 =>
Q (.int .i64 v23) σ22)))
theorem ok_disk_Disk_Append {a0 a1 a2 σ Q} (h : σ.Live → F_disk_Disk_Append a0 a1 a2 σ Q) : ACalls PG n_disk_Disk_Append [a0, .int .i64 a1, .str a2] σ Q :=
  .of_sem [none, none, none, none, none, none, none, none, none, none, none, none] [(11, tI), (16, tI), (23, tI), (32, .s), (43, tI)] mixed (by kernel_rfl) (by kernel_rfl) h
/-! (*vitrine/disk.Disk).Dead -/
def F_disk_Disk_Dead (a0 : AV) (σ : Mem) (Q : AV → Mem → Prop) : Prop :=
eqW .ptr a0 .nilp fun v0 =>
ifB (!v0) (
nchkW a0 fun v1 =>
fldW 3 v1 fun v2 =>
ldB (σ.bump 10) v2 fun v3 =>
Q (.bool v3) (σ.bump 10)) (
Q (.bool false) (σ.bump 10))
theorem ok_disk_Disk_Dead {a0 σ Q} (h : σ.Live → F_disk_Disk_Dead a0 σ Q) : ACalls PG n_disk_Disk_Dead [a0] σ Q :=
  .of_sem [none, none] [(9, .b)] mixed (by kernel_rfl) (by kernel_rfl) h
/-! (*vitrine/disk.Disk).Read -/
def F_disk_Disk_Read (a0 : AV) (a1 : Int) (σ : Mem) (Q : AV → Mem → Prop) : Prop :=
callW PG n_disk_Disk_wrong [a0, .int .i64 a1] (σ.bump 6) fun v0 σ1 =>
castI .i64 v0 fun v2 =>
ifB (decide (v2 ≠ 0)) (
Q (.tup [.str ⟨#[]⟩, .int .i64 v2]) (σ1.bump 5)) (
lfW 0 (σ1.bump 11) a0 fun v3 =>
lookW (σ1.bump 11) (.agg [.str ⟨#[]⟩, .int .i64 0]) false v3 (.int .i64 a1) fun v4 =>
aggW 0 none v4 fun a => castS a fun v5 =>
Q (.tup [.str v5, .int .i64 0]) (σ1.bump 11))
theorem ok_disk_Disk_Read {a0 a1 σ Q} (h : σ.Live → F_disk_Disk_Read a0 a1 σ Q) : ACalls PG n_disk_Disk_Read [a0, .int .i64 a1] σ Q :=
  .of_sem [none, none, none, none, none, none] [(9, tI), (19, .s)] mixed (by kernel_rfl) (by kernel_rfl) h
/-! vitrine/seglog.newest -/
def F_seglog_newest_l1 (a0 : AV) (Q : AV → Mem → Prop) (σ : Mem) (v1 : AV) (v5 : Int) (next6 : Int → Mem → Prop) (v7 : Int) (σ8 : Mem) : Prop :=
ifB (decide (v7 < v5)) (
idxW 1 v1 v7 fun v9 =>
ldI (σ8.bump 4) v9 fun v10 =>
callW PG n_disk_Disk_Read [a0, .int .i64 v10] (σ8.bump 12) fun v11 σ12 =>
tpS v11 0 fun v13 =>
tpI v11 1 fun v14 =>
ifB (decide (v14 ≠ 0)) (
Q (.tup [.nilp, .nils, .int .i64 0, .int .i64 v14]) (σ12.bump 7)) (
callW PG n_seglog_found [.str v13] (σ12.bump 11) fun v15 σ16 =>
tupW v15 0 fun v17 =>
tpI v15 1 fun v18 =>
tpB v15 2 fun v19 =>
ifB v19 (
nfW 1 (.ptr (σ.next + 6) 0) fun v20 =>
stW 1 (σ16.bump 10) v20 (.int .i64 v10) fun σ21 =>
nfW 2 (.ptr (σ.next + 6) 0) fun v22 =>
stW 1 σ21 v22 (.bool true) fun σ23 =>
Q (.tup [.ptr (σ.next + 6) 0, v17, .int .i64 v18, .int .i64 0]) (σ23.bump 7)) (
iW (v7 + 1) fun v24 =>
next6 v24 (σ16.bump 3)))) (
Q (.tup [.ptr (σ.next + 6) 0, .nils, .int .i64 0, .int .i64 0]) (σ8.bump 6))
def F_seglog_newest (a0 : AV) (σ : Mem) (Q : AV → Mem → Prop) : Prop :=
cellOkW a0 1 (
boxW (AV.agg (setAt [.nilp, .int .i64 0, .bool false, .bool false] 0 a0.cells)) (
newW (σ.bump 8) (σ.next + 6) (.rw (setAt [.nilp, .int .i64 0, .bool false, .bool false] 0 a0.cells)) fun σ0 =>
callW PG n_disk_Disk_Files [a0] (σ0.bump 3) fun v1 σ2 =>
callW PG n_slices_Reverse___int_int_ [v1] (σ2.bump 2) fun v3 σ4 =>
slenW v1 fun v5 =>
loopF [tI] (F_seglog_newest_l1 a0 Q σ v1 v5) 0 (σ4.bump 3)))
theorem ok_seglog_newest {a0 σ Q} (h : σ.Live → F_seglog_newest a0 σ Q) : ACalls PG n_seglog_newest [a0] σ Q :=
  .of_sem [none, none, none, none, none, none, some ([0, 6, 22, 23], [24]), none, none, none, none, none, none, none, none, none, none, none, none, none, none, none] [(24, tI), (27, tI), (32, .s), (33, tI), (41, tI), (42, .b)] mixed (by kernel_rfl) (by kernel_rfl) h
/-! (*vitrine/seglog.Log).tidy -/
def F_seglog_Log_tidy_j1 (next4 : Int → Mem → Prop) (v5 : Int) (σ7 : Mem) : Prop :=
iW (v5 + 1) fun v8 =>
next4 v8 (σ7.bump 2)
def F_seglog_Log_tidy_j2 (a0 : AV) (Q : AV → Mem → Prop) (v31 : Int) (σ32 : Mem) : Prop :=
ifB (decide (v31 ≠ 0)) (
Q (.int .i64 v31) (σ32.bump 4)) (
lfW 0 (σ32.bump 12) a0 fun v33 =>
lfI 1 (σ32.bump 12) a0 fun v34 =>
callW PG n_disk_Disk_Sync [v33, .int .i64 v34] (σ32.bump 12) fun v35 σ36 =>
castI .i64 v35 fun v37 =>
Q (.int .i64 v37) σ36)
def F_seglog_Log_tidy_j3 (a0 : AV) (Q : AV → Mem → Prop) (v44 : Int) (σ45 : Mem) : Prop :=
ifB (decide (v44 ≠ 0)) (
Q (.int .i64 v44) (σ45.bump 4)) (
lfW 0 (σ45.bump 12) a0 fun v46 =>
lfI 1 (σ45.bump 12) a0 fun v47 =>
callW PG n_disk_Disk_Sync [v46, .int .i64 v47] (σ45.bump 12) fun v48 σ49 =>
castI .i64 v48 fun v50 =>
Q (.int .i64 v50) σ49)
def F_seglog_Log_tidy_l1 (a0 : AV) (a1 : Int) (Q : AV → Mem → Prop) (v1 : AV) (v3 : Int) (next4 : Int → Mem → Prop) (v5 : Int) (σ6 : Mem) : Prop :=
ifB (decide (v5 < v3)) (
joinF [] (fun (k9 : Mem → Prop) =>
idxW 1 v1 v5 fun v10 =>
ldI (σ6.bump 4) v10 fun v11 =>
lfB 2 (σ6.bump 16) a0 fun v12 =>
ifB v12 (
nchkW a0 fun v13 =>
fldW 1 v13 fun v14 =>
ldI (σ6.bump 16) v14 fun v15 =>
ifB (decide (v11 = v15)) (
k9 (σ6.bump 16)) (
lfW 0 (σ6.bump 23) a0 fun v16 =>
callW PG n_disk_Disk_Drop [v16, .int .i64 v11] (σ6.bump 23) fun v17 σ18 =>
castI .i64 v17 fun v19 =>
ifB (decide (v19 ≠ 0)) (
Q (.int .i64 v19) (σ18.bump 4)) (
k9 (σ18.bump 2)))) (
lfW 0 (σ6.bump 23) a0 fun v20 =>
callW PG n_disk_Disk_Drop [v20, .int .i64 v11] (σ6.bump 23) fun v21 σ22 =>
castI .i64 v21 fun v23 =>
ifB (decide (v23 ≠ 0)) (
Q (.int .i64 v23) (σ22.bump 4)) (
k9 (σ22.bump 2)))) (F_seglog_Log_tidy_j1 next4 v5)) (
lfB 2 (σ6.bump 6) a0 fun v24 =>
ifB (!v24) (
Q (.int .i64 0) (σ6.bump 7)) (
lfW 0 (σ6.bump 20) a0 fun v25 =>
lfI 1 (σ6.bump 20) a0 fun v26 =>
callW PG n_disk_Disk_Read [v25, .int .i64 v26] (σ6.bump 20) fun v27 σ28 =>
tpS v27 0 fun v29 =>
tpI v27 1 fun v30 =>
ifB (decide (v30 = 0)) (
joinF [tI] (fun (k38 : Int → Mem → Prop) =>
ifB (decide (a1 < (v29.size : Int))) (
lfW 0 (σ28.bump 19) a0 fun v39 =>
lfI 1 (σ28.bump 19) a0 fun v40 =>
callW PG n_disk_Disk_Cut [v39, .int .i64 v40, .int .i64 a1] (σ28.bump 19) fun v41 σ42 =>
castI .i64 v41 fun v43 =>
k38 v43 σ42) (
k38 v30 (σ28.bump 8))) (F_seglog_Log_tidy_j2 a0 Q)) (
joinF [tI] (fun (k51 : Int → Mem → Prop) =>
k51 v30 (σ28.bump 8)) (F_seglog_Log_tidy_j3 a0 Q))))
def F_seglog_Log_tidy (a0 : AV) (a1 : Int) (σ : Mem) (Q : AV → Mem → Prop) : Prop :=
lfW 0 (σ.bump 8) a0 fun v0 =>
callW PG n_disk_Disk_Files [v0] (σ.bump 8) fun v1 σ2 =>
slenW v1 fun v3 =>
loopF [tI] (F_seglog_Log_tidy_l1 a0 a1 Q v1 v3) 0 σ2
theorem ok_seglog_Log_tidy {a0 a1 σ Q} (h : σ.Live → F_seglog_Log_tidy a0 a1 σ Q) : ACalls PG n_seglog_Log_tidy [a0, .int .i64 a1] σ Q :=
  .of_sem [none, none, none, some ([0, 1, 14, 15], [16]), none, none, some ([0, 1, 14, 15, 16], []), none, none, none, none, none, none, none, none, none, none, none, none, none, some ([0], [9]), none, none, none, none, none] [(16, tI), (19, tI), (23, .b), (29, tI), (37, tI), (45, .b), (55, tI), (57, .s), (58, tI), (9, tI), (74, tI), (76, tI), (87, tI), (88, tI)] mixed (by kernel_rfl) (by kernel_rfl) h
/-! (*vitrine/seglog.Log).wrong -/
def F_seglog_Log_wrong (a0 : AV) (a1 : AV) (σ : Mem) (Q : AV → Mem → Prop) : Prop :=
eqW .ptr a0 .nilp fun v0 =>
ifB v0 (
Q (.int .i64 2) (σ.bump 5)) (
lfB 3 (σ.bump 9) a0 fun v1 =>
ifB v1 (
Q (.int .i64 50) (σ.bump 10)) (
callW PG n_slices_ContainsFunc___string_string_ [a1, .func 68 []] (σ.bump 12) fun v2 σ3 =>
castB v2 fun v4 =>
ifB v4 (
Q (.int .i64 1) (σ3.bump 1)) (
Q (.int .i64 0) (σ3.bump 1))))
theorem ok_seglog_Log_wrong {a0 a1 σ Q} (h : σ.Live → F_seglog_Log_wrong a0 a1 σ Q) : ACalls PG n_seglog_Log_wrong [a0, a1] σ Q :=
  .of_sem [none, none, none, none, none, none, none, none, none, none, none, none] [(12, .b), (15, .b)] mixed (by kernel_rfl) (by kernel_rfl) h
/-! vitrine/seglog.frames -/
def F_seglog_frames_l1 (a0 : AV) (Q : AV → Mem → Prop) (σ : Mem) (v1 : Int) (next2 : Int → Mem → Prop) (v3 : Int) (σ4 : Mem) : Prop :=
ifB (decide (v3 < v1)) (
idxW 1 a0 v3 fun v5 =>
ldS (σ4.bump 4) v5 fun v6 =>
callW PG n_seglog_big [.int .i64 (v6.size : Int)] (σ4.bump 14) fun v7 σ8 =>
castS v7 fun v9 =>
callW PG n_bits_Crc [.str v6] σ8 fun v10 σ11 =>
castI .i64 v10 fun v12 =>
callW PG n_seglog_big [.int .i64 v12] σ11 fun v13 σ14 =>
castS v13 fun v15 =>
catW v9 v15 fun v16 =>
catW v16 v6 fun v17 =>
callW PG n_strings_Builder_WriteString [.ptr (σ.next + 1) 0, .str v17] σ14 fun v18 σ19 =>
iW (v3 + 1) fun v20 =>
next2 v20 (σ19.bump 2)) (
callW PG n_strings_Builder_String [.ptr (σ.next + 1) 0] (σ4.bump 3) fun v21 σ22 =>
castS v21 fun v23 =>
Q (.str v23) σ22)
def F_seglog_frames (a0 : AV) (σ : Mem) (Q : AV → Mem → Prop) : Prop :=
newW (σ.bump 2) (σ.next + 1) (.bld 98 none) fun σ0 =>
slenW a0 fun v1 =>
loopF [tI] (F_seglog_frames_l1 a0 Q σ v1) 0 (σ0.bump 3)
theorem ok_seglog_frames {a0 σ Q} (h : σ.Live → F_seglog_frames a0 σ Q) : ACalls PG n_seglog_frames [a0] σ Q :=
  .of_sem [none, none, none, none, some ([3, 6, 7], [8]), none, none, none, none, none, none, none] [(8, tI), (11, .s), (14, .s), (16, tI), (17, .s), (23, .s)] mixed (by kernel_rfl) (by kernel_rfl) h
/-! vitrine/seglog.big -/
def F_seglog_big (a0 : Int) (σ : Mem) (Q : AV → Mem → Prop) : Prop :=
letW (a0 / 16777216) fun v0 =>
wrW .u8 v0 fun v1 =>
letW (a0 / 65536) fun v2 =>
wrW .u8 v2 fun v3 =>
letW (a0 / 256) fun v4 =>
wrW .u8 v4 fun v5 =>
wrW .u8 a0 fun v6 =>
newW (σ.bump 15) (σ.next + 12) (.rw [.int .u8 v1, .int .u8 v3, .int .u8 v5, .int .u8 v6]) fun σ7 =>
bstrW σ7 (.slice (σ.next + 12) 0 4 (.ex 4)) fun v8 =>
Q (.str v8) σ7
theorem ok_seglog_big {a0 σ Q} (h : σ.Live → F_seglog_big a0 σ Q) : ACalls PG n_seglog_big [.int .i64 a0] σ Q :=
  .of_sem [none, none] [] mixed (by kernel_rfl) (by kernel_rfl) h
/-! (*vitrine/seglog.Log).told -/
def F_seglog_Log_told_j1 (a1 : Int) (Q : AV → Mem → Prop) (σ0 : Mem) : Prop :=
Q (.int .i64 a1) (σ0.bump 2)
def F_seglog_Log_told (a0 : AV) (a1 : Int) (σ : Mem) (Q : AV → Mem → Prop) : Prop :=
joinF [] (fun (k1 : Mem → Prop) =>
ifB (decide (a1 = 50)) (
nfW 3 a0 fun v2 =>
stW 1 (σ.bump 7) v2 (.bool true) fun σ3 =>
k1 σ3) (
k1 (σ.bump 3))) (F_seglog_Log_told_j1 a1 Q)
theorem ok_seglog_Log_told {a0 a1 σ Q} (h : σ.Live → F_seglog_Log_told a0 a1 σ Q) : ACalls PG n_seglog_Log_told [a0, .int .i64 a1] σ Q :=
  .of_sem [none, none, some ([1], []), none, none] [] mixed (by kernel_rfl) (by kernel_rfl) h
/-! (*vitrine/disk.Disk).Sync -/
def F_disk_Disk_Sync (a0 : AV) (a1 : Int) (σ : Mem) (Q : AV → Mem → Prop) : Prop :=
boxW a0 (
newW (σ.bump 3) σ.next (.rw a0.cells) fun σ0 =>
newW σ0 (σ.next + 1) (.rw [.int .i64 a1]) fun σ1 =>
ldW (σ1.bump 4) (.ptr σ.next 0) fun v2 =>
ldI (σ1.bump 4) (.ptr (σ.next + 1) 0) fun v3 =>
callW PG n_disk_Disk_wrong [v2, .int .i64 v3] (σ1.bump 4) fun v4 σ5 =>
castI .i64 v4 fun v6 =>
ifB (decide (v6 ≠ 0)) (
Q (.int .i64 v6) (σ5.bump 4)) (
ldW (σ5.bump 7) (.ptr σ.next 0) fun v7 =>
ldI (σ5.bump 7) (.ptr (σ.next + 1) 0) fun v8 =>
callW PG n_disk_Disk_change [v7, .int .i64 v8, .func n_disk_Disk_Sync_1 [.ptr σ.next 0, .ptr (σ.next + 1) 0]] (σ5.bump 7) fun v9 σ10 =>
castI .i64 v9 fun v11 =>
Q (.int .i64 v11) σ10))
theorem ok_disk_Disk_Sync {a0 a1 σ Q} (h : σ.Live → F_disk_Disk_Sync a0 a1 σ Q) : ACalls PG n_disk_Disk_Sync [a0, .int .i64 a1] σ Q :=
  .of_sem [none, none, none, none, none, none] [(7, tI), (8, tI), (13, tI), (15, tI)] mixed (by kernel_rfl) (by kernel_rfl) h
/-! (*vitrine/disk.Disk).Drop -/
def F_disk_Disk_Drop (a0 : AV) (a1 : Int) (σ : Mem) (Q : AV → Mem → Prop) : Prop :=
boxW a0 (
newW (σ.bump 3) σ.next (.rw a0.cells) fun σ0 =>
newW σ0 (σ.next + 1) (.rw [.int .i64 a1]) fun σ1 =>
ldW (σ1.bump 4) (.ptr σ.next 0) fun v2 =>
ldI (σ1.bump 4) (.ptr (σ.next + 1) 0) fun v3 =>
callW PG n_disk_Disk_wrong [v2, .int .i64 v3] (σ1.bump 4) fun v4 σ5 =>
castI .i64 v4 fun v6 =>
ifB (decide (v6 ≠ 0)) (
Q (.int .i64 v6) (σ5.bump 4)) (
ldW (σ5.bump 7) (.ptr σ.next 0) fun v7 =>
ldI (σ5.bump 7) (.ptr (σ.next + 1) 0) fun v8 =>
callW PG n_disk_Disk_change [v7, .int .i64 v8, .func n_disk_Disk_Drop_1 [.ptr σ.next 0, .ptr (σ.next + 1) 0]] (σ5.bump 7) fun v9 σ10 =>
castI .i64 v9 fun v11 =>
Q (.int .i64 v11) σ10))
theorem ok_disk_Disk_Drop {a0 a1 σ Q} (h : σ.Live → F_disk_Disk_Drop a0 a1 σ Q) : ACalls PG n_disk_Disk_Drop [a0, .int .i64 a1] σ Q :=
  .of_sem [none, none, none, none, none, none] [(7, tI), (8, tI), (13, tI), (15, tI)] mixed (by kernel_rfl) (by kernel_rfl) h
/-! slices.Sorted[int] -/
def F_slices_Sorted_int_ (a0 : AV) (σ : Mem) (Q : AV → Mem → Prop) : Prop :=
callW PG n_slices_Collect_int_ [a0] (σ.bump 4) fun v0 σ1 =>
callW PG n_slices_Sort___int_int_ [v0] (σ1.bump 2) fun v2 σ3 =>
Q v0 (σ3.bump 2)
theorem ok_slices_Sorted_int_ {a0 σ Q} (h : σ.Live → F_slices_Sorted_int_ a0 σ Q) : ACalls PG n_slices_Sorted_int_ [a0] σ Q :=
  .of_sem [none, none, none, none] [] mixed (by kernel_rfl) (by kernel_rfl) h
/-! maps.Keys[map[int]vitrine/disk.file,int,vitrine/disk.file] -/
def F_maps_Keys_map_int_disk_file_int_disk_file_ (a0 : AV) (σ : Mem) (Q : AV → Mem → Prop) : Prop :=
boxW a0 (
newW (σ.bump 2) σ.next (.rw a0.cells) fun σ0 =>
Q (.func n_maps_Keys_map_int_disk_file_int_disk_file__1 [.ptr σ.next 0]) (σ0.bump 2))
theorem ok_maps_Keys_map_int_disk_file_int_disk_file_ {a0 σ Q} (h : σ.Live → F_maps_Keys_map_int_disk_file_int_disk_file_ a0 σ Q) : ACalls PG n_maps_Keys_map_int_disk_file_int_disk_file_ [a0] σ Q :=
  .of_sem [none, none] [] mixed (by kernel_rfl) (by kernel_rfl) h
/-! (*vitrine/disk.Disk).wrong -/
def F_disk_Disk_wrong (a0 : AV) (a1 : Int) (σ : Mem) (Q : AV → Mem → Prop) : Prop :=
eqW .ptr a0 .nilp fun v0 =>
ifB v0 (
Q (.int .i64 2) (σ.bump 5)) (
lfB 3 (σ.bump 9) a0 fun v1 =>
ifB v1 (
Q (.int .i64 50) (σ.bump 10)) (
ifB (decide (a1 < 0)) (
Q (.int .i64 1) (σ.bump 17)) (
ifB (decide (65536 ≤ a1)) (
Q (.int .i64 1) (σ.bump 17)) (
Q (.int .i64 0) (σ.bump 17)))))
theorem ok_disk_Disk_wrong {a0 a1 σ Q} (h : σ.Live → F_disk_Disk_wrong a0 a1 σ Q) : ACalls PG n_disk_Disk_wrong [a0, .int .i64 a1] σ Q :=
  .of_sem [none, none, none, none, none, none, none, none, none, none, none, none] [(12, .b)] mixed (by kernel_rfl) (by kernel_rfl) h
/-! (*vitrine/disk.Disk).change -/
def F_disk_Disk_change_j1 (Q : AV → Mem → Prop) (σ9 : Mem) : Prop :=
Q (.int .i64 0) (σ9.bump 1)
def F_disk_Disk_change (a0 : AV) (a1 : Int) (a2 : AV) (σ : Mem) (Q : AV → Mem → Prop) : Prop :=
callW PG n_disk_Disk_step [a0] (σ.bump 4) fun v0 σ1 =>
castI .i64 v0 fun v2 =>
ifB (decide (v2 ≠ 0)) (
Q (.int .i64 v2) (σ1.bump 4)) (
lfW 0 (σ1.bump 14) a0 fun v3 =>
lookW (σ1.bump 14) (.agg [.str ⟨#[]⟩, .int .i64 0]) true v3 (.int .i64 a1) fun v4 =>
tupW v4 0 fun v5 =>
tpB v4 1 fun v6 =>
newW (σ1.bump 14) (σ1.next + 11) (.rw [.str ⟨#[]⟩, .int .i64 0]) fun σ7 =>
stW 2 σ7 (.ptr (σ1.next + 11) 0) v5 fun σ8 =>
joinF [] (fun (k10 : Mem → Prop) =>
ifB v6 (
ldnW 2 (σ8.bump 4) (.ptr (σ1.next + 11) 0) fun v11 =>
callvW PG a2 [v11] (σ8.bump 4) fun v12 σ13 =>
k10 σ13) (
k10 (σ8.bump 1))) (F_disk_Disk_change_j1 Q))
theorem ok_disk_Disk_change {a0 a1 a2 σ Q} (h : σ.Live → F_disk_Disk_change a0 a1 a2 σ Q) : ACalls PG n_disk_Disk_change [a0, .int .i64 a1, a2] σ Q :=
  .of_sem [none, none, none, none, none, none, none, some ([], []), none, none] [(11, tI), (23, .b)] mixed (by kernel_rfl) (by kernel_rfl) h
/-! (*vitrine/disk.Disk).Cut$1 -/
def F_disk_Disk_Cut_1 (a0 : AV) (a1 : AV) (a2 : AV) (a3 : AV) (σ : Mem) (Q : AV → Mem → Prop) : Prop :=
boxW a0 (
newW (σ.bump 1) σ.next (.rw a0.cells) fun σ0 =>
ldW (σ0.bump 12) a2 fun v1 =>
lfW 0 (σ0.bump 12) v1 fun v2 =>
ldI (σ0.bump 12) a3 fun v3 =>
fldW 0 (.ptr σ.next 0) fun v4 =>
ldS (σ0.bump 12) v4 fun v5 =>
ldI (σ0.bump 12) a1 fun v6 =>
subW v5 0 v6 fun v7 =>
ldI (σ0.bump 12) a1 fun v8 =>
mupW (σ0.bump 12) v2 (.int .i64 v3) (.agg [.str v7, .int .i64 v8]) fun σ9 =>
Q (.tup []) σ9)
theorem ok_disk_Disk_Cut_1 {a0 a1 a2 a3 σ Q} (h : σ.Live → F_disk_Disk_Cut_1 a0 a1 a2 a3 σ Q) : ACalls PG n_disk_Disk_Cut_1 [a0, a1, a2, a3] σ Q :=
  .of_sem [none, none] [(9, tI), (11, .s), (12, tI), (14, tI)] mixed (by kernel_rfl) (by kernel_rfl) h
/-! (*vitrine/disk.Disk).step -/
def F_disk_Disk_step_j1 (a0 : AV) (Q : AV → Mem → Prop) (σ5 : Mem) : Prop :=
lfB 3 (σ5.bump 4) a0 fun v6 =>
ifB v6 (
Q (.int .i64 50) (σ5.bump 5)) (
Q (.int .i64 0) (σ5.bump 5))
def F_disk_Disk_step (a0 : AV) (σ : Mem) (Q : AV → Mem → Prop) : Prop :=
lfI 4 (σ.bump 9) a0 fun v0 =>
iW (v0 + 1) fun v1 =>
nfW 4 a0 fun v2 =>
stW 1 (σ.bump 9) v2 (.int .i64 v1) fun σ3 =>
lfI 2 (σ3.bump 5) a0 fun v4 =>
joinF [] (fun (k7 : Mem → Prop) =>
ifB (decide (0 < v4)) (
lfI 2 (σ3.bump 13) a0 fun v8 =>
iW (v8 - 1) fun v9 =>
nfW 2 a0 fun v10 =>
stW 1 (σ3.bump 13) v10 (.int .i64 v9) fun σ11 =>
lfI 2 (σ11.bump 9) a0 fun v12 =>
nfW 3 a0 fun v13 =>
stW 1 (σ11.bump 9) v13 (.bool (decide (v12 = 0))) fun σ14 =>
k7 σ14) (
k7 (σ3.bump 5))) (F_disk_Disk_step_j1 a0 Q)
theorem ok_disk_Disk_step {a0 σ Q} (h : σ.Live → F_disk_Disk_step a0 σ Q) : ACalls PG n_disk_Disk_step [a0] σ Q :=
  .of_sem [none, none, none, some ([0], []), none, none, none, none, none, none] [(6, tI), (13, tI), (18, tI), (26, tI), (33, .b)] mixed (by kernel_rfl) (by kernel_rfl) h
/-! slices.Reverse[[]int,int] -/
def F_slices_Reverse___int_int__l1 (a0 : AV) (Q : AV → Mem → Prop) (next2 : Int → Int → Mem → Prop) (v3 : Int) (v4 : Int) (σ5 : Mem) : Prop :=
ifB (decide (v3 < v4)) (
idxW 1 a0 v4 fun v6 =>
ldI (σ5.bump 19) v6 fun v7 =>
idxW 1 a0 v3 fun v8 =>
ldI (σ5.bump 19) v8 fun v9 =>
idxW 1 a0 v3 fun v10 =>
stW 1 (σ5.bump 19) v10 (.int .i64 v7) fun σ11 =>
idxW 1 a0 v4 fun v12 =>
stW 1 σ11 v12 (.int .i64 v9) fun σ13 =>
iW (v3 + 1) fun v14 =>
iW (v4 - 1) fun v15 =>
next2 v14 v15 (σ13.bump 6)) (
Q (.tup []) (σ5.bump 3))
def F_slices_Reverse___int_int_ (a0 : AV) (σ : Mem) (Q : AV → Mem → Prop) : Prop :=
slenW a0 fun v0 =>
iW (v0 - 1) fun v1 =>
loopF [tI, tI] (F_slices_Reverse___int_int__l1 a0 Q) 0 v1 (σ.bump 5)
theorem ok_slices_Reverse___int_int_ {a0 σ Q} (h : σ.Live → F_slices_Reverse___int_int_ a0 σ Q) : ACalls PG n_slices_Reverse___int_int_ [a0] σ Q :=
  .of_sem [none, none, some ([0], [2, 3]), none, none, none, none, none] [(2, tI), (3, tI), (21, tI), (25, tI)] mixed (by kernel_rfl) (by kernel_rfl) h
/-! vitrine/seglog.found -/
def F_seglog_found_l1 (a0 : ByteArray) (Q : AV → Mem → Prop) (next4 : AV → ByteArray → ByteArray → Bool → Mem → Prop) (v5 : AV) (v6 : ByteArray) (v7 : ByteArray) (v8 : Bool) (σ9 : Mem) : Prop :=
ifB v8 (
newW (σ9.bump 6) (σ9.next + 3) (.rw [.str v7]) fun σ10 =>
apW 1 16 (σ9.next + 4) σ10 v5 (.slice (σ9.next + 3) 0 1 (.ex 1)) fun v11 σ12 =>
iW (8 + (v7.size : Int)) fun v13 =>
subW v6 v13 v6.size fun v14 =>
callW PG n_seglog_next [.str v14] (σ12.bump 13) fun v15 σ16 =>
tpS v15 0 fun v17 =>
tpB v15 1 fun v18 =>
next4 v11 v14 v17 v18 σ16) (
slenW v5 fun v19 =>
ifB (decide (v19 = 0)) (
Q (.tup [.nils, .int .i64 0, .bool false]) (σ9.bump 23)) (
idxW 1 v5 0 fun v20 =>
ldS (σ9.bump 20) v20 fun v21 =>
ifB (decide ((v21.size : Int) ≠ 4)) (
Q (.tup [.nils, .int .i64 0, .bool false]) (σ9.bump 23)) (
idxW 1 v5 0 fun v22 =>
ldS (σ9.bump 20) v22 fun v23 =>
callW PG n_seglog_number [.str v23] (σ9.bump 20) fun v24 σ25 =>
castI .i64 v24 fun v26 =>
slenW v5 fun v27 =>
ifB (decide (v27 ≤ v26)) (
Q (.tup [.nils, .int .i64 0, .bool false]) (σ25.bump 3)) (
slcW 1 v5 (some 1) none fun v28 =>
iW ((a0.size : Int) - (v6.size : Int)) fun v29 =>
Q (.tup [v28, .int .i64 v29, .bool true]) (σ25.bump 10)))))
def F_seglog_found (a0 : ByteArray) (σ : Mem) (Q : AV → Mem → Prop) : Prop :=
callW PG n_seglog_next [.str a0] (σ.bump 13) fun v0 σ1 =>
tpS v0 0 fun v2 =>
tpB v0 1 fun v3 =>
loopF [.v, .s, .s, .b] (F_seglog_found_l1 a0 Q) .nils a0 v2 v3 σ1
theorem ok_seglog_found {a0 σ Q} (h : σ.Live → F_seglog_found a0 σ Q) : ACalls PG n_seglog_found [.str a0] σ Q :=
  .of_sem [none, none, none, none, none, some ([0], [5, 6, 7, 8]), none, none, none, none, none, none, none, none, none, none] [(6, .s), (13, .s), (14, .b), (7, .s), (8, .b), (19, .s), (20, .b), (36, .s), (43, .s), (44, tI)] mixed (by kernel_rfl) (by kernel_rfl) h
/-! slices.ContainsFunc[[]string,string] -/
def F_slices_ContainsFunc___string_string_ (a0 : AV) (a1 : AV) (σ : Mem) (Q : AV → Mem → Prop) : Prop :=
callW PG n_slices_IndexFunc___string_string_ [a0, a1] (σ.bump 6) fun v0 σ1 =>
castI .i64 v0 fun v2 =>
Q (.bool (decide (0 ≤ v2))) σ1
theorem ok_slices_ContainsFunc___string_string_ {a0 a1 σ Q} (h : σ.Live → F_slices_ContainsFunc___string_string_ a0 a1 σ Q) : ACalls PG n_slices_ContainsFunc___string_string_ [a0, a1] σ Q :=
  .of_sem [none, none] [(7, tI)] mixed (by kernel_rfl) (by kernel_rfl) h
/-! (*vitrine/seglog.Log).wrong$1 -/
def F_seglog_Log_wrong_1 (a0 : ByteArray) (σ : Mem) (Q : AV → Mem → Prop) : Prop :=
ifB (decide (a0 = ⟨#[]⟩)) (
Q (.bool true) (σ.bump 9)) (
Q (.bool (decide (1000000 < (a0.size : Int)))) (σ.bump 9))
theorem ok_seglog_Log_wrong_1 {a0 σ Q} (h : σ.Live → F_seglog_Log_wrong_1 a0 σ Q) : ACalls PG n_seglog_Log_wrong_1 [.str a0] σ Q :=
  .of_sem [none, none] [] mixed (by kernel_rfl) (by kernel_rfl) h
/-! vitrine/bits.Crc -/
def F_bits_Crc_l2 (next0 : Int → Int → Mem → Prop) (v2 : Int) (next7 : Int → Int → Mem → Prop) (v8 : Int) (v9 : Int) (σ10 : Mem) : Prop :=
ifB (decide (v9 < 8)) (
letW (v8 / 2) fun v11 =>
letW (bitsOp .and .i64 v8 1) fun v12 =>
iW (3988292384 * v12) fun v13 =>
letW (bitsOp .xor .i64 v11 v13) fun v14 =>
iW (v9 + 1) fun v15 =>
next7 v14 v15 (σ10.bump 10)) (
iW (v2 + 1) fun v16 =>
next0 v8 v16 (σ10.bump 3))
def F_bits_Crc_l1 (a0 : ByteArray) (Q : AV → Mem → Prop) (next0 : Int → Int → Mem → Prop) (v1 : Int) (v2 : Int) (σ3 : Mem) : Prop :=
ifB (decide (v2 < (a0.size : Int))) (
sidxW a0 v2 fun v4 =>
iW v4 fun v5 =>
letW (bitsOp .xor .i64 v1 v5) fun v6 =>
loopF [tI, tI] (F_bits_Crc_l2 next0 v2) v6 0 (σ3.bump 11)) (
letW (bitsOp .xor .i64 v1 4294967295) fun v17 =>
Q (.int .i64 v17) (σ3.bump 4))
def F_bits_Crc (a0 : ByteArray) (σ : Mem) (Q : AV → Mem → Prop) : Prop :=
loopF [tI, tI] (F_bits_Crc_l1 a0 Q) 4294967295 0 (σ.bump 5)
theorem ok_bits_Crc {a0 σ Q} (h : σ.Live → F_bits_Crc a0 σ Q) : ACalls PG n_bits_Crc [.str a0] σ Q :=
  .of_sem [none, none, none, none, some ([0, 6], [3, 7]), none, none, none, none, none, none, none, some ([0, 6, 7], [3, 16]), none, none, none, none, none, none, none] [(3, tI), (7, tI), (16, tI)] mixed (by kernel_rfl) (by kernel_rfl) h
/-! (*vitrine/disk.Disk).Sync$1 -/
def F_disk_Disk_Sync_1 (a0 : AV) (a1 : AV) (a2 : AV) (σ : Mem) (Q : AV → Mem → Prop) : Prop :=
boxW a0 (
newW (σ.bump 1) σ.next (.rw a0.cells) fun σ0 =>
ldW (σ0.bump 12) a1 fun v1 =>
lfW 0 (σ0.bump 12) v1 fun v2 =>
ldI (σ0.bump 12) a2 fun v3 =>
fldW 0 (.ptr σ.next 0) fun v4 =>
ldS (σ0.bump 12) v4 fun v5 =>
fldW 0 (.ptr σ.next 0) fun v6 =>
ldS (σ0.bump 12) v6 fun v7 =>
mupW (σ0.bump 12) v2 (.int .i64 v3) (.agg [.str v5, .int .i64 (v7.size : Int)]) fun σ8 =>
Q (.tup []) σ8)
theorem ok_disk_Disk_Sync_1 {a0 a1 a2 σ Q} (h : σ.Live → F_disk_Disk_Sync_1 a0 a1 a2 σ Q) : ACalls PG n_disk_Disk_Sync_1 [a0, a1, a2] σ Q :=
  .of_sem [none, none] [(8, tI), (10, .s), (12, .s)] mixed (by kernel_rfl) (by kernel_rfl) h
/-! (*vitrine/disk.Disk).Drop$1 -/
def F_disk_Disk_Drop_1 (a0 : AV) (a1 : AV) (a2 : AV) (σ : Mem) (Q : AV → Mem → Prop) : Prop :=
boxW a0 (
newW (σ.bump 1) σ.next (.rw a0.cells) fun σ0 =>
ldW (σ0.bump 6) a1 fun v1 =>
lfW 0 (σ0.bump 6) v1 fun v2 =>
ldI (σ0.bump 6) a2 fun v3 =>
mdelW (σ0.bump 6) v2 (.int .i64 v3) fun σ4 =>
Q (.tup []) σ4)
theorem ok_disk_Disk_Drop_1 {a0 a1 a2 σ Q} (h : σ.Live → F_disk_Disk_Drop_1 a0 a1 a2 σ Q) : ACalls PG n_disk_Disk_Drop_1 [a0, a1, a2] σ Q :=
  .of_sem [none, none] [(8, tI)] mixed (by kernel_rfl) (by kernel_rfl) h
/-! slices.Collect[int] -/
def F_slices_Collect_int_ (a0 : AV) (σ : Mem) (Q : AV → Mem → Prop) : Prop :=
callW PG n_slices_AppendSeq___int_int_ [.nils, a0] (σ.bump 4) fun v0 σ1 =>
Q v0 σ1
theorem ok_slices_Collect_int_ {a0 σ Q} (h : σ.Live → F_slices_Collect_int_ a0 σ Q) : ACalls PG n_slices_Collect_int_ [a0] σ Q :=
  .of_sem [none, none] [] mixed (by kernel_rfl) (by kernel_rfl) h
/-! maps.Keys[map[int]vitrine/disk.file,int,vitrine/disk.file]$1 -/
def F_maps_Keys_map_int_disk_file_int_disk_file__1_l1 (Y : YEnv) (a0 : AV) (Q : AV → Mem → Prop) (σ : Mem) (next3 : Mem → Prop) (σ4 : Mem) : Prop :=
nextMW (σ4.bump 2) (.ptr (σ.next + 1) 0) fun v5 σ6 =>
tpB v5 0 fun v7 =>
ifB v7 (
entMW (σ6.bump 3) (.ptr (σ.next + 1) 0) fun v8 =>
tpI v8 0 fun v9 =>
callvY PG Y a0 [.int .i64 v9] (σ6.bump 7) fun v10 σ11 =>
castB v10 fun v12 =>
ifB (!v12) (
Q (.tup []) σ11) (
next3 σ11)) (
Q (.tup []) σ6)
def F_maps_Keys_map_int_disk_file_int_disk_file__1 (Y : YEnv) (a0 : AV) (a1 : AV) (σ : Mem) (Q : AV → Mem → Prop) : Prop :=
ldW (σ.bump 2) a1 fun v0 =>
rangeMW (σ.bump 2) v0 fun q1 =>
newW (σ.bump 2) (σ.next + 1) q1 fun σ2 =>
loopF [] (F_maps_Keys_map_int_disk_file_int_disk_file__1_l1 Y a0 Q σ) σ2
theorem ok_maps_Keys_map_int_disk_file_int_disk_file__1 {Y : YEnv} {a0 a1 σ Q} (h : σ.Live → F_maps_Keys_map_int_disk_file_int_disk_file__1 Y a0 a1 σ Q) : ACallsY PG Y n_maps_Keys_map_int_disk_file_int_disk_file__1 [a0, a1] σ Q :=
  .of_sem [none, none, some ([0, 5], []), none, none, none, none, none, none] [(7, .b), (9, tI), (12, .b)] mixed (by kernel_rfl) (by kernel_rfl) h
/-! vitrine/seglog.next -/
def F_seglog_next (a0 : ByteArray) (σ : Mem) (Q : AV → Mem → Prop) : Prop :=
ifB (decide ((a0.size : Int) < 8)) (
Q (.tup [.str ⟨#[]⟩, .bool false]) (σ.bump 7)) (
callW PG n_seglog_number [.str a0] (σ.bump 8) fun v0 σ1 =>
castI .i64 v0 fun v2 =>
ifB (decide (v2 = 0)) (
Q (.tup [.str ⟨#[]⟩, .bool false]) (σ1.bump 15)) (
ifB (decide (1000000 < v2)) (
Q (.tup [.str ⟨#[]⟩, .bool false]) (σ1.bump 15)) (
iW ((a0.size : Int) - 8) fun v3 =>
ifB (decide (v3 < v2)) (
Q (.tup [.str ⟨#[]⟩, .bool false]) (σ1.bump 15)) (
iW (8 + v2) fun v4 =>
subW a0 8 v4 fun v5 =>
subW a0 4 a0.size fun v6 =>
callW PG n_seglog_number [.str v6] (σ1.bump 27) fun v7 σ8 =>
castI .i64 v7 fun v9 =>
callW PG n_bits_Crc [.str v5] σ8 fun v10 σ11 =>
castI .i64 v10 fun v12 =>
Q (.tup [.str v5, .bool (decide (v9 = v12))]) σ11))))
theorem ok_seglog_next {a0 σ Q} (h : σ.Live → F_seglog_next a0 σ Q) : ACalls PG n_seglog_next [.str a0] σ Q :=
  .of_sem [none, none, none, none, none, none, none, none, none, none] [(10, tI), (31, tI), (33, tI)] mixed (by kernel_rfl) (by kernel_rfl) h
/-! vitrine/seglog.number -/
def F_seglog_number (a0 : ByteArray) (σ : Mem) (Q : AV → Mem → Prop) : Prop :=
sidxW a0 0 fun v0 =>
iW v0 fun v1 =>
iW (v1 * 16777216) fun v2 =>
sidxW a0 1 fun v3 =>
iW v3 fun v4 =>
iW (v4 * 65536) fun v5 =>
letW (bitsOp .or .i64 v2 v5) fun v6 =>
sidxW a0 2 fun v7 =>
iW v7 fun v8 =>
iW (v8 * 256) fun v9 =>
letW (bitsOp .or .i64 v6 v9) fun v10 =>
sidxW a0 3 fun v11 =>
iW v11 fun v12 =>
letW (bitsOp .or .i64 v10 v12) fun v13 =>
Q (.int .i64 v13) (σ.bump 20)
theorem ok_seglog_number {a0 σ Q} (h : σ.Live → F_seglog_number a0 σ Q) : ACalls PG n_seglog_number [.str a0] σ Q :=
  .of_sem [none, none] [] mixed (by kernel_rfl) (by kernel_rfl) h
/-! slices.IndexFunc[[]string,string] -/
def F_slices_IndexFunc___string_string__l1 (a0 : AV) (a1 : AV) (Q : AV → Mem → Prop) (v0 : Int) (next1 : Int → Mem → Prop) (v2 : Int) (σ3 : Mem) : Prop :=
ifB (decide (v2 < v0)) (
idxW 1 a0 v2 fun v4 =>
ldS (σ3.bump 9) v4 fun v5 =>
callvW PG a1 [.str v5] (σ3.bump 9) fun v6 σ7 =>
castB v6 fun v8 =>
ifB v8 (
Q (.int .i64 v2) (σ7.bump 2)) (
iW (v2 + 1) fun v9 =>
next1 v9 (σ7.bump 2))) (
Q (.int .i64 (-1)) (σ3.bump 2))
def F_slices_IndexFunc___string_string_ (a0 : AV) (a1 : AV) (σ : Mem) (Q : AV → Mem → Prop) : Prop :=
slenW a0 fun v0 =>
loopF [tI] (F_slices_IndexFunc___string_string__l1 a0 a1 Q v0) 0 (σ.bump 4)
theorem ok_slices_IndexFunc___string_string_ {a0 a1 σ Q} (h : σ.Live → F_slices_IndexFunc___string_string_ a0 a1 σ Q) : ACalls PG n_slices_IndexFunc___string_string_ [a0, a1] σ Q :=
  .of_sem [none, none, none, some ([0, 1, 7], [8]), none, none, none, none, none, none, none, none, none] [(8, tI), (15, .s), (16, .b)] mixed (by kernel_rfl) (by kernel_rfl) h
/-! slices.AppendSeq[[]int,int] -/
def F_slices_AppendSeq___int_int_ (a0 : AV) (a1 : AV) (σ : Mem) (Q : AV → Mem → Prop) : Prop :=
boxW a0 (
newW (σ.bump 2) σ.next (.rw a0.cells) fun σ0 =>
rangeW PG a1 (fun args1 σ2 k3 =>
arg1W args1 fun v4 =>
ldW (σ2.bump 6) (.ptr σ.next 0) fun v5 =>
cellOkW v4 1 (
newW (σ2.bump 6) (σ2.next + 3) (.rw (setAt [.int .i64 0] 0 v4.cells)) fun σ6 =>
apW 1 8 (σ2.next + 4) σ6 v5 (.slice (σ2.next + 3) 0 1 (.ex 1)) fun v7 σ8 =>
stW 1 σ8 (.ptr σ.next 0) v7 fun σ9 =>
k3 (.bool true) σ9)) (σ0.bump 1) fun σ10 =>
ldW (σ10.bump 2) (.ptr σ.next 0) fun v11 =>
Q v11 (σ10.bump 2))
theorem ok_slices_AppendSeq___int_int_ {a0 a1 σ Q} (h : σ.Live → F_slices_AppendSeq___int_int_ a0 a1 σ Q) : ACalls PG n_slices_AppendSeq___int_int_ [a0, a1] σ Q :=
  .of_sem [none, none, none, none, none, none, none] [] mixed (by kernel_rfl) (by kernel_rfl) h
end Go.Vit
