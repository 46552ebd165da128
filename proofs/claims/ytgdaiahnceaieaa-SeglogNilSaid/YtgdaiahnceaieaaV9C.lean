/- The functions, as printed conditions. -/
import Derived.Test.YtgdaiahnceaieaaVm2
import Derived.Test.YtgdaiahnceaieaaChecked
import Derived.KernelRfl
set_option linter.unusedVariables false
set_option linter.unusedSimpArgs false
set_option linter.unusedVariables false
set_option maxRecDepth 100000
namespace Go.Vit
open Go.Proofs
noncomputable abbrev PG : Program := Try.prog
theorem mixed : PG.follows .mixedOrders = true := by kernel_rfl
abbrev n_law17_SeglogNil : Nat := 5
abbrev n_law17_awake : Nat := 9
abbrev n_seglog_Open : Nat := 11
abbrev n_seglog_Log_Append : Nat := 12
abbrev n_seglog_Log_Compact : Nat := 13
abbrev n_seglog_Log_Sync : Nat := 18
abbrev n_disk_Disk_Append : Nat := 29
abbrev n_disk_Disk_Dead : Nat := 34
abbrev n_seglog_newest : Nat := 39
abbrev n_seglog_Log_tidy : Nat := 40
abbrev n_seglog_Log_wrong : Nat := 41
abbrev n_seglog_frames : Nat := 42
abbrev n_seglog_big : Nat := 43
abbrev n_seglog_Log_told : Nat := 44
abbrev n_disk_Disk_Sync : Nat := 45
abbrev n_disk_Disk_Drop : Nat := 46
abbrev n_slices_ContainsFunc___string_string_ : Nat := 67
/-! vitrine/vitrinelaw17.SeglogKeeps -/
/-! vitrine/vitrinelaw17.SeglogFrames -/
/-! vitrine/vitrinelaw17.SeglogNil -/
def F_law17_SeglogNil (a0 : ByteArray) (σ : Mem) (Q : AV → Mem → Prop) : Prop :=
callW PG n_seglog_Open [.nilp] (σ.bump 10) fun v0 σ1 =>
tupW v0 0 fun v2 =>
tupW v0 1 fun v3 =>
tpI v0 2 fun v4 =>
newW (σ1.bump 34) (σ1.next + 2) (.rw [.str a0]) fun σ5 =>
callW PG n_seglog_Log_Append [.nilp, .slice (σ1.next + 2) 0 1 (.ex 1)] σ5 fun v6 σ7 =>
castI .i64 v6 fun v8 =>
ifB (decide (v8 = 2)) (
callW PG n_seglog_Log_Sync [.nilp] σ7 fun v9 σ10 =>
castI .i64 v9 fun v11 =>
ifB (decide (v11 = 2)) (
newW σ10 (σ1.next + 13) (.rw [.str a0]) fun σ12 =>
callW PG n_seglog_Log_Compact [.nilp, .slice (σ1.next + 13) 0 1 (.ex 1)] σ12 fun v13 σ14 =>
castI .i64 v13 fun v15 =>
ifB (decide (v15 = 2)) (
eqW .ptr v2 .nilp fun v16 =>
ifB v16 (
slenW v3 fun v17 =>
ifB (decide (v17 = 0)) (
ifB (decide (v4 = 2)) (
callW PG n_law17_awake [] σ14 fun v18 σ19 =>
castB v18 fun v20 =>
Q (.bool v20) σ19) (
Q (.bool false) σ14)) (
Q (.bool false) σ14)) (
Q (.bool false) σ14)) (
Q (.bool false) σ14)) (
Q (.bool false) σ10)) (
Q (.bool false) σ7)
theorem ok_law17_SeglogNil {a0 σ Q} (h : σ.Live → F_law17_SeglogNil a0 σ Q) : ACalls PG n_law17_SeglogNil [.str a0] σ Q :=
  .of_sem [none, none, none, none] [(11, tI), (15, tI), (19, tI), (26, tI), (43, .b)] mixed (by kernel_rfl) (by kernel_rfl) h
/-! vitrine/vitrinelaw17.few -/
/-! vitrine/vitrinelaw17.awake -/
/-! vitrine/disk.New -/
/-! vitrine/seglog.Open -/
def F_seglog_Open (a0 : AV) (σ : Mem) (Q : AV → Mem → Prop) : Prop :=
eqW .ptr a0 .nilp fun v0 =>
ifB v0 (
Q (.tup [.nilp, .nils, .int .i64 2]) (σ.bump 9)) (
callW PG n_disk_Disk_Dead [a0] (σ.bump 9) fun v1 σ2 =>
castB v1 fun v3 =>
ifB v3 (
Q (.tup [.nilp, .nils, .int .i64 50]) (σ2.bump 3)) (
callW PG n_seglog_newest [a0] (σ2.bump 11) fun v4 σ5 =>
tupW v4 0 fun v6 =>
tupW v4 1 fun v7 =>
tpI v4 2 fun v8 =>
tpI v4 3 fun v9 =>
ifB (decide (v9 ≠ 0)) (
Q (.tup [.nilp, .nils, .int .i64 v9]) (σ5.bump 6)) (
callW PG n_seglog_Log_tidy [v6, .int .i64 v8] (σ5.bump 6) fun v10 σ11 =>
castI .i64 v10 fun v12 =>
ifB (decide (v12 ≠ 0)) (
Q (.tup [.nilp, .nils, .int .i64 v12]) (σ11.bump 6)) (
Q (.tup [v6, v7, .int .i64 0]) (σ11.bump 7)))))
theorem ok_seglog_Open {a0 σ Q} (h : σ.Live → F_seglog_Open a0 σ Q) : ACalls PG n_seglog_Open [a0] σ Q :=
  .of_sem [none, none, none, none, none, none, none, none, none, none, none, none, none, none, none, none, none] [(15, .b), (21, tI), (22, tI), (28, tI)] mixed (by kernel_rfl) (by kernel_rfl) h
/-! (*vitrine/seglog.Log).Append -/
def F_seglog_Log_Append_j2 (Q : AV → Mem → Prop) (v17 : Int) (σ18 : Mem) : Prop :=
Q (.int .i64 v17) (σ18.bump 2)
def F_seglog_Log_Append_j1 (a0 : AV) (Q : AV → Mem → Prop) (v8 : ByteArray) (σ9 : Mem) : Prop :=
lfW 0 (σ9.bump 13) a0 fun v10 =>
lfI 1 (σ9.bump 13) a0 fun v11 =>
callW PG n_disk_Disk_Append [v10, .int .i64 v11, .str v8] (σ9.bump 13) fun v12 σ13 =>
castI .i64 v12 fun v14 =>
callW PG n_seglog_Log_told [a0, .int .i64 v14] σ13 fun v15 σ16 =>
castI .i64 v15 fun v17 =>
joinF [] (fun (k19 : Mem → Prop) =>
lfB 2 (σ16.bump 12) a0 fun v20 =>
ifB v20 (
nfW 2 a0 fun v21 =>
stW 1 (σ16.bump 12) v21 (.bool true) fun σ22 =>
k19 σ22) (
nfW 2 a0 fun v23 =>
stW 1 (σ16.bump 12) v23 (.bool (decide (v17 = 0))) fun σ24 =>
k19 σ24)) (F_seglog_Log_Append_j2 Q v17)
def F_seglog_Log_Append (a0 : AV) (a1 : AV) (σ : Mem) (Q : AV → Mem → Prop) : Prop :=
callW PG n_seglog_Log_wrong [a0, a1] (σ.bump 5) fun v0 σ1 =>
castI .i64 v0 fun v2 =>
ifB (decide (v2 ≠ 0)) (
Q (.int .i64 v2) (σ1.bump 9)) (
slenW a1 fun v3 =>
ifB (decide (v3 = 0)) (
Q (.int .i64 v2) (σ1.bump 9)) (
callW PG n_seglog_frames [a1] (σ1.bump 10) fun v4 σ5 =>
castS v4 fun v6 =>
lfB 2 (σ5.bump 5) a0 fun v7 =>
joinF [.s] (fun (k25 : ByteArray → Mem → Prop) =>
ifB (!v7) (
callW PG n_seglog_big [.int .i64 0] (σ5.bump 11) fun v26 σ27 =>
castS v26 fun v28 =>
newW σ27 (σ5.next + 6) (.rw [.str v28]) fun σ29 =>
callW PG n_seglog_frames [.slice (σ5.next + 6) 0 1 (.ex 1)] σ29 fun v30 σ31 =>
castS v30 fun v32 =>
catW v32 v6 fun v33 =>
k25 v33 σ31) (
k25 v6 (σ5.bump 5))) (F_seglog_Log_Append_j1 a0 Q)))
theorem ok_seglog_Log_Append {a0 a1 σ Q} (h : σ.Live → F_seglog_Log_Append a0 a1 σ Q) : ACalls PG n_seglog_Log_Append [a0, a1] σ Q :=
  .of_sem [none, none, none, none, none, none, none, some ([0], [6]), none, none, some ([7], []), none] [(10, tI), (20, .s), (6, .s), (24, .b), (26, .s), (28, .s), (39, tI), (41, tI), (42, tI), (47, .b)] mixed (by kernel_rfl) (by kernel_rfl) h
/-! (*vitrine/seglog.Log).Compact -/
def F_seglog_Log_Compact (a0 : AV) (a1 : AV) (σ : Mem) (Q : AV → Mem → Prop) : Prop :=
callW PG n_seglog_Log_wrong [a0, a1] (σ.bump 5) fun v0 σ1 =>
castI .i64 v0 fun v2 =>
ifB (decide (v2 ≠ 0)) (
Q (.int .i64 v2) (σ1.bump 4)) (
lfI 1 (σ1.bump 8) a0 fun v3 =>
iW (v3 + 1) fun v4 =>
slenW a1 fun v5 =>
callW PG n_seglog_big [.int .i64 v5] (σ1.bump 17) fun v6 σ7 =>
castS v6 fun v8 =>
newW σ7 (σ1.next + 11) (.rw [.str v8]) fun σ9 =>
callW PG n_seglog_frames [.slice (σ1.next + 11) 0 1 (.ex 1)] σ9 fun v10 σ11 =>
castS v10 fun v12 =>
callW PG n_seglog_frames [a1] σ11 fun v13 σ14 =>
castS v13 fun v15 =>
catW v12 v15 fun v16 =>
lfW 0 (σ14.bump 10) a0 fun v17 =>
callW PG n_disk_Disk_Append [v17, .int .i64 v4, .str v16] (σ14.bump 10) fun v18 σ19 =>
castI .i64 v18 fun v20 =>
callW PG n_seglog_Log_told [a0, .int .i64 v20] σ19 fun v21 σ22 =>
castI .i64 v21 fun v23 =>
ifB (decide (v23 ≠ 0)) (
Q (.int .i64 v23) (σ22.bump 4)) (
lfW 0 (σ22.bump 11) a0 fun v24 =>
callW PG n_disk_Disk_Sync [v24, .int .i64 v4] (σ22.bump 11) fun v25 σ26 =>
castI .i64 v25 fun v27 =>
callW PG n_seglog_Log_told [a0, .int .i64 v27] σ26 fun v28 σ29 =>
castI .i64 v28 fun v30 =>
ifB (decide (v30 ≠ 0)) (
Q (.int .i64 v30) (σ29.bump 4)) (
lfW 0 (σ29.bump 14) a0 fun v31 =>
lfI 1 (σ29.bump 14) a0 fun v32 =>
callW PG n_disk_Disk_Drop [v31, .int .i64 v32] (σ29.bump 14) fun v33 σ34 =>
castI .i64 v33 fun v35 =>
callW PG n_seglog_Log_told [a0, .int .i64 v35] σ34 fun v36 σ37 =>
castI .i64 v36 fun v38 =>
ifB (decide (v38 ≠ 0)) (
Q (.int .i64 v38) (σ37.bump 4)) (
nfW 1 a0 fun v39 =>
stW 1 (σ37.bump 11) v39 (.int .i64 v4) fun σ40 =>
nfW 2 a0 fun v41 =>
stW 1 σ40 v41 (.bool true) fun σ42 =>
Q (.int .i64 0) (σ42.bump 1)))))
theorem ok_seglog_Log_Compact {a0 a1 σ Q} (h : σ.Live → F_seglog_Log_Compact a0 a1 σ Q) : ACalls PG n_seglog_Log_Compact [a0, a1] σ Q :=
  .of_sem [none, none, none, none, none, none, none, none, none, none, none, none, none, none, none, none, none, none, none, none, none] [(13, tI), (20, tI), (24, .s), (26, .s), (28, .s), (37, tI), (38, tI), (48, tI), (49, tI), (61, tI), (62, tI), (63, tI)] mixed (by kernel_rfl) (by kernel_rfl) h
/-! vitrine/vitrinelaw17.texts -/
/-! (*vitrine/disk.Disk).Size -/
/-! (*vitrine/disk.Disk).Files -/
/-! (*vitrine/disk.Disk).Cut -/
/-! (*vitrine/seglog.Log).Sync -/
def F_seglog_Log_Sync (a0 : AV) (σ : Mem) (Q : AV → Mem → Prop) : Prop :=
callW PG n_seglog_Log_wrong [a0, .nils] (σ.bump 4) fun v0 σ1 =>
castI .i64 v0 fun v2 =>
ifB (decide (v2 ≠ 0)) (
Q (.int .i64 v2) (σ1.bump 11)) (
nchkW a0 fun v3 =>
fldW 2 v3 fun v4 =>
ldB (σ1.bump 9) v4 fun v5 =>
ifB (!v5) (
Q (.int .i64 v2) (σ1.bump 11)) (
lfW 0 (σ1.bump 21) a0 fun v6 =>
lfI 1 (σ1.bump 21) a0 fun v7 =>
callW PG n_disk_Disk_Sync [v6, .int .i64 v7] (σ1.bump 21) fun v8 σ9 =>
castI .i64 v8 fun v10 =>
callW PG n_seglog_Log_told [a0, .int .i64 v10] σ9 fun v11 σ12 =>
castI .i64 v11 fun v13 =>
Q (.int .i64 v13) σ12))
theorem ok_seglog_Log_Sync {a0 σ Q} (h : σ.Live → F_seglog_Log_Sync a0 σ Q) : ACalls PG n_seglog_Log_Sync [a0] σ Q :=
  .of_sem [none, none, none, none, none, none] [(5, tI), (12, .b), (24, tI), (25, tI), (26, tI)] mixed (by kernel_rfl) (by kernel_rfl) h
/-! (*vitrine/disk.Disk).Arm -/
/-! (*vitrine/disk.Disk).Crash -/
/-! vitrine/vitrinelaw17.begins -/
/-! (*vitrine/disk.Disk).Append -/
/-! (*vitrine/disk.Disk).Dead -/
/-! (*vitrine/disk.Disk).Read -/
/-! vitrine/seglog.newest -/
/-! (*vitrine/seglog.Log).tidy -/
/-! (*vitrine/seglog.Log).wrong -/
def F_seglog_Log_wrong (a0 : AV) (a1 : AV) (σ : Mem) (Q : AV → Mem → Prop) : Prop :=
eqW .ptr a0 .nilp fun v0 =>
ifB v0 (
Q (.int .i64 2) (σ.bump 5)) (
lfB 3 (σ.bump 9) a0 fun v1 =>
ifB v1 (
Q (.int .i64 50) (σ.bump 10)) (
callW PG n_slices_ContainsFunc___string_string_ [a1, .func 68 []] (σ.bump 12) fun v2 σ3 =>
castB v2 fun v4 =>
ifB v4 (
Q (.int .i64 1) (σ3.bump 1)) (
Q (.int .i64 0) (σ3.bump 1))))
theorem ok_seglog_Log_wrong {a0 a1 σ Q} (h : σ.Live → F_seglog_Log_wrong a0 a1 σ Q) : ACalls PG n_seglog_Log_wrong [a0, a1] σ Q :=
  .of_sem [none, none, none, none, none, none, none, none, none, none, none, none] [(12, .b), (15, .b)] mixed (by kernel_rfl) (by kernel_rfl) h
/-! vitrine/seglog.frames -/
/-! vitrine/seglog.big -/
/-! (*vitrine/seglog.Log).told -/
/-! (*vitrine/disk.Disk).Sync -/
/-! (*vitrine/disk.Disk).Drop -/
/-! slices.Sorted[int] -/
/-! maps.Keys[map[int]vitrine/disk.file,int,vitrine/disk.file] -/
/-! (*vitrine/disk.Disk).wrong -/
/-! (*vitrine/disk.Disk).change -/
/-! (*vitrine/disk.Disk).Cut$1 -/
/-! (*vitrine/disk.Disk).step -/
/-! slices.Reverse[[]int,int] -/
/-! vitrine/seglog.found -/
/-! slices.ContainsFunc[[]string,string] -/
/-! (*vitrine/seglog.Log).wrong$1 -/
/-! vitrine/bits.Crc -/
/-! (*vitrine/disk.Disk).Sync$1 -/
/-! (*vitrine/disk.Disk).Drop$1 -/
/-! slices.Collect[int] -/
/-! maps.Keys[map[int]vitrine/disk.file,int,vitrine/disk.file]$1 -/
/-! vitrine/seglog.next -/
/-! vitrine/seglog.number -/
/-! slices.IndexFunc[[]string,string] -/
/-! slices.AppendSeq[[]int,int] -/
end Go.Vit
