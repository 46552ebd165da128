/- The functions, as printed conditions. -/
import Derived.Test.YtomldponnggnfaaGreatVm2
import Derived.Test.YtomldponnggnfaaGreatChecked
import Derived.KernelRfl
set_option linter.unusedVariables false
set_option linter.unusedSimpArgs false
set_option linter.unusedVariables false
set_option maxRecDepth 100000
namespace Go.Vit
open Go.Proofs
noncomputable abbrev PG : Program := Tryz.prog
theorem mixed : PG.follows .mixedOrders = true := by kernel_rfl
abbrev n_law18_StoreNewer : Nat := 4
abbrev n_store_Newer : Nat := 13
abbrev n_ref18_Newer : Nat := 14
abbrev n_law18_awake : Nat := 15
abbrev n_cmp_Or_int_ : Nat := 59
abbrev n_cmp_Compare_int_ : Nat := 60
abbrev n_sha_Sum : Nat := 70
abbrev n_cmp_isNaN_int_ : Nat := 118
abbrev n_sha_begin : Nat := 124
abbrev n_sha_constants : Nat := 125
abbrev n_sha_state_block : Nat := 126
abbrev n_bits_Crc : Nat := 151
abbrev n_sha_schedule : Nat := 172
abbrev n_sha_turn : Nat := 173
/-! vitrine/vitrinelaw21.ReplicaNil -/
/-! (*vitrine/replica.Replica).Handle -/
/-! vitrine/replica.New -/
/-! vitrine/vitrinelaw18.StoreNewer -/
def F_law18_StoreNewer (a0 : AV) (a1 : AV) (σ : Mem) (Q : AV → Mem → Prop) : Prop :=
boxW a0 (
newW (σ.bump 3) σ.next (.rw a0.cells) fun σ0 =>
boxW a1 (
newW σ0 (σ.next + 1) (.rw a1.cells) fun σ1 =>
ldnW 2 (σ1.bump 11) (.ptr σ.next 0) fun v2 =>
ldnW 2 (σ1.bump 11) (.ptr (σ.next + 1) 0) fun v3 =>
ldnW 2 (σ1.bump 11) (.ptr σ.next 0) fun v4 =>
ldnW 2 (σ1.bump 11) (.ptr (σ.next + 1) 0) fun v5 =>
callW PG n_store_Newer [v2, v3] (σ1.bump 11) fun v6 σ7 =>
fltS.sameW (σ1.bump 11) σ7 (.ptr σ.next 0) (
fltS.sameW (σ1.bump 11) σ7 (.ptr (σ.next + 1) 0) (
castB v6 fun v8 =>
callW PG n_ref18_Newer [v4, v5] σ7 fun v9 σ10 =>
castB v9 fun v11 =>
eqW .bool (.bool v8) (.bool v11) fun v12 =>
ifB v12 (
callW PG n_law18_awake [] σ10 fun v13 σ14 =>
castB v13 fun v15 =>
Q (.bool v15) σ14) (
Q (.bool false) σ10)))))
theorem ok_law18_StoreNewer {a0 a1 σ Q} (h : σ.Live → F_law18_StoreNewer a0 a1 σ Q) : ACalls PG n_law18_StoreNewer [a0, a1] σ Q :=
  .of_sem [none, none] [(7, .b), (10, .b), (13, .b)] mixed (by kernel_rfl) (by kernel_rfl) h
/-! vitrine/store.Newer -/
def F_store_Newer (a0 : AV) (a1 : AV) (σ : Mem) (Q : AV → Mem → Prop) : Prop :=
boxW a0 (
newW (σ.bump 3) σ.next (.rw a0.cells) fun σ0 =>
boxW a1 (
newW σ0 (σ.next + 1) (.rw a1.cells) fun σ1 =>
fldW 0 (.ptr σ.next 0) fun v2 =>
ldI (σ1.bump 14) v2 fun v3 =>
fldW 0 (.ptr (σ.next + 1) 0) fun v4 =>
ldI (σ1.bump 14) v4 fun v5 =>
fldW 1 (.ptr σ.next 0) fun v6 =>
ldI (σ1.bump 14) v6 fun v7 =>
fldW 1 (.ptr (σ.next + 1) 0) fun v8 =>
ldI (σ1.bump 14) v8 fun v9 =>
callW PG n_cmp_Compare_int_ [.int .i64 v3, .int .i64 v5] (σ1.bump 14) fun v10 σ11 =>
fltS.sameW (σ1.bump 14) σ11 v6 (
fltS.sameW (σ1.bump 14) σ11 v8 (
castI .i64 v10 fun v12 =>
callW PG n_cmp_Compare_int_ [.int .i64 v7, .int .i64 v9] σ11 fun v13 σ14 =>
castI .i64 v13 fun v15 =>
newW σ14 (σ1.next + 10) (.rw [.int .i64 v12, .int .i64 v15]) fun σ16 =>
callW PG n_cmp_Or_int_ [.slice (σ1.next + 10) 0 2 (.ex 2)] σ16 fun v17 σ18 =>
castI .i64 v17 fun v19 =>
Q (.bool (decide (0 < v19))) σ18))))
theorem ok_store_Newer {a0 a1 σ Q} (h : σ.Live → F_store_Newer a0 a1 σ Q) : ACalls PG n_store_Newer [a0, a1] σ Q :=
  .of_sem [none, none] [(6, tI), (8, tI), (9, tI), (11, tI), (13, tI), (14, tI), (16, tI)] mixed (by kernel_rfl) (by kernel_rfl) h
/-! vitrine/vitrineref18.Newer -/
def F_ref18_Newer (a0 : AV) (a1 : AV) (σ : Mem) (Q : AV → Mem → Prop) : Prop :=
boxW a0 (
newW (σ.bump 3) σ.next (.rw a0.cells) fun σ0 =>
boxW a1 (
newW σ0 (σ.next + 1) (.rw a1.cells) fun σ1 =>
fldW 0 (.ptr σ.next 0) fun v2 =>
ldI (σ1.bump 20) v2 fun v3 =>
fldW 0 (.ptr (σ.next + 1) 0) fun v4 =>
ldI (σ1.bump 20) v4 fun v5 =>
ifB (decide (v5 < v3)) (
Q (.bool true) (σ1.bump 20)) (
fldW 0 (.ptr σ.next 0) fun v6 =>
ldI (σ1.bump 20) v6 fun v7 =>
fldW 0 (.ptr (σ.next + 1) 0) fun v8 =>
ldI (σ1.bump 20) v8 fun v9 =>
ifB (decide (v7 = v9)) (
fldW 1 (.ptr σ.next 0) fun v10 =>
ldI (σ1.bump 20) v10 fun v11 =>
fldW 1 (.ptr (σ.next + 1) 0) fun v12 =>
ldI (σ1.bump 20) v12 fun v13 =>
Q (.bool (decide (v13 < v11))) (σ1.bump 20)) (
Q (.bool false) (σ1.bump 20)))))
theorem ok_ref18_Newer {a0 a1 σ Q} (h : σ.Live → F_ref18_Newer a0 a1 σ Q) : ACalls PG n_ref18_Newer [a0, a1] σ Q :=
  .of_sem [none, none] [(6, tI), (8, tI), (12, tI), (14, tI), (18, tI), (20, tI)] mixed (by kernel_rfl) (by kernel_rfl) h
/-! cmp.Or[int] -/
def F_cmp_Or_int__l1 (a0 : AV) (Q : AV → Mem → Prop) (v0 : Int) (next1 : Int → Mem → Prop) (v2 : Int) (σ3 : Mem) : Prop :=
ifB (decide (v2 < v0)) (
idxW 1 a0 v2 fun v4 =>
ldI (σ3.bump 4) v4 fun v5 =>
ifB (decide (v5 ≠ 0)) (
Q (.int .i64 v5) (σ3.bump 9)) (
iW (v2 + 1) fun v6 =>
next1 v6 (σ3.bump 9))) (
Q (.int .i64 0) (σ3.bump 3))
def F_cmp_Or_int_ (a0 : AV) (σ : Mem) (Q : AV → Mem → Prop) : Prop :=
slenW a0 fun v0 =>
loopF [tI] (F_cmp_Or_int__l1 a0 Q v0) 0 (σ.bump 5)
theorem ok_cmp_Or_int_ {a0 σ Q} (h : σ.Live → F_cmp_Or_int_ a0 σ Q) : ACalls PG n_cmp_Or_int_ [a0] σ Q :=
  .of_sem [none, none, none, none, some ([3, 6, 7], [8]), none, none, none, none, none, none, none, none, none] [(8, tI), (11, tI)] mixed (by kernel_rfl) (by kernel_rfl) h
/-! cmp.Compare[int] -/
def F_cmp_Compare_int_ (a0 : Int) (a1 : Int) (σ : Mem) (Q : AV → Mem → Prop) : Prop :=
callW PG n_cmp_isNaN_int_ [.int .i64 a0] (σ.bump 4) fun v0 σ1 =>
castB v0 fun v2 =>
callW PG n_cmp_isNaN_int_ [.int .i64 a1] (σ1.bump 3) fun v3 σ4 =>
castB v3 fun v5 =>
ifB v2 (
ifB v5 (
Q (.int .i64 0) (σ4.bump 3)) (
Q (.int .i64 (-1)) (σ4.bump 3))) (
ifB v5 (
Q (.int .i64 1) (σ4.bump 3)) (
ifB (decide (a0 < a1)) (
Q (.int .i64 (-1)) (σ4.bump 6)) (
ifB (decide (a1 < a0)) (
Q (.int .i64 1) (σ4.bump 9)) (
Q (.int .i64 0) (σ4.bump 9)))))
theorem ok_cmp_Compare_int_ {a0 a1 σ Q} (h : σ.Live → F_cmp_Compare_int_ a0 a1 σ Q) : ACalls PG n_cmp_Compare_int_ [.int .i64 a0, .int .i64 a1] σ Q :=
  .of_sem [none, none, none, none, none, none, none, none, none, none, none, none, none, none, none, none, none, none, none] [(8, .b), (10, .b)] mixed (by kernel_rfl) (by kernel_rfl) h
/-! cmp.isNaN[int] -/
def F_cmp_isNaN_int_ (a0 : Int) (σ : Mem) (Q : AV → Mem → Prop) : Prop :=
Q (.bool (decide (a0 ≠ a0))) (σ.bump 5)
theorem ok_cmp_isNaN_int_ {a0 σ Q} (h : σ.Live → F_cmp_isNaN_int_ a0 σ Q) : ACalls PG n_cmp_isNaN_int_ [.int .i64 a0] σ Q :=
  .of_sem [none, none] [] mixed (by kernel_rfl) (by kernel_rfl) h
/-! vitrine/vitrinelaw18.StoreNil -/
/-! (*vitrine/store.Store).Get -/
/-! vitrine/store.Open -/
/-! (*vitrine/store.Store).Put -/
/-! (*vitrine/store.Store).Compact -/
/-! (*vitrine/store.Store).Entries -/
/-! (*vitrine/store.Store).Bands -/
/-! (*vitrine/store.Store).Has -/
/-! vitrine/seglog.Open -/
/-! vitrine/vitrinelaw24.ClusterNil -/
/-! vitrine/cluster.New -/
/-! (*vitrine/cluster.Cluster).Put -/
/-! (*vitrine/cluster.Cluster).Get -/
/-! (*vitrine/cluster.Cluster).Result -/
/-! (*vitrine/cluster.Cluster).Events -/
/-! (*vitrine/cluster.Cluster).Sync -/
/-! (*vitrine/cluster.Cluster).Entries -/
/-! (*vitrine/cluster.Cluster).Resend -/
/-! (*vitrine/cluster.Cluster).Net -/
/-! (*vitrine/cluster.Cluster).Deliver -/
/-! (*vitrine/cluster.Cluster).Drop -/
/-! (*vitrine/cluster.Cluster).Again -/
/-! (*vitrine/cluster.Cluster).Down -/
/-! (*vitrine/cluster.Cluster).Arm -/
/-! (*vitrine/cluster.Cluster).Start -/
/-! (*vitrine/cluster.Cluster).Compact -/
/-! vitrine/vitrinelaw25.ArchiveNil -/
/-! (*vitrine/archive.Archive).Get -/
/-! (*vitrine/archive.Archive).List -/
/-! (*vitrine/archive.Archive).Repair -/
/-! (*vitrine/archive.Archive).Put -/
/-! (*vitrine/archive.Archive).Again -/
/-! (*vitrine/archive.Archive).Down -/
/-! (*vitrine/archive.Archive).Arm -/
/-! (*vitrine/archive.Archive).Start -/
/-! (*vitrine/archive.Archive).Compact -/
/-! (*vitrine/archive.Archive).run -/
/-! (*vitrine/archive.Archive).up -/
/-! vitrine/vitrinelaw23.SessionNil -/
/-! vitrine/session.Run -/
/-! vitrine/session.way -/
/-! (*vitrine/store.Store).lives -/
/-! vitrine/archive.New -/
end Go.Vit
