/- The functions, as printed conditions. -/
import Derived.Test.YtomldponnggnfaaGreatVm2
import Derived.Test.YtomldponnggnfaaGreatChecked
import Derived.KernelRfl
set_option linter.unusedVariables false
set_option linter.unusedSimpArgs false
set_option linter.unusedVariables false
set_option maxRecDepth 100000
namespace Go.Vit
open Go.Proofs
noncomputable abbrev PG : Program := Tryz.prog
theorem mixed : PG.follows .mixedOrders = true := by kernel_rfl
abbrev n_law21_ReplicaNil : Nat := 3
abbrev n_replica_Replica_Handle : Nat := 10
abbrev n_replica_New : Nat := 11
abbrev n_law21_awake : Nat := 12
abbrev n_store_Store_Get : Nat := 16
abbrev n_store_Store_Put : Nat := 18
/-! vitrine/vitrinelaw21.ReplicaNil -/
def F_law21_ReplicaNil (a0 : AV) (σ : Mem) (Q : AV → Mem → Prop) : Prop :=
boxW a0 (
newW (σ.bump 2) σ.next (.rw a0.cells) fun σ0 =>
ldnW 9 (σ0.bump 9) (.ptr σ.next 0) fun v1 =>
callW PG n_replica_Replica_Handle [.nilp, v1] (σ0.bump 9) fun v2 σ3 =>
tupW v2 0 fun v4 =>
tpI v2 1 fun v5 =>
callW PG n_replica_New [.int .i64 1, .nilp] (σ3.bump 6) fun v6 σ7 =>
tupW v6 0 fun v8 =>
tpI v6 1 fun v9 =>
slenW v4 fun v10 =>
ifB (decide (v10 = 0)) (
ifB (decide (v5 = 2)) (
eqW .ptr v8 .nilp fun v11 =>
ifB v11 (
ifB (decide (v9 = 2)) (
callW PG n_law21_awake [] (σ7.bump 19) fun v12 σ13 =>
castB v12 fun v14 =>
Q (.bool v14) σ13) (
Q (.bool false) (σ7.bump 19))) (
Q (.bool false) (σ7.bump 19))) (
Q (.bool false) (σ7.bump 19))) (
Q (.bool false) (σ7.bump 19)))
theorem ok_law21_ReplicaNil {a0 σ Q} (h : σ.Live → F_law21_ReplicaNil a0 σ Q) : ACalls PG n_law21_ReplicaNil [a0] σ Q :=
  .of_sem [none, none, none, none, none] [(13, tI), (17, tI), (34, .b)] mixed (by kernel_rfl) (by kernel_rfl) h
/-! (*vitrine/replica.Replica).Handle -/
def F_replica_Replica_Handle_j1 (Q : AV → Mem → Prop) (σ0 : Mem) (σ16 : Mem) : Prop :=
ldnW 9 (σ16.bump 4) (.ptr (σ0.next + 22) 0) fun v17 =>
cellOkW v17 9 (
newW (σ16.bump 4) (σ16.next + 1) (.rw (setAt [.int .i64 0, .int .i64 0, .int .i64 0, .int .i64 0, .str ⟨#[]⟩, .int .i64 0, .int .i64 0, .str ⟨#[]⟩, .nils] 0 v17.cells)) fun σ18 =>
Q (.tup [.slice (σ16.next + 1) 0 1 (.ex 1), .int .i64 0]) σ18)
def F_replica_Replica_Handle (a0 : AV) (a1 : AV) (σ : Mem) (Q : AV → Mem → Prop) : Prop :=
boxW a1 (
newW (σ.bump 3) σ.next (.rw a1.cells) fun σ0 =>
eqW .ptr a0 .nilp fun v1 =>
ifB v1 (
Q (.tup [.nils, .int .i64 2]) (σ0.bump 5)) (
fldW 2 (.ptr σ.next 0) fun v2 =>
ldI (σ0.bump 11) v2 fun v3 =>
lfI 0 (σ0.bump 11) a0 fun v4 =>
ifB (decide (v3 ≠ v4)) (
Q (.tup [.nils, .int .i64 1]) (σ0.bump 13)) (
lfI 0 (σ0.bump 24) a0 fun v5 =>
fldW 1 (.ptr σ.next 0) fun v6 =>
ldI (σ0.bump 24) v6 fun v7 =>
fldW 3 (.ptr σ.next 0) fun v8 =>
ldI (σ0.bump 24) v8 fun v9 =>
fldW 4 (.ptr σ.next 0) fun v10 =>
ldS (σ0.bump 24) v10 fun v11 =>
newW (σ0.bump 24) (σ0.next + 22) (.rw [.int .i64 0, .int .i64 0, .int .i64 0, .int .i64 0, .str ⟨#[]⟩, .int .i64 0, .int .i64 0, .str ⟨#[]⟩, .nils]) fun σ12 =>
stW 9 σ12 (.ptr (σ0.next + 22) 0) (.agg [.int .i64 0, .int .i64 v5, .int .i64 v7, .int .i64 v9, .str v11, .int .i64 0, .int .i64 0, .str ⟨#[]⟩, .nils]) fun σ13 =>
fldW 0 (.ptr σ.next 0) fun v14 =>
ldI (σ13.bump 2) v14 fun v15 =>
joinF [] (fun (k19 : Mem → Prop) =>
ifB (decide (v15 = 1)) (
fldW 0 (.ptr (σ0.next + 22) 0) fun v20 =>
stW 1 (σ13.bump 6) v20 (.int .i64 2) fun σ21 =>
lfW 1 (σ21.bump 18) a0 fun v22 =>
fldW 4 (.ptr σ.next 0) fun v23 =>
ldS (σ21.bump 18) v23 fun v24 =>
callW PG n_store_Store_Get [v22, .str v24] (σ21.bump 18) fun v25 σ26 =>
tupW v25 0 fun v27 =>
tpS v25 1 fun v28 =>
tupW v25 2 fun v29 =>
tpI v25 3 fun v30 =>
fldW 5 (.ptr (σ0.next + 22) 0) fun v31 =>
stW 2 σ26 v31 v27 fun σ32 =>
fldW 7 (.ptr (σ0.next + 22) 0) fun v33 =>
stW 1 σ32 v33 (.str v28) fun σ34 =>
fldW 8 (.ptr (σ0.next + 22) 0) fun v35 =>
stW 1 σ34 v35 v29 fun σ36 =>
k19 σ36) (
ifB (decide (v15 = 3)) (
lfW 1 (σ13.bump 20) a0 fun v37 =>
fldW 4 (.ptr σ.next 0) fun v38 =>
ldS (σ13.bump 20) v38 fun v39 =>
fldW 5 (.ptr σ.next 0) fun v40 =>
ldnW 2 (σ13.bump 20) v40 fun v41 =>
fldW 7 (.ptr σ.next 0) fun v42 =>
ldS (σ13.bump 20) v42 fun v43 =>
fldW 8 (.ptr σ.next 0) fun v44 =>
ldW (σ13.bump 20) v44 fun v45 =>
callW PG n_store_Store_Put [v37, .str v39, v41, .str v43, v45] (σ13.bump 20) fun v46 σ47 =>
castI .i64 v46 fun v48 =>
ifB (decide (v48 ≠ 0)) (
Q (.tup [.nils, .int .i64 v48]) (σ47.bump 5)) (
fldW 5 (.ptr σ.next 0) fun v49 =>
ldnW 2 (σ47.bump 8) v49 fun v50 =>
fldW 0 (.ptr (σ0.next + 22) 0) fun v51 =>
stW 1 (σ47.bump 8) v51 (.int .i64 4) fun σ52 =>
fltS.sameW (σ47.bump 8) σ52 v49 (
fldW 5 (.ptr (σ0.next + 22) 0) fun v53 =>
stW 2 σ52 v53 v50 fun σ54 =>
k19 σ54))) (
Q (.tup [.nils, .int .i64 0]) (σ13.bump 8)))) (F_replica_Replica_Handle_j1 Q σ0))))
theorem ok_replica_Replica_Handle {a0 a1 σ Q} (h : σ.Live → F_replica_Replica_Handle a0 a1 σ Q) : ACalls PG n_replica_Replica_Handle [a0, a1] σ Q :=
  .of_sem [none, none, none, none, none, none, none, none, none, none, none, none, some ([6], []), none, none, none, none, none, none, none, none, none, none, none] [(13, tI), (17, tI), (22, tI), (24, tI), (26, tI), (28, .s), (31, tI), (41, .s), (44, .s), (46, tI), (57, .s), (61, .s), (64, tI)] mixed (by kernel_rfl) (by kernel_rfl) h
/-! vitrine/replica.New -/
def F_replica_New (a0 : Int) (a1 : AV) (σ : Mem) (Q : AV → Mem → Prop) : Prop :=
eqW .ptr a1 .nilp fun v0 =>
ifB v0 (
Q (.tup [.nilp, .int .i64 2]) (σ.bump 7)) (
ifB (decide (a0 < 0)) (
Q (.tup [.nilp, .int .i64 1]) (σ.bump 14)) (
ifB (decide (1024 ≤ a0)) (
Q (.tup [.nilp, .int .i64 1]) (σ.bump 14)) (
cellOkW a1 1 (
boxW (.agg (setAt [.int .i64 a0, .nilp] 1 a1.cells)) (
newW (σ.bump 18) (σ.next + 15) (.rw (setAt [.int .i64 a0, .nilp] 1 a1.cells)) fun σ1 =>
Q (.tup [.ptr (σ.next + 15) 0, .int .i64 0]) σ1)))))
theorem ok_replica_New {a0 a1 σ Q} (h : σ.Live → F_replica_New a0 a1 σ Q) : ACalls PG n_replica_New [.int .i64 a0, a1] σ Q :=
  .of_sem [none, none, none, none, none, none, none, none, none] [] mixed (by kernel_rfl) (by kernel_rfl) h
/-! vitrine/vitrinelaw18.StoreNewer -/
/-! vitrine/store.Newer -/
/-! vitrine/vitrineref18.Newer -/
/-! cmp.Or[int] -/
/-! cmp.Compare[int] -/
/-! cmp.isNaN[int] -/
/-! vitrine/vitrinelaw18.StoreNil -/
/-! vitrine/store.Open -/
/-! vitrine/seglog.Open -/
end Go.Vit
