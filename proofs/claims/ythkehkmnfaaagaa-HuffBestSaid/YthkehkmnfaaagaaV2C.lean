/- The functions, as printed conditions. -/
import Derived.Test.YthkehkmnfaaagaaVm2
import Derived.Test.YthkehkmnfaaagaaChecked
import Derived.KernelRfl
set_option linter.unusedVariables false
set_option linter.unusedSimpArgs false
set_option linter.unusedVariables false
set_option maxRecDepth 100000
namespace Go.Vit
open Go.Proofs
noncomputable abbrev PG : Program := Try.prog
theorem mixed : PG.follows .mixedOrders = true := by kernel_rfl
abbrev n_law02_HuffBest : Nat := 6
abbrev n_huff_Check : Nat := 12
abbrev n_law02_awake : Nat := 14
abbrev n_huff_Limit : Nat := 18
abbrev n_slices_ContainsFunc___int_int_ : Nat := 32
abbrev n_huff_Check_1 : Nat := 33
abbrev n_huff_counted : Nat := 34
abbrev n_huff_Limit_1 : Nat := 37
abbrev n_slices_SortStableFunc___huff_item_huff_item_ : Nat := 38
abbrev n_huff_byCount : Nat := 39
abbrev n_slices_Clone___huff_item_huff_item_ : Nat := 40
abbrev n_slices_Chunk___huff_item_huff_item_ : Nat := 41
abbrev n_huff_spend : Nat := 42
abbrev n_slices_SortStableFunc___int_int_ : Nat := 45
abbrev n_cmp_Compare_int_ : Nat := 47
abbrev n_slices_IndexFunc___int_int_ : Nat := 52
abbrev n_slices_stableCmpFunc_huff_item_ : Nat := 53
abbrev n_slices_Chunk___huff_item_huff_item__1 : Nat := 54
abbrev n_slices_stableCmpFunc_int_ : Nat := 55
abbrev n_cmp_isNaN_int_ : Nat := 56
abbrev n_slices_insertionSortCmpFunc_huff_item_ : Nat := 57
abbrev n_slices_symMergeCmpFunc_huff_item_ : Nat := 58
abbrev n_slices_insertionSortCmpFunc_int_ : Nat := 59
abbrev n_slices_symMergeCmpFunc_int_ : Nat := 60
abbrev n_slices_rotateCmpFunc_huff_item_ : Nat := 61
abbrev n_slices_rotateCmpFunc_int_ : Nat := 62
abbrev n_slices_swapRangeCmpFunc_huff_item_ : Nat := 63
abbrev n_slices_swapRangeCmpFunc_int_ : Nat := 64
/-! vitrine/vitrinelaw02.HuffChecks -/
/-! vitrine/vitrinelaw02.HuffCodes -/
/-! vitrine/vitrinelaw02.HuffLimits -/
/-! vitrine/vitrinelaw02.HuffBest -/
def F_law02_HuffBest_l2 (a1 : AV) (Q : AV → Mem → Prop) (v2 : AV) (next13 : Int → Int → Mem → Prop) (v15 : Int) (v30 : Int) (next31 : Int → Mem → Prop) (v32 : Int) (σ33 : Mem) : Prop :=
slenW v2 fun v34 =>
ifB (decide (v32 < v34)) (
idxW 1 a1 v15 fun v35 =>
ldI (σ33.bump 31) v35 fun v36 =>
idxW 1 a1 v32 fun v37 =>
ldI (σ33.bump 31) v37 fun v38 =>
ifB (decide (v38 < v36)) (
idxW 1 a1 v32 fun v39 =>
ldI (σ33.bump 31) v39 fun v40 =>
ifB (decide (0 < v40)) (
idxW 1 v2 v15 fun v41 =>
ldI (σ33.bump 31) v41 fun v42 =>
idxW 1 v2 v32 fun v43 =>
ldI (σ33.bump 31) v43 fun v44 =>
ifB (decide (v44 < v42)) (
Q (.bool false) (σ33.bump 32)) (
iW (v32 + 1) fun v45 =>
next31 v45 (σ33.bump 34))) (
iW (v32 + 1) fun v46 =>
next31 v46 (σ33.bump 34))) (
iW (v32 + 1) fun v47 =>
next31 v47 (σ33.bump 34))) (
iW (v15 + 1) fun v48 =>
next13 v30 v48 (σ33.bump 7))
def F_law02_HuffBest_l3 (a1 : AV) (Q : AV → Mem → Prop) (v14 : Int) (v52 : AV) (next56 : Int → Int → Mem → Prop) (v57 : Int) (v58 : Int) (σ59 : Mem) : Prop :=
slenW v52 fun v60 =>
ifB (decide (v58 < v60)) (
idxW 1 v52 v58 fun v61 =>
ldI (σ59.bump 16) v61 fun v62 =>
idxW 1 a1 v58 fun v63 =>
ldI (σ59.bump 16) v63 fun v64 =>
iW (v62 * v64) fun v65 =>
iW (v57 + v65) fun v66 =>
iW (v58 + 1) fun v67 =>
next56 v66 v67 (σ59.bump 19)) (
ifB (decide (v57 ≤ v14)) (
callW PG n_law02_awake [] (σ59.bump 11) fun v68 σ69 =>
castB v68 fun v70 =>
Q (.bool v70) σ69) (
Q (.bool false) (σ59.bump 11)))
def F_law02_HuffBest_l1 (a0 : Int) (a1 : AV) (Q : AV → Mem → Prop) (v2 : AV) (next13 : Int → Int → Mem → Prop) (v14 : Int) (v15 : Int) (σ16 : Mem) : Prop :=
slenW v2 fun v17 =>
ifB (decide (v15 < v17)) (
idxW 1 v2 v15 fun v18 =>
ldI (σ16.bump 23) v18 fun v19 =>
idxW 1 a1 v15 fun v20 =>
ldI (σ16.bump 23) v20 fun v21 =>
eqW .bool (.bool (decide (0 < v19))) (.bool (decide (0 < v21))) fun v22 =>
ifB (!v22) (
Q (.bool false) (σ16.bump 24)) (
idxW 1 v2 v15 fun v23 =>
ldI (σ16.bump 23) v23 fun v24 =>
ifB (decide (a0 < v24)) (
Q (.bool false) (σ16.bump 24)) (
idxW 1 v2 v15 fun v25 =>
ldI (σ16.bump 35) v25 fun v26 =>
idxW 1 a1 v15 fun v27 =>
ldI (σ16.bump 35) v27 fun v28 =>
iW (v26 * v28) fun v29 =>
iW (v14 + v29) fun v30 =>
loopF [tI] (F_law02_HuffBest_l2 a1 Q v2 next13 v15 v30) 0 (σ16.bump 36)))) (
ifB (decide (a0 < 15)) (
iW (a0 + 1) fun v49 =>
callW PG n_huff_Limit [.int .i64 v49, a1] (σ16.bump 15) fun v50 σ51 =>
tupW v50 0 fun v52 =>
tpI v50 1 fun v53 =>
ifB (decide (v53 ≠ 0)) (
Q (.bool false) (σ51.bump 10)) (
slenW v52 fun v54 =>
slenW v2 fun v55 =>
ifB (decide (v54 ≠ v55)) (
Q (.bool false) (σ51.bump 10)) (
loopF [tI, tI] (F_law02_HuffBest_l3 a1 Q v14 v52) 0 0 (σ51.bump 11)))) (
callW PG n_law02_awake [] (σ16.bump 8) fun v71 σ72 =>
castB v71 fun v73 =>
Q (.bool v73) σ72))
def F_law02_HuffBest (a0 : Int) (a1 : AV) (σ : Mem) (Q : AV → Mem → Prop) : Prop :=
callW PG n_huff_Limit [.int .i64 a0, a1] (σ.bump 9) fun v0 σ1 =>
tupW v0 0 fun v2 =>
tpI v0 1 fun v3 =>
ifB (decide (v3 ≠ 0)) (
ifB (decide (v3 = 1)) (
slenW v2 fun v4 =>
ifB (decide (v4 = 0)) (
callW PG n_law02_awake [] (σ1.bump 13) fun v5 σ6 =>
castB v5 fun v7 =>
Q (.bool v7) σ6) (
Q (.bool false) (σ1.bump 13))) (
Q (.bool false) (σ1.bump 13))) (
slenW v2 fun v8 =>
slenW a1 fun v9 =>
ifB (decide (v8 ≠ v9)) (
Q (.bool false) (σ1.bump 13)) (
callW PG n_huff_Check [v2] (σ1.bump 12) fun v10 σ11 =>
castI .i64 v10 fun v12 =>
ifB (decide (v12 ≠ 0)) (
Q (.bool false) (σ11.bump 1)) (
loopF [tI, tI] (F_law02_HuffBest_l1 a0 a1 Q v2) 0 0 (σ11.bump 2))))
theorem ok_law02_HuffBest {a0 a1 σ Q} (h : σ.Live → F_law02_HuffBest a0 a1 σ Q) : ACalls PG n_law02_HuffBest [.int .i64 a0, a1] σ Q :=
  .of_sem [none, none, none, none, none, none, none, none, none, none, none, some ([0, 1, 5], [7, 8]), none, none, none, none, none, none, none, none, none, some ([0, 1, 5, 7, 8], [9]), none, none, none, none, none, none, none, none, none, none, none, none, none, none, none, none, none, some ([1, 7, 10], [12, 13]), none, none, none, none, none, none, none] [(19, tI), (30, .b), (39, tI), (7, tI), (8, tI), (51, tI), (56, tI), (63, tI), (71, tI), (75, tI), (9, tI), (87, tI), (91, tI), (97, tI), (104, tI), (108, tI), (119, tI), (12, tI), (13, tI), (139, tI), (143, tI), (150, .b), (152, .b)] mixed (by kernel_rfl) (by kernel_rfl) h
/-! vitrine/vitrinelaw02.HuffMakes -/
/-! vitrine/vitrinelaw02.HuffLays -/
/-! vitrine/vitrinelaw02.HuffReads -/
/-! vitrine/vitrinelaw02.HuffNil -/
/-! vitrine/vitrinelaw02.HuffBack -/
/-! vitrine/huff.Check -/
def F_huff_Check_l1 (Q : AV → Mem → Prop) (σ2 : Mem) (v8 : AV) (next9 : Int → Int → Int → Mem → Prop) (v10 : Int) (v11 : Int) (v12 : Int) (σ13 : Mem) : Prop :=
ifB (decide (v12 < 16)) (
aidxW 16 1 none v8 v12 fun a => castI .i64 a fun v14 =>
iW (15 - v12) fun v15 =>
shlW .i64 v14 v15 fun v16 =>
iW (v10 + v16) fun v17 =>
iW (v11 + v14) fun v18 =>
iW (v12 + 1) fun v19 =>
next9 v17 v18 v19 (σ13.bump 18)) (
ifB (decide (32768 < v10)) (
Q (.int .i64 10) (σ13.bump 5)) (
ifB (decide (v10 < 32768)) (
ifB (decide (0 < v11)) (
ifB (decide (1 < v11)) (
Q (.int .i64 11) (σ13.bump 21)) (
idxAW 16 1 (.ptr (σ2.next + 2) 0) 1 fun v20 =>
ldI (σ13.bump 20) v20 fun v21 =>
ifB (decide (v21 = 0)) (
Q (.int .i64 11) (σ13.bump 21)) (
Q (.int .i64 0) (σ13.bump 21)))) (
Q (.int .i64 0) (σ13.bump 21))) (
Q (.int .i64 0) (σ13.bump 21))))
def F_huff_Check (a0 : AV) (σ : Mem) (Q : AV → Mem → Prop) : Prop :=
slenW a0 fun v0 =>
ifB (decide (288 < v0)) (
Q (.int .i64 1) (σ.bump 9)) (
callW PG n_slices_ContainsFunc___int_int_ [a0, .func 33 []] (σ.bump 8) fun v1 σ2 =>
castB v1 fun v3 =>
ifB v3 (
Q (.int .i64 1) (σ2.bump 1)) (
callW PG n_huff_counted [a0] (σ2.bump 4) fun v4 σ5 =>
newW σ5 (σ2.next + 2) (.rw (List.replicate 16 (.int .i64 0))) fun σ6 =>
stW 16 σ6 (.ptr (σ2.next + 2) 0) v4 fun σ7 =>
ldnW 16 (σ7.bump 4) (.ptr (σ2.next + 2) 0) fun v8 =>
loopF [tI, tI, tI] (F_huff_Check_l1 Q σ2 v8) 0 0 0 (σ7.bump 4)))
theorem ok_huff_Check {a0 σ Q} (h : σ.Live → F_huff_Check a0 σ Q) : ACalls PG n_huff_Check [a0] σ Q :=
  .of_sem [none, none, none, none, none, none, none, none, some ([3, 17], [4, 5, 18]), none, none, none, none, none, none, none, none, none, none, none, none, none, none, none] [(13, .b), (4, tI), (5, tI), (18, tI), (21, tI), (47, tI)] mixed (by kernel_rfl) (by kernel_rfl) h
/-! vitrine/vitrineref02.Check -/
/-! vitrine/vitrinelaw02.awake -/
/-! vitrine/huff.Codes -/
/-! vitrine/vitrineref02.Codes -/
/-! vitrine/vitrinelaw02.ints -/
/-! vitrine/huff.Limit -/
def F_huff_Limit_j1 (next5 : AV → Int → Mem → Prop) (v7 : Int) (v11 : AV) (σ12 : Mem) : Prop :=
iW (v7 + 1) fun v13 =>
next5 v11 v13 (σ12.bump 2)
def F_huff_Limit_j3 (k40 : AV → Mem → Prop) (σ43 : Mem) : Prop :=
k40 (.bool true) σ43
def F_huff_Limit_j4 (k44 : Mem → Prop) (σ45 : Mem) : Prop :=
k44 σ45
def F_huff_Limit_l2 (Q : AV → Mem → Prop) (v6 : AV) (σ8 : Mem) (v20 : Int) (v27 : Int) (next28 : AV → Int → Mem → Prop) (v29 : AV) (v30 : Int) (σ31 : Mem) : Prop :=
ifB (decide (v30 < v27)) (
callW PG n_slices_Clone___huff_item_huff_item_ [v6] (σ31.bump 5) fun v32 σ33 =>
newW σ33 (σ31.next + 3) (.rw [.nils]) fun σ34 =>
stW 1 σ34 (.ptr (σ31.next + 3) 0) v32 fun σ35 =>
callW PG n_slices_Chunk___huff_item_huff_item_ [v29, .int .i64 2] (σ35.bump 2) fun v36 σ37 =>
rangeW PG v36 (fun args38 σ39 k40 =>
arg1W args38 fun v41 =>
slenW v41 fun v42 =>
joinF [] (fun (k44 : Mem → Prop) =>
ifB (decide (v42 = 2)) (
joinF [] (fun (k46 : Mem → Prop) =>
ldW (σ39.bump 22) (.ptr (σ31.next + 3) 0) fun v47 =>
idxW 3 v41 0 fun v48 =>
fldW 0 v48 fun v49 =>
ldI (σ39.bump 22) v49 fun v50 =>
idxW 3 v41 1 fun v51 =>
fldW 0 v51 fun v52 =>
ldI (σ39.bump 22) v52 fun v53 =>
iW (v50 + v53) fun v54 =>
cellOkW v41 1 (
slenW v47 fun v55 =>
cellOkW (.agg [.int .i64 0, .int .i64 0, .nils]) 3 (
newW (σ39.bump 22) (σ39.next + 17) (.rw [.int .i64 0, .int .i64 0, .nils]) fun σ56 =>
apW 3 40 (σ39.next + 18) σ56 v47 (.slice (σ39.next + 17) 0 1 (.ex 1)) fun v57 σ58 =>
idxW 3 v57 v55 fun v59 =>
(
stW 3 σ58 v59 (.agg (setAt [.int .i64 v54, .int .i64 0, .nils] 2 v41.cells)) fun σ60 =>
stW 1 σ60 (.ptr (σ31.next + 3) 0) v57 fun σ61 =>
k46 σ61) ∧ (
stW 1 σ58 (.ptr (σ31.next + 3) 0) v57 fun σ62 =>
stW 3 σ62 v59 (.agg (setAt [.int .i64 v54, .int .i64 0, .nils] 2 v41.cells)) fun σ63 =>
k46 σ63)))) (F_huff_Limit_j4 k44)) (
k44 (σ39.bump 4))) (F_huff_Limit_j3 k40)) σ37 fun σ64 =>
ldW (σ64.bump 2) (.ptr (σ31.next + 3) 0) fun v65 =>
callW PG n_slices_SortStableFunc___huff_item_huff_item_ [v65, .func 39 []] (σ64.bump 2) fun v66 σ67 =>
ldW (σ67.bump 2) (.ptr (σ31.next + 3) 0) fun v68 =>
iW (v30 + 1) fun v69 =>
next28 v68 v69 (σ67.bump 4)) (
slenW v6 fun v70 =>
iW (2 * v70) fun v71 =>
iW (v71 - 2) fun v72 =>
slcW 3 v29 none (some v72) fun v73 =>
callW PG n_huff_spend [.slice (σ8.next + 8) 0 (Int.toNat v20) (.ex (Int.toNat v20)), v73] (σ31.bump 9) fun v74 σ75 =>
Q (.tup [.slice (σ8.next + 8) 0 (Int.toNat v20) (.ex (Int.toNat v20)), .int .i64 0]) (σ75.bump 3))
def F_huff_Limit_j2 (a0 : Int) (Q : AV → Mem → Prop) (v6 : AV) (σ8 : Mem) (v20 : Int) (σ23 : Mem) : Prop :=
slenW v6 fun v24 =>
ifB (decide (v24 < 2)) (
Q (.tup [.slice (σ8.next + 8) 0 (Int.toNat v20) (.ex (Int.toNat v20)), .int .i64 0]) (σ23.bump 6)) (
callW PG n_slices_SortStableFunc___huff_item_huff_item_ [v6, .func 39 []] (σ23.bump 5) fun v25 σ26 =>
iW (a0 - 1) fun v27 =>
loopF [.v, tI] (F_huff_Limit_l2 Q v6 σ8 v20 v27) v6 0 (σ26.bump 5))
def F_huff_Limit_l1 (a0 : Int) (a1 : AV) (Q : AV → Mem → Prop) (v4 : Int) (next5 : AV → Int → Mem → Prop) (v6 : AV) (v7 : Int) (σ8 : Mem) : Prop :=
ifB (decide (v7 < v4)) (
idxW 1 a1 v7 fun v9 =>
ldI (σ8.bump 6) v9 fun v10 =>
joinF [.v] (fun (k14 : AV → Mem → Prop) =>
ifB (decide (0 < v10)) (
cellOkW (.agg [.int .i64 v10, .int .i64 v7, .nils]) 3 (
newW (σ8.bump 15) (σ8.next + 12) (.rw [.int .i64 v10, .int .i64 v7, .nils]) fun σ15 =>
apW 3 40 (σ8.next + 13) σ15 v6 (.slice (σ8.next + 12) 0 1 (.ex 1)) fun v16 σ17 =>
k14 v16 σ17)) (
k14 v6 (σ8.bump 8))) (F_huff_Limit_j1 next5 v7)) (
slenW v6 fun v18 =>
shlW .i64 1 a0 fun v19 =>
ifB (decide (v19 < v18)) (
Q (.tup [.nils, .int .i64 1]) (σ8.bump 8)) (
slenW a1 fun v20 =>
makeW 8 v20 v20 (
newW (σ8.bump 10) (σ8.next + 8) (.rw (repl (Int.toNat v20) [.int .i64 0])) fun σ21 =>
slenW v6 fun v22 =>
joinF [] (fun (k76 : Mem → Prop) =>
ifB (decide (v22 = 1)) (
idxW 3 v6 0 fun v77 =>
fldW 1 v77 fun v78 =>
ldI (σ21.bump 10) v78 fun v79 =>
idxW 1 (.slice (σ8.next + 8) 0 (Int.toNat v20) (.ex (Int.toNat v20))) v79 fun v80 =>
stW 1 (σ21.bump 10) v80 (.int .i64 1) fun σ81 =>
k76 σ81) (
k76 (σ21.bump 3))) (F_huff_Limit_j2 a0 Q v6 σ8 v20))))
def F_huff_Limit (a0 : Int) (a1 : AV) (σ : Mem) (Q : AV → Mem → Prop) : Prop :=
ifB (decide (a0 < 1)) (
Q (.tup [.nils, .int .i64 1]) (σ.bump 19)) (
ifB (decide (15 < a0)) (
Q (.tup [.nils, .int .i64 1]) (σ.bump 19)) (
slenW a1 fun v0 =>
ifB (decide (288 < v0)) (
Q (.tup [.nils, .int .i64 1]) (σ.bump 19)) (
callW PG n_slices_ContainsFunc___int_int_ [a1, .func 37 []] (σ.bump 17) fun v1 σ2 =>
castB v1 fun v3 =>
ifB v3 (
Q (.tup [.nils, .int .i64 1]) (σ2.bump 2)) (
slenW a1 fun v4 =>
loopF [.v, tI] (F_huff_Limit_l1 a0 a1 Q v4) .nils 0 (σ2.bump 4)))))
theorem ok_huff_Limit {a0 a1 σ Q} (h : σ.Live → F_huff_Limit a0 a1 σ Q) : ACalls PG n_huff_Limit [.int .i64 a0, a1] σ Q :=
  .of_sem [none, none, none, none, none, none, none, some ([0, 1, 28, 29], [6, 30]), none, none, none, none, none, some ([0, 1, 28, 29, 30], [6]), none, none, none, none, none, none, none, some ([0, 6, 9], []), none, none, none, none, none, none, none, none, some ([6, 9, 69], [10, 70]), none, none, none, none, none, none, none, none, none, some ([], []), some ([], []), none, none, none, none, none] [(26, .b), (30, tI), (34, tI), (59, tI), (70, tI), (84, tI), (88, tI)] mixed (by kernel_rfl) (by kernel_rfl) h
/-! vitrine/vitrineref02.Limit -/
/-! vitrine/huff.Make -/
/-! vitrine/vitrineref02.Make -/
/-! vitrine/bits.New -/
/-! (*vitrine/huff.Table).Lay -/
/-! (*vitrine/vitrineref02.Table).Lay -/
/-! (*vitrine/bits.Writer).Text -/
/-! (*vitrine/vitrineref01.Writer).Text -/
/-! vitrine/bits.Read -/
/-! (*vitrine/huff.Table).Next -/
/-! (*vitrine/vitrineref02.Table).Next -/
/-! (*vitrine/bits.Reader).Left -/
/-! (*vitrine/vitrineref01.Reader).Left -/
/-! slices.ContainsFunc[[]int,int] -/
def F_slices_ContainsFunc___int_int_ (a0 : AV) (a1 : AV) (σ : Mem) (Q : AV → Mem → Prop) : Prop :=
callW PG n_slices_IndexFunc___int_int_ [a0, a1] (σ.bump 6) fun v0 σ1 =>
castI .i64 v0 fun v2 =>
Q (.bool (decide (0 ≤ v2))) σ1
theorem ok_slices_ContainsFunc___int_int_ {a0 a1 σ Q} (h : σ.Live → F_slices_ContainsFunc___int_int_ a0 a1 σ Q) : ACalls PG n_slices_ContainsFunc___int_int_ [a0, a1] σ Q :=
  .of_sem [none, none] [(7, tI)] mixed (by kernel_rfl) (by kernel_rfl) h
/-! vitrine/huff.Check$1 -/
def F_huff_Check_1 (a0 : Int) (σ : Mem) (Q : AV → Mem → Prop) : Prop :=
ifB (decide (a0 < 0)) (
Q (.bool true) (σ.bump 8)) (
Q (.bool (decide (15 < a0))) (σ.bump 8))
theorem ok_huff_Check_1 {a0 σ Q} (h : σ.Live → F_huff_Check_1 a0 σ Q) : ACalls PG n_huff_Check_1 [.int .i64 a0] σ Q :=
  .of_sem [none, none] [] mixed (by kernel_rfl) (by kernel_rfl) h
/-! vitrine/huff.counted -/
def F_huff_counted_j1 (next3 : Int → Mem → Prop) (v4 : Int) (σ8 : Mem) : Prop :=
iW (v4 + 1) fun v9 =>
next3 v9 (σ8.bump 2)
def F_huff_counted_l1 (a0 : AV) (Q : AV → Mem → Prop) (σ : Mem) (σ0 : Mem) (v2 : Int) (next3 : Int → Mem → Prop) (v4 : Int) (σ5 : Mem) : Prop :=
ifB (decide (v4 < v2)) (
idxW 1 a0 v4 fun v6 =>
ldI (σ5.bump 4) v6 fun v7 =>
joinF [] (fun (k10 : Mem → Prop) =>
ifB (decide (0 < v7)) (
idxAW 16 1 (.ptr σ0.next 0) v7 fun v11 =>
ldI (σ5.bump 12) v11 fun v12 =>
iW (v12 + 1) fun v13 =>
idxAW 16 1 (.ptr σ0.next 0) v7 fun v14 =>
stW 1 (σ5.bump 12) v14 (.int .i64 v13) fun σ15 =>
k10 σ15) (
k10 (σ5.bump 6))) (F_huff_counted_j1 next3 v4)) (
ldnW 16 (σ5.bump 3) (.ptr σ0.next 0) fun v16 =>
stW 16 (σ5.bump 3) (.ptr σ.next 0) v16 fun σ17 =>
ldnW 16 σ17 (.ptr σ.next 0) fun v18 =>
Q v18 σ17)
def F_huff_counted (a0 : AV) (σ : Mem) (Q : AV → Mem → Prop) : Prop :=
newW (σ.bump 1) σ.next (.rw (List.replicate 16 (.int .i64 0))) fun σ0 =>
newW (σ0.bump 1) σ0.next (.rw (List.replicate 16 (.int .i64 0))) fun σ1 =>
slenW a0 fun v2 =>
loopF [tI] (F_huff_counted_l1 a0 Q σ σ0 v2) 0 (σ1.bump 3)
theorem ok_huff_counted {a0 σ Q} (h : σ.Live → F_huff_counted a0 σ Q) : ACalls PG n_huff_counted [a0] σ Q :=
  .of_sem [none, none, none, none, some ([2, 3, 6, 7], [8]), none, none, none, none, none, some ([2, 3, 6, 7, 8], []), none, none, none] [(8, tI), (11, tI), (16, tI)] mixed (by kernel_rfl) (by kernel_rfl) h
/-! vitrine/vitrineref02.sum -/
/-! vitrine/huff.first -/
/-! vitrine/huff.Limit$1 -/
def F_huff_Limit_1 (a0 : Int) (σ : Mem) (Q : AV → Mem → Prop) : Prop :=
ifB (decide (a0 < 0)) (
Q (.bool true) (σ.bump 8)) (
Q (.bool (decide (1000000000 < a0))) (σ.bump 8))
theorem ok_huff_Limit_1 {a0 σ Q} (h : σ.Live → F_huff_Limit_1 a0 σ Q) : ACalls PG n_huff_Limit_1 [.int .i64 a0] σ Q :=
  .of_sem [none, none] [] mixed (by kernel_rfl) (by kernel_rfl) h
/-! slices.SortStableFunc[[]vitrine/huff.item,vitrine/huff.item] -/
def F_slices_SortStableFunc___huff_item_huff_item_ (a0 : AV) (a1 : AV) (σ : Mem) (Q : AV → Mem → Prop) : Prop :=
slenW a0 fun v0 =>
callW PG n_slices_stableCmpFunc_huff_item_ [a0, .int .i64 v0, a1] (σ.bump 5) fun v1 σ2 =>
Q (.tup []) σ2
theorem ok_slices_SortStableFunc___huff_item_huff_item_ {a0 a1 σ Q} (h : σ.Live → F_slices_SortStableFunc___huff_item_huff_item_ a0 a1 σ Q) : ACalls PG n_slices_SortStableFunc___huff_item_huff_item_ [a0, a1] σ Q :=
  .of_sem [none] [] mixed (by kernel_rfl) (by kernel_rfl) h
/-! vitrine/huff.byCount -/
def F_huff_byCount (a0 : AV) (a1 : AV) (σ : Mem) (Q : AV → Mem → Prop) : Prop :=
boxW a0 (
newW (σ.bump 3) σ.next (.rw a0.cells) fun σ0 =>
boxW a1 (
newW σ0 (σ.next + 1) (.rw a1.cells) fun σ1 =>
fldW 0 (.ptr σ.next 0) fun v2 =>
ldI (σ1.bump 6) v2 fun v3 =>
fldW 0 (.ptr (σ.next + 1) 0) fun v4 =>
ldI (σ1.bump 6) v4 fun v5 =>
callW PG n_cmp_Compare_int_ [.int .i64 v3, .int .i64 v5] (σ1.bump 6) fun v6 σ7 =>
castI .i64 v6 fun v8 =>
Q (.int .i64 v8) σ7))
theorem ok_huff_byCount {a0 a1 σ Q} (h : σ.Live → F_huff_byCount a0 a1 σ Q) : ACalls PG n_huff_byCount [a0, a1] σ Q :=
  .of_sem [none, none] [(6, tI), (8, tI), (9, tI)] mixed (by kernel_rfl) (by kernel_rfl) h
/-! slices.Clone[[]vitrine/huff.item,vitrine/huff.item] -/
def F_slices_Clone___huff_item_huff_item_ (a0 : AV) (σ : Mem) (Q : AV → Mem → Prop) : Prop :=
eqW .sl a0 .nils fun v0 =>
ifB v0 (
Q .nils (σ.bump 4)) (
newW (σ.bump 7) (σ.next + 3) (.rw []) fun σ1 =>
apW 3 40 (σ.next + 5) σ1 (.slice (σ.next + 3) 0 0 (.ex 0)) a0 fun v2 σ3 =>
Q v2 σ3)
theorem ok_slices_Clone___huff_item_huff_item_ {a0 σ Q} (h : σ.Live → F_slices_Clone___huff_item_huff_item_ a0 σ Q) : ACalls PG n_slices_Clone___huff_item_huff_item_ [a0] σ Q :=
  .of_sem [none, none, none, none, none] [] mixed (by kernel_rfl) (by kernel_rfl) h
/-! slices.Chunk[[]vitrine/huff.item,vitrine/huff.item] -/
def F_slices_Chunk___huff_item_huff_item__j1 (Q : AV → Mem → Prop) (σ : Mem) (σ3 : Mem) : Prop :=
Q (.func n_slices_Chunk___huff_item_huff_item__1 [.ptr σ.next 0, .ptr (σ.next + 1) 0]) (σ3.bump 2)
def F_slices_Chunk___huff_item_huff_item_ (a0 : AV) (a1 : Int) (σ : Mem) (Q : AV → Mem → Prop) : Prop :=
boxW a0 (
newW (σ.bump 3) σ.next (.rw a0.cells) fun σ0 =>
newW σ0 (σ.next + 1) (.rw [.int .i64 a1]) fun σ1 =>
ldI (σ1.bump 2) (.ptr (σ.next + 1) 0) fun v2 =>
joinF [] (fun (k4 : Mem → Prop) =>
ifB (decide (v2 < 1)) (
False) (
k4 (σ1.bump 2))) (F_slices_Chunk___huff_item_huff_item__j1 Q σ))
theorem ok_slices_Chunk___huff_item_huff_item_ {a0 a1 σ Q} (h : σ.Live → F_slices_Chunk___huff_item_huff_item_ a0 a1 σ Q) : ACalls PG n_slices_Chunk___huff_item_huff_item_ [a0, .int .i64 a1] σ Q :=
  .of_sem [none, none, some ([2, 3], []), none, none] [(5, tI)] mixed (by kernel_rfl) (by kernel_rfl) h
/-! vitrine/huff.spend -/
def F_huff_spend_j1 (next1 : Int → Mem → Prop) (v2 : Int) (σ11 : Mem) : Prop :=
iW (v2 + 1) fun v12 =>
next1 v12 (σ11.bump 2)
def F_huff_spend_l1 (a0 : AV) (a1 : AV) (Q : AV → Mem → Prop) (v0 : Int) (next1 : Int → Mem → Prop) (v2 : Int) (σ3 : Mem) : Prop :=
ifB (decide (v2 < v0)) (
idxW 3 a1 v2 fun v4 =>
ldnW 3 (σ3.bump 5) v4 fun v5 =>
newW (σ3.bump 5) (σ3.next + 3) (.rw [.int .i64 0, .int .i64 0, .nils]) fun σ6 =>
stW 3 σ6 (.ptr (σ3.next + 3) 0) v5 fun σ7 =>
fldW 2 (.ptr (σ3.next + 3) 0) fun v8 =>
ldW (σ7.bump 3) v8 fun v9 =>
eqW .sl v9 .nils fun v10 =>
joinF [] (fun (k13 : Mem → Prop) =>
ifB v10 (
fldW 1 (.ptr (σ3.next + 3) 0) fun v14 =>
ldI (σ7.bump 11) v14 fun v15 =>
idxW 1 a0 v15 fun v16 =>
ldI (σ7.bump 11) v16 fun v17 =>
iW (v17 + 1) fun v18 =>
idxW 1 a0 v15 fun v19 =>
stW 1 (σ7.bump 11) v19 (.int .i64 v18) fun σ20 =>
k13 σ20) (
fldW 2 (.ptr (σ3.next + 3) 0) fun v21 =>
ldW (σ7.bump 7) v21 fun v22 =>
callW PG n_huff_spend [a0, v22] (σ7.bump 7) fun v23 σ24 =>
k13 σ24)) (F_huff_spend_j1 next1 v2)) (
Q (.tup []) (σ3.bump 1))
def F_huff_spend (a0 : AV) (a1 : AV) (σ : Mem) (Q : AV → Mem → Prop) : Prop :=
slenW a1 fun v0 =>
loopF [tI] (F_huff_spend_l1 a0 a1 Q v0) 0 (σ.bump 3)
theorem ok_huff_spend {a0 a1 σ Q} (h : σ.Live → F_huff_spend a0 a1 σ Q) : ACalls PG n_huff_spend [a0, a1] σ Q :=
  .of_sem [none, none, some ([0, 6, 7], [8]), none, none, none, none, none, some ([0, 6, 7, 8], []), none, none, none] [(8, tI), (17, tI), (19, tI)] mixed (by kernel_rfl) (by kernel_rfl) h
/-! vitrine/vitrineref02.row -/
/-! slices.Clone[[]int,int] -/
/-! slices.SortStableFunc[[]int,int] -/
def F_slices_SortStableFunc___int_int_ (a0 : AV) (a1 : AV) (σ : Mem) (Q : AV → Mem → Prop) : Prop :=
slenW a0 fun v0 =>
callW PG n_slices_stableCmpFunc_int_ [a0, .int .i64 v0, a1] (σ.bump 5) fun v1 σ2 =>
Q (.tup []) σ2
theorem ok_slices_SortStableFunc___int_int_ {a0 a1 σ Q} (h : σ.Live → F_slices_SortStableFunc___int_int_ a0 a1 σ Q) : ACalls PG n_slices_SortStableFunc___int_int_ [a0, a1] σ Q :=
  .of_sem [none] [] mixed (by kernel_rfl) (by kernel_rfl) h
/-! vitrine/huff.Make$1 -/
/-! cmp.Compare[int] -/
def F_cmp_Compare_int_ (a0 : Int) (a1 : Int) (σ : Mem) (Q : AV → Mem → Prop) : Prop :=
callW PG n_cmp_isNaN_int_ [.int .i64 a0] (σ.bump 4) fun v0 σ1 =>
castB v0 fun v2 =>
callW PG n_cmp_isNaN_int_ [.int .i64 a1] (σ1.bump 3) fun v3 σ4 =>
castB v3 fun v5 =>
ifB v2 (
ifB v5 (
Q (.int .i64 0) (σ4.bump 3)) (
Q (.int .i64 (-1)) (σ4.bump 3))) (
ifB v5 (
Q (.int .i64 1) (σ4.bump 3)) (
ifB (decide (a0 < a1)) (
Q (.int .i64 (-1)) (σ4.bump 6)) (
ifB (decide (a1 < a0)) (
Q (.int .i64 1) (σ4.bump 9)) (
Q (.int .i64 0) (σ4.bump 9)))))
theorem ok_cmp_Compare_int_ {a0 a1 σ Q} (h : σ.Live → F_cmp_Compare_int_ a0 a1 σ Q) : ACalls PG n_cmp_Compare_int_ [.int .i64 a0, .int .i64 a1] σ Q :=
  .of_sem [none, none, none, none, none, none, none, none, none, none, none, none, none, none, none, none, none, none, none] [(8, .b), (10, .b)] mixed (by kernel_rfl) (by kernel_rfl) h
/-! (*vitrine/bits.Writer).Bits -/
/-! (*vitrine/vitrineref01.Writer).Bits -/
/-! (*vitrine/bits.Reader).Bits -/
/-! (*vitrine/vitrineref01.Reader).Bits -/
/-! slices.IndexFunc[[]int,int] -/
def F_slices_IndexFunc___int_int__l1 (a0 : AV) (a1 : AV) (Q : AV → Mem → Prop) (v0 : Int) (next1 : Int → Mem → Prop) (v2 : Int) (σ3 : Mem) : Prop :=
ifB (decide (v2 < v0)) (
idxW 1 a0 v2 fun v4 =>
ldI (σ3.bump 9) v4 fun v5 =>
callvW PG a1 [.int .i64 v5] (σ3.bump 9) fun v6 σ7 =>
castB v6 fun v8 =>
ifB v8 (
Q (.int .i64 v2) (σ7.bump 2)) (
iW (v2 + 1) fun v9 =>
next1 v9 (σ7.bump 2))) (
Q (.int .i64 (-1)) (σ3.bump 2))
def F_slices_IndexFunc___int_int_ (a0 : AV) (a1 : AV) (σ : Mem) (Q : AV → Mem → Prop) : Prop :=
slenW a0 fun v0 =>
loopF [tI] (F_slices_IndexFunc___int_int__l1 a0 a1 Q v0) 0 (σ.bump 4)
theorem ok_slices_IndexFunc___int_int_ {a0 a1 σ Q} (h : σ.Live → F_slices_IndexFunc___int_int_ a0 a1 σ Q) : ACalls PG n_slices_IndexFunc___int_int_ [a0, a1] σ Q :=
  .of_sem [none, none, none, some ([0, 1, 7], [8]), none, none, none, none, none, none, none, none, none] [(8, tI), (15, tI), (16, .b)] mixed (by kernel_rfl) (by kernel_rfl) h
/-! slices.stableCmpFunc[vitrine/huff.item] -/
def F_slices_stableCmpFunc_huff_item__j1 (next9 : Int → Mem → Prop) (v10 : Int) (σ23 : Mem) : Prop :=
iW (v10 * 2) fun v24 =>
next9 v24 (σ23.bump 3)
def F_slices_stableCmpFunc_huff_item__l3 (a0 : AV) (a1 : Int) (a2 : AV) (next9 : Int → Mem → Prop) (v10 : Int) (next13 : Int → Int → Mem → Prop) (v14 : Int) (v15 : Int) (σ16 : Mem) : Prop :=
ifB (decide (v15 ≤ a1)) (
iW (v14 + v10) fun v17 =>
callW PG n_slices_symMergeCmpFunc_huff_item_ [a0, .int .i64 v14, .int .i64 v17, .int .i64 v15, a2] (σ16.bump 11) fun v18 σ19 =>
iW (2 * v10) fun v20 =>
iW (v15 + v20) fun v21 =>
next13 v15 v21 (σ19.bump 7)) (
iW (v14 + v10) fun v22 =>
joinF [] (fun (k25 : Mem → Prop) =>
ifB (decide (v22 < a1)) (
callW PG n_slices_symMergeCmpFunc_huff_item_ [a0, .int .i64 v14, .int .i64 v22, .int .i64 a1, a2] (σ16.bump 16) fun v26 σ27 =>
k25 σ27) (
k25 (σ16.bump 10))) (F_slices_stableCmpFunc_huff_item__j1 next9 v10))
def F_slices_stableCmpFunc_huff_item__l2 (a0 : AV) (a1 : Int) (a2 : AV) (Q : AV → Mem → Prop) (next9 : Int → Mem → Prop) (v10 : Int) (σ11 : Mem) : Prop :=
ifB (decide (v10 < a1)) (
iW (2 * v10) fun v12 =>
loopF [tI, tI] (F_slices_stableCmpFunc_huff_item__l3 a0 a1 a2 next9 v10) 0 v12 (σ11.bump 7)) (
Q (.tup []) (σ11.bump 3))
def F_slices_stableCmpFunc_huff_item__l1 (a0 : AV) (a1 : Int) (a2 : AV) (Q : AV → Mem → Prop) (next0 : Int → Int → Mem → Prop) (v1 : Int) (v2 : Int) (σ3 : Mem) : Prop :=
ifB (decide (v2 ≤ a1)) (
callW PG n_slices_insertionSortCmpFunc_huff_item_ [a0, .int .i64 v1, .int .i64 v2, a2] (σ3.bump 8) fun v4 σ5 =>
iW (v2 + 20) fun v6 =>
next0 v2 v6 (σ5.bump 6)) (
callW PG n_slices_insertionSortCmpFunc_huff_item_ [a0, .int .i64 v1, .int .i64 a1, a2] (σ3.bump 8) fun v7 σ8 =>
loopF [tI] (F_slices_stableCmpFunc_huff_item__l2 a0 a1 a2 Q) 20 σ8)
def F_slices_stableCmpFunc_huff_item_ (a0 : AV) (a1 : Int) (a2 : AV) (σ : Mem) (Q : AV → Mem → Prop) : Prop :=
loopF [tI, tI] (F_slices_stableCmpFunc_huff_item__l1 a0 a1 a2 Q) 0 20 (σ.bump 4)
theorem ok_slices_stableCmpFunc_huff_item_ {a0 a1 a2 σ Q} (h : σ.Live → F_slices_stableCmpFunc_huff_item_ a0 a1 a2 σ Q) : ACalls PG n_slices_stableCmpFunc_huff_item_ [a0, .int .i64 a1, a2] σ Q :=
  .of_sem [none, none, none, some ([0, 1, 2, 6], [7, 8]), none, none, none, none, none, none, none, none, some ([0, 1, 2], [6]), none, none, none, none, none, some ([0, 1, 2, 6], [7, 8]), none, none, none, none, none, none, none, none, some ([0, 1, 2, 6], []), none, none] [(6, tI), (7, tI), (8, tI)] mixed (by kernel_rfl) (by kernel_rfl) h
/-! slices.Chunk[[]vitrine/huff.item,vitrine/huff.item]$1 -/
def F_slices_Chunk___huff_item_huff_item__1_l1 (Y : YEnv) (a0 : AV) (a1 : AV) (a2 : AV) (Q : AV → Mem → Prop) (next0 : Int → Mem → Prop) (v1 : Int) (σ2 : Mem) : Prop :=
ldW (σ2.bump 4) a1 fun v3 =>
slenW v3 fun v4 =>
ifB (decide (v1 < v4)) (
ldI (σ2.bump 11) a2 fun v5 =>
ldW (σ2.bump 11) a1 fun v6 =>
slcW 3 v6 (some v1) none fun v7 =>
slenW v7 fun v8 =>
letW (imin v5 v8) fun v9 =>
ldW (σ2.bump 23) a1 fun v10 =>
iW (v1 + v9) fun v11 =>
iW (v1 + v9) fun v12 =>
slc3W 3 v10 (some v1) v11 v12 fun v13 =>
callvY PG Y a0 [v13] (σ2.bump 23) fun v14 σ15 =>
castB v14 fun v16 =>
ifB (!v16) (
Q (.tup []) σ15) (
ldI (σ15.bump 4) a2 fun v17 =>
iW (v1 + v17) fun v18 =>
next0 v18 (σ15.bump 4))) (
Q (.tup []) (σ2.bump 4))
def F_slices_Chunk___huff_item_huff_item__1 (Y : YEnv) (a0 : AV) (a1 : AV) (a2 : AV) (σ : Mem) (Q : AV → Mem → Prop) : Prop :=
loopF [tI] (F_slices_Chunk___huff_item_huff_item__1_l1 Y a0 a1 a2 Q) 0 (σ.bump 1)
theorem ok_slices_Chunk___huff_item_huff_item__1 {Y : YEnv} {a0 a1 a2 σ Q} (h : σ.Live → F_slices_Chunk___huff_item_huff_item__1 Y a0 a1 a2 σ Q) : ACallsY PG Y n_slices_Chunk___huff_item_huff_item__1 [a0, a1, a2] σ Q :=
  .of_sem [none, none, some ([0, 1, 2], [4]), none, none, none, none, none, none, none] [(4, tI), (13, tI), (29, .b), (11, tI)] mixed (by kernel_rfl) (by kernel_rfl) h
/-! slices.stableCmpFunc[int] -/
def F_slices_stableCmpFunc_int__j1 (next9 : Int → Mem → Prop) (v10 : Int) (σ23 : Mem) : Prop :=
iW (v10 * 2) fun v24 =>
next9 v24 (σ23.bump 3)
def F_slices_stableCmpFunc_int__l3 (a0 : AV) (a1 : Int) (a2 : AV) (next9 : Int → Mem → Prop) (v10 : Int) (next13 : Int → Int → Mem → Prop) (v14 : Int) (v15 : Int) (σ16 : Mem) : Prop :=
ifB (decide (v15 ≤ a1)) (
iW (v14 + v10) fun v17 =>
callW PG n_slices_symMergeCmpFunc_int_ [a0, .int .i64 v14, .int .i64 v17, .int .i64 v15, a2] (σ16.bump 11) fun v18 σ19 =>
iW (2 * v10) fun v20 =>
iW (v15 + v20) fun v21 =>
next13 v15 v21 (σ19.bump 7)) (
iW (v14 + v10) fun v22 =>
joinF [] (fun (k25 : Mem → Prop) =>
ifB (decide (v22 < a1)) (
callW PG n_slices_symMergeCmpFunc_int_ [a0, .int .i64 v14, .int .i64 v22, .int .i64 a1, a2] (σ16.bump 16) fun v26 σ27 =>
k25 σ27) (
k25 (σ16.bump 10))) (F_slices_stableCmpFunc_int__j1 next9 v10))
def F_slices_stableCmpFunc_int__l2 (a0 : AV) (a1 : Int) (a2 : AV) (Q : AV → Mem → Prop) (next9 : Int → Mem → Prop) (v10 : Int) (σ11 : Mem) : Prop :=
ifB (decide (v10 < a1)) (
iW (2 * v10) fun v12 =>
loopF [tI, tI] (F_slices_stableCmpFunc_int__l3 a0 a1 a2 next9 v10) 0 v12 (σ11.bump 7)) (
Q (.tup []) (σ11.bump 3))
def F_slices_stableCmpFunc_int__l1 (a0 : AV) (a1 : Int) (a2 : AV) (Q : AV → Mem → Prop) (next0 : Int → Int → Mem → Prop) (v1 : Int) (v2 : Int) (σ3 : Mem) : Prop :=
ifB (decide (v2 ≤ a1)) (
callW PG n_slices_insertionSortCmpFunc_int_ [a0, .int .i64 v1, .int .i64 v2, a2] (σ3.bump 8) fun v4 σ5 =>
iW (v2 + 20) fun v6 =>
next0 v2 v6 (σ5.bump 6)) (
callW PG n_slices_insertionSortCmpFunc_int_ [a0, .int .i64 v1, .int .i64 a1, a2] (σ3.bump 8) fun v7 σ8 =>
loopF [tI] (F_slices_stableCmpFunc_int__l2 a0 a1 a2 Q) 20 σ8)
def F_slices_stableCmpFunc_int_ (a0 : AV) (a1 : Int) (a2 : AV) (σ : Mem) (Q : AV → Mem → Prop) : Prop :=
loopF [tI, tI] (F_slices_stableCmpFunc_int__l1 a0 a1 a2 Q) 0 20 (σ.bump 4)
theorem ok_slices_stableCmpFunc_int_ {a0 a1 a2 σ Q} (h : σ.Live → F_slices_stableCmpFunc_int_ a0 a1 a2 σ Q) : ACalls PG n_slices_stableCmpFunc_int_ [a0, .int .i64 a1, a2] σ Q :=
  .of_sem [none, none, none, some ([0, 1, 2, 6], [7, 8]), none, none, none, none, none, none, none, none, some ([0, 1, 2], [6]), none, none, none, none, none, some ([0, 1, 2, 6], [7, 8]), none, none, none, none, none, none, none, none, some ([0, 1, 2, 6], []), none, none] [(6, tI), (7, tI), (8, tI)] mixed (by kernel_rfl) (by kernel_rfl) h
/-! cmp.isNaN[int] -/
def F_cmp_isNaN_int_ (a0 : Int) (σ : Mem) (Q : AV → Mem → Prop) : Prop :=
Q (.bool (decide (a0 ≠ a0))) (σ.bump 5)
theorem ok_cmp_isNaN_int_ {a0 σ Q} (h : σ.Live → F_cmp_isNaN_int_ a0 σ Q) : ACalls PG n_cmp_isNaN_int_ [.int .i64 a0] σ Q :=
  .of_sem [none, none] [] mixed (by kernel_rfl) (by kernel_rfl) h
/-! slices.insertionSortCmpFunc[vitrine/huff.item] -/
def F_slices_insertionSortCmpFunc_huff_item__j1 (next1 : Int → Mem → Prop) (v2 : Int) (σ4 : Mem) : Prop :=
iW (v2 + 1) fun v5 =>
next1 v5 (σ4.bump 3)
def F_slices_insertionSortCmpFunc_huff_item__l2 (a0 : AV) (a1 : Int) (a3 : AV) (k6 : Mem → Prop) (next7 : Int → Mem → Prop) (v8 : Int) (σ9 : Mem) : Prop :=
ifB (decide (a1 < v8)) (
idxW 3 a0 v8 fun v10 =>
ldnW 3 (σ9.bump 17) v10 fun v11 =>
iW (v8 - 1) fun v12 =>
idxW 3 a0 v12 fun v13 =>
ldnW 3 (σ9.bump 17) v13 fun v14 =>
callvW PG a3 [v11, v14] (σ9.bump 17) fun v15 σ16 =>
castI .i64 v15 fun v17 =>
ifB (decide (v17 < 0)) (
iW (v8 - 1) fun v18 =>
iW (v8 - 1) fun v19 =>
idxW 3 a0 v19 fun v20 =>
ldnW 3 (σ16.bump 18) v20 fun v21 =>
idxW 3 a0 v8 fun v22 =>
ldnW 3 (σ16.bump 18) v22 fun v23 =>
idxW 3 a0 v8 fun v24 =>
stW 3 (σ16.bump 18) v24 v21 fun σ25 =>
idxW 3 a0 v18 fun v26 =>
stW 3 σ25 v26 v23 fun σ27 =>
iW (v8 - 1) fun v28 =>
next7 v28 (σ27.bump 3)) (
k6 σ16)) (
k6 (σ9.bump 17))
def F_slices_insertionSortCmpFunc_huff_item__l1 (a0 : AV) (a1 : Int) (a2 : Int) (a3 : AV) (Q : AV → Mem → Prop) (next1 : Int → Mem → Prop) (v2 : Int) (σ3 : Mem) : Prop :=
ifB (decide (v2 < a2)) (
joinF [] (fun (k6 : Mem → Prop) =>
loopF [tI] (F_slices_insertionSortCmpFunc_huff_item__l2 a0 a1 a3 k6) v2 (σ3.bump 5)) (F_slices_insertionSortCmpFunc_huff_item__j1 next1 v2)) (
Q (.tup []) (σ3.bump 3))
def F_slices_insertionSortCmpFunc_huff_item_ (a0 : AV) (a1 : Int) (a2 : Int) (a3 : AV) (σ : Mem) (Q : AV → Mem → Prop) : Prop :=
iW (a1 + 1) fun v0 =>
loopF [tI] (F_slices_insertionSortCmpFunc_huff_item__l1 a0 a1 a2 a3 Q) v0 (σ.bump 3)
theorem ok_slices_insertionSortCmpFunc_huff_item_ {a0 a1 a2 a3 σ Q} (h : σ.Live → F_slices_insertionSortCmpFunc_huff_item_ a0 a1 a2 a3 σ Q) : ACalls PG n_slices_insertionSortCmpFunc_huff_item_ [a0, .int .i64 a1, .int .i64 a2, a3] σ Q :=
  .of_sem [none, none, some ([0, 1, 2, 3], [8]), none, none, none, none, some ([0, 1, 2, 3, 8], []), some ([0, 1, 2, 3, 8], [9]), none, none, none, none, none, none] [(8, tI), (9, tI), (32, tI)] mixed (by kernel_rfl) (by kernel_rfl) h
/-! slices.symMergeCmpFunc[vitrine/huff.item] -/
def F_slices_symMergeCmpFunc_huff_item__j1 (next1 : Int → Int → Mem → Prop) (v16 : Int) (v17 : Int) (σ18 : Mem) : Prop :=
next1 v16 v17 σ18
def F_slices_symMergeCmpFunc_huff_item__l2 (a0 : AV) (Q : AV → Mem → Prop) (v2 : Int) (next21 : Int → Mem → Prop) (v22 : Int) (σ23 : Mem) : Prop :=
iW (v2 - 1) fun v24 =>
ifB (decide (v22 < v24)) (
iW (v22 + 1) fun v25 =>
iW (v22 + 1) fun v26 =>
idxW 3 a0 v26 fun v27 =>
ldnW 3 (σ23.bump 22) v27 fun v28 =>
idxW 3 a0 v22 fun v29 =>
ldnW 3 (σ23.bump 22) v29 fun v30 =>
idxW 3 a0 v22 fun v31 =>
stW 3 (σ23.bump 22) v31 v28 fun σ32 =>
idxW 3 a0 v25 fun v33 =>
stW 3 σ32 v33 v30 fun σ34 =>
iW (v22 + 1) fun v35 =>
next21 v35 (σ34.bump 3)) (
Q (.tup []) (σ23.bump 4))
def F_slices_symMergeCmpFunc_huff_item__l1 (a0 : AV) (a1 : Int) (a4 : AV) (Q : AV → Mem → Prop) (next1 : Int → Int → Mem → Prop) (v2 : Int) (v3 : Int) (σ4 : Mem) : Prop :=
ifB (decide (v2 < v3)) (
iW (v2 + v3) fun v5 =>
wrW .u64 v5 fun v6 =>
letW (v6 / 2) fun v7 =>
iW v7 fun v8 =>
idxW 3 a0 v8 fun v9 =>
ldnW 3 (σ4.bump 21) v9 fun v10 =>
idxW 3 a0 a1 fun v11 =>
ldnW 3 (σ4.bump 21) v11 fun v12 =>
callvW PG a4 [v10, v12] (σ4.bump 21) fun v13 σ14 =>
castI .i64 v13 fun v15 =>
joinF [tI, tI] (fun (k19 : Int → Int → Mem → Prop) =>
ifB (decide (v15 < 0)) (
iW (v8 + 1) fun v20 =>
k19 v20 v3 (σ14.bump 3)) (
k19 v2 v8 (σ14.bump 2))) (F_slices_symMergeCmpFunc_huff_item__j1 next1)) (
loopF [tI] (F_slices_symMergeCmpFunc_huff_item__l2 a0 Q v2) a1 (σ4.bump 5))
def F_slices_symMergeCmpFunc_huff_item__j2 (next37 : Int → Int → Mem → Prop) (v52 : Int) (v53 : Int) (σ54 : Mem) : Prop :=
next37 v52 v53 σ54
def F_slices_symMergeCmpFunc_huff_item__l4 (a0 : AV) (Q : AV → Mem → Prop) (v38 : Int) (next57 : Int → Mem → Prop) (v58 : Int) (σ59 : Mem) : Prop :=
ifB (decide (v38 < v58)) (
iW (v58 - 1) fun v60 =>
iW (v58 - 1) fun v61 =>
idxW 3 a0 v61 fun v62 =>
ldnW 3 (σ59.bump 21) v62 fun v63 =>
idxW 3 a0 v58 fun v64 =>
ldnW 3 (σ59.bump 21) v64 fun v65 =>
idxW 3 a0 v58 fun v66 =>
stW 3 (σ59.bump 21) v66 v63 fun σ67 =>
idxW 3 a0 v60 fun v68 =>
stW 3 σ67 v68 v65 fun σ69 =>
iW (v58 - 1) fun v70 =>
next57 v70 (σ69.bump 3)) (
Q (.tup []) (σ59.bump 3))
def F_slices_symMergeCmpFunc_huff_item__l3 (a0 : AV) (a2 : Int) (a4 : AV) (Q : AV → Mem → Prop) (next37 : Int → Int → Mem → Prop) (v38 : Int) (v39 : Int) (σ40 : Mem) : Prop :=
ifB (decide (v38 < v39)) (
iW (v38 + v39) fun v41 =>
wrW .u64 v41 fun v42 =>
letW (v42 / 2) fun v43 =>
iW v43 fun v44 =>
idxW 3 a0 a2 fun v45 =>
ldnW 3 (σ40.bump 22) v45 fun v46 =>
idxW 3 a0 v44 fun v47 =>
ldnW 3 (σ40.bump 22) v47 fun v48 =>
callvW PG a4 [v46, v48] (σ40.bump 22) fun v49 σ50 =>
castI .i64 v49 fun v51 =>
joinF [tI, tI] (fun (k55 : Int → Int → Mem → Prop) =>
ifB (!(decide (v51 < 0))) (
iW (v44 + 1) fun v56 =>
k55 v56 v39 (σ50.bump 3)) (
k55 v38 v44 (σ50.bump 2))) (F_slices_symMergeCmpFunc_huff_item__j2 next37)) (
loopF [tI] (F_slices_symMergeCmpFunc_huff_item__l4 a0 Q v38) a2 (σ40.bump 5))
def F_slices_symMergeCmpFunc_huff_item__j4 (next80 : Int → Int → Mem → Prop) (v96 : Int) (v97 : Int) (σ98 : Mem) : Prop :=
next80 v96 v97 σ98
def F_slices_symMergeCmpFunc_huff_item__j7 (Q : AV → Mem → Prop) (σ104 : Mem) : Prop :=
Q (.tup []) σ104
def F_slices_symMergeCmpFunc_huff_item__j8 (Q : AV → Mem → Prop) (σ108 : Mem) : Prop :=
Q (.tup []) σ108
def F_slices_symMergeCmpFunc_huff_item__j6 (a0 : AV) (a3 : Int) (a4 : AV) (Q : AV → Mem → Prop) (v74 : Int) (v101 : Int) (σ103 : Mem) : Prop :=
ifB (decide (v74 < v101)) (
joinF [] (fun (k105 : Mem → Prop) =>
ifB (decide (v101 < a3)) (
callW PG n_slices_symMergeCmpFunc_huff_item_ [a0, .int .i64 v74, .int .i64 v101, .int .i64 a3, a4] (σ103.bump 14) fun v106 σ107 =>
k105 σ107) (
k105 (σ103.bump 8))) (F_slices_symMergeCmpFunc_huff_item__j7 Q)) (
joinF [] (fun (k109 : Mem → Prop) =>
k109 (σ103.bump 8)) (F_slices_symMergeCmpFunc_huff_item__j8 Q))
def F_slices_symMergeCmpFunc_huff_item__j10 (Q : AV → Mem → Prop) (σ114 : Mem) : Prop :=
Q (.tup []) σ114
def F_slices_symMergeCmpFunc_huff_item__j11 (Q : AV → Mem → Prop) (σ118 : Mem) : Prop :=
Q (.tup []) σ118
def F_slices_symMergeCmpFunc_huff_item__j9 (a0 : AV) (a3 : Int) (a4 : AV) (Q : AV → Mem → Prop) (v74 : Int) (v101 : Int) (σ113 : Mem) : Prop :=
ifB (decide (v74 < v101)) (
joinF [] (fun (k115 : Mem → Prop) =>
ifB (decide (v101 < a3)) (
callW PG n_slices_symMergeCmpFunc_huff_item_ [a0, .int .i64 v74, .int .i64 v101, .int .i64 a3, a4] (σ113.bump 14) fun v116 σ117 =>
k115 σ117) (
k115 (σ113.bump 8))) (F_slices_symMergeCmpFunc_huff_item__j10 Q)) (
joinF [] (fun (k119 : Mem → Prop) =>
k119 (σ113.bump 8)) (F_slices_symMergeCmpFunc_huff_item__j11 Q))
def F_slices_symMergeCmpFunc_huff_item__j5 (a0 : AV) (a1 : Int) (a3 : Int) (a4 : AV) (Q : AV → Mem → Prop) (v74 : Int) (v81 : Int) (v101 : Int) (σ102 : Mem) : Prop :=
ifB (decide (a1 < v81)) (
joinF [] (fun (k110 : Mem → Prop) =>
ifB (decide (v81 < v74)) (
callW PG n_slices_symMergeCmpFunc_huff_item_ [a0, .int .i64 a1, .int .i64 v81, .int .i64 v74, a4] (σ102.bump 14) fun v111 σ112 =>
k110 σ112) (
k110 (σ102.bump 8))) (F_slices_symMergeCmpFunc_huff_item__j6 a0 a3 a4 Q v74 v101)) (
joinF [] (fun (k120 : Mem → Prop) =>
k120 (σ102.bump 8)) (F_slices_symMergeCmpFunc_huff_item__j9 a0 a3 a4 Q v74 v101))
def F_slices_symMergeCmpFunc_huff_item__j14 (Q : AV → Mem → Prop) (σ126 : Mem) : Prop :=
Q (.tup []) σ126
def F_slices_symMergeCmpFunc_huff_item__j15 (Q : AV → Mem → Prop) (σ130 : Mem) : Prop :=
Q (.tup []) σ130
def F_slices_symMergeCmpFunc_huff_item__j13 (a0 : AV) (a3 : Int) (a4 : AV) (Q : AV → Mem → Prop) (v74 : Int) (v101 : Int) (σ125 : Mem) : Prop :=
ifB (decide (v74 < v101)) (
joinF [] (fun (k127 : Mem → Prop) =>
ifB (decide (v101 < a3)) (
callW PG n_slices_symMergeCmpFunc_huff_item_ [a0, .int .i64 v74, .int .i64 v101, .int .i64 a3, a4] (σ125.bump 14) fun v128 σ129 =>
k127 σ129) (
k127 (σ125.bump 8))) (F_slices_symMergeCmpFunc_huff_item__j14 Q)) (
joinF [] (fun (k131 : Mem → Prop) =>
k131 (σ125.bump 8)) (F_slices_symMergeCmpFunc_huff_item__j15 Q))
def F_slices_symMergeCmpFunc_huff_item__j17 (Q : AV → Mem → Prop) (σ136 : Mem) : Prop :=
Q (.tup []) σ136
def F_slices_symMergeCmpFunc_huff_item__j18 (Q : AV → Mem → Prop) (σ140 : Mem) : Prop :=
Q (.tup []) σ140
def F_slices_symMergeCmpFunc_huff_item__j16 (a0 : AV) (a3 : Int) (a4 : AV) (Q : AV → Mem → Prop) (v74 : Int) (v101 : Int) (σ135 : Mem) : Prop :=
ifB (decide (v74 < v101)) (
joinF [] (fun (k137 : Mem → Prop) =>
ifB (decide (v101 < a3)) (
callW PG n_slices_symMergeCmpFunc_huff_item_ [a0, .int .i64 v74, .int .i64 v101, .int .i64 a3, a4] (σ135.bump 14) fun v138 σ139 =>
k137 σ139) (
k137 (σ135.bump 8))) (F_slices_symMergeCmpFunc_huff_item__j17 Q)) (
joinF [] (fun (k141 : Mem → Prop) =>
k141 (σ135.bump 8)) (F_slices_symMergeCmpFunc_huff_item__j18 Q))
def F_slices_symMergeCmpFunc_huff_item__j12 (a0 : AV) (a1 : Int) (a3 : Int) (a4 : AV) (Q : AV → Mem → Prop) (v74 : Int) (v81 : Int) (v101 : Int) (σ124 : Mem) : Prop :=
ifB (decide (a1 < v81)) (
joinF [] (fun (k132 : Mem → Prop) =>
ifB (decide (v81 < v74)) (
callW PG n_slices_symMergeCmpFunc_huff_item_ [a0, .int .i64 a1, .int .i64 v81, .int .i64 v74, a4] (σ124.bump 14) fun v133 σ134 =>
k132 σ134) (
k132 (σ124.bump 8))) (F_slices_symMergeCmpFunc_huff_item__j13 a0 a3 a4 Q v74 v101)) (
joinF [] (fun (k142 : Mem → Prop) =>
k142 (σ124.bump 8)) (F_slices_symMergeCmpFunc_huff_item__j16 a0 a3 a4 Q v74 v101))
def F_slices_symMergeCmpFunc_huff_item__l5 (a0 : AV) (a1 : Int) (a2 : Int) (a3 : Int) (a4 : AV) (Q : AV → Mem → Prop) (v74 : Int) (v75 : Int) (v79 : Int) (next80 : Int → Int → Mem → Prop) (v81 : Int) (v82 : Int) (σ83 : Mem) : Prop :=
ifB (decide (v81 < v82)) (
iW (v81 + v82) fun v84 =>
wrW .u64 v84 fun v85 =>
letW (v85 / 2) fun v86 =>
iW v86 fun v87 =>
iW (v79 - v87) fun v88 =>
idxW 3 a0 v88 fun v89 =>
ldnW 3 (σ83.bump 24) v89 fun v90 =>
idxW 3 a0 v87 fun v91 =>
ldnW 3 (σ83.bump 24) v91 fun v92 =>
callvW PG a4 [v90, v92] (σ83.bump 24) fun v93 σ94 =>
castI .i64 v93 fun v95 =>
joinF [tI, tI] (fun (k99 : Int → Int → Mem → Prop) =>
ifB (!(decide (v95 < 0))) (
iW (v87 + 1) fun v100 =>
k99 v100 v82 (σ94.bump 3)) (
k99 v81 v87 (σ94.bump 2))) (F_slices_symMergeCmpFunc_huff_item__j4 next80)) (
iW (v75 - v81) fun v101 =>
ifB (decide (v81 < a2)) (
joinF [] (fun (k121 : Mem → Prop) =>
ifB (decide (a2 < v101)) (
callW PG n_slices_rotateCmpFunc_huff_item_ [a0, .int .i64 v81, .int .i64 a2, .int .i64 v101, a4] (σ83.bump 21) fun v122 σ123 =>
k121 σ123) (
k121 (σ83.bump 15))) (F_slices_symMergeCmpFunc_huff_item__j5 a0 a1 a3 a4 Q v74 v81 v101)) (
joinF [] (fun (k143 : Mem → Prop) =>
k143 (σ83.bump 15)) (F_slices_symMergeCmpFunc_huff_item__j12 a0 a1 a3 a4 Q v74 v81 v101)))
def F_slices_symMergeCmpFunc_huff_item__j3 (a0 : AV) (a1 : Int) (a2 : Int) (a3 : Int) (a4 : AV) (Q : AV → Mem → Prop) (v74 : Int) (v75 : Int) (v76 : Int) (v77 : Int) (σ78 : Mem) : Prop :=
iW (v75 - 1) fun v79 =>
loopF [tI, tI] (F_slices_symMergeCmpFunc_huff_item__l5 a0 a1 a2 a3 a4 Q v74 v75 v79) v76 v77 (σ78.bump 3)
def F_slices_symMergeCmpFunc_huff_item_ (a0 : AV) (a1 : Int) (a2 : Int) (a3 : Int) (a4 : AV) (σ : Mem) (Q : AV → Mem → Prop) : Prop :=
iW (a2 - a1) fun v0 =>
ifB (decide (v0 = 1)) (
loopF [tI, tI] (F_slices_symMergeCmpFunc_huff_item__l1 a0 a1 a4 Q) a2 a3 (σ.bump 8)) (
iW (a3 - a2) fun v36 =>
ifB (decide (v36 = 1)) (
loopF [tI, tI] (F_slices_symMergeCmpFunc_huff_item__l3 a0 a2 a4 Q) a1 a2 (σ.bump 12)) (
iW (a1 + a3) fun v71 =>
wrW .u64 v71 fun v72 =>
letW (v72 / 2) fun v73 =>
iW v73 fun v74 =>
iW (v74 + a2) fun v75 =>
joinF [tI, tI] (fun (k144 : Int → Int → Mem → Prop) =>
ifB (decide (v74 < a2)) (
iW (v75 - a3) fun v145 =>
k144 v145 v74 (σ.bump 30)) (
k144 a1 a2 (σ.bump 28))) (F_slices_symMergeCmpFunc_huff_item__j3 a0 a1 a2 a3 a4 Q v74 v75)))
theorem ok_slices_symMergeCmpFunc_huff_item_ {a0 a1 a2 a3 a4 σ Q} (h : σ.Live → F_slices_symMergeCmpFunc_huff_item_ a0 a1 a2 a3 a4 σ Q) : ACalls PG n_slices_symMergeCmpFunc_huff_item_ [a0, .int .i64 a1, .int .i64 a2, .int .i64 a3, a4] σ Q :=
  .of_sem [none, none, none, none, none, some ([0, 1, 4], [10, 11]), none, none, none, none, none, some ([0, 1, 4], [10, 11]), none, none, none, none, some ([0, 10], [13]), none, none, none, none, none, none, none, none, none, none, some ([0, 2, 4], [14, 15]), none, none, none, none, none, some ([0, 2, 4], [14, 15]), none, none, none, none, some ([0, 14], [17]), none, none, none, none, none, none, none, none, none, some ([0, 1, 2, 3, 4, 18, 19], [20, 21]), none, none, none, none, none, none, some ([0, 1, 2, 3, 4, 18, 19, 22], [20, 21]), none, none, none, none, none, some ([0, 1, 2, 3, 4, 18, 19, 22], [20, 21]), none, none, none, none, some ([0, 1, 3, 4, 18, 20, 24], []), none, none, some ([0, 3, 4, 18, 24], []), none, none, some ([], []), none] [(10, tI), (11, tI), (49, tI), (13, tI), (14, tI), (15, tI), (101, tI), (17, tI), (20, tI), (21, tI), (169, tI)] mixed (by kernel_rfl) (by kernel_rfl) h
/-! slices.insertionSortCmpFunc[int] -/
def F_slices_insertionSortCmpFunc_int__j1 (next1 : Int → Mem → Prop) (v2 : Int) (σ4 : Mem) : Prop :=
iW (v2 + 1) fun v5 =>
next1 v5 (σ4.bump 3)
def F_slices_insertionSortCmpFunc_int__l2 (a0 : AV) (a1 : Int) (a3 : AV) (k6 : Mem → Prop) (next7 : Int → Mem → Prop) (v8 : Int) (σ9 : Mem) : Prop :=
ifB (decide (a1 < v8)) (
idxW 1 a0 v8 fun v10 =>
ldI (σ9.bump 17) v10 fun v11 =>
iW (v8 - 1) fun v12 =>
idxW 1 a0 v12 fun v13 =>
ldI (σ9.bump 17) v13 fun v14 =>
callvW PG a3 [.int .i64 v11, .int .i64 v14] (σ9.bump 17) fun v15 σ16 =>
castI .i64 v15 fun v17 =>
ifB (decide (v17 < 0)) (
iW (v8 - 1) fun v18 =>
iW (v8 - 1) fun v19 =>
idxW 1 a0 v19 fun v20 =>
ldI (σ16.bump 18) v20 fun v21 =>
idxW 1 a0 v8 fun v22 =>
ldI (σ16.bump 18) v22 fun v23 =>
idxW 1 a0 v8 fun v24 =>
stW 1 (σ16.bump 18) v24 (.int .i64 v21) fun σ25 =>
idxW 1 a0 v18 fun v26 =>
stW 1 σ25 v26 (.int .i64 v23) fun σ27 =>
iW (v8 - 1) fun v28 =>
next7 v28 (σ27.bump 3)) (
k6 σ16)) (
k6 (σ9.bump 17))
def F_slices_insertionSortCmpFunc_int__l1 (a0 : AV) (a1 : Int) (a2 : Int) (a3 : AV) (Q : AV → Mem → Prop) (next1 : Int → Mem → Prop) (v2 : Int) (σ3 : Mem) : Prop :=
ifB (decide (v2 < a2)) (
joinF [] (fun (k6 : Mem → Prop) =>
loopF [tI] (F_slices_insertionSortCmpFunc_int__l2 a0 a1 a3 k6) v2 (σ3.bump 5)) (F_slices_insertionSortCmpFunc_int__j1 next1 v2)) (
Q (.tup []) (σ3.bump 3))
def F_slices_insertionSortCmpFunc_int_ (a0 : AV) (a1 : Int) (a2 : Int) (a3 : AV) (σ : Mem) (Q : AV → Mem → Prop) : Prop :=
iW (a1 + 1) fun v0 =>
loopF [tI] (F_slices_insertionSortCmpFunc_int__l1 a0 a1 a2 a3 Q) v0 (σ.bump 3)
theorem ok_slices_insertionSortCmpFunc_int_ {a0 a1 a2 a3 σ Q} (h : σ.Live → F_slices_insertionSortCmpFunc_int_ a0 a1 a2 a3 σ Q) : ACalls PG n_slices_insertionSortCmpFunc_int_ [a0, .int .i64 a1, .int .i64 a2, a3] σ Q :=
  .of_sem [none, none, some ([0, 1, 2, 3], [8]), none, none, none, none, some ([0, 1, 2, 3, 8], []), some ([0, 1, 2, 3, 8], [9]), none, none, none, none, none, none] [(8, tI), (9, tI), (26, tI), (31, tI), (32, tI), (46, tI), (50, tI)] mixed (by kernel_rfl) (by kernel_rfl) h
/-! slices.symMergeCmpFunc[int] -/
def F_slices_symMergeCmpFunc_int__j1 (next1 : Int → Int → Mem → Prop) (v16 : Int) (v17 : Int) (σ18 : Mem) : Prop :=
next1 v16 v17 σ18
def F_slices_symMergeCmpFunc_int__l2 (a0 : AV) (Q : AV → Mem → Prop) (v2 : Int) (next21 : Int → Mem → Prop) (v22 : Int) (σ23 : Mem) : Prop :=
iW (v2 - 1) fun v24 =>
ifB (decide (v22 < v24)) (
iW (v22 + 1) fun v25 =>
iW (v22 + 1) fun v26 =>
idxW 1 a0 v26 fun v27 =>
ldI (σ23.bump 22) v27 fun v28 =>
idxW 1 a0 v22 fun v29 =>
ldI (σ23.bump 22) v29 fun v30 =>
idxW 1 a0 v22 fun v31 =>
stW 1 (σ23.bump 22) v31 (.int .i64 v28) fun σ32 =>
idxW 1 a0 v25 fun v33 =>
stW 1 σ32 v33 (.int .i64 v30) fun σ34 =>
iW (v22 + 1) fun v35 =>
next21 v35 (σ34.bump 3)) (
Q (.tup []) (σ23.bump 4))
def F_slices_symMergeCmpFunc_int__l1 (a0 : AV) (a1 : Int) (a4 : AV) (Q : AV → Mem → Prop) (next1 : Int → Int → Mem → Prop) (v2 : Int) (v3 : Int) (σ4 : Mem) : Prop :=
ifB (decide (v2 < v3)) (
iW (v2 + v3) fun v5 =>
wrW .u64 v5 fun v6 =>
letW (v6 / 2) fun v7 =>
iW v7 fun v8 =>
idxW 1 a0 v8 fun v9 =>
ldI (σ4.bump 21) v9 fun v10 =>
idxW 1 a0 a1 fun v11 =>
ldI (σ4.bump 21) v11 fun v12 =>
callvW PG a4 [.int .i64 v10, .int .i64 v12] (σ4.bump 21) fun v13 σ14 =>
castI .i64 v13 fun v15 =>
joinF [tI, tI] (fun (k19 : Int → Int → Mem → Prop) =>
ifB (decide (v15 < 0)) (
iW (v8 + 1) fun v20 =>
k19 v20 v3 (σ14.bump 3)) (
k19 v2 v8 (σ14.bump 2))) (F_slices_symMergeCmpFunc_int__j1 next1)) (
loopF [tI] (F_slices_symMergeCmpFunc_int__l2 a0 Q v2) a1 (σ4.bump 5))
def F_slices_symMergeCmpFunc_int__j2 (next37 : Int → Int → Mem → Prop) (v52 : Int) (v53 : Int) (σ54 : Mem) : Prop :=
next37 v52 v53 σ54
def F_slices_symMergeCmpFunc_int__l4 (a0 : AV) (Q : AV → Mem → Prop) (v38 : Int) (next57 : Int → Mem → Prop) (v58 : Int) (σ59 : Mem) : Prop :=
ifB (decide (v38 < v58)) (
iW (v58 - 1) fun v60 =>
iW (v58 - 1) fun v61 =>
idxW 1 a0 v61 fun v62 =>
ldI (σ59.bump 21) v62 fun v63 =>
idxW 1 a0 v58 fun v64 =>
ldI (σ59.bump 21) v64 fun v65 =>
idxW 1 a0 v58 fun v66 =>
stW 1 (σ59.bump 21) v66 (.int .i64 v63) fun σ67 =>
idxW 1 a0 v60 fun v68 =>
stW 1 σ67 v68 (.int .i64 v65) fun σ69 =>
iW (v58 - 1) fun v70 =>
next57 v70 (σ69.bump 3)) (
Q (.tup []) (σ59.bump 3))
def F_slices_symMergeCmpFunc_int__l3 (a0 : AV) (a2 : Int) (a4 : AV) (Q : AV → Mem → Prop) (next37 : Int → Int → Mem → Prop) (v38 : Int) (v39 : Int) (σ40 : Mem) : Prop :=
ifB (decide (v38 < v39)) (
iW (v38 + v39) fun v41 =>
wrW .u64 v41 fun v42 =>
letW (v42 / 2) fun v43 =>
iW v43 fun v44 =>
idxW 1 a0 a2 fun v45 =>
ldI (σ40.bump 22) v45 fun v46 =>
idxW 1 a0 v44 fun v47 =>
ldI (σ40.bump 22) v47 fun v48 =>
callvW PG a4 [.int .i64 v46, .int .i64 v48] (σ40.bump 22) fun v49 σ50 =>
castI .i64 v49 fun v51 =>
joinF [tI, tI] (fun (k55 : Int → Int → Mem → Prop) =>
ifB (!(decide (v51 < 0))) (
iW (v44 + 1) fun v56 =>
k55 v56 v39 (σ50.bump 3)) (
k55 v38 v44 (σ50.bump 2))) (F_slices_symMergeCmpFunc_int__j2 next37)) (
loopF [tI] (F_slices_symMergeCmpFunc_int__l4 a0 Q v38) a2 (σ40.bump 5))
def F_slices_symMergeCmpFunc_int__j4 (next80 : Int → Int → Mem → Prop) (v96 : Int) (v97 : Int) (σ98 : Mem) : Prop :=
next80 v96 v97 σ98
def F_slices_symMergeCmpFunc_int__j7 (Q : AV → Mem → Prop) (σ104 : Mem) : Prop :=
Q (.tup []) σ104
def F_slices_symMergeCmpFunc_int__j8 (Q : AV → Mem → Prop) (σ108 : Mem) : Prop :=
Q (.tup []) σ108
def F_slices_symMergeCmpFunc_int__j6 (a0 : AV) (a3 : Int) (a4 : AV) (Q : AV → Mem → Prop) (v74 : Int) (v101 : Int) (σ103 : Mem) : Prop :=
ifB (decide (v74 < v101)) (
joinF [] (fun (k105 : Mem → Prop) =>
ifB (decide (v101 < a3)) (
callW PG n_slices_symMergeCmpFunc_int_ [a0, .int .i64 v74, .int .i64 v101, .int .i64 a3, a4] (σ103.bump 14) fun v106 σ107 =>
k105 σ107) (
k105 (σ103.bump 8))) (F_slices_symMergeCmpFunc_int__j7 Q)) (
joinF [] (fun (k109 : Mem → Prop) =>
k109 (σ103.bump 8)) (F_slices_symMergeCmpFunc_int__j8 Q))
def F_slices_symMergeCmpFunc_int__j10 (Q : AV → Mem → Prop) (σ114 : Mem) : Prop :=
Q (.tup []) σ114
def F_slices_symMergeCmpFunc_int__j11 (Q : AV → Mem → Prop) (σ118 : Mem) : Prop :=
Q (.tup []) σ118
def F_slices_symMergeCmpFunc_int__j9 (a0 : AV) (a3 : Int) (a4 : AV) (Q : AV → Mem → Prop) (v74 : Int) (v101 : Int) (σ113 : Mem) : Prop :=
ifB (decide (v74 < v101)) (
joinF [] (fun (k115 : Mem → Prop) =>
ifB (decide (v101 < a3)) (
callW PG n_slices_symMergeCmpFunc_int_ [a0, .int .i64 v74, .int .i64 v101, .int .i64 a3, a4] (σ113.bump 14) fun v116 σ117 =>
k115 σ117) (
k115 (σ113.bump 8))) (F_slices_symMergeCmpFunc_int__j10 Q)) (
joinF [] (fun (k119 : Mem → Prop) =>
k119 (σ113.bump 8)) (F_slices_symMergeCmpFunc_int__j11 Q))
def F_slices_symMergeCmpFunc_int__j5 (a0 : AV) (a1 : Int) (a3 : Int) (a4 : AV) (Q : AV → Mem → Prop) (v74 : Int) (v81 : Int) (v101 : Int) (σ102 : Mem) : Prop :=
ifB (decide (a1 < v81)) (
joinF [] (fun (k110 : Mem → Prop) =>
ifB (decide (v81 < v74)) (
callW PG n_slices_symMergeCmpFunc_int_ [a0, .int .i64 a1, .int .i64 v81, .int .i64 v74, a4] (σ102.bump 14) fun v111 σ112 =>
k110 σ112) (
k110 (σ102.bump 8))) (F_slices_symMergeCmpFunc_int__j6 a0 a3 a4 Q v74 v101)) (
joinF [] (fun (k120 : Mem → Prop) =>
k120 (σ102.bump 8)) (F_slices_symMergeCmpFunc_int__j9 a0 a3 a4 Q v74 v101))
def F_slices_symMergeCmpFunc_int__j14 (Q : AV → Mem → Prop) (σ126 : Mem) : Prop :=
Q (.tup []) σ126
def F_slices_symMergeCmpFunc_int__j15 (Q : AV → Mem → Prop) (σ130 : Mem) : Prop :=
Q (.tup []) σ130
def F_slices_symMergeCmpFunc_int__j13 (a0 : AV) (a3 : Int) (a4 : AV) (Q : AV → Mem → Prop) (v74 : Int) (v101 : Int) (σ125 : Mem) : Prop :=
ifB (decide (v74 < v101)) (
joinF [] (fun (k127 : Mem → Prop) =>
ifB (decide (v101 < a3)) (
callW PG n_slices_symMergeCmpFunc_int_ [a0, .int .i64 v74, .int .i64 v101, .int .i64 a3, a4] (σ125.bump 14) fun v128 σ129 =>
k127 σ129) (
k127 (σ125.bump 8))) (F_slices_symMergeCmpFunc_int__j14 Q)) (
joinF [] (fun (k131 : Mem → Prop) =>
k131 (σ125.bump 8)) (F_slices_symMergeCmpFunc_int__j15 Q))
def F_slices_symMergeCmpFunc_int__j17 (Q : AV → Mem → Prop) (σ136 : Mem) : Prop :=
Q (.tup []) σ136
def F_slices_symMergeCmpFunc_int__j18 (Q : AV → Mem → Prop) (σ140 : Mem) : Prop :=
Q (.tup []) σ140
def F_slices_symMergeCmpFunc_int__j16 (a0 : AV) (a3 : Int) (a4 : AV) (Q : AV → Mem → Prop) (v74 : Int) (v101 : Int) (σ135 : Mem) : Prop :=
ifB (decide (v74 < v101)) (
joinF [] (fun (k137 : Mem → Prop) =>
ifB (decide (v101 < a3)) (
callW PG n_slices_symMergeCmpFunc_int_ [a0, .int .i64 v74, .int .i64 v101, .int .i64 a3, a4] (σ135.bump 14) fun v138 σ139 =>
k137 σ139) (
k137 (σ135.bump 8))) (F_slices_symMergeCmpFunc_int__j17 Q)) (
joinF [] (fun (k141 : Mem → Prop) =>
k141 (σ135.bump 8)) (F_slices_symMergeCmpFunc_int__j18 Q))
def F_slices_symMergeCmpFunc_int__j12 (a0 : AV) (a1 : Int) (a3 : Int) (a4 : AV) (Q : AV → Mem → Prop) (v74 : Int) (v81 : Int) (v101 : Int) (σ124 : Mem) : Prop :=
ifB (decide (a1 < v81)) (
joinF [] (fun (k132 : Mem → Prop) =>
ifB (decide (v81 < v74)) (
callW PG n_slices_symMergeCmpFunc_int_ [a0, .int .i64 a1, .int .i64 v81, .int .i64 v74, a4] (σ124.bump 14) fun v133 σ134 =>
k132 σ134) (
k132 (σ124.bump 8))) (F_slices_symMergeCmpFunc_int__j13 a0 a3 a4 Q v74 v101)) (
joinF [] (fun (k142 : Mem → Prop) =>
k142 (σ124.bump 8)) (F_slices_symMergeCmpFunc_int__j16 a0 a3 a4 Q v74 v101))
def F_slices_symMergeCmpFunc_int__l5 (a0 : AV) (a1 : Int) (a2 : Int) (a3 : Int) (a4 : AV) (Q : AV → Mem → Prop) (v74 : Int) (v75 : Int) (v79 : Int) (next80 : Int → Int → Mem → Prop) (v81 : Int) (v82 : Int) (σ83 : Mem) : Prop :=
ifB (decide (v81 < v82)) (
iW (v81 + v82) fun v84 =>
wrW .u64 v84 fun v85 =>
letW (v85 / 2) fun v86 =>
iW v86 fun v87 =>
iW (v79 - v87) fun v88 =>
idxW 1 a0 v88 fun v89 =>
ldI (σ83.bump 24) v89 fun v90 =>
idxW 1 a0 v87 fun v91 =>
ldI (σ83.bump 24) v91 fun v92 =>
callvW PG a4 [.int .i64 v90, .int .i64 v92] (σ83.bump 24) fun v93 σ94 =>
castI .i64 v93 fun v95 =>
joinF [tI, tI] (fun (k99 : Int → Int → Mem → Prop) =>
ifB (!(decide (v95 < 0))) (
iW (v87 + 1) fun v100 =>
k99 v100 v82 (σ94.bump 3)) (
k99 v81 v87 (σ94.bump 2))) (F_slices_symMergeCmpFunc_int__j4 next80)) (
iW (v75 - v81) fun v101 =>
ifB (decide (v81 < a2)) (
joinF [] (fun (k121 : Mem → Prop) =>
ifB (decide (a2 < v101)) (
callW PG n_slices_rotateCmpFunc_int_ [a0, .int .i64 v81, .int .i64 a2, .int .i64 v101, a4] (σ83.bump 21) fun v122 σ123 =>
k121 σ123) (
k121 (σ83.bump 15))) (F_slices_symMergeCmpFunc_int__j5 a0 a1 a3 a4 Q v74 v81 v101)) (
joinF [] (fun (k143 : Mem → Prop) =>
k143 (σ83.bump 15)) (F_slices_symMergeCmpFunc_int__j12 a0 a1 a3 a4 Q v74 v81 v101)))
def F_slices_symMergeCmpFunc_int__j3 (a0 : AV) (a1 : Int) (a2 : Int) (a3 : Int) (a4 : AV) (Q : AV → Mem → Prop) (v74 : Int) (v75 : Int) (v76 : Int) (v77 : Int) (σ78 : Mem) : Prop :=
iW (v75 - 1) fun v79 =>
loopF [tI, tI] (F_slices_symMergeCmpFunc_int__l5 a0 a1 a2 a3 a4 Q v74 v75 v79) v76 v77 (σ78.bump 3)
def F_slices_symMergeCmpFunc_int_ (a0 : AV) (a1 : Int) (a2 : Int) (a3 : Int) (a4 : AV) (σ : Mem) (Q : AV → Mem → Prop) : Prop :=
iW (a2 - a1) fun v0 =>
ifB (decide (v0 = 1)) (
loopF [tI, tI] (F_slices_symMergeCmpFunc_int__l1 a0 a1 a4 Q) a2 a3 (σ.bump 8)) (
iW (a3 - a2) fun v36 =>
ifB (decide (v36 = 1)) (
loopF [tI, tI] (F_slices_symMergeCmpFunc_int__l3 a0 a2 a4 Q) a1 a2 (σ.bump 12)) (
iW (a1 + a3) fun v71 =>
wrW .u64 v71 fun v72 =>
letW (v72 / 2) fun v73 =>
iW v73 fun v74 =>
iW (v74 + a2) fun v75 =>
joinF [tI, tI] (fun (k144 : Int → Int → Mem → Prop) =>
ifB (decide (v74 < a2)) (
iW (v75 - a3) fun v145 =>
k144 v145 v74 (σ.bump 30)) (
k144 a1 a2 (σ.bump 28))) (F_slices_symMergeCmpFunc_int__j3 a0 a1 a2 a3 a4 Q v74 v75)))
theorem ok_slices_symMergeCmpFunc_int_ {a0 a1 a2 a3 a4 σ Q} (h : σ.Live → F_slices_symMergeCmpFunc_int_ a0 a1 a2 a3 a4 σ Q) : ACalls PG n_slices_symMergeCmpFunc_int_ [a0, .int .i64 a1, .int .i64 a2, .int .i64 a3, a4] σ Q :=
  .of_sem [none, none, none, none, none, some ([0, 1, 4], [10, 11]), none, none, none, none, none, some ([0, 1, 4], [10, 11]), none, none, none, none, some ([0, 10], [13]), none, none, none, none, none, none, none, none, none, none, some ([0, 2, 4], [14, 15]), none, none, none, none, none, some ([0, 2, 4], [14, 15]), none, none, none, none, some ([0, 14], [17]), none, none, none, none, none, none, none, none, none, some ([0, 1, 2, 3, 4, 18, 19], [20, 21]), none, none, none, none, none, none, some ([0, 1, 2, 3, 4, 18, 19, 22], [20, 21]), none, none, none, none, none, some ([0, 1, 2, 3, 4, 18, 19, 22], [20, 21]), none, none, none, none, some ([0, 1, 3, 4, 18, 20, 24], []), none, none, some ([0, 3, 4, 18, 24], []), none, none, some ([], []), none] [(10, tI), (11, tI), (44, tI), (48, tI), (49, tI), (13, tI), (70, tI), (74, tI), (14, tI), (15, tI), (96, tI), (100, tI), (101, tI), (17, tI), (122, tI), (126, tI), (20, tI), (21, tI), (164, tI), (168, tI), (169, tI)] mixed (by kernel_rfl) (by kernel_rfl) h
/-! slices.rotateCmpFunc[vitrine/huff.item] -/
def F_slices_rotateCmpFunc_huff_item__j1 (next2 : Int → Int → Mem → Prop) (v6 : Int) (v7 : Int) (σ8 : Mem) : Prop :=
next2 v6 v7 σ8
def F_slices_rotateCmpFunc_huff_item__l1 (a0 : AV) (a2 : Int) (a4 : AV) (Q : AV → Mem → Prop) (next2 : Int → Int → Mem → Prop) (v3 : Int) (v4 : Int) (σ5 : Mem) : Prop :=
ifB (decide (v3 ≠ v4)) (
joinF [tI, tI] (fun (k9 : Int → Int → Mem → Prop) =>
ifB (decide (v4 < v3)) (
iW (a2 - v3) fun v10 =>
callW PG n_slices_swapRangeCmpFunc_huff_item_ [a0, .int .i64 v10, .int .i64 a2, .int .i64 v4, a4] (σ5.bump 14) fun v11 σ12 =>
iW (v3 - v4) fun v13 =>
k9 v13 v4 (σ12.bump 4)) (
iW (a2 - v3) fun v14 =>
iW (a2 + v4) fun v15 =>
iW (v15 - v3) fun v16 =>
callW PG n_slices_swapRangeCmpFunc_huff_item_ [a0, .int .i64 v14, .int .i64 v16, .int .i64 v3, a4] (σ5.bump 18) fun v17 σ18 =>
iW (v4 - v3) fun v19 =>
k9 v3 v19 (σ18.bump 4))) (F_slices_rotateCmpFunc_huff_item__j1 next2)) (
iW (a2 - v3) fun v20 =>
callW PG n_slices_swapRangeCmpFunc_huff_item_ [a0, .int .i64 v20, .int .i64 a2, .int .i64 v3, a4] (σ5.bump 11) fun v21 σ22 =>
Q (.tup []) σ22)
def F_slices_rotateCmpFunc_huff_item_ (a0 : AV) (a1 : Int) (a2 : Int) (a3 : Int) (a4 : AV) (σ : Mem) (Q : AV → Mem → Prop) : Prop :=
iW (a2 - a1) fun v0 =>
iW (a3 - a2) fun v1 =>
loopF [tI, tI] (F_slices_rotateCmpFunc_huff_item__l1 a0 a2 a4 Q) v0 v1 (σ.bump 8)
theorem ok_slices_rotateCmpFunc_huff_item_ {a0 a1 a2 a3 a4 σ Q} (h : σ.Live → F_slices_rotateCmpFunc_huff_item_ a0 a1 a2 a3 a4 σ Q) : ACalls PG n_slices_rotateCmpFunc_huff_item_ [a0, .int .i64 a1, .int .i64 a2, .int .i64 a3, a4] σ Q :=
  .of_sem [none, none, none, some ([0, 2, 4], [10, 11]), none, none, none, none, some ([0, 2, 4], [10, 11]), none, none, none, none, none] [(10, tI), (11, tI)] mixed (by kernel_rfl) (by kernel_rfl) h
/-! slices.rotateCmpFunc[int] -/
def F_slices_rotateCmpFunc_int__j1 (next2 : Int → Int → Mem → Prop) (v6 : Int) (v7 : Int) (σ8 : Mem) : Prop :=
next2 v6 v7 σ8
def F_slices_rotateCmpFunc_int__l1 (a0 : AV) (a2 : Int) (a4 : AV) (Q : AV → Mem → Prop) (next2 : Int → Int → Mem → Prop) (v3 : Int) (v4 : Int) (σ5 : Mem) : Prop :=
ifB (decide (v3 ≠ v4)) (
joinF [tI, tI] (fun (k9 : Int → Int → Mem → Prop) =>
ifB (decide (v4 < v3)) (
iW (a2 - v3) fun v10 =>
callW PG n_slices_swapRangeCmpFunc_int_ [a0, .int .i64 v10, .int .i64 a2, .int .i64 v4, a4] (σ5.bump 14) fun v11 σ12 =>
iW (v3 - v4) fun v13 =>
k9 v13 v4 (σ12.bump 4)) (
iW (a2 - v3) fun v14 =>
iW (a2 + v4) fun v15 =>
iW (v15 - v3) fun v16 =>
callW PG n_slices_swapRangeCmpFunc_int_ [a0, .int .i64 v14, .int .i64 v16, .int .i64 v3, a4] (σ5.bump 18) fun v17 σ18 =>
iW (v4 - v3) fun v19 =>
k9 v3 v19 (σ18.bump 4))) (F_slices_rotateCmpFunc_int__j1 next2)) (
iW (a2 - v3) fun v20 =>
callW PG n_slices_swapRangeCmpFunc_int_ [a0, .int .i64 v20, .int .i64 a2, .int .i64 v3, a4] (σ5.bump 11) fun v21 σ22 =>
Q (.tup []) σ22)
def F_slices_rotateCmpFunc_int_ (a0 : AV) (a1 : Int) (a2 : Int) (a3 : Int) (a4 : AV) (σ : Mem) (Q : AV → Mem → Prop) : Prop :=
iW (a2 - a1) fun v0 =>
iW (a3 - a2) fun v1 =>
loopF [tI, tI] (F_slices_rotateCmpFunc_int__l1 a0 a2 a4 Q) v0 v1 (σ.bump 8)
theorem ok_slices_rotateCmpFunc_int_ {a0 a1 a2 a3 a4 σ Q} (h : σ.Live → F_slices_rotateCmpFunc_int_ a0 a1 a2 a3 a4 σ Q) : ACalls PG n_slices_rotateCmpFunc_int_ [a0, .int .i64 a1, .int .i64 a2, .int .i64 a3, a4] σ Q :=
  .of_sem [none, none, none, some ([0, 2, 4], [10, 11]), none, none, none, none, some ([0, 2, 4], [10, 11]), none, none, none, none, none] [(10, tI), (11, tI)] mixed (by kernel_rfl) (by kernel_rfl) h
/-! slices.swapRangeCmpFunc[vitrine/huff.item] -/
def F_slices_swapRangeCmpFunc_huff_item__l1 (a0 : AV) (a1 : Int) (a2 : Int) (a3 : Int) (Q : AV → Mem → Prop) (next0 : Int → Mem → Prop) (v1 : Int) (σ2 : Mem) : Prop :=
ifB (decide (v1 < a3)) (
iW (a1 + v1) fun v3 =>
iW (a2 + v1) fun v4 =>
iW (a2 + v1) fun v5 =>
idxW 3 a0 v5 fun v6 =>
ldnW 3 (σ2.bump 27) v6 fun v7 =>
iW (a1 + v1) fun v8 =>
idxW 3 a0 v8 fun v9 =>
ldnW 3 (σ2.bump 27) v9 fun v10 =>
idxW 3 a0 v3 fun v11 =>
stW 3 (σ2.bump 27) v11 v7 fun σ12 =>
idxW 3 a0 v4 fun v13 =>
stW 3 σ12 v13 v10 fun σ14 =>
iW (v1 + 1) fun v15 =>
next0 v15 (σ14.bump 3)) (
Q (.tup []) (σ2.bump 3))
def F_slices_swapRangeCmpFunc_huff_item_ (a0 : AV) (a1 : Int) (a2 : Int) (a3 : Int) (a4 : AV) (σ : Mem) (Q : AV → Mem → Prop) : Prop :=
loopF [tI] (F_slices_swapRangeCmpFunc_huff_item__l1 a0 a1 a2 a3 Q) 0 (σ.bump 1)
theorem ok_slices_swapRangeCmpFunc_huff_item_ {a0 a1 a2 a3 a4 σ Q} (h : σ.Live → F_slices_swapRangeCmpFunc_huff_item_ a0 a1 a2 a3 a4 σ Q) : ACalls PG n_slices_swapRangeCmpFunc_huff_item_ [a0, .int .i64 a1, .int .i64 a2, .int .i64 a3, a4] σ Q :=
  .of_sem [none, none, some ([0, 1, 2, 3], [10]), none, none, none, none, none] [(10, tI)] mixed (by kernel_rfl) (by kernel_rfl) h
/-! slices.swapRangeCmpFunc[int] -/
def F_slices_swapRangeCmpFunc_int__l1 (a0 : AV) (a1 : Int) (a2 : Int) (a3 : Int) (Q : AV → Mem → Prop) (next0 : Int → Mem → Prop) (v1 : Int) (σ2 : Mem) : Prop :=
ifB (decide (v1 < a3)) (
iW (a1 + v1) fun v3 =>
iW (a2 + v1) fun v4 =>
iW (a2 + v1) fun v5 =>
idxW 1 a0 v5 fun v6 =>
ldI (σ2.bump 27) v6 fun v7 =>
iW (a1 + v1) fun v8 =>
idxW 1 a0 v8 fun v9 =>
ldI (σ2.bump 27) v9 fun v10 =>
idxW 1 a0 v3 fun v11 =>
stW 1 (σ2.bump 27) v11 (.int .i64 v7) fun σ12 =>
idxW 1 a0 v4 fun v13 =>
stW 1 σ12 v13 (.int .i64 v10) fun σ14 =>
iW (v1 + 1) fun v15 =>
next0 v15 (σ14.bump 3)) (
Q (.tup []) (σ2.bump 3))
def F_slices_swapRangeCmpFunc_int_ (a0 : AV) (a1 : Int) (a2 : Int) (a3 : Int) (a4 : AV) (σ : Mem) (Q : AV → Mem → Prop) : Prop :=
loopF [tI] (F_slices_swapRangeCmpFunc_int__l1 a0 a1 a2 a3 Q) 0 (σ.bump 1)
theorem ok_slices_swapRangeCmpFunc_int_ {a0 a1 a2 a3 a4 σ Q} (h : σ.Live → F_slices_swapRangeCmpFunc_int_ a0 a1 a2 a3 a4 σ Q) : ACalls PG n_slices_swapRangeCmpFunc_int_ [a0, .int .i64 a1, .int .i64 a2, .int .i64 a3, a4] σ Q :=
  .of_sem [none, none, some ([0, 1, 2, 3], [10]), none, none, none, none, none] [(10, tI), (29, tI), (35, tI)] mixed (by kernel_rfl) (by kernel_rfl) h
end Go.Vit
