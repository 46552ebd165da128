/- The functions, as printed conditions. -/
import Derived.Test.YthkehkmnfaaagaaVm2
import Derived.Test.YthkehkmnfaaagaaChecked
import Derived.KernelRfl
set_option linter.unusedVariables false
set_option linter.unusedSimpArgs false
set_option linter.unusedVariables false
set_option maxRecDepth 100000
namespace Go.Vit
open Go.Proofs
noncomputable abbrev PG : Program := Try.prog
theorem mixed : PG.follows .mixedOrders = true := by kernel_rfl
abbrev n_law02_HuffLimits : Nat := 5
abbrev n_law02_awake : Nat := 14
abbrev n_law02_ints : Nat := 17
abbrev n_huff_Limit : Nat := 18
abbrev n_ref02_Limit : Nat := 19
abbrev n_slices_ContainsFunc___int_int_ : Nat := 32
abbrev n_huff_Limit_1 : Nat := 37
abbrev n_slices_SortStableFunc___huff_item_huff_item_ : Nat := 38
abbrev n_huff_byCount : Nat := 39
abbrev n_slices_Clone___huff_item_huff_item_ : Nat := 40
abbrev n_slices_Chunk___huff_item_huff_item_ : Nat := 41
abbrev n_huff_spend : Nat := 42
abbrev n_ref02_row : Nat := 43
abbrev n_slices_SortStableFunc___int_int_ : Nat := 45
abbrev n_cmp_Compare_int_ : Nat := 47
abbrev n_slices_IndexFunc___int_int_ : Nat := 52
abbrev n_slices_stableCmpFunc_huff_item_ : Nat := 53
abbrev n_slices_Chunk___huff_item_huff_item__1 : Nat := 54
abbrev n_slices_stableCmpFunc_int_ : Nat := 55
abbrev n_cmp_isNaN_int_ : Nat := 56
abbrev n_slices_insertionSortCmpFunc_huff_item_ : Nat := 57
abbrev n_slices_symMergeCmpFunc_huff_item_ : Nat := 58
abbrev n_slices_insertionSortCmpFunc_int_ : Nat := 59
abbrev n_slices_symMergeCmpFunc_int_ : Nat := 60
abbrev n_slices_rotateCmpFunc_huff_item_ : Nat := 61
abbrev n_slices_rotateCmpFunc_int_ : Nat := 62
abbrev n_slices_swapRangeCmpFunc_huff_item_ : Nat := 63
abbrev n_slices_swapRangeCmpFunc_int_ : Nat := 64
/-! vitrine/vitrinelaw02.HuffChecks -/
/-! vitrine/vitrinelaw02.HuffCodes -/
/-! vitrine/vitrinelaw02.HuffLimits -/
def F_law02_HuffLimits (a0 : Int) (a1 : AV) (σ : Mem) (Q : AV → Mem → Prop) : Prop :=
callW PG n_huff_Limit [.int .i64 a0, a1] (σ.bump 9) fun v0 σ1 =>
tupW v0 0 fun v2 =>
tpI v0 1 fun v3 =>
callW PG n_ref02_Limit [.int .i64 a0, a1] (σ1.bump 8) fun v4 σ5 =>
tupW v4 0 fun v6 =>
tpI v4 1 fun v7 =>
ifB (decide (v3 = v7)) (
callW PG n_law02_ints [v2, v6] (σ5.bump 12) fun v8 σ9 =>
castB v8 fun v10 =>
ifB v10 (
callW PG n_law02_awake [] σ9 fun v11 σ12 =>
castB v11 fun v13 =>
Q (.bool v13) σ12) (
Q (.bool false) σ9)) (
Q (.bool false) (σ5.bump 12))
theorem ok_law02_HuffLimits {a0 a1 σ Q} (h : σ.Live → F_law02_HuffLimits a0 a1 σ Q) : ACalls PG n_law02_HuffLimits [.int .i64 a0, a1] σ Q :=
  .of_sem [none, none, none, none] [(14, tI), (20, tI), (27, .b), (30, .b)] mixed (by kernel_rfl) (by kernel_rfl) h
/-! vitrine/vitrinelaw02.HuffBest -/
/-! vitrine/vitrinelaw02.HuffMakes -/
/-! vitrine/vitrinelaw02.HuffLays -/
/-! vitrine/vitrinelaw02.HuffReads -/
/-! vitrine/vitrinelaw02.HuffNil -/
/-! vitrine/vitrinelaw02.HuffBack -/
/-! vitrine/huff.Check -/
/-! vitrine/vitrineref02.Check -/
/-! vitrine/vitrinelaw02.awake -/
/-! vitrine/huff.Codes -/
/-! vitrine/vitrineref02.Codes -/
/-! vitrine/vitrinelaw02.ints -/
def F_law02_ints_l1 (a0 : AV) (a1 : AV) (Q : AV → Mem → Prop) (next2 : Int → Mem → Prop) (v3 : Int) (σ4 : Mem) : Prop :=
slenW a0 fun v5 =>
ifB (decide (v3 < v5)) (
idxW 1 a0 v3 fun v6 =>
ldI (σ4.bump 13) v6 fun v7 =>
idxW 1 a1 v3 fun v8 =>
ldI (σ4.bump 13) v8 fun v9 =>
ifB (decide (v7 ≠ v9)) (
Q (.bool false) (σ4.bump 14)) (
iW (v3 + 1) fun v10 =>
next2 v10 (σ4.bump 16))) (
Q (.bool true) (σ4.bump 5))
def F_law02_ints (a0 : AV) (a1 : AV) (σ : Mem) (Q : AV → Mem → Prop) : Prop :=
slenW a0 fun v0 =>
slenW a1 fun v1 =>
ifB (decide (v0 ≠ v1)) (
Q (.bool false) (σ.bump 7)) (
loopF [tI] (F_law02_ints_l1 a0 a1 Q) 0 (σ.bump 7))
theorem ok_law02_ints {a0 a1 σ Q} (h : σ.Live → F_law02_ints a0 a1 σ Q) : ACalls PG n_law02_ints [a0, a1] σ Q :=
  .of_sem [none, none, none, none, none, none, some ([0, 1], [5]), none, none, none, none, none, none, none, none] [(5, tI), (20, tI), (24, tI)] mixed (by kernel_rfl) (by kernel_rfl) h
/-! vitrine/huff.Limit -/
def F_huff_Limit_j1 (next5 : AV → Int → Mem → Prop) (v7 : Int) (v11 : AV) (σ12 : Mem) : Prop :=
iW (v7 + 1) fun v13 =>
next5 v11 v13 (σ12.bump 2)
def F_huff_Limit_j3 (k40 : AV → Mem → Prop) (σ43 : Mem) : Prop :=
k40 (.bool true) σ43
def F_huff_Limit_j4 (k44 : Mem → Prop) (σ45 : Mem) : Prop :=
k44 σ45
def F_huff_Limit_l2 (Q : AV → Mem → Prop) (v6 : AV) (σ8 : Mem) (v20 : Int) (v27 : Int) (next28 : AV → Int → Mem → Prop) (v29 : AV) (v30 : Int) (σ31 : Mem) : Prop :=
ifB (decide (v30 < v27)) (
callW PG n_slices_Clone___huff_item_huff_item_ [v6] (σ31.bump 5) fun v32 σ33 =>
newW σ33 (σ31.next + 3) (.rw [.nils]) fun σ34 =>
stW 1 σ34 (.ptr (σ31.next + 3) 0) v32 fun σ35 =>
callW PG n_slices_Chunk___huff_item_huff_item_ [v29, .int .i64 2] (σ35.bump 2) fun v36 σ37 =>
rangeW PG v36 (fun args38 σ39 k40 =>
arg1W args38 fun v41 =>
slenW v41 fun v42 =>
joinF [] (fun (k44 : Mem → Prop) =>
ifB (decide (v42 = 2)) (
joinF [] (fun (k46 : Mem → Prop) =>
ldW (σ39.bump 22) (.ptr (σ31.next + 3) 0) fun v47 =>
idxW 3 v41 0 fun v48 =>
fldW 0 v48 fun v49 =>
ldI (σ39.bump 22) v49 fun v50 =>
idxW 3 v41 1 fun v51 =>
fldW 0 v51 fun v52 =>
ldI (σ39.bump 22) v52 fun v53 =>
iW (v50 + v53) fun v54 =>
cellOkW v41 1 (
slenW v47 fun v55 =>
cellOkW (.agg [.int .i64 0, .int .i64 0, .nils]) 3 (
newW (σ39.bump 22) (σ39.next + 17) (.rw [.int .i64 0, .int .i64 0, .nils]) fun σ56 =>
apW 3 40 (σ39.next + 18) σ56 v47 (.slice (σ39.next + 17) 0 1 (.ex 1)) fun v57 σ58 =>
idxW 3 v57 v55 fun v59 =>
(
stW 3 σ58 v59 (.agg (setAt [.int .i64 v54, .int .i64 0, .nils] 2 v41.cells)) fun σ60 =>
stW 1 σ60 (.ptr (σ31.next + 3) 0) v57 fun σ61 =>
k46 σ61) ∧ (
stW 1 σ58 (.ptr (σ31.next + 3) 0) v57 fun σ62 =>
stW 3 σ62 v59 (.agg (setAt [.int .i64 v54, .int .i64 0, .nils] 2 v41.cells)) fun σ63 =>
k46 σ63)))) (F_huff_Limit_j4 k44)) (
k44 (σ39.bump 4))) (F_huff_Limit_j3 k40)) σ37 fun σ64 =>
ldW (σ64.bump 2) (.ptr (σ31.next + 3) 0) fun v65 =>
callW PG n_slices_SortStableFunc___huff_item_huff_item_ [v65, .func 39 []] (σ64.bump 2) fun v66 σ67 =>
ldW (σ67.bump 2) (.ptr (σ31.next + 3) 0) fun v68 =>
iW (v30 + 1) fun v69 =>
next28 v68 v69 (σ67.bump 4)) (
slenW v6 fun v70 =>
iW (2 * v70) fun v71 =>
iW (v71 - 2) fun v72 =>
slcW 3 v29 none (some v72) fun v73 =>
callW PG n_huff_spend [.slice (σ8.next + 8) 0 (Int.toNat v20) (.ex (Int.toNat v20)), v73] (σ31.bump 9) fun v74 σ75 =>
Q (.tup [.slice (σ8.next + 8) 0 (Int.toNat v20) (.ex (Int.toNat v20)), .int .i64 0]) (σ75.bump 3))
def F_huff_Limit_j2 (a0 : Int) (Q : AV → Mem → Prop) (v6 : AV) (σ8 : Mem) (v20 : Int) (σ23 : Mem) : Prop :=
slenW v6 fun v24 =>
ifB (decide (v24 < 2)) (
Q (.tup [.slice (σ8.next + 8) 0 (Int.toNat v20) (.ex (Int.toNat v20)), .int .i64 0]) (σ23.bump 6)) (
callW PG n_slices_SortStableFunc___huff_item_huff_item_ [v6, .func 39 []] (σ23.bump 5) fun v25 σ26 =>
iW (a0 - 1) fun v27 =>
loopF [.v, tI] (F_huff_Limit_l2 Q v6 σ8 v20 v27) v6 0 (σ26.bump 5))
def F_huff_Limit_l1 (a0 : Int) (a1 : AV) (Q : AV → Mem → Prop) (v4 : Int) (next5 : AV → Int → Mem → Prop) (v6 : AV) (v7 : Int) (σ8 : Mem) : Prop :=
ifB (decide (v7 < v4)) (
idxW 1 a1 v7 fun v9 =>
ldI (σ8.bump 6) v9 fun v10 =>
joinF [.v] (fun (k14 : AV → Mem → Prop) =>
ifB (decide (0 < v10)) (
cellOkW (.agg [.int .i64 v10, .int .i64 v7, .nils]) 3 (
newW (σ8.bump 15) (σ8.next + 12) (.rw [.int .i64 v10, .int .i64 v7, .nils]) fun σ15 =>
apW 3 40 (σ8.next + 13) σ15 v6 (.slice (σ8.next + 12) 0 1 (.ex 1)) fun v16 σ17 =>
k14 v16 σ17)) (
k14 v6 (σ8.bump 8))) (F_huff_Limit_j1 next5 v7)) (
slenW v6 fun v18 =>
shlW .i64 1 a0 fun v19 =>
ifB (decide (v19 < v18)) (
Q (.tup [.nils, .int .i64 1]) (σ8.bump 8)) (
slenW a1 fun v20 =>
makeW 8 v20 v20 (
newW (σ8.bump 10) (σ8.next + 8) (.rw (repl (Int.toNat v20) [.int .i64 0])) fun σ21 =>
slenW v6 fun v22 =>
joinF [] (fun (k76 : Mem → Prop) =>
ifB (decide (v22 = 1)) (
idxW 3 v6 0 fun v77 =>
fldW 1 v77 fun v78 =>
ldI (σ21.bump 10) v78 fun v79 =>
idxW 1 (.slice (σ8.next + 8) 0 (Int.toNat v20) (.ex (Int.toNat v20))) v79 fun v80 =>
stW 1 (σ21.bump 10) v80 (.int .i64 1) fun σ81 =>
k76 σ81) (
k76 (σ21.bump 3))) (F_huff_Limit_j2 a0 Q v6 σ8 v20))))
def F_huff_Limit (a0 : Int) (a1 : AV) (σ : Mem) (Q : AV → Mem → Prop) : Prop :=
ifB (decide (a0 < 1)) (
Q (.tup [.nils, .int .i64 1]) (σ.bump 19)) (
ifB (decide (15 < a0)) (
Q (.tup [.nils, .int .i64 1]) (σ.bump 19)) (
slenW a1 fun v0 =>
ifB (decide (288 < v0)) (
Q (.tup [.nils, .int .i64 1]) (σ.bump 19)) (
callW PG n_slices_ContainsFunc___int_int_ [a1, .func 37 []] (σ.bump 17) fun v1 σ2 =>
castB v1 fun v3 =>
ifB v3 (
Q (.tup [.nils, .int .i64 1]) (σ2.bump 2)) (
slenW a1 fun v4 =>
loopF [.v, tI] (F_huff_Limit_l1 a0 a1 Q v4) .nils 0 (σ2.bump 4)))))
theorem ok_huff_Limit {a0 a1 σ Q} (h : σ.Live → F_huff_Limit a0 a1 σ Q) : ACalls PG n_huff_Limit [.int .i64 a0, a1] σ Q :=
  .of_sem [none, none, none, none, none, none, none, some ([0, 1, 28, 29], [6, 30]), none, none, none, none, none, some ([0, 1, 28, 29, 30], [6]), none, none, none, none, none, none, none, some ([0, 6, 9], []), none, none, none, none, none, none, none, none, some ([6, 9, 69], [10, 70]), none, none, none, none, none, none, none, none, none, some ([], []), some ([], []), none, none, none, none, none] [(26, .b), (30, tI), (34, tI), (59, tI), (70, tI), (84, tI), (88, tI)] mixed (by kernel_rfl) (by kernel_rfl) h
/-! vitrine/vitrineref02.Limit -/
def F_ref02_Limit_j1 (next1 : Int → Int → Mem → Prop) (v3 : Int) (v12 : Int) (σ13 : Mem) : Prop :=
iW (v3 + 1) fun v14 =>
next1 v12 v14 (σ13.bump 3)
def F_ref02_Limit_j2 (next20 : AV → Int → Mem → Prop) (v22 : Int) (v25 : AV) (σ26 : Mem) : Prop :=
iW (v22 + 1) fun v27 =>
next20 v25 v27 (σ26.bump 3)
def F_ref02_Limit_j3 (Q : AV → Mem → Prop) (v2 : Int) (σ4 : Mem) (v18 : Int) (v21 : AV) (v22 : Int) (σ23 : Mem) (k28 : AV → Mem → Prop) (v41 : Int) (σ42 : Mem) : Prop :=
slcW 3 v21 none (some v41) fun v43 =>
apW 3 40 (σ42.next + 5) (σ42.bump 7) .nils v43 fun v44 σ45 =>
ldnW 3 (σ45.bump 5) (.ptr (σ23.next + 17) 0) fun v46 =>
cellOkW v46 3 (
newW (σ45.bump 5) (σ45.next + 2) (.rw (setAt [.int .i64 0, .bool false, .nils] 0 v46.cells)) fun σ47 =>
apW 3 40 (σ45.next + 3) σ47 v44 (.slice (σ45.next + 2) 0 1 (.ex 1)) fun v48 σ49 =>
slcW 3 v21 (some v41) none fun v50 =>
apW 3 40 (σ49.next + 4) (σ49.bump 6) v48 v50 fun v51 σ52 =>
ifB (decide (v2 = 1)) (
idxW 1 (.slice (σ4.next + 10) 0 (Int.toNat v18) (.ex (Int.toNat v18))) v22 fun v53 =>
stW 1 (σ52.bump 6) v53 (.int .i64 1) fun σ54 =>
Q (.tup [.slice (σ4.next + 10) 0 (Int.toNat v18) (.ex (Int.toNat v18)), .int .i64 0]) (σ54.bump 3)) (
k28 v51 (σ52.bump 2)))
def F_ref02_Limit_l3 (v21 : AV) (σ23 : Mem) (k55 : Int → Mem → Prop) (next56 : Int → Mem → Prop) (v57 : Int) (σ58 : Mem) : Prop :=
slenW v21 fun v59 =>
ifB (decide (v57 < v59)) (
idxW 3 v21 v57 fun v60 =>
fldW 0 v60 fun v61 =>
ldI (σ58.bump 14) v61 fun v62 =>
fldW 0 (.ptr (σ23.next + 17) 0) fun v63 =>
ldI (σ58.bump 14) v63 fun v64 =>
ifB (decide (v62 ≤ v64)) (
iW (v57 + 1) fun v65 =>
next56 v65 (σ58.bump 17)) (
k55 v57 (σ58.bump 14))) (
k55 v57 (σ58.bump 14))
def F_ref02_Limit_l6 (a1 : AV) (v67 : AV) (next70 : AV → Int → Mem → Prop) (v71 : AV) (v72 : Int) (σ73 : Mem) (next88 : Int → Mem → Prop) (v89 : Int) (σ90 : Mem) : Prop :=
slenW a1 fun v91 =>
ifB (decide (v89 < v91)) (
fldW 2 (.ptr (σ73.next + 21) 0) fun v92 =>
ldW (σ90.bump 27) v92 fun v93 =>
idxW 3 v67 v72 fun v94 =>
fldW 2 v94 fun v95 =>
ldW (σ90.bump 27) v95 fun v96 =>
idxW 1 v96 v89 fun v97 =>
ldI (σ90.bump 27) v97 fun v98 =>
iW (v72 + 1) fun v99 =>
idxW 3 v67 v99 fun v100 =>
fldW 2 v100 fun v101 =>
ldW (σ90.bump 27) v101 fun v102 =>
idxW 1 v102 v89 fun v103 =>
ldI (σ90.bump 27) v103 fun v104 =>
iW (v98 + v104) fun v105 =>
idxW 1 v93 v89 fun v106 =>
stW 1 (σ90.bump 27) v106 (.int .i64 v105) fun σ107 =>
iW (v89 + 1) fun v108 =>
next88 v108 (σ107.bump 3)) (
ldnW 3 (σ90.bump 9) (.ptr (σ73.next + 21) 0) fun v109 =>
cellOkW v109 3 (
newW (σ90.bump 9) (σ90.next + 6) (.rw (setAt [.int .i64 0, .bool false, .nils] 0 v109.cells)) fun σ110 =>
apW 3 40 (σ90.next + 7) σ110 v71 (.slice (σ90.next + 6) 0 1 (.ex 1)) fun v111 σ112 =>
iW (v72 + 2) fun v113 =>
next70 v111 v113 (σ112.bump 3)))
def F_ref02_Limit_l5 (a1 : AV) (v21 : AV) (next66 : AV → Int → Mem → Prop) (v67 : AV) (v68 : Int) (next70 : AV → Int → Mem → Prop) (v71 : AV) (v72 : Int) (σ73 : Mem) : Prop :=
iW (v72 + 1) fun v74 =>
slenW v67 fun v75 =>
ifB (decide (v74 < v75)) (
idxW 3 v67 v72 fun v76 =>
fldW 0 v76 fun v77 =>
ldI (σ73.bump 23) v77 fun v78 =>
iW (v72 + 1) fun v79 =>
idxW 3 v67 v79 fun v80 =>
fldW 0 v80 fun v81 =>
ldI (σ73.bump 23) v81 fun v82 =>
iW (v78 + v82) fun v83 =>
slenW a1 fun v84 =>
makeW 8 v84 v84 (
newW (σ73.bump 23) (σ73.next + 19) (.rw (repl (Int.toNat v84) [.int .i64 0])) fun σ85 =>
newW σ85 (σ73.next + 21) (.rw [.int .i64 0, .bool false, .nils]) fun σ86 =>
stW 3 σ86 (.ptr (σ73.next + 21) 0) (.agg [.int .i64 v83, .bool false, .slice (σ73.next + 19) 0 (Int.toNat v84) (.ex (Int.toNat v84))]) fun σ87 =>
loopF [tI] (F_ref02_Limit_l6 a1 v67 next70 v71 v72 σ73) 0 (σ87.bump 1))) (
callW PG n_ref02_row [v21, v71] (σ73.bump 9) fun v114 σ115 =>
iW (v68 + 1) fun v116 =>
next66 v114 v116 (σ115.bump 3))
def F_ref02_Limit_l8 (a1 : AV) (σ4 : Mem) (v18 : Int) (v67 : AV) (next117 : Int → Mem → Prop) (v118 : Int) (next122 : Int → Mem → Prop) (v123 : Int) (σ124 : Mem) : Prop :=
slenW a1 fun v125 =>
ifB (decide (v123 < v125)) (
idxW 1 (.slice (σ4.next + 10) 0 (Int.toNat v18) (.ex (Int.toNat v18))) v123 fun v126 =>
ldI (σ124.bump 21) v126 fun v127 =>
idxW 3 v67 v118 fun v128 =>
fldW 2 v128 fun v129 =>
ldW (σ124.bump 21) v129 fun v130 =>
idxW 1 v130 v123 fun v131 =>
ldI (σ124.bump 21) v131 fun v132 =>
iW (v127 + v132) fun v133 =>
idxW 1 (.slice (σ4.next + 10) 0 (Int.toNat v18) (.ex (Int.toNat v18))) v123 fun v134 =>
stW 1 (σ124.bump 21) v134 (.int .i64 v133) fun σ135 =>
iW (v123 + 1) fun v136 =>
next122 v136 (σ135.bump 3)) (
iW (v118 + 1) fun v137 =>
next117 v137 (σ124.bump 7))
def F_ref02_Limit_l7 (a1 : AV) (Q : AV → Mem → Prop) (v2 : Int) (σ4 : Mem) (v18 : Int) (v67 : AV) (next117 : Int → Mem → Prop) (v118 : Int) (σ119 : Mem) : Prop :=
iW (2 * v2) fun v120 =>
iW (v120 - 2) fun v121 =>
ifB (decide (v118 < v121)) (
loopF [tI] (F_ref02_Limit_l8 a1 σ4 v18 v67 next117 v118) 0 (σ119.bump 6)) (
Q (.tup [.slice (σ4.next + 10) 0 (Int.toNat v18) (.ex (Int.toNat v18)), .int .i64 0]) (σ119.bump 8))
def F_ref02_Limit_l4 (a0 : Int) (a1 : AV) (Q : AV → Mem → Prop) (v2 : Int) (σ4 : Mem) (v18 : Int) (v21 : AV) (next66 : AV → Int → Mem → Prop) (v67 : AV) (v68 : Int) (σ69 : Mem) : Prop :=
ifB (decide (v68 < a0)) (
loopF [.v, tI] (F_ref02_Limit_l5 a1 v21 next66 v67 v68) .nils 0 (σ69.bump 5)) (
loopF [tI] (F_ref02_Limit_l7 a1 Q v2 σ4 v18 v67) 0 (σ69.bump 4))
def F_ref02_Limit_l2 (a0 : Int) (a1 : AV) (Q : AV → Mem → Prop) (v2 : Int) (σ4 : Mem) (v18 : Int) (next20 : AV → Int → Mem → Prop) (v21 : AV) (v22 : Int) (σ23 : Mem) : Prop :=
slenW a1 fun v24 =>
ifB (decide (v22 < v24)) (
joinF [.v] (fun (k28 : AV → Mem → Prop) =>
idxW 1 a1 v22 fun v29 =>
ldI (σ23.bump 9) v29 fun v30 =>
ifB (decide (v30 = 0)) (
k28 v21 (σ23.bump 9)) (
idxW 1 a1 v22 fun v31 =>
ldI (σ23.bump 19) v31 fun v32 =>
slenW a1 fun v33 =>
makeW 8 v33 v33 (
newW (σ23.bump 19) (σ23.next + 15) (.rw (repl (Int.toNat v33) [.int .i64 0])) fun σ34 =>
newW σ34 (σ23.next + 17) (.rw [.int .i64 0, .bool false, .nils]) fun σ35 =>
stW 3 σ35 (.ptr (σ23.next + 17) 0) (.agg [.int .i64 v32, .bool true, .slice (σ23.next + 15) 0 (Int.toNat v33) (.ex (Int.toNat v33))]) fun σ36 =>
fldW 2 (.ptr (σ23.next + 17) 0) fun v37 =>
ldW (σ36.bump 5) v37 fun v38 =>
idxW 1 v38 v22 fun v39 =>
stW 1 (σ36.bump 5) v39 (.int .i64 1) fun σ40 =>
joinF [tI] (fun (k55 : Int → Mem → Prop) =>
loopF [tI] (F_ref02_Limit_l3 v21 σ23 k55) 0 (σ40.bump 1)) (F_ref02_Limit_j3 Q v2 σ4 v18 v21 v22 σ23 k28)))) (F_ref02_Limit_j2 next20 v22)) (
loopF [.v, tI] (F_ref02_Limit_l4 a0 a1 Q v2 σ4 v18 v21) v21 1 (σ23.bump 7))
def F_ref02_Limit_l1 (a0 : Int) (a1 : AV) (Q : AV → Mem → Prop) (next1 : Int → Int → Mem → Prop) (v2 : Int) (v3 : Int) (σ4 : Mem) : Prop :=
slenW a1 fun v5 =>
ifB (decide (v3 < v5)) (
idxW 1 a1 v3 fun v6 =>
ldI (σ4.bump 16) v6 fun v7 =>
ifB (decide (v7 < 0)) (
Q (.tup [.nils, .int .i64 1]) (σ4.bump 18)) (
idxW 1 a1 v3 fun v8 =>
ldI (σ4.bump 16) v8 fun v9 =>
ifB (decide (1000000000 < v9)) (
Q (.tup [.nils, .int .i64 1]) (σ4.bump 18)) (
idxW 1 a1 v3 fun v10 =>
ldI (σ4.bump 21) v10 fun v11 =>
joinF [tI] (fun (k15 : Int → Mem → Prop) =>
ifB (decide (0 < v11)) (
iW (v2 + 1) fun v16 =>
k15 v16 (σ4.bump 24)) (
k15 v2 (σ4.bump 21))) (F_ref02_Limit_j1 next1 v3)))) (
shlW .i64 1 a0 fun v17 =>
ifB (decide (v17 < v2)) (
Q (.tup [.nils, .int .i64 1]) (σ4.bump 10)) (
slenW a1 fun v18 =>
makeW 8 v18 v18 (
newW (σ4.bump 12) (σ4.next + 10) (.rw (repl (Int.toNat v18) [.int .i64 0])) fun σ19 =>
loopF [.v, tI] (F_ref02_Limit_l2 a0 a1 Q v2 σ4 v18) .nils 0 (σ19.bump 2))))
def F_ref02_Limit (a0 : Int) (a1 : AV) (σ : Mem) (Q : AV → Mem → Prop) : Prop :=
slenW a1 fun v0 =>
ifB (decide (288 < v0)) (
Q (.tup [.nils, .int .i64 1]) (σ.bump 15)) (
ifB (decide (a0 < 1)) (
Q (.tup [.nils, .int .i64 1]) (σ.bump 15)) (
ifB (decide (15 < a0)) (
Q (.tup [.nils, .int .i64 1]) (σ.bump 15)) (
loopF [tI, tI] (F_ref02_Limit_l1 a0 a1 Q) 0 0 (σ.bump 15))))
theorem ok_ref02_Limit {a0 a1 σ Q} (h : σ.Live → F_ref02_Limit a0 a1 σ Q) : ACalls PG n_ref02_Limit [.int .i64 a0, a1] σ Q :=
  .of_sem [none, none, none, none, none, none, none, some ([0, 1], [6, 7]), none, none, none, none, none, none, none, some ([0, 1, 7], [6]), none, none, none, none, none, none, none, none, none, some ([0, 1, 6, 8], [9, 10]), none, none, some ([0, 1, 6, 8, 10], [9]), none, none, none, none, none, some ([0, 1, 6, 8, 9, 10, 11], [12]), some ([0, 1, 6, 8, 9, 10, 11], [12]), none, none, none, none, none, none, none, none, none, none, none, none, none, none, none, none, some ([0, 1, 6, 8, 9], [14, 15]), none, none, none, none, none, none, some ([0, 1, 6, 8, 9, 14, 15], [16, 17]), none, none, none, none, none, none, some ([0, 1, 6, 8, 9, 14, 15, 16, 17, 18], [19]), none, none, none, none, none, none, none, none, none, none, none, some ([1, 6, 8, 14], [20]), none, none, none, none, none, some ([1, 6, 8, 14, 20], [21]), none, none, none, none, none, none, none] [(6, tI), (7, tI), (42, tI), (48, tI), (54, tI), (10, tI), (74, tI), (79, tI), (12, tI), (97, tI), (99, tI), (15, tI), (17, tI), (141, tI), (147, tI), (19, tI), (169, tI), (178, tI), (20, tI), (21, tI), (206, tI), (214, tI)] mixed (by kernel_rfl) (by kernel_rfl) h
/-! vitrine/huff.Make -/
/-! vitrine/vitrineref02.Make -/
/-! vitrine/bits.New -/
/-! (*vitrine/huff.Table).Lay -/
/-! (*vitrine/vitrineref02.Table).Lay -/
/-! (*vitrine/bits.Writer).Text -/
/-! (*vitrine/vitrineref01.Writer).Text -/
/-! vitrine/bits.Read -/
/-! (*vitrine/huff.Table).Next -/
/-! (*vitrine/vitrineref02.Table).Next -/
/-! (*vitrine/bits.Reader).Left -/
/-! (*vitrine/vitrineref01.Reader).Left -/
/-! slices.ContainsFunc[[]int,int] -/
def F_slices_ContainsFunc___int_int_ (a0 : AV) (a1 : AV) (σ : Mem) (Q : AV → Mem → Prop) : Prop :=
callW PG n_slices_IndexFunc___int_int_ [a0, a1] (σ.bump 6) fun v0 σ1 =>
castI .i64 v0 fun v2 =>
Q (.bool (decide (0 ≤ v2))) σ1
theorem ok_slices_ContainsFunc___int_int_ {a0 a1 σ Q} (h : σ.Live → F_slices_ContainsFunc___int_int_ a0 a1 σ Q) : ACalls PG n_slices_ContainsFunc___int_int_ [a0, a1] σ Q :=
  .of_sem [none, none] [(7, tI)] mixed (by kernel_rfl) (by kernel_rfl) h
/-! vitrine/huff.Check$1 -/
/-! vitrine/huff.counted -/
/-! vitrine/vitrineref02.sum -/
/-! vitrine/huff.first -/
/-! vitrine/huff.Limit$1 -/
def F_huff_Limit_1 (a0 : Int) (σ : Mem) (Q : AV → Mem → Prop) : Prop :=
ifB (decide (a0 < 0)) (
Q (.bool true) (σ.bump 8)) (
Q (.bool (decide (1000000000 < a0))) (σ.bump 8))
theorem ok_huff_Limit_1 {a0 σ Q} (h : σ.Live → F_huff_Limit_1 a0 σ Q) : ACalls PG n_huff_Limit_1 [.int .i64 a0] σ Q :=
  .of_sem [none, none] [] mixed (by kernel_rfl) (by kernel_rfl) h
/-! slices.SortStableFunc[[]vitrine/huff.item,vitrine/huff.item] -/
def F_slices_SortStableFunc___huff_item_huff_item_ (a0 : AV) (a1 : AV) (σ : Mem) (Q : AV → Mem → Prop) : Prop :=
slenW a0 fun v0 =>
callW PG n_slices_stableCmpFunc_huff_item_ [a0, .int .i64 v0, a1] (σ.bump 5) fun v1 σ2 =>
Q (.tup []) σ2
theorem ok_slices_SortStableFunc___huff_item_huff_item_ {a0 a1 σ Q} (h : σ.Live → F_slices_SortStableFunc___huff_item_huff_item_ a0 a1 σ Q) : ACalls PG n_slices_SortStableFunc___huff_item_huff_item_ [a0, a1] σ Q :=
  .of_sem [none] [] mixed (by kernel_rfl) (by kernel_rfl) h
/-! vitrine/huff.byCount -/
def F_huff_byCount (a0 : AV) (a1 : AV) (σ : Mem) (Q : AV → Mem → Prop) : Prop :=
boxW a0 (
newW (σ.bump 3) σ.next (.rw a0.cells) fun σ0 =>
boxW a1 (
newW σ0 (σ.next + 1) (.rw a1.cells) fun σ1 =>
fldW 0 (.ptr σ.next 0) fun v2 =>
ldI (σ1.bump 6) v2 fun v3 =>
fldW 0 (.ptr (σ.next + 1) 0) fun v4 =>
ldI (σ1.bump 6) v4 fun v5 =>
callW PG n_cmp_Compare_int_ [.int .i64 v3, .int .i64 v5] (σ1.bump 6) fun v6 σ7 =>
castI .i64 v6 fun v8 =>
Q (.int .i64 v8) σ7))
theorem ok_huff_byCount {a0 a1 σ Q} (h : σ.Live → F_huff_byCount a0 a1 σ Q) : ACalls PG n_huff_byCount [a0, a1] σ Q :=
  .of_sem [none, none] [(6, tI), (8, tI), (9, tI)] mixed (by kernel_rfl) (by kernel_rfl) h
/-! slices.Clone[[]vitrine/huff.item,vitrine/huff.item] -/
def F_slices_Clone___huff_item_huff_item_ (a0 : AV) (σ : Mem) (Q : AV → Mem → Prop) : Prop :=
eqW .sl a0 .nils fun v0 =>
ifB v0 (
Q .nils (σ.bump 4)) (
newW (σ.bump 7) (σ.next + 3) (.rw []) fun σ1 =>
apW 3 40 (σ.next + 5) σ1 (.slice (σ.next + 3) 0 0 (.ex 0)) a0 fun v2 σ3 =>
Q v2 σ3)
theorem ok_slices_Clone___huff_item_huff_item_ {a0 σ Q} (h : σ.Live → F_slices_Clone___huff_item_huff_item_ a0 σ Q) : ACalls PG n_slices_Clone___huff_item_huff_item_ [a0] σ Q :=
  .of_sem [none, none, none, none, none] [] mixed (by kernel_rfl) (by kernel_rfl) h
/-! slices.Chunk[[]vitrine/huff.item,vitrine/huff.item] -/
def F_slices_Chunk___huff_item_huff_item__j1 (Q : AV → Mem → Prop) (σ : Mem) (σ3 : Mem) : Prop :=
Q (.func n_slices_Chunk___huff_item_huff_item__1 [.ptr σ.next 0, .ptr (σ.next + 1) 0]) (σ3.bump 2)
def F_slices_Chunk___huff_item_huff_item_ (a0 : AV) (a1 : Int) (σ : Mem) (Q : AV → Mem → Prop) : Prop :=
boxW a0 (
newW (σ.bump 3) σ.next (.rw a0.cells) fun σ0 =>
newW σ0 (σ.next + 1) (.rw [.int .i64 a1]) fun σ1 =>
ldI (σ1.bump 2) (.ptr (σ.next + 1) 0) fun v2 =>
joinF [] (fun (k4 : Mem → Prop) =>
ifB (decide (v2 < 1)) (
False) (
k4 (σ1.bump 2))) (F_slices_Chunk___huff_item_huff_item__j1 Q σ))
theorem ok_slices_Chunk___huff_item_huff_item_ {a0 a1 σ Q} (h : σ.Live → F_slices_Chunk___huff_item_huff_item_ a0 a1 σ Q) : ACalls PG n_slices_Chunk___huff_item_huff_item_ [a0, .int .i64 a1] σ Q :=
  .of_sem [none, none, some ([2, 3], []), none, none] [(5, tI)] mixed (by kernel_rfl) (by kernel_rfl) h
/-! vitrine/huff.spend -/
def F_huff_spend_j1 (next1 : Int → Mem → Prop) (v2 : Int) (σ11 : Mem) : Prop :=
iW (v2 + 1) fun v12 =>
next1 v12 (σ11.bump 2)
def F_huff_spend_l1 (a0 : AV) (a1 : AV) (Q : AV → Mem → Prop) (v0 : Int) (next1 : Int → Mem → Prop) (v2 : Int) (σ3 : Mem) : Prop :=
ifB (decide (v2 < v0)) (
idxW 3 a1 v2 fun v4 =>
ldnW 3 (σ3.bump 5) v4 fun v5 =>
newW (σ3.bump 5) (σ3.next + 3) (.rw [.int .i64 0, .int .i64 0, .nils]) fun σ6 =>
stW 3 σ6 (.ptr (σ3.next + 3) 0) v5 fun σ7 =>
fldW 2 (.ptr (σ3.next + 3) 0) fun v8 =>
ldW (σ7.bump 3) v8 fun v9 =>
eqW .sl v9 .nils fun v10 =>
joinF [] (fun (k13 : Mem → Prop) =>
ifB v10 (
fldW 1 (.ptr (σ3.next + 3) 0) fun v14 =>
ldI (σ7.bump 11) v14 fun v15 =>
idxW 1 a0 v15 fun v16 =>
ldI (σ7.bump 11) v16 fun v17 =>
iW (v17 + 1) fun v18 =>
idxW 1 a0 v15 fun v19 =>
stW 1 (σ7.bump 11) v19 (.int .i64 v18) fun σ20 =>
k13 σ20) (
fldW 2 (.ptr (σ3.next + 3) 0) fun v21 =>
ldW (σ7.bump 7) v21 fun v22 =>
callW PG n_huff_spend [a0, v22] (σ7.bump 7) fun v23 σ24 =>
k13 σ24)) (F_huff_spend_j1 next1 v2)) (
Q (.tup []) (σ3.bump 1))
def F_huff_spend (a0 : AV) (a1 : AV) (σ : Mem) (Q : AV → Mem → Prop) : Prop :=
slenW a1 fun v0 =>
loopF [tI] (F_huff_spend_l1 a0 a1 Q v0) 0 (σ.bump 3)
theorem ok_huff_spend {a0 a1 σ Q} (h : σ.Live → F_huff_spend a0 a1 σ Q) : ACalls PG n_huff_spend [a0, a1] σ Q :=
  .of_sem [none, none, some ([0, 6, 7], [8]), none, none, none, none, none, some ([0, 6, 7, 8], []), none, none, none] [(8, tI), (17, tI), (19, tI)] mixed (by kernel_rfl) (by kernel_rfl) h
/-! vitrine/vitrineref02.row -/
def F_ref02_row_j1 (next0 : AV → Int → Int → Mem → Prop) (v7 : AV) (v8 : Int) (v9 : Int) (σ10 : Mem) : Prop :=
next0 v7 v8 v9 σ10
def F_ref02_row_j2 (next0 : AV → Int → Int → Mem → Prop) (v25 : AV) (v26 : Int) (v27 : Int) (σ28 : Mem) : Prop :=
next0 v25 v26 v27 σ28
def F_ref02_row_j3 (next0 : AV → Int → Int → Mem → Prop) (v42 : AV) (v43 : Int) (v44 : Int) (σ45 : Mem) : Prop :=
next0 v42 v43 v44 σ45
def F_ref02_row_j4 (next0 : AV → Int → Int → Mem → Prop) (v55 : AV) (v56 : Int) (v57 : Int) (σ58 : Mem) : Prop :=
next0 v55 v56 v57 σ58
def F_ref02_row_j5 (next0 : AV → Int → Int → Mem → Prop) (v73 : AV) (v74 : Int) (v75 : Int) (σ76 : Mem) : Prop :=
next0 v73 v74 v75 σ76
def F_ref02_row_j6 (next0 : AV → Int → Int → Mem → Prop) (v90 : AV) (v91 : Int) (v92 : Int) (σ93 : Mem) : Prop :=
next0 v90 v91 v92 σ93
def F_ref02_row_l1 (a0 : AV) (a1 : AV) (Q : AV → Mem → Prop) (next0 : AV → Int → Int → Mem → Prop) (v1 : AV) (v2 : Int) (v3 : Int) (σ4 : Mem) : Prop :=
slenW a0 fun v5 =>
ifB (decide (v2 < v5)) (
slenW a1 fun v6 =>
ifB (decide (v3 = v6)) (
joinF [.v, tI, tI] (fun (k11 : AV → Int → Int → Mem → Prop) =>
idxW 3 a0 v2 fun v12 =>
ldnW 3 (σ4.bump 41) v12 fun v13 =>
cellOkW v13 3 (
newW (σ4.bump 41) (σ4.next + 38) (.rw (setAt [.int .i64 0, .bool false, .nils] 0 v13.cells)) fun σ14 =>
apW 3 40 (σ4.next + 39) σ14 v1 (.slice (σ4.next + 38) 0 1 (.ex 1)) fun v15 σ16 =>
iW (v2 + 1) fun v17 =>
k11 v15 v17 v3 (σ16.bump 3))) (F_ref02_row_j1 next0)) (
slenW a0 fun v18 =>
ifB (decide (v2 < v18)) (
idxW 3 a0 v2 fun v19 =>
fldW 0 v19 fun v20 =>
ldI (σ4.bump 33) v20 fun v21 =>
idxW 3 a1 v3 fun v22 =>
fldW 0 v22 fun v23 =>
ldI (σ4.bump 33) v23 fun v24 =>
joinF [.v, tI, tI] (fun (k29 : AV → Int → Int → Mem → Prop) =>
ifB (decide (v21 ≤ v24)) (
idxW 3 a0 v2 fun v30 =>
ldnW 3 (σ4.bump 41) v30 fun v31 =>
cellOkW v31 3 (
newW (σ4.bump 41) (σ4.next + 38) (.rw (setAt [.int .i64 0, .bool false, .nils] 0 v31.cells)) fun σ32 =>
apW 3 40 (σ4.next + 39) σ32 v1 (.slice (σ4.next + 38) 0 1 (.ex 1)) fun v33 σ34 =>
iW (v2 + 1) fun v35 =>
k29 v33 v35 v3 (σ34.bump 3))) (
idxW 3 a1 v3 fun v36 =>
ldnW 3 (σ4.bump 41) v36 fun v37 =>
cellOkW v37 3 (
newW (σ4.bump 41) (σ4.next + 38) (.rw (setAt [.int .i64 0, .bool false, .nils] 0 v37.cells)) fun σ38 =>
apW 3 40 (σ4.next + 39) σ38 v1 (.slice (σ4.next + 38) 0 1 (.ex 1)) fun v39 σ40 =>
iW (v3 + 1) fun v41 =>
k29 v39 v2 v41 (σ40.bump 3)))) (F_ref02_row_j2 next0)) (
joinF [.v, tI, tI] (fun (k46 : AV → Int → Int → Mem → Prop) =>
idxW 3 a1 v3 fun v47 =>
ldnW 3 (σ4.bump 41) v47 fun v48 =>
cellOkW v48 3 (
newW (σ4.bump 41) (σ4.next + 38) (.rw (setAt [.int .i64 0, .bool false, .nils] 0 v48.cells)) fun σ49 =>
apW 3 40 (σ4.next + 39) σ49 v1 (.slice (σ4.next + 38) 0 1 (.ex 1)) fun v50 σ51 =>
iW (v3 + 1) fun v52 =>
k46 v50 v2 v52 (σ51.bump 3))) (F_ref02_row_j3 next0)))) (
slenW a1 fun v53 =>
ifB (decide (v3 < v53)) (
slenW a1 fun v54 =>
ifB (decide (v3 = v54)) (
joinF [.v, tI, tI] (fun (k59 : AV → Int → Int → Mem → Prop) =>
idxW 3 a0 v2 fun v60 =>
ldnW 3 (σ4.bump 41) v60 fun v61 =>
cellOkW v61 3 (
newW (σ4.bump 41) (σ4.next + 38) (.rw (setAt [.int .i64 0, .bool false, .nils] 0 v61.cells)) fun σ62 =>
apW 3 40 (σ4.next + 39) σ62 v1 (.slice (σ4.next + 38) 0 1 (.ex 1)) fun v63 σ64 =>
iW (v2 + 1) fun v65 =>
k59 v63 v65 v3 (σ64.bump 3))) (F_ref02_row_j4 next0)) (
slenW a0 fun v66 =>
ifB (decide (v2 < v66)) (
idxW 3 a0 v2 fun v67 =>
fldW 0 v67 fun v68 =>
ldI (σ4.bump 33) v68 fun v69 =>
idxW 3 a1 v3 fun v70 =>
fldW 0 v70 fun v71 =>
ldI (σ4.bump 33) v71 fun v72 =>
joinF [.v, tI, tI] (fun (k77 : AV → Int → Int → Mem → Prop) =>
ifB (decide (v69 ≤ v72)) (
idxW 3 a0 v2 fun v78 =>
ldnW 3 (σ4.bump 41) v78 fun v79 =>
cellOkW v79 3 (
newW (σ4.bump 41) (σ4.next + 38) (.rw (setAt [.int .i64 0, .bool false, .nils] 0 v79.cells)) fun σ80 =>
apW 3 40 (σ4.next + 39) σ80 v1 (.slice (σ4.next + 38) 0 1 (.ex 1)) fun v81 σ82 =>
iW (v2 + 1) fun v83 =>
k77 v81 v83 v3 (σ82.bump 3))) (
idxW 3 a1 v3 fun v84 =>
ldnW 3 (σ4.bump 41) v84 fun v85 =>
cellOkW v85 3 (
newW (σ4.bump 41) (σ4.next + 38) (.rw (setAt [.int .i64 0, .bool false, .nils] 0 v85.cells)) fun σ86 =>
apW 3 40 (σ4.next + 39) σ86 v1 (.slice (σ4.next + 38) 0 1 (.ex 1)) fun v87 σ88 =>
iW (v3 + 1) fun v89 =>
k77 v87 v2 v89 (σ88.bump 3)))) (F_ref02_row_j5 next0)) (
joinF [.v, tI, tI] (fun (k94 : AV → Int → Int → Mem → Prop) =>
idxW 3 a1 v3 fun v95 =>
ldnW 3 (σ4.bump 41) v95 fun v96 =>
cellOkW v96 3 (
newW (σ4.bump 41) (σ4.next + 38) (.rw (setAt [.int .i64 0, .bool false, .nils] 0 v96.cells)) fun σ97 =>
apW 3 40 (σ4.next + 39) σ97 v1 (.slice (σ4.next + 38) 0 1 (.ex 1)) fun v98 σ99 =>
iW (v3 + 1) fun v100 =>
k94 v98 v2 v100 (σ99.bump 3))) (F_ref02_row_j6 next0)))) (
Q v1 (σ4.bump 12)))
def F_ref02_row (a0 : AV) (a1 : AV) (σ : Mem) (Q : AV → Mem → Prop) : Prop :=
loopF [.v, tI, tI] (F_ref02_row_l1 a0 a1 Q) .nils 0 0 (σ.bump 4)
theorem ok_ref02_row {a0 a1 σ Q} (h : σ.Live → F_ref02_row a0 a1 σ Q) : ACalls PG n_ref02_row [a0, a1] σ Q :=
  .of_sem [none, none, none, none, none, some ([0, 1], [5, 6, 7]), none, none, none, none, some ([0, 1], [5, 6, 7]), none, none, none, none, none] [(6, tI), (7, tI), (32, tI), (37, tI)] mixed (by kernel_rfl) (by kernel_rfl) h
/-! slices.Clone[[]int,int] -/
/-! slices.SortStableFunc[[]int,int] -/
def F_slices_SortStableFunc___int_int_ (a0 : AV) (a1 : AV) (σ : Mem) (Q : AV → Mem → Prop) : Prop :=
slenW a0 fun v0 =>
callW PG n_slices_stableCmpFunc_int_ [a0, .int .i64 v0, a1] (σ.bump 5) fun v1 σ2 =>
Q (.tup []) σ2
theorem ok_slices_SortStableFunc___int_int_ {a0 a1 σ Q} (h : σ.Live → F_slices_SortStableFunc___int_int_ a0 a1 σ Q) : ACalls PG n_slices_SortStableFunc___int_int_ [a0, a1] σ Q :=
  .of_sem [none] [] mixed (by kernel_rfl) (by kernel_rfl) h
/-! vitrine/huff.Make$1 -/
/-! cmp.Compare[int] -/
def F_cmp_Compare_int_ (a0 : Int) (a1 : Int) (σ : Mem) (Q : AV → Mem → Prop) : Prop :=
callW PG n_cmp_isNaN_int_ [.int .i64 a0] (σ.bump 4) fun v0 σ1 =>
castB v0 fun v2 =>
callW PG n_cmp_isNaN_int_ [.int .i64 a1] (σ1.bump 3) fun v3 σ4 =>
castB v3 fun v5 =>
ifB v2 (
ifB v5 (
Q (.int .i64 0) (σ4.bump 3)) (
Q (.int .i64 (-1)) (σ4.bump 3))) (
ifB v5 (
Q (.int .i64 1) (σ4.bump 3)) (
ifB (decide (a0 < a1)) (
Q (.int .i64 (-1)) (σ4.bump 6)) (
ifB (decide (a1 < a0)) (
Q (.int .i64 1) (σ4.bump 9)) (
Q (.int .i64 0) (σ4.bump 9)))))
theorem ok_cmp_Compare_int_ {a0 a1 σ Q} (h : σ.Live → F_cmp_Compare_int_ a0 a1 σ Q) : ACalls PG n_cmp_Compare_int_ [.int .i64 a0, .int .i64 a1] σ Q :=
  .of_sem [none, none, none, none, none, none, none, none, none, none, none, none, none, none, none, none, none, none, none] [(8, .b), (10, .b)] mixed (by kernel_rfl) (by kernel_rfl) h
/-! (*vitrine/bits.Writer).Bits -/
/-! (*vitrine/vitrineref01.Writer).Bits -/
/-! (*vitrine/bits.Reader).Bits -/
/-! (*vitrine/vitrineref01.Reader).Bits -/
/-! slices.IndexFunc[[]int,int] -/
def F_slices_IndexFunc___int_int__l1 (a0 : AV) (a1 : AV) (Q : AV → Mem → Prop) (v0 : Int) (next1 : Int → Mem → Prop) (v2 : Int) (σ3 : Mem) : Prop :=
ifB (decide (v2 < v0)) (
idxW 1 a0 v2 fun v4 =>
ldI (σ3.bump 9) v4 fun v5 =>
callvW PG a1 [.int .i64 v5] (σ3.bump 9) fun v6 σ7 =>
castB v6 fun v8 =>
ifB v8 (
Q (.int .i64 v2) (σ7.bump 2)) (
iW (v2 + 1) fun v9 =>
next1 v9 (σ7.bump 2))) (
Q (.int .i64 (-1)) (σ3.bump 2))
def F_slices_IndexFunc___int_int_ (a0 : AV) (a1 : AV) (σ : Mem) (Q : AV → Mem → Prop) : Prop :=
slenW a0 fun v0 =>
loopF [tI] (F_slices_IndexFunc___int_int__l1 a0 a1 Q v0) 0 (σ.bump 4)
theorem ok_slices_IndexFunc___int_int_ {a0 a1 σ Q} (h : σ.Live → F_slices_IndexFunc___int_int_ a0 a1 σ Q) : ACalls PG n_slices_IndexFunc___int_int_ [a0, a1] σ Q :=
  .of_sem [none, none, none, some ([0, 1, 7], [8]), none, none, none, none, none, none, none, none, none] [(8, tI), (15, tI), (16, .b)] mixed (by kernel_rfl) (by kernel_rfl) h
/-! slices.stableCmpFunc[vitrine/huff.item] -/
def F_slices_stableCmpFunc_huff_item__j1 (next9 : Int → Mem → Prop) (v10 : Int) (σ23 : Mem) : Prop :=
iW (v10 * 2) fun v24 =>
next9 v24 (σ23.bump 3)
def F_slices_stableCmpFunc_huff_item__l3 (a0 : AV) (a1 : Int) (a2 : AV) (next9 : Int → Mem → Prop) (v10 : Int) (next13 : Int → Int → Mem → Prop) (v14 : Int) (v15 : Int) (σ16 : Mem) : Prop :=
ifB (decide (v15 ≤ a1)) (
iW (v14 + v10) fun v17 =>
callW PG n_slices_symMergeCmpFunc_huff_item_ [a0, .int .i64 v14, .int .i64 v17, .int .i64 v15, a2] (σ16.bump 11) fun v18 σ19 =>
iW (2 * v10) fun v20 =>
iW (v15 + v20) fun v21 =>
next13 v15 v21 (σ19.bump 7)) (
iW (v14 + v10) fun v22 =>
joinF [] (fun (k25 : Mem → Prop) =>
ifB (decide (v22 < a1)) (
callW PG n_slices_symMergeCmpFunc_huff_item_ [a0, .int .i64 v14, .int .i64 v22, .int .i64 a1, a2] (σ16.bump 16) fun v26 σ27 =>
k25 σ27) (
k25 (σ16.bump 10))) (F_slices_stableCmpFunc_huff_item__j1 next9 v10))
def F_slices_stableCmpFunc_huff_item__l2 (a0 : AV) (a1 : Int) (a2 : AV) (Q : AV → Mem → Prop) (next9 : Int → Mem → Prop) (v10 : Int) (σ11 : Mem) : Prop :=
ifB (decide (v10 < a1)) (
iW (2 * v10) fun v12 =>
loopF [tI, tI] (F_slices_stableCmpFunc_huff_item__l3 a0 a1 a2 next9 v10) 0 v12 (σ11.bump 7)) (
Q (.tup []) (σ11.bump 3))
def F_slices_stableCmpFunc_huff_item__l1 (a0 : AV) (a1 : Int) (a2 : AV) (Q : AV → Mem → Prop) (next0 : Int → Int → Mem → Prop) (v1 : Int) (v2 : Int) (σ3 : Mem) : Prop :=
ifB (decide (v2 ≤ a1)) (
callW PG n_slices_insertionSortCmpFunc_huff_item_ [a0, .int .i64 v1, .int .i64 v2, a2] (σ3.bump 8) fun v4 σ5 =>
iW (v2 + 20) fun v6 =>
next0 v2 v6 (σ5.bump 6)) (
callW PG n_slices_insertionSortCmpFunc_huff_item_ [a0, .int .i64 v1, .int .i64 a1, a2] (σ3.bump 8) fun v7 σ8 =>
loopF [tI] (F_slices_stableCmpFunc_huff_item__l2 a0 a1 a2 Q) 20 σ8)
def F_slices_stableCmpFunc_huff_item_ (a0 : AV) (a1 : Int) (a2 : AV) (σ : Mem) (Q : AV → Mem → Prop) : Prop :=
loopF [tI, tI] (F_slices_stableCmpFunc_huff_item__l1 a0 a1 a2 Q) 0 20 (σ.bump 4)
theorem ok_slices_stableCmpFunc_huff_item_ {a0 a1 a2 σ Q} (h : σ.Live → F_slices_stableCmpFunc_huff_item_ a0 a1 a2 σ Q) : ACalls PG n_slices_stableCmpFunc_huff_item_ [a0, .int .i64 a1, a2] σ Q :=
  .of_sem [none, none, none, some ([0, 1, 2, 6], [7, 8]), none, none, none, none, none, none, none, none, some ([0, 1, 2], [6]), none, none, none, none, none, some ([0, 1, 2, 6], [7, 8]), none, none, none, none, none, none, none, none, some ([0, 1, 2, 6], []), none, none] [(6, tI), (7, tI), (8, tI)] mixed (by kernel_rfl) (by kernel_rfl) h
/-! slices.Chunk[[]vitrine/huff.item,vitrine/huff.item]$1 -/
def F_slices_Chunk___huff_item_huff_item__1_l1 (Y : YEnv) (a0 : AV) (a1 : AV) (a2 : AV) (Q : AV → Mem → Prop) (next0 : Int → Mem → Prop) (v1 : Int) (σ2 : Mem) : Prop :=
ldW (σ2.bump 4) a1 fun v3 =>
slenW v3 fun v4 =>
ifB (decide (v1 < v4)) (
ldI (σ2.bump 11) a2 fun v5 =>
ldW (σ2.bump 11) a1 fun v6 =>
slcW 3 v6 (some v1) none fun v7 =>
slenW v7 fun v8 =>
letW (imin v5 v8) fun v9 =>
ldW (σ2.bump 23) a1 fun v10 =>
iW (v1 + v9) fun v11 =>
iW (v1 + v9) fun v12 =>
slc3W 3 v10 (some v1) v11 v12 fun v13 =>
callvY PG Y a0 [v13] (σ2.bump 23) fun v14 σ15 =>
castB v14 fun v16 =>
ifB (!v16) (
Q (.tup []) σ15) (
ldI (σ15.bump 4) a2 fun v17 =>
iW (v1 + v17) fun v18 =>
next0 v18 (σ15.bump 4))) (
Q (.tup []) (σ2.bump 4))
def F_slices_Chunk___huff_item_huff_item__1 (Y : YEnv) (a0 : AV) (a1 : AV) (a2 : AV) (σ : Mem) (Q : AV → Mem → Prop) : Prop :=
loopF [tI] (F_slices_Chunk___huff_item_huff_item__1_l1 Y a0 a1 a2 Q) 0 (σ.bump 1)
theorem ok_slices_Chunk___huff_item_huff_item__1 {Y : YEnv} {a0 a1 a2 σ Q} (h : σ.Live → F_slices_Chunk___huff_item_huff_item__1 Y a0 a1 a2 σ Q) : ACallsY PG Y n_slices_Chunk___huff_item_huff_item__1 [a0, a1, a2] σ Q :=
  .of_sem [none, none, some ([0, 1, 2], [4]), none, none, none, none, none, none, none] [(4, tI), (13, tI), (29, .b), (11, tI)] mixed (by kernel_rfl) (by kernel_rfl) h
/-! slices.stableCmpFunc[int] -/
def F_slices_stableCmpFunc_int__j1 (next9 : Int → Mem → Prop) (v10 : Int) (σ23 : Mem) : Prop :=
iW (v10 * 2) fun v24 =>
next9 v24 (σ23.bump 3)
def F_slices_stableCmpFunc_int__l3 (a0 : AV) (a1 : Int) (a2 : AV) (next9 : Int → Mem → Prop) (v10 : Int) (next13 : Int → Int → Mem → Prop) (v14 : Int) (v15 : Int) (σ16 : Mem) : Prop :=
ifB (decide (v15 ≤ a1)) (
iW (v14 + v10) fun v17 =>
callW PG n_slices_symMergeCmpFunc_int_ [a0, .int .i64 v14, .int .i64 v17, .int .i64 v15, a2] (σ16.bump 11) fun v18 σ19 =>
iW (2 * v10) fun v20 =>
iW (v15 + v20) fun v21 =>
next13 v15 v21 (σ19.bump 7)) (
iW (v14 + v10) fun v22 =>
joinF [] (fun (k25 : Mem → Prop) =>
ifB (decide (v22 < a1)) (
callW PG n_slices_symMergeCmpFunc_int_ [a0, .int .i64 v14, .int .i64 v22, .int .i64 a1, a2] (σ16.bump 16) fun v26 σ27 =>
k25 σ27) (
k25 (σ16.bump 10))) (F_slices_stableCmpFunc_int__j1 next9 v10))
def F_slices_stableCmpFunc_int__l2 (a0 : AV) (a1 : Int) (a2 : AV) (Q : AV → Mem → Prop) (next9 : Int → Mem → Prop) (v10 : Int) (σ11 : Mem) : Prop :=
ifB (decide (v10 < a1)) (
iW (2 * v10) fun v12 =>
loopF [tI, tI] (F_slices_stableCmpFunc_int__l3 a0 a1 a2 next9 v10) 0 v12 (σ11.bump 7)) (
Q (.tup []) (σ11.bump 3))
def F_slices_stableCmpFunc_int__l1 (a0 : AV) (a1 : Int) (a2 : AV) (Q : AV → Mem → Prop) (next0 : Int → Int → Mem → Prop) (v1 : Int) (v2 : Int) (σ3 : Mem) : Prop :=
ifB (decide (v2 ≤ a1)) (
callW PG n_slices_insertionSortCmpFunc_int_ [a0, .int .i64 v1, .int .i64 v2, a2] (σ3.bump 8) fun v4 σ5 =>
iW (v2 + 20) fun v6 =>
next0 v2 v6 (σ5.bump 6)) (
callW PG n_slices_insertionSortCmpFunc_int_ [a0, .int .i64 v1, .int .i64 a1, a2] (σ3.bump 8) fun v7 σ8 =>
loopF [tI] (F_slices_stableCmpFunc_int__l2 a0 a1 a2 Q) 20 σ8)
def F_slices_stableCmpFunc_int_ (a0 : AV) (a1 : Int) (a2 : AV) (σ : Mem) (Q : AV → Mem → Prop) : Prop :=
loopF [tI, tI] (F_slices_stableCmpFunc_int__l1 a0 a1 a2 Q) 0 20 (σ.bump 4)
theorem ok_slices_stableCmpFunc_int_ {a0 a1 a2 σ Q} (h : σ.Live → F_slices_stableCmpFunc_int_ a0 a1 a2 σ Q) : ACalls PG n_slices_stableCmpFunc_int_ [a0, .int .i64 a1, a2] σ Q :=
  .of_sem [none, none, none, some ([0, 1, 2, 6], [7, 8]), none, none, none, none, none, none, none, none, some ([0, 1, 2], [6]), none, none, none, none, none, some ([0, 1, 2, 6], [7, 8]), none, none, none, none, none, none, none, none, some ([0, 1, 2, 6], []), none, none] [(6, tI), (7, tI), (8, tI)] mixed (by kernel_rfl) (by kernel_rfl) h
/-! cmp.isNaN[int] -/
def F_cmp_isNaN_int_ (a0 : Int) (σ : Mem) (Q : AV → Mem → Prop) : Prop :=
Q (.bool (decide (a0 ≠ a0))) (σ.bump 5)
theorem ok_cmp_isNaN_int_ {a0 σ Q} (h : σ.Live → F_cmp_isNaN_int_ a0 σ Q) : ACalls PG n_cmp_isNaN_int_ [.int .i64 a0] σ Q :=
  .of_sem [none, none] [] mixed (by kernel_rfl) (by kernel_rfl) h
/-! slices.insertionSortCmpFunc[vitrine/huff.item] -/
def F_slices_insertionSortCmpFunc_huff_item__j1 (next1 : Int → Mem → Prop) (v2 : Int) (σ4 : Mem) : Prop :=
iW (v2 + 1) fun v5 =>
next1 v5 (σ4.bump 3)
def F_slices_insertionSortCmpFunc_huff_item__l2 (a0 : AV) (a1 : Int) (a3 : AV) (k6 : Mem → Prop) (next7 : Int → Mem → Prop) (v8 : Int) (σ9 : Mem) : Prop :=
ifB (decide (a1 < v8)) (
idxW 3 a0 v8 fun v10 =>
ldnW 3 (σ9.bump 17) v10 fun v11 =>
iW (v8 - 1) fun v12 =>
idxW 3 a0 v12 fun v13 =>
ldnW 3 (σ9.bump 17) v13 fun v14 =>
callvW PG a3 [v11, v14] (σ9.bump 17) fun v15 σ16 =>
castI .i64 v15 fun v17 =>
ifB (decide (v17 < 0)) (
iW (v8 - 1) fun v18 =>
iW (v8 - 1) fun v19 =>
idxW 3 a0 v19 fun v20 =>
ldnW 3 (σ16.bump 18) v20 fun v21 =>
idxW 3 a0 v8 fun v22 =>
ldnW 3 (σ16.bump 18) v22 fun v23 =>
idxW 3 a0 v8 fun v24 =>
stW 3 (σ16.bump 18) v24 v21 fun σ25 =>
idxW 3 a0 v18 fun v26 =>
stW 3 σ25 v26 v23 fun σ27 =>
iW (v8 - 1) fun v28 =>
next7 v28 (σ27.bump 3)) (
k6 σ16)) (
k6 (σ9.bump 17))
def F_slices_insertionSortCmpFunc_huff_item__l1 (a0 : AV) (a1 : Int) (a2 : Int) (a3 : AV) (Q : AV → Mem → Prop) (next1 : Int → Mem → Prop) (v2 : Int) (σ3 : Mem) : Prop :=
ifB (decide (v2 < a2)) (
joinF [] (fun (k6 : Mem → Prop) =>
loopF [tI] (F_slices_insertionSortCmpFunc_huff_item__l2 a0 a1 a3 k6) v2 (σ3.bump 5)) (F_slices_insertionSortCmpFunc_huff_item__j1 next1 v2)) (
Q (.tup []) (σ3.bump 3))
def F_slices_insertionSortCmpFunc_huff_item_ (a0 : AV) (a1 : Int) (a2 : Int) (a3 : AV) (σ : Mem) (Q : AV → Mem → Prop) : Prop :=
iW (a1 + 1) fun v0 =>
loopF [tI] (F_slices_insertionSortCmpFunc_huff_item__l1 a0 a1 a2 a3 Q) v0 (σ.bump 3)
theorem ok_slices_insertionSortCmpFunc_huff_item_ {a0 a1 a2 a3 σ Q} (h : σ.Live → F_slices_insertionSortCmpFunc_huff_item_ a0 a1 a2 a3 σ Q) : ACalls PG n_slices_insertionSortCmpFunc_huff_item_ [a0, .int .i64 a1, .int .i64 a2, a3] σ Q :=
  .of_sem [none, none, some ([0, 1, 2, 3], [8]), none, none, none, none, some ([0, 1, 2, 3, 8], []), some ([0, 1, 2, 3, 8], [9]), none, none, none, none, none, none] [(8, tI), (9, tI), (32, tI)] mixed (by kernel_rfl) (by kernel_rfl) h
/-! slices.symMergeCmpFunc[vitrine/huff.item] -/
def F_slices_symMergeCmpFunc_huff_item__j1 (next1 : Int → Int → Mem → Prop) (v16 : Int) (v17 : Int) (σ18 : Mem) : Prop :=
next1 v16 v17 σ18
def F_slices_symMergeCmpFunc_huff_item__l2 (a0 : AV) (Q : AV → Mem → Prop) (v2 : Int) (next21 : Int → Mem → Prop) (v22 : Int) (σ23 : Mem) : Prop :=
iW (v2 - 1) fun v24 =>
ifB (decide (v22 < v24)) (
iW (v22 + 1) fun v25 =>
iW (v22 + 1) fun v26 =>
idxW 3 a0 v26 fun v27 =>
ldnW 3 (σ23.bump 22) v27 fun v28 =>
idxW 3 a0 v22 fun v29 =>
ldnW 3 (σ23.bump 22) v29 fun v30 =>
idxW 3 a0 v22 fun v31 =>
stW 3 (σ23.bump 22) v31 v28 fun σ32 =>
idxW 3 a0 v25 fun v33 =>
stW 3 σ32 v33 v30 fun σ34 =>
iW (v22 + 1) fun v35 =>
next21 v35 (σ34.bump 3)) (
Q (.tup []) (σ23.bump 4))
def F_slices_symMergeCmpFunc_huff_item__l1 (a0 : AV) (a1 : Int) (a4 : AV) (Q : AV → Mem → Prop) (next1 : Int → Int → Mem → Prop) (v2 : Int) (v3 : Int) (σ4 : Mem) : Prop :=
ifB (decide (v2 < v3)) (
iW (v2 + v3) fun v5 =>
wrW .u64 v5 fun v6 =>
letW (v6 / 2) fun v7 =>
iW v7 fun v8 =>
idxW 3 a0 v8 fun v9 =>
ldnW 3 (σ4.bump 21) v9 fun v10 =>
idxW 3 a0 a1 fun v11 =>
ldnW 3 (σ4.bump 21) v11 fun v12 =>
callvW PG a4 [v10, v12] (σ4.bump 21) fun v13 σ14 =>
castI .i64 v13 fun v15 =>
joinF [tI, tI] (fun (k19 : Int → Int → Mem → Prop) =>
ifB (decide (v15 < 0)) (
iW (v8 + 1) fun v20 =>
k19 v20 v3 (σ14.bump 3)) (
k19 v2 v8 (σ14.bump 2))) (F_slices_symMergeCmpFunc_huff_item__j1 next1)) (
loopF [tI] (F_slices_symMergeCmpFunc_huff_item__l2 a0 Q v2) a1 (σ4.bump 5))
def F_slices_symMergeCmpFunc_huff_item__j2 (next37 : Int → Int → Mem → Prop) (v52 : Int) (v53 : Int) (σ54 : Mem) : Prop :=
next37 v52 v53 σ54
def F_slices_symMergeCmpFunc_huff_item__l4 (a0 : AV) (Q : AV → Mem → Prop) (v38 : Int) (next57 : Int → Mem → Prop) (v58 : Int) (σ59 : Mem) : Prop :=
ifB (decide (v38 < v58)) (
iW (v58 - 1) fun v60 =>
iW (v58 - 1) fun v61 =>
idxW 3 a0 v61 fun v62 =>
ldnW 3 (σ59.bump 21) v62 fun v63 =>
idxW 3 a0 v58 fun v64 =>
ldnW 3 (σ59.bump 21) v64 fun v65 =>
idxW 3 a0 v58 fun v66 =>
stW 3 (σ59.bump 21) v66 v63 fun σ67 =>
idxW 3 a0 v60 fun v68 =>
stW 3 σ67 v68 v65 fun σ69 =>
iW (v58 - 1) fun v70 =>
next57 v70 (σ69.bump 3)) (
Q (.tup []) (σ59.bump 3))
def F_slices_symMergeCmpFunc_huff_item__l3 (a0 : AV) (a2 : Int) (a4 : AV) (Q : AV → Mem → Prop) (next37 : Int → Int → Mem → Prop) (v38 : Int) (v39 : Int) (σ40 : Mem) : Prop :=
ifB (decide (v38 < v39)) (
iW (v38 + v39) fun v41 =>
wrW .u64 v41 fun v42 =>
letW (v42 / 2) fun v43 =>
iW v43 fun v44 =>
idxW 3 a0 a2 fun v45 =>
ldnW 3 (σ40.bump 22) v45 fun v46 =>
idxW 3 a0 v44 fun v47 =>
ldnW 3 (σ40.bump 22) v47 fun v48 =>
callvW PG a4 [v46, v48] (σ40.bump 22) fun v49 σ50 =>
castI .i64 v49 fun v51 =>
joinF [tI, tI] (fun (k55 : Int → Int → Mem → Prop) =>
ifB (!(decide (v51 < 0))) (
iW (v44 + 1) fun v56 =>
k55 v56 v39 (σ50.bump 3)) (
k55 v38 v44 (σ50.bump 2))) (F_slices_symMergeCmpFunc_huff_item__j2 next37)) (
loopF [tI] (F_slices_symMergeCmpFunc_huff_item__l4 a0 Q v38) a2 (σ40.bump 5))
def F_slices_symMergeCmpFunc_huff_item__j4 (next80 : Int → Int → Mem → Prop) (v96 : Int) (v97 : Int) (σ98 : Mem) : Prop :=
next80 v96 v97 σ98
def F_slices_symMergeCmpFunc_huff_item__j7 (Q : AV → Mem → Prop) (σ104 : Mem) : Prop :=
Q (.tup []) σ104
def F_slices_symMergeCmpFunc_huff_item__j8 (Q : AV → Mem → Prop) (σ108 : Mem) : Prop :=
Q (.tup []) σ108
def F_slices_symMergeCmpFunc_huff_item__j6 (a0 : AV) (a3 : Int) (a4 : AV) (Q : AV → Mem → Prop) (v74 : Int) (v101 : Int) (σ103 : Mem) : Prop :=
ifB (decide (v74 < v101)) (
joinF [] (fun (k105 : Mem → Prop) =>
ifB (decide (v101 < a3)) (
callW PG n_slices_symMergeCmpFunc_huff_item_ [a0, .int .i64 v74, .int .i64 v101, .int .i64 a3, a4] (σ103.bump 14) fun v106 σ107 =>
k105 σ107) (
k105 (σ103.bump 8))) (F_slices_symMergeCmpFunc_huff_item__j7 Q)) (
joinF [] (fun (k109 : Mem → Prop) =>
k109 (σ103.bump 8)) (F_slices_symMergeCmpFunc_huff_item__j8 Q))
def F_slices_symMergeCmpFunc_huff_item__j10 (Q : AV → Mem → Prop) (σ114 : Mem) : Prop :=
Q (.tup []) σ114
def F_slices_symMergeCmpFunc_huff_item__j11 (Q : AV → Mem → Prop) (σ118 : Mem) : Prop :=
Q (.tup []) σ118
def F_slices_symMergeCmpFunc_huff_item__j9 (a0 : AV) (a3 : Int) (a4 : AV) (Q : AV → Mem → Prop) (v74 : Int) (v101 : Int) (σ113 : Mem) : Prop :=
ifB (decide (v74 < v101)) (
joinF [] (fun (k115 : Mem → Prop) =>
ifB (decide (v101 < a3)) (
callW PG n_slices_symMergeCmpFunc_huff_item_ [a0, .int .i64 v74, .int .i64 v101, .int .i64 a3, a4] (σ113.bump 14) fun v116 σ117 =>
k115 σ117) (
k115 (σ113.bump 8))) (F_slices_symMergeCmpFunc_huff_item__j10 Q)) (
joinF [] (fun (k119 : Mem → Prop) =>
k119 (σ113.bump 8)) (F_slices_symMergeCmpFunc_huff_item__j11 Q))
def F_slices_symMergeCmpFunc_huff_item__j5 (a0 : AV) (a1 : Int) (a3 : Int) (a4 : AV) (Q : AV → Mem → Prop) (v74 : Int) (v81 : Int) (v101 : Int) (σ102 : Mem) : Prop :=
ifB (decide (a1 < v81)) (
joinF [] (fun (k110 : Mem → Prop) =>
ifB (decide (v81 < v74)) (
callW PG n_slices_symMergeCmpFunc_huff_item_ [a0, .int .i64 a1, .int .i64 v81, .int .i64 v74, a4] (σ102.bump 14) fun v111 σ112 =>
k110 σ112) (
k110 (σ102.bump 8))) (F_slices_symMergeCmpFunc_huff_item__j6 a0 a3 a4 Q v74 v101)) (
joinF [] (fun (k120 : Mem → Prop) =>
k120 (σ102.bump 8)) (F_slices_symMergeCmpFunc_huff_item__j9 a0 a3 a4 Q v74 v101))
def F_slices_symMergeCmpFunc_huff_item__j14 (Q : AV → Mem → Prop) (σ126 : Mem) : Prop :=
Q (.tup []) σ126
def F_slices_symMergeCmpFunc_huff_item__j15 (Q : AV → Mem → Prop) (σ130 : Mem) : Prop :=
Q (.tup []) σ130
def F_slices_symMergeCmpFunc_huff_item__j13 (a0 : AV) (a3 : Int) (a4 : AV) (Q : AV → Mem → Prop) (v74 : Int) (v101 : Int) (σ125 : Mem) : Prop :=
ifB (decide (v74 < v101)) (
joinF [] (fun (k127 : Mem → Prop) =>
ifB (decide (v101 < a3)) (
callW PG n_slices_symMergeCmpFunc_huff_item_ [a0, .int .i64 v74, .int .i64 v101, .int .i64 a3, a4] (σ125.bump 14) fun v128 σ129 =>
k127 σ129) (
k127 (σ125.bump 8))) (F_slices_symMergeCmpFunc_huff_item__j14 Q)) (
joinF [] (fun (k131 : Mem → Prop) =>
k131 (σ125.bump 8)) (F_slices_symMergeCmpFunc_huff_item__j15 Q))
def F_slices_symMergeCmpFunc_huff_item__j17 (Q : AV → Mem → Prop) (σ136 : Mem) : Prop :=
Q (.tup []) σ136
def F_slices_symMergeCmpFunc_huff_item__j18 (Q : AV → Mem → Prop) (σ140 : Mem) : Prop :=
Q (.tup []) σ140
def F_slices_symMergeCmpFunc_huff_item__j16 (a0 : AV) (a3 : Int) (a4 : AV) (Q : AV → Mem → Prop) (v74 : Int) (v101 : Int) (σ135 : Mem) : Prop :=
ifB (decide (v74 < v101)) (
joinF [] (fun (k137 : Mem → Prop) =>
ifB (decide (v101 < a3)) (
callW PG n_slices_symMergeCmpFunc_huff_item_ [a0, .int .i64 v74, .int .i64 v101, .int .i64 a3, a4] (σ135.bump 14) fun v138 σ139 =>
k137 σ139) (
k137 (σ135.bump 8))) (F_slices_symMergeCmpFunc_huff_item__j17 Q)) (
joinF [] (fun (k141 : Mem → Prop) =>
k141 (σ135.bump 8)) (F_slices_symMergeCmpFunc_huff_item__j18 Q))
def F_slices_symMergeCmpFunc_huff_item__j12 (a0 : AV) (a1 : Int) (a3 : Int) (a4 : AV) (Q : AV → Mem → Prop) (v74 : Int) (v81 : Int) (v101 : Int) (σ124 : Mem) : Prop :=
ifB (decide (a1 < v81)) (
joinF [] (fun (k132 : Mem → Prop) =>
ifB (decide (v81 < v74)) (
callW PG n_slices_symMergeCmpFunc_huff_item_ [a0, .int .i64 a1, .int .i64 v81, .int .i64 v74, a4] (σ124.bump 14) fun v133 σ134 =>
k132 σ134) (
k132 (σ124.bump 8))) (F_slices_symMergeCmpFunc_huff_item__j13 a0 a3 a4 Q v74 v101)) (
joinF [] (fun (k142 : Mem → Prop) =>
k142 (σ124.bump 8)) (F_slices_symMergeCmpFunc_huff_item__j16 a0 a3 a4 Q v74 v101))
def F_slices_symMergeCmpFunc_huff_item__l5 (a0 : AV) (a1 : Int) (a2 : Int) (a3 : Int) (a4 : AV) (Q : AV → Mem → Prop) (v74 : Int) (v75 : Int) (v79 : Int) (next80 : Int → Int → Mem → Prop) (v81 : Int) (v82 : Int) (σ83 : Mem) : Prop :=
ifB (decide (v81 < v82)) (
iW (v81 + v82) fun v84 =>
wrW .u64 v84 fun v85 =>
letW (v85 / 2) fun v86 =>
iW v86 fun v87 =>
iW (v79 - v87) fun v88 =>
idxW 3 a0 v88 fun v89 =>
ldnW 3 (σ83.bump 24) v89 fun v90 =>
idxW 3 a0 v87 fun v91 =>
ldnW 3 (σ83.bump 24) v91 fun v92 =>
callvW PG a4 [v90, v92] (σ83.bump 24) fun v93 σ94 =>
castI .i64 v93 fun v95 =>
joinF [tI, tI] (fun (k99 : Int → Int → Mem → Prop) =>
ifB (!(decide (v95 < 0))) (
iW (v87 + 1) fun v100 =>
k99 v100 v82 (σ94.bump 3)) (
k99 v81 v87 (σ94.bump 2))) (F_slices_symMergeCmpFunc_huff_item__j4 next80)) (
iW (v75 - v81) fun v101 =>
ifB (decide (v81 < a2)) (
joinF [] (fun (k121 : Mem → Prop) =>
ifB (decide (a2 < v101)) (
callW PG n_slices_rotateCmpFunc_huff_item_ [a0, .int .i64 v81, .int .i64 a2, .int .i64 v101, a4] (σ83.bump 21) fun v122 σ123 =>
k121 σ123) (
k121 (σ83.bump 15))) (F_slices_symMergeCmpFunc_huff_item__j5 a0 a1 a3 a4 Q v74 v81 v101)) (
joinF [] (fun (k143 : Mem → Prop) =>
k143 (σ83.bump 15)) (F_slices_symMergeCmpFunc_huff_item__j12 a0 a1 a3 a4 Q v74 v81 v101)))
def F_slices_symMergeCmpFunc_huff_item__j3 (a0 : AV) (a1 : Int) (a2 : Int) (a3 : Int) (a4 : AV) (Q : AV → Mem → Prop) (v74 : Int) (v75 : Int) (v76 : Int) (v77 : Int) (σ78 : Mem) : Prop :=
iW (v75 - 1) fun v79 =>
loopF [tI, tI] (F_slices_symMergeCmpFunc_huff_item__l5 a0 a1 a2 a3 a4 Q v74 v75 v79) v76 v77 (σ78.bump 3)
def F_slices_symMergeCmpFunc_huff_item_ (a0 : AV) (a1 : Int) (a2 : Int) (a3 : Int) (a4 : AV) (σ : Mem) (Q : AV → Mem → Prop) : Prop :=
iW (a2 - a1) fun v0 =>
ifB (decide (v0 = 1)) (
loopF [tI, tI] (F_slices_symMergeCmpFunc_huff_item__l1 a0 a1 a4 Q) a2 a3 (σ.bump 8)) (
iW (a3 - a2) fun v36 =>
ifB (decide (v36 = 1)) (
loopF [tI, tI] (F_slices_symMergeCmpFunc_huff_item__l3 a0 a2 a4 Q) a1 a2 (σ.bump 12)) (
iW (a1 + a3) fun v71 =>
wrW .u64 v71 fun v72 =>
letW (v72 / 2) fun v73 =>
iW v73 fun v74 =>
iW (v74 + a2) fun v75 =>
joinF [tI, tI] (fun (k144 : Int → Int → Mem → Prop) =>
ifB (decide (v74 < a2)) (
iW (v75 - a3) fun v145 =>
k144 v145 v74 (σ.bump 30)) (
k144 a1 a2 (σ.bump 28))) (F_slices_symMergeCmpFunc_huff_item__j3 a0 a1 a2 a3 a4 Q v74 v75)))
theorem ok_slices_symMergeCmpFunc_huff_item_ {a0 a1 a2 a3 a4 σ Q} (h : σ.Live → F_slices_symMergeCmpFunc_huff_item_ a0 a1 a2 a3 a4 σ Q) : ACalls PG n_slices_symMergeCmpFunc_huff_item_ [a0, .int .i64 a1, .int .i64 a2, .int .i64 a3, a4] σ Q :=
  .of_sem [none, none, none, none, none, some ([0, 1, 4], [10, 11]), none, none, none, none, none, some ([0, 1, 4], [10, 11]), none, none, none, none, some ([0, 10], [13]), none, none, none, none, none, none, none, none, none, none, some ([0, 2, 4], [14, 15]), none, none, none, none, none, some ([0, 2, 4], [14, 15]), none, none, none, none, some ([0, 14], [17]), none, none, none, none, none, none, none, none, none, some ([0, 1, 2, 3, 4, 18, 19], [20, 21]), none, none, none, none, none, none, some ([0, 1, 2, 3, 4, 18, 19, 22], [20, 21]), none, none, none, none, none, some ([0, 1, 2, 3, 4, 18, 19, 22], [20, 21]), none, none, none, none, some ([0, 1, 3, 4, 18, 20, 24], []), none, none, some ([0, 3, 4, 18, 24], []), none, none, some ([], []), none] [(10, tI), (11, tI), (49, tI), (13, tI), (14, tI), (15, tI), (101, tI), (17, tI), (20, tI), (21, tI), (169, tI)] mixed (by kernel_rfl) (by kernel_rfl) h
/-! slices.insertionSortCmpFunc[int] -/
def F_slices_insertionSortCmpFunc_int__j1 (next1 : Int → Mem → Prop) (v2 : Int) (σ4 : Mem) : Prop :=
iW (v2 + 1) fun v5 =>
next1 v5 (σ4.bump 3)
def F_slices_insertionSortCmpFunc_int__l2 (a0 : AV) (a1 : Int) (a3 : AV) (k6 : Mem → Prop) (next7 : Int → Mem → Prop) (v8 : Int) (σ9 : Mem) : Prop :=
ifB (decide (a1 < v8)) (
idxW 1 a0 v8 fun v10 =>
ldI (σ9.bump 17) v10 fun v11 =>
iW (v8 - 1) fun v12 =>
idxW 1 a0 v12 fun v13 =>
ldI (σ9.bump 17) v13 fun v14 =>
callvW PG a3 [.int .i64 v11, .int .i64 v14] (σ9.bump 17) fun v15 σ16 =>
castI .i64 v15 fun v17 =>
ifB (decide (v17 < 0)) (
iW (v8 - 1) fun v18 =>
iW (v8 - 1) fun v19 =>
idxW 1 a0 v19 fun v20 =>
ldI (σ16.bump 18) v20 fun v21 =>
idxW 1 a0 v8 fun v22 =>
ldI (σ16.bump 18) v22 fun v23 =>
idxW 1 a0 v8 fun v24 =>
stW 1 (σ16.bump 18) v24 (.int .i64 v21) fun σ25 =>
idxW 1 a0 v18 fun v26 =>
stW 1 σ25 v26 (.int .i64 v23) fun σ27 =>
iW (v8 - 1) fun v28 =>
next7 v28 (σ27.bump 3)) (
k6 σ16)) (
k6 (σ9.bump 17))
def F_slices_insertionSortCmpFunc_int__l1 (a0 : AV) (a1 : Int) (a2 : Int) (a3 : AV) (Q : AV → Mem → Prop) (next1 : Int → Mem → Prop) (v2 : Int) (σ3 : Mem) : Prop :=
ifB (decide (v2 < a2)) (
joinF [] (fun (k6 : Mem → Prop) =>
loopF [tI] (F_slices_insertionSortCmpFunc_int__l2 a0 a1 a3 k6) v2 (σ3.bump 5)) (F_slices_insertionSortCmpFunc_int__j1 next1 v2)) (
Q (.tup []) (σ3.bump 3))
def F_slices_insertionSortCmpFunc_int_ (a0 : AV) (a1 : Int) (a2 : Int) (a3 : AV) (σ : Mem) (Q : AV → Mem → Prop) : Prop :=
iW (a1 + 1) fun v0 =>
loopF [tI] (F_slices_insertionSortCmpFunc_int__l1 a0 a1 a2 a3 Q) v0 (σ.bump 3)
theorem ok_slices_insertionSortCmpFunc_int_ {a0 a1 a2 a3 σ Q} (h : σ.Live → F_slices_insertionSortCmpFunc_int_ a0 a1 a2 a3 σ Q) : ACalls PG n_slices_insertionSortCmpFunc_int_ [a0, .int .i64 a1, .int .i64 a2, a3] σ Q :=
  .of_sem [none, none, some ([0, 1, 2, 3], [8]), none, none, none, none, some ([0, 1, 2, 3, 8], []), some ([0, 1, 2, 3, 8], [9]), none, none, none, none, none, none] [(8, tI), (9, tI), (26, tI), (31, tI), (32, tI), (46, tI), (50, tI)] mixed (by kernel_rfl) (by kernel_rfl) h
/-! slices.symMergeCmpFunc[int] -/
def F_slices_symMergeCmpFunc_int__j1 (next1 : Int → Int → Mem → Prop) (v16 : Int) (v17 : Int) (σ18 : Mem) : Prop :=
next1 v16 v17 σ18
def F_slices_symMergeCmpFunc_int__l2 (a0 : AV) (Q : AV → Mem → Prop) (v2 : Int) (next21 : Int → Mem → Prop) (v22 : Int) (σ23 : Mem) : Prop :=
iW (v2 - 1) fun v24 =>
ifB (decide (v22 < v24)) (
iW (v22 + 1) fun v25 =>
iW (v22 + 1) fun v26 =>
idxW 1 a0 v26 fun v27 =>
ldI (σ23.bump 22) v27 fun v28 =>
idxW 1 a0 v22 fun v29 =>
ldI (σ23.bump 22) v29 fun v30 =>
idxW 1 a0 v22 fun v31 =>
stW 1 (σ23.bump 22) v31 (.int .i64 v28) fun σ32 =>
idxW 1 a0 v25 fun v33 =>
stW 1 σ32 v33 (.int .i64 v30) fun σ34 =>
iW (v22 + 1) fun v35 =>
next21 v35 (σ34.bump 3)) (
Q (.tup []) (σ23.bump 4))
def F_slices_symMergeCmpFunc_int__l1 (a0 : AV) (a1 : Int) (a4 : AV) (Q : AV → Mem → Prop) (next1 : Int → Int → Mem → Prop) (v2 : Int) (v3 : Int) (σ4 : Mem) : Prop :=
ifB (decide (v2 < v3)) (
iW (v2 + v3) fun v5 =>
wrW .u64 v5 fun v6 =>
letW (v6 / 2) fun v7 =>
iW v7 fun v8 =>
idxW 1 a0 v8 fun v9 =>
ldI (σ4.bump 21) v9 fun v10 =>
idxW 1 a0 a1 fun v11 =>
ldI (σ4.bump 21) v11 fun v12 =>
callvW PG a4 [.int .i64 v10, .int .i64 v12] (σ4.bump 21) fun v13 σ14 =>
castI .i64 v13 fun v15 =>
joinF [tI, tI] (fun (k19 : Int → Int → Mem → Prop) =>
ifB (decide (v15 < 0)) (
iW (v8 + 1) fun v20 =>
k19 v20 v3 (σ14.bump 3)) (
k19 v2 v8 (σ14.bump 2))) (F_slices_symMergeCmpFunc_int__j1 next1)) (
loopF [tI] (F_slices_symMergeCmpFunc_int__l2 a0 Q v2) a1 (σ4.bump 5))
def F_slices_symMergeCmpFunc_int__j2 (next37 : Int → Int → Mem → Prop) (v52 : Int) (v53 : Int) (σ54 : Mem) : Prop :=
next37 v52 v53 σ54
def F_slices_symMergeCmpFunc_int__l4 (a0 : AV) (Q : AV → Mem → Prop) (v38 : Int) (next57 : Int → Mem → Prop) (v58 : Int) (σ59 : Mem) : Prop :=
ifB (decide (v38 < v58)) (
iW (v58 - 1) fun v60 =>
iW (v58 - 1) fun v61 =>
idxW 1 a0 v61 fun v62 =>
ldI (σ59.bump 21) v62 fun v63 =>
idxW 1 a0 v58 fun v64 =>
ldI (σ59.bump 21) v64 fun v65 =>
idxW 1 a0 v58 fun v66 =>
stW 1 (σ59.bump 21) v66 (.int .i64 v63) fun σ67 =>
idxW 1 a0 v60 fun v68 =>
stW 1 σ67 v68 (.int .i64 v65) fun σ69 =>
iW (v58 - 1) fun v70 =>
next57 v70 (σ69.bump 3)) (
Q (.tup []) (σ59.bump 3))
def F_slices_symMergeCmpFunc_int__l3 (a0 : AV) (a2 : Int) (a4 : AV) (Q : AV → Mem → Prop) (next37 : Int → Int → Mem → Prop) (v38 : Int) (v39 : Int) (σ40 : Mem) : Prop :=
ifB (decide (v38 < v39)) (
iW (v38 + v39) fun v41 =>
wrW .u64 v41 fun v42 =>
letW (v42 / 2) fun v43 =>
iW v43 fun v44 =>
idxW 1 a0 a2 fun v45 =>
ldI (σ40.bump 22) v45 fun v46 =>
idxW 1 a0 v44 fun v47 =>
ldI (σ40.bump 22) v47 fun v48 =>
callvW PG a4 [.int .i64 v46, .int .i64 v48] (σ40.bump 22) fun v49 σ50 =>
castI .i64 v49 fun v51 =>
joinF [tI, tI] (fun (k55 : Int → Int → Mem → Prop) =>
ifB (!(decide (v51 < 0))) (
iW (v44 + 1) fun v56 =>
k55 v56 v39 (σ50.bump 3)) (
k55 v38 v44 (σ50.bump 2))) (F_slices_symMergeCmpFunc_int__j2 next37)) (
loopF [tI] (F_slices_symMergeCmpFunc_int__l4 a0 Q v38) a2 (σ40.bump 5))
def F_slices_symMergeCmpFunc_int__j4 (next80 : Int → Int → Mem → Prop) (v96 : Int) (v97 : Int) (σ98 : Mem) : Prop :=
next80 v96 v97 σ98
def F_slices_symMergeCmpFunc_int__j7 (Q : AV → Mem → Prop) (σ104 : Mem) : Prop :=
Q (.tup []) σ104
def F_slices_symMergeCmpFunc_int__j8 (Q : AV → Mem → Prop) (σ108 : Mem) : Prop :=
Q (.tup []) σ108
def F_slices_symMergeCmpFunc_int__j6 (a0 : AV) (a3 : Int) (a4 : AV) (Q : AV → Mem → Prop) (v74 : Int) (v101 : Int) (σ103 : Mem) : Prop :=
ifB (decide (v74 < v101)) (
joinF [] (fun (k105 : Mem → Prop) =>
ifB (decide (v101 < a3)) (
callW PG n_slices_symMergeCmpFunc_int_ [a0, .int .i64 v74, .int .i64 v101, .int .i64 a3, a4] (σ103.bump 14) fun v106 σ107 =>
k105 σ107) (
k105 (σ103.bump 8))) (F_slices_symMergeCmpFunc_int__j7 Q)) (
joinF [] (fun (k109 : Mem → Prop) =>
k109 (σ103.bump 8)) (F_slices_symMergeCmpFunc_int__j8 Q))
def F_slices_symMergeCmpFunc_int__j10 (Q : AV → Mem → Prop) (σ114 : Mem) : Prop :=
Q (.tup []) σ114
def F_slices_symMergeCmpFunc_int__j11 (Q : AV → Mem → Prop) (σ118 : Mem) : Prop :=
Q (.tup []) σ118
def F_slices_symMergeCmpFunc_int__j9 (a0 : AV) (a3 : Int) (a4 : AV) (Q : AV → Mem → Prop) (v74 : Int) (v101 : Int) (σ113 : Mem) : Prop :=
ifB (decide (v74 < v101)) (
joinF [] (fun (k115 : Mem → Prop) =>
ifB (decide (v101 < a3)) (
callW PG n_slices_symMergeCmpFunc_int_ [a0, .int .i64 v74, .int .i64 v101, .int .i64 a3, a4] (σ113.bump 14) fun v116 σ117 =>
k115 σ117) (
k115 (σ113.bump 8))) (F_slices_symMergeCmpFunc_int__j10 Q)) (
joinF [] (fun (k119 : Mem → Prop) =>
k119 (σ113.bump 8)) (F_slices_symMergeCmpFunc_int__j11 Q))
def F_slices_symMergeCmpFunc_int__j5 (a0 : AV) (a1 : Int) (a3 : Int) (a4 : AV) (Q : AV → Mem → Prop) (v74 : Int) (v81 : Int) (v101 : Int) (σ102 : Mem) : Prop :=
ifB (decide (a1 < v81)) (
joinF [] (fun (k110 : Mem → Prop) =>
ifB (decide (v81 < v74)) (
callW PG n_slices_symMergeCmpFunc_int_ [a0, .int .i64 a1, .int .i64 v81, .int .i64 v74, a4] (σ102.bump 14) fun v111 σ112 =>
k110 σ112) (
k110 (σ102.bump 8))) (F_slices_symMergeCmpFunc_int__j6 a0 a3 a4 Q v74 v101)) (
joinF [] (fun (k120 : Mem → Prop) =>
k120 (σ102.bump 8)) (F_slices_symMergeCmpFunc_int__j9 a0 a3 a4 Q v74 v101))
def F_slices_symMergeCmpFunc_int__j14 (Q : AV → Mem → Prop) (σ126 : Mem) : Prop :=
Q (.tup []) σ126
def F_slices_symMergeCmpFunc_int__j15 (Q : AV → Mem → Prop) (σ130 : Mem) : Prop :=
Q (.tup []) σ130
def F_slices_symMergeCmpFunc_int__j13 (a0 : AV) (a3 : Int) (a4 : AV) (Q : AV → Mem → Prop) (v74 : Int) (v101 : Int) (σ125 : Mem) : Prop :=
ifB (decide (v74 < v101)) (
joinF [] (fun (k127 : Mem → Prop) =>
ifB (decide (v101 < a3)) (
callW PG n_slices_symMergeCmpFunc_int_ [a0, .int .i64 v74, .int .i64 v101, .int .i64 a3, a4] (σ125.bump 14) fun v128 σ129 =>
k127 σ129) (
k127 (σ125.bump 8))) (F_slices_symMergeCmpFunc_int__j14 Q)) (
joinF [] (fun (k131 : Mem → Prop) =>
k131 (σ125.bump 8)) (F_slices_symMergeCmpFunc_int__j15 Q))
def F_slices_symMergeCmpFunc_int__j17 (Q : AV → Mem → Prop) (σ136 : Mem) : Prop :=
Q (.tup []) σ136
def F_slices_symMergeCmpFunc_int__j18 (Q : AV → Mem → Prop) (σ140 : Mem) : Prop :=
Q (.tup []) σ140
def F_slices_symMergeCmpFunc_int__j16 (a0 : AV) (a3 : Int) (a4 : AV) (Q : AV → Mem → Prop) (v74 : Int) (v101 : Int) (σ135 : Mem) : Prop :=
ifB (decide (v74 < v101)) (
joinF [] (fun (k137 : Mem → Prop) =>
ifB (decide (v101 < a3)) (
callW PG n_slices_symMergeCmpFunc_int_ [a0, .int .i64 v74, .int .i64 v101, .int .i64 a3, a4] (σ135.bump 14) fun v138 σ139 =>
k137 σ139) (
k137 (σ135.bump 8))) (F_slices_symMergeCmpFunc_int__j17 Q)) (
joinF [] (fun (k141 : Mem → Prop) =>
k141 (σ135.bump 8)) (F_slices_symMergeCmpFunc_int__j18 Q))
def F_slices_symMergeCmpFunc_int__j12 (a0 : AV) (a1 : Int) (a3 : Int) (a4 : AV) (Q : AV → Mem → Prop) (v74 : Int) (v81 : Int) (v101 : Int) (σ124 : Mem) : Prop :=
ifB (decide (a1 < v81)) (
joinF [] (fun (k132 : Mem → Prop) =>
ifB (decide (v81 < v74)) (
callW PG n_slices_symMergeCmpFunc_int_ [a0, .int .i64 a1, .int .i64 v81, .int .i64 v74, a4] (σ124.bump 14) fun v133 σ134 =>
k132 σ134) (
k132 (σ124.bump 8))) (F_slices_symMergeCmpFunc_int__j13 a0 a3 a4 Q v74 v101)) (
joinF [] (fun (k142 : Mem → Prop) =>
k142 (σ124.bump 8)) (F_slices_symMergeCmpFunc_int__j16 a0 a3 a4 Q v74 v101))
def F_slices_symMergeCmpFunc_int__l5 (a0 : AV) (a1 : Int) (a2 : Int) (a3 : Int) (a4 : AV) (Q : AV → Mem → Prop) (v74 : Int) (v75 : Int) (v79 : Int) (next80 : Int → Int → Mem → Prop) (v81 : Int) (v82 : Int) (σ83 : Mem) : Prop :=
ifB (decide (v81 < v82)) (
iW (v81 + v82) fun v84 =>
wrW .u64 v84 fun v85 =>
letW (v85 / 2) fun v86 =>
iW v86 fun v87 =>
iW (v79 - v87) fun v88 =>
idxW 1 a0 v88 fun v89 =>
ldI (σ83.bump 24) v89 fun v90 =>
idxW 1 a0 v87 fun v91 =>
ldI (σ83.bump 24) v91 fun v92 =>
callvW PG a4 [.int .i64 v90, .int .i64 v92] (σ83.bump 24) fun v93 σ94 =>
castI .i64 v93 fun v95 =>
joinF [tI, tI] (fun (k99 : Int → Int → Mem → Prop) =>
ifB (!(decide (v95 < 0))) (
iW (v87 + 1) fun v100 =>
k99 v100 v82 (σ94.bump 3)) (
k99 v81 v87 (σ94.bump 2))) (F_slices_symMergeCmpFunc_int__j4 next80)) (
iW (v75 - v81) fun v101 =>
ifB (decide (v81 < a2)) (
joinF [] (fun (k121 : Mem → Prop) =>
ifB (decide (a2 < v101)) (
callW PG n_slices_rotateCmpFunc_int_ [a0, .int .i64 v81, .int .i64 a2, .int .i64 v101, a4] (σ83.bump 21) fun v122 σ123 =>
k121 σ123) (
k121 (σ83.bump 15))) (F_slices_symMergeCmpFunc_int__j5 a0 a1 a3 a4 Q v74 v81 v101)) (
joinF [] (fun (k143 : Mem → Prop) =>
k143 (σ83.bump 15)) (F_slices_symMergeCmpFunc_int__j12 a0 a1 a3 a4 Q v74 v81 v101)))
def F_slices_symMergeCmpFunc_int__j3 (a0 : AV) (a1 : Int) (a2 : Int) (a3 : Int) (a4 : AV) (Q : AV → Mem → Prop) (v74 : Int) (v75 : Int) (v76 : Int) (v77 : Int) (σ78 : Mem) : Prop :=
iW (v75 - 1) fun v79 =>
loopF [tI, tI] (F_slices_symMergeCmpFunc_int__l5 a0 a1 a2 a3 a4 Q v74 v75 v79) v76 v77 (σ78.bump 3)
def F_slices_symMergeCmpFunc_int_ (a0 : AV) (a1 : Int) (a2 : Int) (a3 : Int) (a4 : AV) (σ : Mem) (Q : AV → Mem → Prop) : Prop :=
iW (a2 - a1) fun v0 =>
ifB (decide (v0 = 1)) (
loopF [tI, tI] (F_slices_symMergeCmpFunc_int__l1 a0 a1 a4 Q) a2 a3 (σ.bump 8)) (
iW (a3 - a2) fun v36 =>
ifB (decide (v36 = 1)) (
loopF [tI, tI] (F_slices_symMergeCmpFunc_int__l3 a0 a2 a4 Q) a1 a2 (σ.bump 12)) (
iW (a1 + a3) fun v71 =>
wrW .u64 v71 fun v72 =>
letW (v72 / 2) fun v73 =>
iW v73 fun v74 =>
iW (v74 + a2) fun v75 =>
joinF [tI, tI] (fun (k144 : Int → Int → Mem → Prop) =>
ifB (decide (v74 < a2)) (
iW (v75 - a3) fun v145 =>
k144 v145 v74 (σ.bump 30)) (
k144 a1 a2 (σ.bump 28))) (F_slices_symMergeCmpFunc_int__j3 a0 a1 a2 a3 a4 Q v74 v75)))
theorem ok_slices_symMergeCmpFunc_int_ {a0 a1 a2 a3 a4 σ Q} (h : σ.Live → F_slices_symMergeCmpFunc_int_ a0 a1 a2 a3 a4 σ Q) : ACalls PG n_slices_symMergeCmpFunc_int_ [a0, .int .i64 a1, .int .i64 a2, .int .i64 a3, a4] σ Q :=
  .of_sem [none, none, none, none, none, some ([0, 1, 4], [10, 11]), none, none, none, none, none, some ([0, 1, 4], [10, 11]), none, none, none, none, some ([0, 10], [13]), none, none, none, none, none, none, none, none, none, none, some ([0, 2, 4], [14, 15]), none, none, none, none, none, some ([0, 2, 4], [14, 15]), none, none, none, none, some ([0, 14], [17]), none, none, none, none, none, none, none, none, none, some ([0, 1, 2, 3, 4, 18, 19], [20, 21]), none, none, none, none, none, none, some ([0, 1, 2, 3, 4, 18, 19, 22], [20, 21]), none, none, none, none, none, some ([0, 1, 2, 3, 4, 18, 19, 22], [20, 21]), none, none, none, none, some ([0, 1, 3, 4, 18, 20, 24], []), none, none, some ([0, 3, 4, 18, 24], []), none, none, some ([], []), none] [(10, tI), (11, tI), (44, tI), (48, tI), (49, tI), (13, tI), (70, tI), (74, tI), (14, tI), (15, tI), (96, tI), (100, tI), (101, tI), (17, tI), (122, tI), (126, tI), (20, tI), (21, tI), (164, tI), (168, tI), (169, tI)] mixed (by kernel_rfl) (by kernel_rfl) h
/-! slices.rotateCmpFunc[vitrine/huff.item] -/
def F_slices_rotateCmpFunc_huff_item__j1 (next2 : Int → Int → Mem → Prop) (v6 : Int) (v7 : Int) (σ8 : Mem) : Prop :=
next2 v6 v7 σ8
def F_slices_rotateCmpFunc_huff_item__l1 (a0 : AV) (a2 : Int) (a4 : AV) (Q : AV → Mem → Prop) (next2 : Int → Int → Mem → Prop) (v3 : Int) (v4 : Int) (σ5 : Mem) : Prop :=
ifB (decide (v3 ≠ v4)) (
joinF [tI, tI] (fun (k9 : Int → Int → Mem → Prop) =>
ifB (decide (v4 < v3)) (
iW (a2 - v3) fun v10 =>
callW PG n_slices_swapRangeCmpFunc_huff_item_ [a0, .int .i64 v10, .int .i64 a2, .int .i64 v4, a4] (σ5.bump 14) fun v11 σ12 =>
iW (v3 - v4) fun v13 =>
k9 v13 v4 (σ12.bump 4)) (
iW (a2 - v3) fun v14 =>
iW (a2 + v4) fun v15 =>
iW (v15 - v3) fun v16 =>
callW PG n_slices_swapRangeCmpFunc_huff_item_ [a0, .int .i64 v14, .int .i64 v16, .int .i64 v3, a4] (σ5.bump 18) fun v17 σ18 =>
iW (v4 - v3) fun v19 =>
k9 v3 v19 (σ18.bump 4))) (F_slices_rotateCmpFunc_huff_item__j1 next2)) (
iW (a2 - v3) fun v20 =>
callW PG n_slices_swapRangeCmpFunc_huff_item_ [a0, .int .i64 v20, .int .i64 a2, .int .i64 v3, a4] (σ5.bump 11) fun v21 σ22 =>
Q (.tup []) σ22)
def F_slices_rotateCmpFunc_huff_item_ (a0 : AV) (a1 : Int) (a2 : Int) (a3 : Int) (a4 : AV) (σ : Mem) (Q : AV → Mem → Prop) : Prop :=
iW (a2 - a1) fun v0 =>
iW (a3 - a2) fun v1 =>
loopF [tI, tI] (F_slices_rotateCmpFunc_huff_item__l1 a0 a2 a4 Q) v0 v1 (σ.bump 8)
theorem ok_slices_rotateCmpFunc_huff_item_ {a0 a1 a2 a3 a4 σ Q} (h : σ.Live → F_slices_rotateCmpFunc_huff_item_ a0 a1 a2 a3 a4 σ Q) : ACalls PG n_slices_rotateCmpFunc_huff_item_ [a0, .int .i64 a1, .int .i64 a2, .int .i64 a3, a4] σ Q :=
  .of_sem [none, none, none, some ([0, 2, 4], [10, 11]), none, none, none, none, some ([0, 2, 4], [10, 11]), none, none, none, none, none] [(10, tI), (11, tI)] mixed (by kernel_rfl) (by kernel_rfl) h
/-! slices.rotateCmpFunc[int] -/
def F_slices_rotateCmpFunc_int__j1 (next2 : Int → Int → Mem → Prop) (v6 : Int) (v7 : Int) (σ8 : Mem) : Prop :=
next2 v6 v7 σ8
def F_slices_rotateCmpFunc_int__l1 (a0 : AV) (a2 : Int) (a4 : AV) (Q : AV → Mem → Prop) (next2 : Int → Int → Mem → Prop) (v3 : Int) (v4 : Int) (σ5 : Mem) : Prop :=
ifB (decide (v3 ≠ v4)) (
joinF [tI, tI] (fun (k9 : Int → Int → Mem → Prop) =>
ifB (decide (v4 < v3)) (
iW (a2 - v3) fun v10 =>
callW PG n_slices_swapRangeCmpFunc_int_ [a0, .int .i64 v10, .int .i64 a2, .int .i64 v4, a4] (σ5.bump 14) fun v11 σ12 =>
iW (v3 - v4) fun v13 =>
k9 v13 v4 (σ12.bump 4)) (
iW (a2 - v3) fun v14 =>
iW (a2 + v4) fun v15 =>
iW (v15 - v3) fun v16 =>
callW PG n_slices_swapRangeCmpFunc_int_ [a0, .int .i64 v14, .int .i64 v16, .int .i64 v3, a4] (σ5.bump 18) fun v17 σ18 =>
iW (v4 - v3) fun v19 =>
k9 v3 v19 (σ18.bump 4))) (F_slices_rotateCmpFunc_int__j1 next2)) (
iW (a2 - v3) fun v20 =>
callW PG n_slices_swapRangeCmpFunc_int_ [a0, .int .i64 v20, .int .i64 a2, .int .i64 v3, a4] (σ5.bump 11) fun v21 σ22 =>
Q (.tup []) σ22)
def F_slices_rotateCmpFunc_int_ (a0 : AV) (a1 : Int) (a2 : Int) (a3 : Int) (a4 : AV) (σ : Mem) (Q : AV → Mem → Prop) : Prop :=
iW (a2 - a1) fun v0 =>
iW (a3 - a2) fun v1 =>
loopF [tI, tI] (F_slices_rotateCmpFunc_int__l1 a0 a2 a4 Q) v0 v1 (σ.bump 8)
theorem ok_slices_rotateCmpFunc_int_ {a0 a1 a2 a3 a4 σ Q} (h : σ.Live → F_slices_rotateCmpFunc_int_ a0 a1 a2 a3 a4 σ Q) : ACalls PG n_slices_rotateCmpFunc_int_ [a0, .int .i64 a1, .int .i64 a2, .int .i64 a3, a4] σ Q :=
  .of_sem [none, none, none, some ([0, 2, 4], [10, 11]), none, none, none, none, some ([0, 2, 4], [10, 11]), none, none, none, none, none] [(10, tI), (11, tI)] mixed (by kernel_rfl) (by kernel_rfl) h
/-! slices.swapRangeCmpFunc[vitrine/huff.item] -/
def F_slices_swapRangeCmpFunc_huff_item__l1 (a0 : AV) (a1 : Int) (a2 : Int) (a3 : Int) (Q : AV → Mem → Prop) (next0 : Int → Mem → Prop) (v1 : Int) (σ2 : Mem) : Prop :=
ifB (decide (v1 < a3)) (
iW (a1 + v1) fun v3 =>
iW (a2 + v1) fun v4 =>
iW (a2 + v1) fun v5 =>
idxW 3 a0 v5 fun v6 =>
ldnW 3 (σ2.bump 27) v6 fun v7 =>
iW (a1 + v1) fun v8 =>
idxW 3 a0 v8 fun v9 =>
ldnW 3 (σ2.bump 27) v9 fun v10 =>
idxW 3 a0 v3 fun v11 =>
stW 3 (σ2.bump 27) v11 v7 fun σ12 =>
idxW 3 a0 v4 fun v13 =>
stW 3 σ12 v13 v10 fun σ14 =>
iW (v1 + 1) fun v15 =>
next0 v15 (σ14.bump 3)) (
Q (.tup []) (σ2.bump 3))
def F_slices_swapRangeCmpFunc_huff_item_ (a0 : AV) (a1 : Int) (a2 : Int) (a3 : Int) (a4 : AV) (σ : Mem) (Q : AV → Mem → Prop) : Prop :=
loopF [tI] (F_slices_swapRangeCmpFunc_huff_item__l1 a0 a1 a2 a3 Q) 0 (σ.bump 1)
theorem ok_slices_swapRangeCmpFunc_huff_item_ {a0 a1 a2 a3 a4 σ Q} (h : σ.Live → F_slices_swapRangeCmpFunc_huff_item_ a0 a1 a2 a3 a4 σ Q) : ACalls PG n_slices_swapRangeCmpFunc_huff_item_ [a0, .int .i64 a1, .int .i64 a2, .int .i64 a3, a4] σ Q :=
  .of_sem [none, none, some ([0, 1, 2, 3], [10]), none, none, none, none, none] [(10, tI)] mixed (by kernel_rfl) (by kernel_rfl) h
/-! slices.swapRangeCmpFunc[int] -/
def F_slices_swapRangeCmpFunc_int__l1 (a0 : AV) (a1 : Int) (a2 : Int) (a3 : Int) (Q : AV → Mem → Prop) (next0 : Int → Mem → Prop) (v1 : Int) (σ2 : Mem) : Prop :=
ifB (decide (v1 < a3)) (
iW (a1 + v1) fun v3 =>
iW (a2 + v1) fun v4 =>
iW (a2 + v1) fun v5 =>
idxW 1 a0 v5 fun v6 =>
ldI (σ2.bump 27) v6 fun v7 =>
iW (a1 + v1) fun v8 =>
idxW 1 a0 v8 fun v9 =>
ldI (σ2.bump 27) v9 fun v10 =>
idxW 1 a0 v3 fun v11 =>
stW 1 (σ2.bump 27) v11 (.int .i64 v7) fun σ12 =>
idxW 1 a0 v4 fun v13 =>
stW 1 σ12 v13 (.int .i64 v10) fun σ14 =>
iW (v1 + 1) fun v15 =>
next0 v15 (σ14.bump 3)) (
Q (.tup []) (σ2.bump 3))
def F_slices_swapRangeCmpFunc_int_ (a0 : AV) (a1 : Int) (a2 : Int) (a3 : Int) (a4 : AV) (σ : Mem) (Q : AV → Mem → Prop) : Prop :=
loopF [tI] (F_slices_swapRangeCmpFunc_int__l1 a0 a1 a2 a3 Q) 0 (σ.bump 1)
theorem ok_slices_swapRangeCmpFunc_int_ {a0 a1 a2 a3 a4 σ Q} (h : σ.Live → F_slices_swapRangeCmpFunc_int_ a0 a1 a2 a3 a4 σ Q) : ACalls PG n_slices_swapRangeCmpFunc_int_ [a0, .int .i64 a1, .int .i64 a2, .int .i64 a3, a4] σ Q :=
  .of_sem [none, none, some ([0, 1, 2, 3], [10]), none, none, none, none, none] [(10, tI), (29, tI), (35, tI)] mixed (by kernel_rfl) (by kernel_rfl) h
end Go.Vit
