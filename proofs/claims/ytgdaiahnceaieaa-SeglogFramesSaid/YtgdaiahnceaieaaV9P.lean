/- More functions, as printed conditions. -/
import Derived.Test.YtgdaiahnceaieaaV9C
set_option linter.unusedVariables false
set_option linter.unusedSimpArgs false
set_option linter.unusedVariables false
set_option maxRecDepth 100000
namespace Go.Vit
open Go.Proofs
/-! slices.Sort[[]int,int] -/
def F_slices_Sort___int_int_ (a0 : AV) (σ : Mem) (Q : AV → Mem → Prop) : Prop :=
slenW a0 fun v0 =>
wrW .u64 v0 fun v1 =>
callW PG n_math_bits_Len [.int .u64 v1] (σ.bump 9) fun v2 σ3 =>
castI .i64 v2 fun v4 =>
callW PG n_slices_pdqsortOrdered_int_ [a0, .int .i64 0, .int .i64 v0, .int .i64 v4] σ3 fun v5 σ6 =>
Q (.tup []) σ6
theorem ok_slices_Sort___int_int_ {a0 σ Q} (h : σ.Live → F_slices_Sort___int_int_ a0 σ Q) : ACalls PG n_slices_Sort___int_int_ [a0] σ Q :=
  .of_sem [none, none] [(9, tI)] mixed (by kernel_rfl) (by kernel_rfl) h
/-! slices.pdqsortOrdered[int] -/
def F_slices_pdqsortOrdered_int__j1 (next0 : Int → Int → Int → Bool → Bool → Mem → Prop) (v7 : Int) (v8 : Int) (v9 : Int) (v10 : Bool) (v11 : Bool) (σ12 : Mem) : Prop :=
next0 v7 v8 v9 v10 v11 σ12
def F_slices_pdqsortOrdered_int__j5 (k13 : Int → Int → Int → Bool → Bool → Mem → Prop) (v19 : Int) (v43 : Bool) (v47 : Int) (v48 : Int) (v49 : Bool) (σ50 : Mem) : Prop :=
k13 v47 v48 v19 v49 v43 σ50
def F_slices_pdqsortOrdered_int__j6 (k13 : Int → Int → Int → Bool → Bool → Mem → Prop) (v19 : Int) (v61 : Bool) (v65 : Int) (v66 : Int) (v67 : Bool) (σ68 : Mem) : Prop :=
k13 v65 v66 v19 v67 v61 σ68
def F_slices_pdqsortOrdered_int__j4 (a0 : AV) (v1 : Int) (v2 : Int) (v4 : Bool) (v5 : Bool) (k13 : Int → Int → Int → Bool → Bool → Mem → Prop) (v14 : Int) (v19 : Int) (v25 : Int) (σ28 : Mem) : Prop :=
ifB (decide (0 < v1)) (
iW (v1 - 1) fun v29 =>
idxW 1 a0 v29 fun v30 =>
ldI (σ28.bump 15) v30 fun v31 =>
idxW 1 a0 v25 fun v32 =>
ldI (σ28.bump 15) v32 fun v33 =>
callW PG n_cmp_Less_int_ [.int .i64 v31, .int .i64 v33] (σ28.bump 15) fun v34 σ35 =>
castB v34 fun v36 =>
ifB (!v36) (
callW PG n_slices_partitionEqualOrdered_int_ [a0, .int .i64 v1, .int .i64 v2, .int .i64 v25] (σ35.bump 6) fun v37 σ38 =>
castI .i64 v37 fun v39 =>
k13 v39 v2 v19 v4 v5 (σ38.bump 2)) (
callW PG n_slices_partitionOrdered_int_ [a0, .int .i64 v1, .int .i64 v2, .int .i64 v25] (σ35.bump 10) fun v40 σ41 =>
tpI v40 0 fun v42 =>
tpB v40 1 fun v43 =>
iW (v42 - v1) fun v44 =>
iW (v2 - v42) fun v45 =>
quoW .i64 v14 8 fun v46 =>
joinF [tI, tI, .b] (fun (k51 : Int → Int → Bool → Mem → Prop) =>
ifB (decide (v44 < v45)) (
callW PG n_slices_pdqsortOrdered_int_ [a0, .int .i64 v1, .int .i64 v42, .int .i64 v19] (σ41.bump 25) fun v52 σ53 =>
iW (v42 + 1) fun v54 =>
k51 v54 v2 (decide (v46 ≤ v44)) (σ53.bump 3)) (
iW (v42 + 1) fun v55 =>
callW PG n_slices_pdqsortOrdered_int_ [a0, .int .i64 v55, .int .i64 v2, .int .i64 v19] (σ41.bump 26) fun v56 σ57 =>
k51 v1 v42 (decide (v46 ≤ v45)) (σ57.bump 2))) (F_slices_pdqsortOrdered_int__j5 k13 v19 v43))) (
callW PG n_slices_partitionOrdered_int_ [a0, .int .i64 v1, .int .i64 v2, .int .i64 v25] (σ28.bump 25) fun v58 σ59 =>
tpI v58 0 fun v60 =>
tpB v58 1 fun v61 =>
iW (v60 - v1) fun v62 =>
iW (v2 - v60) fun v63 =>
quoW .i64 v14 8 fun v64 =>
joinF [tI, tI, .b] (fun (k69 : Int → Int → Bool → Mem → Prop) =>
ifB (decide (v62 < v63)) (
callW PG n_slices_pdqsortOrdered_int_ [a0, .int .i64 v1, .int .i64 v60, .int .i64 v19] (σ59.bump 25) fun v70 σ71 =>
iW (v60 + 1) fun v72 =>
k69 v72 v2 (decide (v64 ≤ v62)) (σ71.bump 3)) (
iW (v60 + 1) fun v73 =>
callW PG n_slices_pdqsortOrdered_int_ [a0, .int .i64 v73, .int .i64 v2, .int .i64 v19] (σ59.bump 26) fun v74 σ75 =>
k69 v1 v60 (decide (v64 ≤ v63)) (σ75.bump 2))) (F_slices_pdqsortOrdered_int__j6 k13 v19 v61))
def F_slices_pdqsortOrdered_int__j8 (k13 : Int → Int → Int → Bool → Bool → Mem → Prop) (v19 : Int) (v95 : Bool) (v99 : Int) (v100 : Int) (v101 : Bool) (σ102 : Mem) : Prop :=
k13 v99 v100 v19 v101 v95 σ102
def F_slices_pdqsortOrdered_int__j9 (k13 : Int → Int → Int → Bool → Bool → Mem → Prop) (v19 : Int) (v113 : Bool) (v117 : Int) (v118 : Int) (v119 : Bool) (σ120 : Mem) : Prop :=
k13 v117 v118 v19 v119 v113 σ120
def F_slices_pdqsortOrdered_int__j7 (a0 : AV) (v1 : Int) (v2 : Int) (v4 : Bool) (v5 : Bool) (k13 : Int → Int → Int → Bool → Bool → Mem → Prop) (v14 : Int) (v19 : Int) (v25 : Int) (σ80 : Mem) : Prop :=
ifB (decide (0 < v1)) (
iW (v1 - 1) fun v81 =>
idxW 1 a0 v81 fun v82 =>
ldI (σ80.bump 15) v82 fun v83 =>
idxW 1 a0 v25 fun v84 =>
ldI (σ80.bump 15) v84 fun v85 =>
callW PG n_cmp_Less_int_ [.int .i64 v83, .int .i64 v85] (σ80.bump 15) fun v86 σ87 =>
castB v86 fun v88 =>
ifB (!v88) (
callW PG n_slices_partitionEqualOrdered_int_ [a0, .int .i64 v1, .int .i64 v2, .int .i64 v25] (σ87.bump 6) fun v89 σ90 =>
castI .i64 v89 fun v91 =>
k13 v91 v2 v19 v4 v5 (σ90.bump 2)) (
callW PG n_slices_partitionOrdered_int_ [a0, .int .i64 v1, .int .i64 v2, .int .i64 v25] (σ87.bump 10) fun v92 σ93 =>
tpI v92 0 fun v94 =>
tpB v92 1 fun v95 =>
iW (v94 - v1) fun v96 =>
iW (v2 - v94) fun v97 =>
quoW .i64 v14 8 fun v98 =>
joinF [tI, tI, .b] (fun (k103 : Int → Int → Bool → Mem → Prop) =>
ifB (decide (v96 < v97)) (
callW PG n_slices_pdqsortOrdered_int_ [a0, .int .i64 v1, .int .i64 v94, .int .i64 v19] (σ93.bump 25) fun v104 σ105 =>
iW (v94 + 1) fun v106 =>
k103 v106 v2 (decide (v98 ≤ v96)) (σ105.bump 3)) (
iW (v94 + 1) fun v107 =>
callW PG n_slices_pdqsortOrdered_int_ [a0, .int .i64 v107, .int .i64 v2, .int .i64 v19] (σ93.bump 26) fun v108 σ109 =>
k103 v1 v94 (decide (v98 ≤ v97)) (σ109.bump 2))) (F_slices_pdqsortOrdered_int__j8 k13 v19 v95))) (
callW PG n_slices_partitionOrdered_int_ [a0, .int .i64 v1, .int .i64 v2, .int .i64 v25] (σ80.bump 25) fun v110 σ111 =>
tpI v110 0 fun v112 =>
tpB v110 1 fun v113 =>
iW (v112 - v1) fun v114 =>
iW (v2 - v112) fun v115 =>
quoW .i64 v14 8 fun v116 =>
joinF [tI, tI, .b] (fun (k121 : Int → Int → Bool → Mem → Prop) =>
ifB (decide (v114 < v115)) (
callW PG n_slices_pdqsortOrdered_int_ [a0, .int .i64 v1, .int .i64 v112, .int .i64 v19] (σ111.bump 25) fun v122 σ123 =>
iW (v112 + 1) fun v124 =>
k121 v124 v2 (decide (v116 ≤ v114)) (σ123.bump 3)) (
iW (v112 + 1) fun v125 =>
callW PG n_slices_pdqsortOrdered_int_ [a0, .int .i64 v125, .int .i64 v2, .int .i64 v19] (σ111.bump 26) fun v126 σ127 =>
k121 v1 v112 (decide (v116 ≤ v115)) (σ127.bump 2))) (F_slices_pdqsortOrdered_int__j9 k13 v19 v113))
def F_slices_pdqsortOrdered_int__j11 (k13 : Int → Int → Int → Bool → Bool → Mem → Prop) (v19 : Int) (v144 : Bool) (v148 : Int) (v149 : Int) (v150 : Bool) (σ151 : Mem) : Prop :=
k13 v148 v149 v19 v150 v144 σ151
def F_slices_pdqsortOrdered_int__j12 (k13 : Int → Int → Int → Bool → Bool → Mem → Prop) (v19 : Int) (v162 : Bool) (v166 : Int) (v167 : Int) (v168 : Bool) (σ169 : Mem) : Prop :=
k13 v166 v167 v19 v168 v162 σ169
def F_slices_pdqsortOrdered_int__j10 (a0 : AV) (v1 : Int) (v2 : Int) (v4 : Bool) (v5 : Bool) (k13 : Int → Int → Int → Bool → Bool → Mem → Prop) (v14 : Int) (v19 : Int) (v25 : Int) (σ129 : Mem) : Prop :=
ifB (decide (0 < v1)) (
iW (v1 - 1) fun v130 =>
idxW 1 a0 v130 fun v131 =>
ldI (σ129.bump 15) v131 fun v132 =>
idxW 1 a0 v25 fun v133 =>
ldI (σ129.bump 15) v133 fun v134 =>
callW PG n_cmp_Less_int_ [.int .i64 v132, .int .i64 v134] (σ129.bump 15) fun v135 σ136 =>
castB v135 fun v137 =>
ifB (!v137) (
callW PG n_slices_partitionEqualOrdered_int_ [a0, .int .i64 v1, .int .i64 v2, .int .i64 v25] (σ136.bump 6) fun v138 σ139 =>
castI .i64 v138 fun v140 =>
k13 v140 v2 v19 v4 v5 (σ139.bump 2)) (
callW PG n_slices_partitionOrdered_int_ [a0, .int .i64 v1, .int .i64 v2, .int .i64 v25] (σ136.bump 10) fun v141 σ142 =>
tpI v141 0 fun v143 =>
tpB v141 1 fun v144 =>
iW (v143 - v1) fun v145 =>
iW (v2 - v143) fun v146 =>
quoW .i64 v14 8 fun v147 =>
joinF [tI, tI, .b] (fun (k152 : Int → Int → Bool → Mem → Prop) =>
ifB (decide (v145 < v146)) (
callW PG n_slices_pdqsortOrdered_int_ [a0, .int .i64 v1, .int .i64 v143, .int .i64 v19] (σ142.bump 25) fun v153 σ154 =>
iW (v143 + 1) fun v155 =>
k152 v155 v2 (decide (v147 ≤ v145)) (σ154.bump 3)) (
iW (v143 + 1) fun v156 =>
callW PG n_slices_pdqsortOrdered_int_ [a0, .int .i64 v156, .int .i64 v2, .int .i64 v19] (σ142.bump 26) fun v157 σ158 =>
k152 v1 v143 (decide (v147 ≤ v146)) (σ158.bump 2))) (F_slices_pdqsortOrdered_int__j11 k13 v19 v144))) (
callW PG n_slices_partitionOrdered_int_ [a0, .int .i64 v1, .int .i64 v2, .int .i64 v25] (σ129.bump 25) fun v159 σ160 =>
tpI v159 0 fun v161 =>
tpB v159 1 fun v162 =>
iW (v161 - v1) fun v163 =>
iW (v2 - v161) fun v164 =>
quoW .i64 v14 8 fun v165 =>
joinF [tI, tI, .b] (fun (k170 : Int → Int → Bool → Mem → Prop) =>
ifB (decide (v163 < v164)) (
callW PG n_slices_pdqsortOrdered_int_ [a0, .int .i64 v1, .int .i64 v161, .int .i64 v19] (σ160.bump 25) fun v171 σ172 =>
iW (v161 + 1) fun v173 =>
k170 v173 v2 (decide (v165 ≤ v163)) (σ172.bump 3)) (
iW (v161 + 1) fun v174 =>
callW PG n_slices_pdqsortOrdered_int_ [a0, .int .i64 v174, .int .i64 v2, .int .i64 v19] (σ160.bump 26) fun v175 σ176 =>
k170 v1 v161 (decide (v165 ≤ v164)) (σ176.bump 2))) (F_slices_pdqsortOrdered_int__j12 k13 v19 v162))
def F_slices_pdqsortOrdered_int__j3 (a0 : AV) (Q : AV → Mem → Prop) (v1 : Int) (v2 : Int) (v4 : Bool) (v5 : Bool) (k13 : Int → Int → Int → Bool → Bool → Mem → Prop) (v14 : Int) (v19 : Int) (v25 : Int) (v26 : Int) (σ27 : Mem) : Prop :=
ifB v4 (
ifB v5 (
joinF [] (fun (k76 : Mem → Prop) =>
ifB (decide (v26 = 1)) (
callW PG n_slices_partialInsertionSortOrdered_int_ [a0, .int .i64 v1, .int .i64 v2] (σ27.bump 12) fun v77 σ78 =>
castB v77 fun v79 =>
ifB v79 (
Q (.tup []) σ78) (
k76 σ78)) (
k76 (σ27.bump 8))) (F_slices_pdqsortOrdered_int__j4 a0 v1 v2 v4 v5 k13 v14 v19 v25)) (
joinF [] (fun (k128 : Mem → Prop) =>
k128 (σ27.bump 8)) (F_slices_pdqsortOrdered_int__j7 a0 v1 v2 v4 v5 k13 v14 v19 v25))) (
joinF [] (fun (k177 : Mem → Prop) =>
k177 (σ27.bump 8)) (F_slices_pdqsortOrdered_int__j10 a0 v1 v2 v4 v5 k13 v14 v19 v25))
def F_slices_pdqsortOrdered_int__j2 (a0 : AV) (Q : AV → Mem → Prop) (v1 : Int) (v2 : Int) (v4 : Bool) (v5 : Bool) (k13 : Int → Int → Int → Bool → Bool → Mem → Prop) (v14 : Int) (v19 : Int) (σ20 : Mem) : Prop :=
callW PG n_slices_choosePivotOrdered_int_ [a0, .int .i64 v1, .int .i64 v2] (σ20.bump 9) fun v21 σ22 =>
tpI v21 0 fun v23 =>
tpI v21 1 fun v24 =>
joinF [tI, tI] (fun (k178 : Int → Int → Mem → Prop) =>
ifB (decide (v24 = 2)) (
callW PG n_slices_reverseRangeOrdered_int_ [a0, .int .i64 v1, .int .i64 v2] (σ22.bump 6) fun v179 σ180 =>
iW (v2 - 1) fun v181 =>
iW (v23 - v1) fun v182 =>
iW (v181 - v182) fun v183 =>
k178 v183 1 (σ180.bump 8)) (
k178 v23 v24 (σ22.bump 2))) (F_slices_pdqsortOrdered_int__j3 a0 Q v1 v2 v4 v5 k13 v14 v19)
def F_slices_pdqsortOrdered_int__l1 (a0 : AV) (Q : AV → Mem → Prop) (next0 : Int → Int → Int → Bool → Bool → Mem → Prop) (v1 : Int) (v2 : Int) (v3 : Int) (v4 : Bool) (v5 : Bool) (σ6 : Mem) : Prop :=
joinF [tI, tI, tI, .b, .b] (fun (k13 : Int → Int → Int → Bool → Bool → Mem → Prop) =>
iW (v2 - v1) fun v14 =>
ifB (decide (v14 ≤ 12)) (
callW PG n_slices_insertionSortOrdered_int_ [a0, .int .i64 v1, .int .i64 v2] (σ6.bump 10) fun v15 σ16 =>
Q (.tup []) σ16) (
ifB (decide (v3 = 0)) (
callW PG n_slices_heapSortOrdered_int_ [a0, .int .i64 v1, .int .i64 v2] (σ6.bump 12) fun v17 σ18 =>
Q (.tup []) σ18) (
joinF [tI] (fun (k184 : Int → Mem → Prop) =>
ifB (!v4) (
callW PG n_slices_breakPatternsOrdered_int_ [a0, .int .i64 v1, .int .i64 v2] (σ6.bump 14) fun v185 σ186 =>
iW (v3 - 1) fun v187 =>
k184 v187 (σ186.bump 3)) (
k184 v3 (σ6.bump 10))) (F_slices_pdqsortOrdered_int__j2 a0 Q v1 v2 v4 v5 k13 v14)))) (F_slices_pdqsortOrdered_int__j1 next0)
def F_slices_pdqsortOrdered_int_ (a0 : AV) (a1 : Int) (a2 : Int) (a3 : Int) (σ : Mem) (Q : AV → Mem → Prop) : Prop :=
loopF [tI, tI, tI, .b, .b] (F_slices_pdqsortOrdered_int__l1 a0 Q) a1 a2 a3 true true (σ.bump 2)
theorem ok_slices_pdqsortOrdered_int_ {a0 a1 a2 a3 σ Q} (h : σ.Live → F_slices_pdqsortOrdered_int_ a0 a1 a2 a3 σ Q) : ACalls PG n_slices_pdqsortOrdered_int_ [a0, .int .i64 a1, .int .i64 a2, .int .i64 a3] σ Q :=
  .of_sem [none, none, none, some ([0], [1, 2, 3, 8, 9]), some ([0], [1, 2, 3, 8, 9]), none, none, none, none, none, none, none, none, some ([0, 1, 2, 8, 9, 10], [3]), none, none, none, none, some ([0, 1, 2, 3, 8, 9, 10], [11, 12]), none, none, none, none, some ([0, 1, 2, 3, 8, 9, 10, 11], []), none, none, none, none, none, none, none, none, none, none, none, some ([0, 3, 9], [1, 2, 8]), none, none, none, none, none, none] [(1, tI), (2, tI), (3, tI), (8, .b), (9, .b), (47, tI), (48, tI), (11, tI), (12, tI), (72, .b), (80, tI), (84, tI), (85, .b), (92, tI), (100, tI), (101, .b)] mixed (by kernel_rfl) (by kernel_rfl) h
/-! slices.insertionSortOrdered[int] -/
def F_slices_insertionSortOrdered_int__j1 (next1 : Int → Mem → Prop) (v2 : Int) (σ4 : Mem) : Prop :=
iW (v2 + 1) fun v5 =>
next1 v5 (σ4.bump 3)
def F_slices_insertionSortOrdered_int__l2 (a0 : AV) (a1 : Int) (k6 : Mem → Prop) (next7 : Int → Mem → Prop) (v8 : Int) (σ9 : Mem) : Prop :=
ifB (decide (a1 < v8)) (
idxW 1 a0 v8 fun v10 =>
ldI (σ9.bump 15) v10 fun v11 =>
iW (v8 - 1) fun v12 =>
idxW 1 a0 v12 fun v13 =>
ldI (σ9.bump 15) v13 fun v14 =>
callW PG n_cmp_Less_int_ [.int .i64 v11, .int .i64 v14] (σ9.bump 15) fun v15 σ16 =>
castB v15 fun v17 =>
ifB v17 (
iW (v8 - 1) fun v18 =>
iW (v8 - 1) fun v19 =>
idxW 1 a0 v19 fun v20 =>
ldI (σ16.bump 18) v20 fun v21 =>
idxW 1 a0 v8 fun v22 =>
ldI (σ16.bump 18) v22 fun v23 =>
idxW 1 a0 v8 fun v24 =>
stW 1 (σ16.bump 18) v24 (.int .i64 v21) fun σ25 =>
idxW 1 a0 v18 fun v26 =>
stW 1 σ25 v26 (.int .i64 v23) fun σ27 =>
iW (v8 - 1) fun v28 =>
next7 v28 (σ27.bump 3)) (
k6 σ16)) (
k6 (σ9.bump 15))
def F_slices_insertionSortOrdered_int__l1 (a0 : AV) (a1 : Int) (a2 : Int) (Q : AV → Mem → Prop) (next1 : Int → Mem → Prop) (v2 : Int) (σ3 : Mem) : Prop :=
ifB (decide (v2 < a2)) (
joinF [] (fun (k6 : Mem → Prop) =>
loopF [tI] (F_slices_insertionSortOrdered_int__l2 a0 a1 k6) v2 (σ3.bump 5)) (F_slices_insertionSortOrdered_int__j1 next1 v2)) (
Q (.tup []) (σ3.bump 3))
def F_slices_insertionSortOrdered_int_ (a0 : AV) (a1 : Int) (a2 : Int) (σ : Mem) (Q : AV → Mem → Prop) : Prop :=
iW (a1 + 1) fun v0 =>
loopF [tI] (F_slices_insertionSortOrdered_int__l1 a0 a1 a2 Q) v0 (σ.bump 3)
theorem ok_slices_insertionSortOrdered_int_ {a0 a1 a2 σ Q} (h : σ.Live → F_slices_insertionSortOrdered_int_ a0 a1 a2 σ Q) : ACalls PG n_slices_insertionSortOrdered_int_ [a0, .int .i64 a1, .int .i64 a2] σ Q :=
  .of_sem [none, none, some ([0, 1, 2], [6]), none, none, none, none, some ([0, 1, 2, 6], []), some ([0, 1, 2, 6], [7]), none, none, none, none, none, none] [(6, tI), (7, tI), (23, tI), (28, tI), (29, .b), (42, tI), (46, tI)] mixed (by kernel_rfl) (by kernel_rfl) h
/-! cmp.Less[int] -/
def F_cmp_Less_int_ (a0 : Int) (a1 : Int) (σ : Mem) (Q : AV → Mem → Prop) : Prop :=
callW PG n_cmp_isNaN_int_ [.int .i64 a0] (σ.bump 14) fun v0 σ1 =>
castB v0 fun v2 =>
ifB v2 (
callW PG n_cmp_isNaN_int_ [.int .i64 a1] σ1 fun v3 σ4 =>
castB v3 fun v5 =>
ifB (!v5) (
Q (.bool true) σ4) (
Q (.bool (decide (a0 < a1))) σ4)) (
Q (.bool (decide (a0 < a1))) σ1)
theorem ok_cmp_Less_int_ {a0 a1 σ Q} (h : σ.Live → F_cmp_Less_int_ a0 a1 σ Q) : ACalls PG n_cmp_Less_int_ [.int .i64 a0, .int .i64 a1] σ Q :=
  .of_sem [none, none] [(6, .b), (9, .b)] mixed (by kernel_rfl) (by kernel_rfl) h
/-! cmp.isNaN[int] -/
def F_cmp_isNaN_int_ (a0 : Int) (σ : Mem) (Q : AV → Mem → Prop) : Prop :=
Q (.bool (decide (a0 ≠ a0))) (σ.bump 5)
theorem ok_cmp_isNaN_int_ {a0 σ Q} (h : σ.Live → F_cmp_isNaN_int_ a0 σ Q) : ACalls PG n_cmp_isNaN_int_ [.int .i64 a0] σ Q :=
  .of_sem [none, none] [] mixed (by kernel_rfl) (by kernel_rfl) h
end Go.Vit
