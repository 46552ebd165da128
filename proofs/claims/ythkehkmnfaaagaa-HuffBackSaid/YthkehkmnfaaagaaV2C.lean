/- The functions, as printed conditions. -/
import Derived.Test.YthkehkmnfaaagaaVm2
import Derived.Test.YthkehkmnfaaagaaChecked
import Derived.KernelRfl
set_option linter.unusedVariables false
set_option linter.unusedSimpArgs false
set_option linter.unusedVariables false
set_option maxRecDepth 100000
namespace Go.Vit
open Go.Proofs
noncomputable abbrev PG : Program := Try.prog
theorem mixed : PG.follows .mixedOrders = true := by kernel_rfl
abbrev n_law02_HuffChecks : Nat := 3
abbrev n_law02_HuffCodes : Nat := 4
abbrev n_law02_HuffLimits : Nat := 5
abbrev n_law02_HuffBest : Nat := 6
abbrev n_law02_HuffMakes : Nat := 7
abbrev n_law02_HuffLays : Nat := 8
abbrev n_law02_HuffReads : Nat := 9
abbrev n_law02_HuffNil : Nat := 10
abbrev n_law02_HuffBack : Nat := 11
abbrev n_huff_Check : Nat := 12
abbrev n_ref02_Check : Nat := 13
abbrev n_law02_awake : Nat := 14
abbrev n_huff_Codes : Nat := 15
abbrev n_ref02_Codes : Nat := 16
abbrev n_law02_ints : Nat := 17
abbrev n_huff_Limit : Nat := 18
abbrev n_ref02_Limit : Nat := 19
abbrev n_huff_Make : Nat := 20
abbrev n_ref02_Make : Nat := 21
abbrev n_bits_New : Nat := 22
abbrev n_huff_Table_Lay : Nat := 23
abbrev n_ref02_Table_Lay : Nat := 24
abbrev n_bits_Writer_Text : Nat := 25
abbrev n_ref01_Writer_Text : Nat := 26
abbrev n_bits_Read : Nat := 27
abbrev n_huff_Table_Next : Nat := 28
abbrev n_ref02_Table_Next : Nat := 29
abbrev n_bits_Reader_Left : Nat := 30
abbrev n_ref01_Reader_Left : Nat := 31
abbrev n_slices_ContainsFunc___int_int_ : Nat := 32
abbrev n_huff_Check_1 : Nat := 33
abbrev n_huff_counted : Nat := 34
abbrev n_ref02_sum : Nat := 35
abbrev n_huff_first : Nat := 36
abbrev n_huff_Limit_1 : Nat := 37
abbrev n_slices_SortStableFunc___huff_item_huff_item_ : Nat := 38
abbrev n_huff_byCount : Nat := 39
abbrev n_slices_Clone___huff_item_huff_item_ : Nat := 40
abbrev n_slices_Chunk___huff_item_huff_item_ : Nat := 41
abbrev n_huff_spend : Nat := 42
abbrev n_ref02_row : Nat := 43
abbrev n_slices_Clone___int_int_ : Nat := 44
abbrev n_slices_SortStableFunc___int_int_ : Nat := 45
abbrev n_huff_Make_1 : Nat := 46
abbrev n_cmp_Compare_int_ : Nat := 47
abbrev n_bits_Writer_Bits : Nat := 48
abbrev n_ref01_Writer_Bits : Nat := 49
abbrev n_bits_Reader_Bits : Nat := 50
abbrev n_ref01_Reader_Bits : Nat := 51
abbrev n_slices_IndexFunc___int_int_ : Nat := 52
abbrev n_slices_stableCmpFunc_huff_item_ : Nat := 53
abbrev n_slices_Chunk___huff_item_huff_item__1 : Nat := 54
abbrev n_slices_stableCmpFunc_int_ : Nat := 55
abbrev n_cmp_isNaN_int_ : Nat := 56
abbrev n_slices_insertionSortCmpFunc_huff_item_ : Nat := 57
abbrev n_slices_symMergeCmpFunc_huff_item_ : Nat := 58
abbrev n_slices_insertionSortCmpFunc_int_ : Nat := 59
abbrev n_slices_symMergeCmpFunc_int_ : Nat := 60
abbrev n_slices_rotateCmpFunc_huff_item_ : Nat := 61
abbrev n_slices_rotateCmpFunc_int_ : Nat := 62
abbrev n_slices_swapRangeCmpFunc_huff_item_ : Nat := 63
abbrev n_slices_swapRangeCmpFunc_int_ : Nat := 64
/-! vitrine/vitrinelaw02.HuffChecks -/
def F_law02_HuffChecks (a0 : AV) (σ : Mem) (Q : AV → Mem → Prop) : Prop :=
callW PG n_huff_Check [a0] (σ.bump 10) fun v0 σ1 =>
castI .i64 v0 fun v2 =>
callW PG n_ref02_Check [a0] σ1 fun v3 σ4 =>
castI .i64 v3 fun v5 =>
ifB (decide (v2 = v5)) (
callW PG n_law02_awake [] σ4 fun v6 σ7 =>
castB v6 fun v8 =>
Q (.bool v8) σ7) (
Q (.bool false) σ4)
theorem ok_law02_HuffChecks {a0 σ Q} (h : σ.Live → F_law02_HuffChecks a0 σ Q) : ACalls PG n_law02_HuffChecks [a0] σ Q :=
  .of_sem [none, none] [(4, tI), (6, tI), (9, .b)] mixed (by kernel_rfl) (by kernel_rfl) h
/-! vitrine/vitrinelaw02.HuffCodes -/
def F_law02_HuffCodes_l1 (a0 : AV) (Q : AV → Mem → Prop) (v1 : AV) (v5 : AV) (next14 : Int → Mem → Prop) (v15 : Int) (σ16 : Mem) : Prop :=
slenW v5 fun v17 =>
ifB (decide (v15 < v17)) (
idxW 1 v5 v15 fun v18 =>
stW 1 (σ16.bump 8) v18 (.int .i64 (-1)) fun σ19 =>
iW (v15 + 1) fun v20 =>
next14 v20 (σ19.bump 3)) (
callW PG n_law02_ints [v1, a0] (σ16.bump 11) fun v21 σ22 =>
castB v21 fun v23 =>
ifB v23 (
callW PG n_law02_awake [] σ22 fun v24 σ25 =>
castB v24 fun v26 =>
Q (.bool v26) σ25) (
Q (.bool false) σ22))
def F_law02_HuffCodes (a0 : AV) (σ : Mem) (Q : AV → Mem → Prop) : Prop :=
newW (σ.bump 5) (σ.next + 1) (.rw []) fun σ0 =>
apW 1 8 (σ.next + 3) σ0 (.slice (σ.next + 1) 0 0 (.ex 0)) a0 fun v1 σ2 =>
callW PG n_huff_Codes [v1] (σ2.bump 7) fun v3 σ4 =>
tupW v3 0 fun v5 =>
tpI v3 1 fun v6 =>
callW PG n_ref02_Codes [a0] (σ4.bump 7) fun v7 σ8 =>
tupW v7 0 fun v9 =>
tpI v7 1 fun v10 =>
ifB (decide (v6 ≠ v10)) (
Q (.bool false) (σ8.bump 10)) (
callW PG n_law02_ints [v5, v9] (σ8.bump 9) fun v11 σ12 =>
castB v11 fun v13 =>
ifB (!v13) (
Q (.bool false) (σ12.bump 1)) (
loopF [tI] (F_law02_HuffCodes_l1 a0 Q v1 v5) 0 (σ12.bump 1)))
theorem ok_law02_HuffCodes {a0 σ Q} (h : σ.Live → F_law02_HuffCodes a0 σ Q) : ACalls PG n_law02_HuffCodes [a0] σ Q :=
  .of_sem [none, none, none, none, none, none, none, none, none, some ([0, 3, 4], [8]), none, none, none, none, none, none] [(16, tI), (21, tI), (28, .b), (8, tI), (42, .b), (44, .b)] mixed (by kernel_rfl) (by kernel_rfl) h
/-! vitrine/vitrinelaw02.HuffLimits -/
def F_law02_HuffLimits (a0 : Int) (a1 : AV) (σ : Mem) (Q : AV → Mem → Prop) : Prop :=
callW PG n_huff_Limit [.int .i64 a0, a1] (σ.bump 9) fun v0 σ1 =>
tupW v0 0 fun v2 =>
tpI v0 1 fun v3 =>
callW PG n_ref02_Limit [.int .i64 a0, a1] (σ1.bump 8) fun v4 σ5 =>
tupW v4 0 fun v6 =>
tpI v4 1 fun v7 =>
ifB (decide (v3 = v7)) (
callW PG n_law02_ints [v2, v6] (σ5.bump 12) fun v8 σ9 =>
castB v8 fun v10 =>
ifB v10 (
callW PG n_law02_awake [] σ9 fun v11 σ12 =>
castB v11 fun v13 =>
Q (.bool v13) σ12) (
Q (.bool false) σ9)) (
Q (.bool false) (σ5.bump 12))
theorem ok_law02_HuffLimits {a0 a1 σ Q} (h : σ.Live → F_law02_HuffLimits a0 a1 σ Q) : ACalls PG n_law02_HuffLimits [.int .i64 a0, a1] σ Q :=
  .of_sem [none, none, none, none] [(14, tI), (20, tI), (27, .b), (30, .b)] mixed (by kernel_rfl) (by kernel_rfl) h
/-! vitrine/vitrinelaw02.HuffBest -/
def F_law02_HuffBest_l2 (a1 : AV) (Q : AV → Mem → Prop) (v2 : AV) (next13 : Int → Int → Mem → Prop) (v15 : Int) (v30 : Int) (next31 : Int → Mem → Prop) (v32 : Int) (σ33 : Mem) : Prop :=
slenW v2 fun v34 =>
ifB (decide (v32 < v34)) (
idxW 1 a1 v15 fun v35 =>
ldI (σ33.bump 31) v35 fun v36 =>
idxW 1 a1 v32 fun v37 =>
ldI (σ33.bump 31) v37 fun v38 =>
ifB (decide (v38 < v36)) (
idxW 1 a1 v32 fun v39 =>
ldI (σ33.bump 31) v39 fun v40 =>
ifB (decide (0 < v40)) (
idxW 1 v2 v15 fun v41 =>
ldI (σ33.bump 31) v41 fun v42 =>
idxW 1 v2 v32 fun v43 =>
ldI (σ33.bump 31) v43 fun v44 =>
ifB (decide (v44 < v42)) (
Q (.bool false) (σ33.bump 32)) (
iW (v32 + 1) fun v45 =>
next31 v45 (σ33.bump 34))) (
iW (v32 + 1) fun v46 =>
next31 v46 (σ33.bump 34))) (
iW (v32 + 1) fun v47 =>
next31 v47 (σ33.bump 34))) (
iW (v15 + 1) fun v48 =>
next13 v30 v48 (σ33.bump 7))
def F_law02_HuffBest_l3 (a1 : AV) (Q : AV → Mem → Prop) (v14 : Int) (v52 : AV) (next56 : Int → Int → Mem → Prop) (v57 : Int) (v58 : Int) (σ59 : Mem) : Prop :=
slenW v52 fun v60 =>
ifB (decide (v58 < v60)) (
idxW 1 v52 v58 fun v61 =>
ldI (σ59.bump 16) v61 fun v62 =>
idxW 1 a1 v58 fun v63 =>
ldI (σ59.bump 16) v63 fun v64 =>
iW (v62 * v64) fun v65 =>
iW (v57 + v65) fun v66 =>
iW (v58 + 1) fun v67 =>
next56 v66 v67 (σ59.bump 19)) (
ifB (decide (v57 ≤ v14)) (
callW PG n_law02_awake [] (σ59.bump 11) fun v68 σ69 =>
castB v68 fun v70 =>
Q (.bool v70) σ69) (
Q (.bool false) (σ59.bump 11)))
def F_law02_HuffBest_l1 (a0 : Int) (a1 : AV) (Q : AV → Mem → Prop) (v2 : AV) (next13 : Int → Int → Mem → Prop) (v14 : Int) (v15 : Int) (σ16 : Mem) : Prop :=
slenW v2 fun v17 =>
ifB (decide (v15 < v17)) (
idxW 1 v2 v15 fun v18 =>
ldI (σ16.bump 23) v18 fun v19 =>
idxW 1 a1 v15 fun v20 =>
ldI (σ16.bump 23) v20 fun v21 =>
eqW .bool (.bool (decide (0 < v19))) (.bool (decide (0 < v21))) fun v22 =>
ifB (!v22) (
Q (.bool false) (σ16.bump 24)) (
idxW 1 v2 v15 fun v23 =>
ldI (σ16.bump 23) v23 fun v24 =>
ifB (decide (a0 < v24)) (
Q (.bool false) (σ16.bump 24)) (
idxW 1 v2 v15 fun v25 =>
ldI (σ16.bump 35) v25 fun v26 =>
idxW 1 a1 v15 fun v27 =>
ldI (σ16.bump 35) v27 fun v28 =>
iW (v26 * v28) fun v29 =>
iW (v14 + v29) fun v30 =>
loopF [tI] (F_law02_HuffBest_l2 a1 Q v2 next13 v15 v30) 0 (σ16.bump 36)))) (
ifB (decide (a0 < 15)) (
iW (a0 + 1) fun v49 =>
callW PG n_huff_Limit [.int .i64 v49, a1] (σ16.bump 15) fun v50 σ51 =>
tupW v50 0 fun v52 =>
tpI v50 1 fun v53 =>
ifB (decide (v53 ≠ 0)) (
Q (.bool false) (σ51.bump 10)) (
slenW v52 fun v54 =>
slenW v2 fun v55 =>
ifB (decide (v54 ≠ v55)) (
Q (.bool false) (σ51.bump 10)) (
loopF [tI, tI] (F_law02_HuffBest_l3 a1 Q v14 v52) 0 0 (σ51.bump 11)))) (
callW PG n_law02_awake [] (σ16.bump 8) fun v71 σ72 =>
castB v71 fun v73 =>
Q (.bool v73) σ72))
def F_law02_HuffBest (a0 : Int) (a1 : AV) (σ : Mem) (Q : AV → Mem → Prop) : Prop :=
callW PG n_huff_Limit [.int .i64 a0, a1] (σ.bump 9) fun v0 σ1 =>
tupW v0 0 fun v2 =>
tpI v0 1 fun v3 =>
ifB (decide (v3 ≠ 0)) (
ifB (decide (v3 = 1)) (
slenW v2 fun v4 =>
ifB (decide (v4 = 0)) (
callW PG n_law02_awake [] (σ1.bump 13) fun v5 σ6 =>
castB v5 fun v7 =>
Q (.bool v7) σ6) (
Q (.bool false) (σ1.bump 13))) (
Q (.bool false) (σ1.bump 13))) (
slenW v2 fun v8 =>
slenW a1 fun v9 =>
ifB (decide (v8 ≠ v9)) (
Q (.bool false) (σ1.bump 13)) (
callW PG n_huff_Check [v2] (σ1.bump 12) fun v10 σ11 =>
castI .i64 v10 fun v12 =>
ifB (decide (v12 ≠ 0)) (
Q (.bool false) (σ11.bump 1)) (
loopF [tI, tI] (F_law02_HuffBest_l1 a0 a1 Q v2) 0 0 (σ11.bump 2))))
theorem ok_law02_HuffBest {a0 a1 σ Q} (h : σ.Live → F_law02_HuffBest a0 a1 σ Q) : ACalls PG n_law02_HuffBest [.int .i64 a0, a1] σ Q :=
  .of_sem [none, none, none, none, none, none, none, none, none, none, none, some ([0, 1, 5], [7, 8]), none, none, none, none, none, none, none, none, none, some ([0, 1, 5, 7, 8], [9]), none, none, none, none, none, none, none, none, none, none, none, none, none, none, none, none, none, some ([1, 7, 10], [12, 13]), none, none, none, none, none, none, none] [(19, tI), (30, .b), (39, tI), (7, tI), (8, tI), (51, tI), (56, tI), (63, tI), (71, tI), (75, tI), (9, tI), (87, tI), (91, tI), (97, tI), (104, tI), (108, tI), (119, tI), (12, tI), (13, tI), (139, tI), (143, tI), (150, .b), (152, .b)] mixed (by kernel_rfl) (by kernel_rfl) h
/-! vitrine/vitrinelaw02.HuffMakes -/
def F_law02_HuffMakes (a0 : AV) (σ : Mem) (Q : AV → Mem → Prop) : Prop :=
callW PG n_huff_Make [a0] (σ.bump 8) fun v0 σ1 =>
tupW v0 0 fun v2 =>
tpI v0 1 fun v3 =>
callW PG n_ref02_Check [a0] (σ1.bump 15) fun v4 σ5 =>
castI .i64 v4 fun v6 =>
ifB (decide (v3 = v6)) (
eqW .ptr v2 .nilp fun v7 =>
eqW .bool (.bool (!v7)) (.bool (decide (v3 = 0))) fun v8 =>
ifB v8 (
callW PG n_law02_awake [] σ5 fun v9 σ10 =>
castB v9 fun v11 =>
Q (.bool v11) σ10) (
Q (.bool false) σ5)) (
Q (.bool false) σ5)
theorem ok_law02_HuffMakes {a0 σ Q} (h : σ.Live → F_law02_HuffMakes a0 σ Q) : ACalls PG n_law02_HuffMakes [a0] σ Q :=
  .of_sem [none, none, none] [(9, tI), (12, tI), (22, .b)] mixed (by kernel_rfl) (by kernel_rfl) h
/-! vitrine/vitrinelaw02.HuffLays -/
def F_law02_HuffLays_l1 (a1 : AV) (Q : AV → Mem → Prop) (v2 : AV) (v6 : AV) (v15 : AV) (σ16 : Mem) (next18 : Int → Mem → Prop) (v19 : Int) (σ20 : Mem) : Prop :=
slenW a1 fun v21 =>
ifB (decide (v19 < v21)) (
ifB (decide (v19 < 200)) (
idxW 1 a1 v19 fun v22 =>
ldI (σ20.bump 23) v22 fun v23 =>
idxW 1 a1 v19 fun v24 =>
ldI (σ20.bump 23) v24 fun v25 =>
callW PG n_huff_Table_Lay [v2, v15, .int .i64 v23] (σ20.bump 23) fun v26 σ27 =>
fltS.sameW (σ20.bump 23) σ27 v24 (
castI .i64 v26 fun v28 =>
callW PG n_ref02_Table_Lay [v6, .ptr (σ16.next + 1) 0, .int .i64 v25] σ27 fun v29 σ30 =>
castI .i64 v29 fun v31 =>
ifB (decide (v28 ≠ v31)) (
Q (.bool false) (σ30.bump 1)) (
iW (v19 + 1) fun v32 =>
next18 v32 (σ30.bump 3)))) (
callW PG n_bits_Writer_Text [v15] (σ20.bump 17) fun v33 σ34 =>
castS v33 fun v35 =>
callW PG n_ref01_Writer_Text [.ptr (σ16.next + 1) 0] σ34 fun v36 σ37 =>
castS v36 fun v38 =>
ifB (decide (v35 = v38)) (
callW PG n_law02_awake [] σ37 fun v39 σ40 =>
castB v39 fun v41 =>
Q (.bool v41) σ40) (
Q (.bool false) σ37))) (
callW PG n_bits_Writer_Text [v15] (σ20.bump 17) fun v42 σ43 =>
castS v42 fun v44 =>
callW PG n_ref01_Writer_Text [.ptr (σ16.next + 1) 0] σ43 fun v45 σ46 =>
castS v45 fun v47 =>
ifB (decide (v44 = v47)) (
callW PG n_law02_awake [] σ46 fun v48 σ49 =>
castB v48 fun v50 =>
Q (.bool v50) σ49) (
Q (.bool false) σ46))
def F_law02_HuffLays (a0 : AV) (a1 : AV) (σ : Mem) (Q : AV → Mem → Prop) : Prop :=
callW PG n_huff_Make [a0] (σ.bump 8) fun v0 σ1 =>
tupW v0 0 fun v2 =>
tpI v0 1 fun v3 =>
callW PG n_ref02_Make [a0] (σ1.bump 7) fun v4 σ5 =>
tupW v4 0 fun v6 =>
tpI v4 1 fun v7 =>
ifB (decide (v3 ≠ v7)) (
Q (.bool false) (σ5.bump 11)) (
eqW .ptr v2 .nilp fun v8 =>
eqW .ptr v6 .nilp fun v9 =>
eqW .bool (.bool v8) (.bool v9) fun v10 =>
ifB (!v10) (
Q (.bool false) (σ5.bump 11)) (
eqW .ptr v6 .nilp fun v11 =>
ifB v11 (
callW PG n_law02_awake [] (σ5.bump 14) fun v12 σ13 =>
castB v12 fun v14 =>
Q (.bool v14) σ13) (
callW PG n_bits_New [] (σ5.bump 14) fun v15 σ16 =>
boxW (.agg [.nils, .int .i64 0]) (
newW (σ16.bump 3) (σ16.next + 1) (.rw [.nils, .int .i64 0]) fun σ17 =>
loopF [tI] (F_law02_HuffLays_l1 a1 Q v2 v6 v15 σ16) 0 (σ17.bump 1)))))
theorem ok_law02_HuffLays {a0 a1 σ Q} (h : σ.Live → F_law02_HuffLays a0 a1 σ Q) : ACalls PG n_law02_HuffLays [a0, a1] σ Q :=
  .of_sem [none, none, none, none, none, none, none, none, none, none, none, none, none, some ([1, 5, 7, 9, 10], [11]), none, none, none, none, none, none, none, none] [(16, tI), (21, tI), (34, .b), (11, tI), (53, tI), (54, tI), (60, tI), (61, tI), (64, .s), (66, .s), (69, .b)] mixed (by kernel_rfl) (by kernel_rfl) h
/-! vitrine/vitrinelaw02.HuffReads -/
def F_law02_HuffReads_l1 (Q : AV → Mem → Prop) (v2 : AV) (v6 : AV) (v15 : AV) (σ16 : Mem) (next18 : Int → Mem → Prop) (v19 : Int) (σ20 : Mem) : Prop :=
ifB (decide (v19 < 100)) (
callW PG n_huff_Table_Next [v2, v15] (σ20.bump 10) fun v21 σ22 =>
tpI v21 0 fun v23 =>
tpI v21 1 fun v24 =>
callW PG n_ref02_Table_Next [v6, .ptr (σ16.next + 2) 0] (σ22.bump 8) fun v25 σ26 =>
tpI v25 0 fun v27 =>
tpI v25 1 fun v28 =>
ifB (decide (v23 ≠ v27)) (
Q (.bool false) (σ26.bump 16)) (
ifB (decide (v24 ≠ v28)) (
Q (.bool false) (σ26.bump 16)) (
callW PG n_bits_Reader_Left [v15] (σ26.bump 15) fun v29 σ30 =>
castI .i64 v29 fun v31 =>
callW PG n_ref01_Reader_Left [.ptr (σ16.next + 2) 0] σ30 fun v32 σ33 =>
castI .i64 v32 fun v34 =>
ifB (decide (v31 ≠ v34)) (
Q (.bool false) (σ33.bump 1)) (
iW (v19 + 1) fun v35 =>
next18 v35 (σ33.bump 3))))) (
callW PG n_law02_awake [] (σ20.bump 4) fun v36 σ37 =>
castB v36 fun v38 =>
Q (.bool v38) σ37)
def F_law02_HuffReads (a0 : AV) (a1 : ByteArray) (σ : Mem) (Q : AV → Mem → Prop) : Prop :=
callW PG n_huff_Make [a0] (σ.bump 8) fun v0 σ1 =>
tupW v0 0 fun v2 =>
tpI v0 1 fun v3 =>
callW PG n_ref02_Make [a0] (σ1.bump 7) fun v4 σ5 =>
tupW v4 0 fun v6 =>
tpI v4 1 fun v7 =>
ifB (decide (v3 ≠ v7)) (
Q (.bool false) (σ5.bump 11)) (
eqW .ptr v2 .nilp fun v8 =>
eqW .ptr v6 .nilp fun v9 =>
eqW .bool (.bool v8) (.bool v9) fun v10 =>
ifB (!v10) (
Q (.bool false) (σ5.bump 11)) (
eqW .ptr v6 .nilp fun v11 =>
ifB v11 (
callW PG n_law02_awake [] (σ5.bump 14) fun v12 σ13 =>
castB v12 fun v14 =>
Q (.bool v14) σ13) (
callW PG n_bits_Read [.str a1] (σ5.bump 15) fun v15 σ16 =>
boxW (.agg [.str a1, .int .i64 0]) (
newW (σ16.bump 4) (σ16.next + 2) (.rw [.str a1, .int .i64 0]) fun σ17 =>
loopF [tI] (F_law02_HuffReads_l1 Q v2 v6 v15 σ16) 0 (σ17.bump 1)))))
theorem ok_law02_HuffReads {a0 a1 σ Q} (h : σ.Live → F_law02_HuffReads a0 a1 σ Q) : ACalls PG n_law02_HuffReads [a0, .str a1] σ Q :=
  .of_sem [none, none, none, none, none, none, none, none, none, none, none, none, none, some ([5, 7, 9, 10], [11]), none, none, none, none, none, none, none, none, none, none] [(20, tI), (25, tI), (38, .b), (11, tI), (52, tI), (53, tI), (58, tI), (59, tI), (70, tI), (72, tI), (75, .b)] mixed (by kernel_rfl) (by kernel_rfl) h
/-! vitrine/vitrinelaw02.HuffNil -/
def F_law02_HuffNil (a0 : Int) (σ : Mem) (Q : AV → Mem → Prop) : Prop :=
newW (σ.bump 9) (σ.next + 2) (.rw [.int .i64 1, .int .i64 1]) fun σ0 =>
callW PG n_huff_Make [.slice (σ.next + 2) 0 2 (.ex 2)] σ0 fun v1 σ2 =>
tupW v1 0 fun v3 =>
tpI v1 1 fun v4 =>
callW PG n_bits_Read [.str ⟨#[120]⟩] (σ2.bump 8) fun v5 σ6 =>
callW PG n_huff_Table_Next [.nilp, v5] σ6 fun v7 σ8 =>
tpI v7 0 fun v9 =>
tpI v7 1 fun v10 =>
callW PG n_huff_Table_Next [v3, .nilp] (σ8.bump 7) fun v11 σ12 =>
tpI v11 0 fun v13 =>
tpI v11 1 fun v14 =>
ifB (decide (v4 = 0)) (
ifB (decide (v10 = 2)) (
ifB (decide (v14 = 2)) (
callW PG n_bits_New [] (σ12.bump 27) fun v15 σ16 =>
callW PG n_huff_Table_Lay [.nilp, v15, .int .i64 a0] σ16 fun v17 σ18 =>
castI .i64 v17 fun v19 =>
ifB (decide (v19 = 2)) (
callW PG n_huff_Table_Lay [v3, .nilp, .int .i64 a0] σ18 fun v20 σ21 =>
castI .i64 v20 fun v22 =>
ifB (decide (v22 = 2)) (
callW PG n_law02_awake [] σ21 fun v23 σ24 =>
castB v23 fun v25 =>
Q (.bool v25) σ24) (
Q (.bool false) σ21)) (
Q (.bool false) σ18)) (
Q (.bool false) (σ12.bump 27))) (
Q (.bool false) (σ12.bump 27))) (
Q (.bool false) (σ12.bump 27))
theorem ok_law02_HuffNil {a0 σ Q} (h : σ.Live → F_law02_HuffNil a0 σ Q) : ACalls PG n_law02_HuffNil [.int .i64 a0] σ Q :=
  .of_sem [none, none, none, none, none, none] [(14, tI), (19, tI), (20, tI), (24, tI), (25, tI), (40, tI), (46, tI), (50, .b)] mixed (by kernel_rfl) (by kernel_rfl) h
/-! vitrine/vitrinelaw02.HuffBack -/
def F_law02_HuffBack_l1 (Q : AV → Mem → Prop) (v2 : AV) (v18 : AV) (v23 : AV) (next25 : Int → Mem → Prop) (v26 : Int) (σ27 : Mem) : Prop :=
slenW v18 fun v28 =>
ifB (decide (v26 < v28)) (
callW PG n_huff_Table_Next [v2, v23] (σ27.bump 12) fun v29 σ30 =>
tpI v29 0 fun v31 =>
tpI v29 1 fun v32 =>
ifB (decide (v32 ≠ 0)) (
Q (.bool false) (σ30.bump 11)) (
idxW 1 v18 v26 fun v33 =>
ldI (σ30.bump 10) v33 fun v34 =>
ifB (decide (v31 ≠ v34)) (
Q (.bool false) (σ30.bump 11)) (
iW (v26 + 1) fun v35 =>
next25 v35 (σ30.bump 13)))) (
callW PG n_bits_Reader_Left [v23] (σ27.bump 11) fun v36 σ37 =>
castI .i64 v36 fun v38 =>
ifB (decide (v38 < 8)) (
callW PG n_law02_awake [] σ37 fun v39 σ40 =>
castB v39 fun v41 =>
Q (.bool v41) σ40) (
Q (.bool false) σ37))
def F_law02_HuffBack_j1 (Q : AV → Mem → Prop) (v2 : AV) (v16 : AV) (v18 : AV) (σ19 : Mem) : Prop :=
callW PG n_bits_Writer_Text [v16] (σ19.bump 4) fun v20 σ21 =>
castS v20 fun v22 =>
callW PG n_bits_Read [.str v22] σ21 fun v23 σ24 =>
loopF [tI] (F_law02_HuffBack_l1 Q v2 v18 v23) 0 (σ24.bump 1)
def F_law02_HuffBack_j3 (next43 : AV → Int → Mem → Prop) (v45 : Int) (v56 : AV) (σ57 : Mem) : Prop :=
iW (v45 + 1) fun v58 =>
next43 v56 v58 (σ57.bump 3)
def F_law02_HuffBack_j4 (next43 : AV → Int → Mem → Prop) (v45 : Int) (v63 : AV) (σ64 : Mem) : Prop :=
iW (v45 + 1) fun v65 =>
next43 v63 v65 (σ64.bump 3)
def F_law02_HuffBack_j2 (Q : AV → Mem → Prop) (next43 : AV → Int → Mem → Prop) (v44 : AV) (v45 : Int) (v49 : Int) (v52 : Int) (v53 : Bool) (σ54 : Mem) : Prop :=
eqW .bool (.bool (decide (v52 = 0))) (.bool v53) fun v55 =>
ifB (!v55) (
Q (.bool false) (σ54.bump 13)) (
ifB (!v53) (
ifB (decide (v52 ≠ 1)) (
Q (.bool false) (σ54.bump 13)) (
joinF [.v] (fun (k59 : AV → Mem → Prop) =>
ifB v53 (
newW (σ54.bump 18) (σ54.next + 15) (.rw [.int .i64 v49]) fun σ60 =>
apW 1 8 (σ54.next + 16) σ60 v44 (.slice (σ54.next + 15) 0 1 (.ex 1)) fun v61 σ62 =>
k59 v61 σ62) (
k59 v44 (σ54.bump 13))) (F_law02_HuffBack_j3 next43 v45))) (
joinF [.v] (fun (k66 : AV → Mem → Prop) =>
ifB v53 (
newW (σ54.bump 18) (σ54.next + 15) (.rw [.int .i64 v49]) fun σ67 =>
apW 1 8 (σ54.next + 16) σ67 v44 (.slice (σ54.next + 15) 0 1 (.ex 1)) fun v68 σ69 =>
k66 v68 σ69) (
k66 v44 (σ54.bump 13))) (F_law02_HuffBack_j4 next43 v45)))
def F_law02_HuffBack_l2 (a0 : AV) (a1 : AV) (Q : AV → Mem → Prop) (v2 : AV) (v16 : AV) (k42 : AV → Mem → Prop) (next43 : AV → Int → Mem → Prop) (v44 : AV) (v45 : Int) (σ46 : Mem) : Prop :=
slenW a1 fun v47 =>
ifB (decide (v45 < v47)) (
ifB (decide (v45 < 200)) (
idxW 1 a1 v45 fun v48 =>
ldI (σ46.bump 13) v48 fun v49 =>
callW PG n_huff_Table_Lay [v2, v16, .int .i64 v49] (σ46.bump 18) fun v50 σ51 =>
castI .i64 v50 fun v52 =>
joinF [.b] (fun (k70 : Bool → Mem → Prop) =>
ifB (decide (0 ≤ v49)) (
slenW a0 fun v71 =>
ifB (decide (v49 < v71)) (
idxW 1 a0 v49 fun v72 =>
ldI (σ51.bump 16) v72 fun v73 =>
k70 (decide (0 < v73)) (σ51.bump 16)) (
k70 false (σ51.bump 16))) (
k70 false (σ51.bump 16))) (F_law02_HuffBack_j2 Q next43 v44 v45 v49 v52)) (
k42 v44 (σ46.bump 8))) (
k42 v44 (σ46.bump 8))
def F_law02_HuffBack (a0 : AV) (a1 : AV) (σ : Mem) (Q : AV → Mem → Prop) : Prop :=
callW PG n_huff_Make [a0] (σ.bump 8) fun v0 σ1 =>
tupW v0 0 fun v2 =>
tpI v0 1 fun v3 =>
ifB (decide (v3 ≠ 0)) (
ifB (decide (v3 = 1)) (
eqW .ptr v2 .nilp fun v4 =>
ifB v4 (
callW PG n_law02_awake [] (σ1.bump 20) fun v5 σ6 =>
castB v5 fun v7 =>
Q (.bool v7) σ6) (
Q (.bool false) (σ1.bump 20))) (
ifB (decide (v3 = 10)) (
eqW .ptr v2 .nilp fun v8 =>
ifB v8 (
callW PG n_law02_awake [] (σ1.bump 20) fun v9 σ10 =>
castB v9 fun v11 =>
Q (.bool v11) σ10) (
Q (.bool false) (σ1.bump 20))) (
ifB (decide (v3 = 11)) (
eqW .ptr v2 .nilp fun v12 =>
ifB v12 (
callW PG n_law02_awake [] (σ1.bump 20) fun v13 σ14 =>
castB v13 fun v15 =>
Q (.bool v15) σ14) (
Q (.bool false) (σ1.bump 20))) (
Q (.bool false) (σ1.bump 20))))) (
callW PG n_bits_New [] (σ1.bump 4) fun v16 σ17 =>
joinF [.v] (fun (k42 : AV → Mem → Prop) =>
loopF [.v, tI] (F_law02_HuffBack_l2 a0 a1 Q v2 v16 k42) .nils 0 (σ17.bump 2)) (F_law02_HuffBack_j1 Q v2 v16))
theorem ok_law02_HuffBack {a0 a1 σ Q} (h : σ.Live → F_law02_HuffBack a0 a1 σ Q) : ACalls PG n_law02_HuffBack [a0, a1] σ Q :=
  .of_sem [none, none, none, none, none, none, none, none, some ([5, 7], [8]), some ([0, 1, 5, 7], [8, 9]), none, none, none, none, none, some ([0, 1, 5, 7, 8, 9, 10, 11], [12]), none, none, none, none, some ([0, 1, 5, 7, 9], [8]), none, none, none, none, none, some ([5, 8, 13], [14]), none, none, none, none, none, none, none, none, none] [(21, tI), (39, .b), (9, tI), (55, tI), (59, tI), (72, tI), (12, .b), (93, .s), (14, tI), (105, tI), (106, tI), (114, tI), (118, tI), (121, .b)] mixed (by kernel_rfl) (by kernel_rfl) h
/-! vitrine/huff.Check -/
def F_huff_Check_l1 (Q : AV → Mem → Prop) (σ2 : Mem) (v8 : AV) (next9 : Int → Int → Int → Mem → Prop) (v10 : Int) (v11 : Int) (v12 : Int) (σ13 : Mem) : Prop :=
ifB (decide (v12 < 16)) (
aidxW 16 1 none v8 v12 fun a => castI .i64 a fun v14 =>
iW (15 - v12) fun v15 =>
shlW .i64 v14 v15 fun v16 =>
iW (v10 + v16) fun v17 =>
iW (v11 + v14) fun v18 =>
iW (v12 + 1) fun v19 =>
next9 v17 v18 v19 (σ13.bump 18)) (
ifB (decide (32768 < v10)) (
Q (.int .i64 10) (σ13.bump 5)) (
ifB (decide (v10 < 32768)) (
ifB (decide (0 < v11)) (
ifB (decide (1 < v11)) (
Q (.int .i64 11) (σ13.bump 21)) (
idxAW 16 1 (.ptr (σ2.next + 2) 0) 1 fun v20 =>
ldI (σ13.bump 20) v20 fun v21 =>
ifB (decide (v21 = 0)) (
Q (.int .i64 11) (σ13.bump 21)) (
Q (.int .i64 0) (σ13.bump 21)))) (
Q (.int .i64 0) (σ13.bump 21))) (
Q (.int .i64 0) (σ13.bump 21))))
def F_huff_Check (a0 : AV) (σ : Mem) (Q : AV → Mem → Prop) : Prop :=
slenW a0 fun v0 =>
ifB (decide (288 < v0)) (
Q (.int .i64 1) (σ.bump 9)) (
callW PG n_slices_ContainsFunc___int_int_ [a0, .func 33 []] (σ.bump 8) fun v1 σ2 =>
castB v1 fun v3 =>
ifB v3 (
Q (.int .i64 1) (σ2.bump 1)) (
callW PG n_huff_counted [a0] (σ2.bump 4) fun v4 σ5 =>
newW σ5 (σ2.next + 2) (.rw (List.replicate 16 (.int .i64 0))) fun σ6 =>
stW 16 σ6 (.ptr (σ2.next + 2) 0) v4 fun σ7 =>
ldnW 16 (σ7.bump 4) (.ptr (σ2.next + 2) 0) fun v8 =>
loopF [tI, tI, tI] (F_huff_Check_l1 Q σ2 v8) 0 0 0 (σ7.bump 4)))
theorem ok_huff_Check {a0 σ Q} (h : σ.Live → F_huff_Check a0 σ Q) : ACalls PG n_huff_Check [a0] σ Q :=
  .of_sem [none, none, none, none, none, none, none, none, some ([3, 17], [4, 5, 18]), none, none, none, none, none, none, none, none, none, none, none, none, none, none, none] [(13, .b), (4, tI), (5, tI), (18, tI), (21, tI), (47, tI)] mixed (by kernel_rfl) (by kernel_rfl) h
/-! vitrine/vitrineref02.Check -/
def F_ref02_Check_l1 (a0 : AV) (Q : AV → Mem → Prop) (next1 : Int → Mem → Prop) (v2 : Int) (σ3 : Mem) : Prop :=
slenW a0 fun v4 =>
ifB (decide (v2 < v4)) (
idxW 1 a0 v2 fun v5 =>
ldI (σ3.bump 16) v5 fun v6 =>
ifB (decide (v6 < 0)) (
Q (.int .i64 1) (σ3.bump 17)) (
idxW 1 a0 v2 fun v7 =>
ldI (σ3.bump 16) v7 fun v8 =>
ifB (decide (15 < v8)) (
Q (.int .i64 1) (σ3.bump 17)) (
iW (v2 + 1) fun v9 =>
next1 v9 (σ3.bump 19)))) (
callW PG n_ref02_sum [a0] (σ3.bump 13) fun v10 σ11 =>
tpI v10 0 fun v12 =>
tpI v10 1 fun v13 =>
tpI v10 2 fun v14 =>
ifB (decide (32768 < v12)) (
Q (.int .i64 10) (σ11.bump 3)) (
ifB (decide (v12 < 32768)) (
ifB (decide (0 < v13)) (
ifB (decide (v13 = 1)) (
ifB (!(decide (v14 = 1))) (
Q (.int .i64 11) (σ11.bump 18)) (
Q (.int .i64 0) (σ11.bump 18))) (
Q (.int .i64 11) (σ11.bump 18))) (
Q (.int .i64 0) (σ11.bump 18))) (
Q (.int .i64 0) (σ11.bump 18))))
def F_ref02_Check (a0 : AV) (σ : Mem) (Q : AV → Mem → Prop) : Prop :=
slenW a0 fun v0 =>
ifB (decide (288 < v0)) (
Q (.int .i64 1) (σ.bump 5)) (
loopF [tI] (F_ref02_Check_l1 a0 Q) 0 (σ.bump 5))
theorem ok_ref02_Check {a0 σ Q} (h : σ.Live → F_ref02_Check a0 σ Q) : ACalls PG n_ref02_Check [a0] σ Q :=
  .of_sem [none, none, none, none, none, none, some ([0], [3]), none, none, none, none, none, none, none, none, none, none, none, none, none, none, none] [(3, tI), (19, tI), (25, tI), (31, tI), (32, tI), (33, tI)] mixed (by kernel_rfl) (by kernel_rfl) h
/-! vitrine/vitrinelaw02.awake -/
def F_law02_awake (σ : Mem) (Q : AV → Mem → Prop) : Prop :=
newW (σ.bump 8) (σ.next + 1) (.rw [.int .i64 2, .int .i64 1, .int .i64 3, .int .i64 3]) fun σ0 =>
callW PG n_huff_Codes [.slice (σ.next + 1) 0 4 (.ex 4)] σ0 fun v1 σ2 =>
tupW v1 0 fun v3 =>
tpI v1 1 fun v4 =>
newW (σ2.bump 7) σ2.next (.rw [.int .i64 1, .int .i64 1, .int .i64 2, .int .i64 4]) fun σ5 =>
callW PG n_huff_Limit [.int .i64 15, .slice σ2.next 0 4 (.ex 4)] σ5 fun v6 σ7 =>
tupW v6 0 fun v8 =>
tpI v6 1 fun v9 =>
newW (σ7.bump 7) σ7.next (.rw [.int .i64 1, .int .i64 1, .int .i64 2, .int .i64 4]) fun σ10 =>
callW PG n_huff_Limit [.int .i64 2, .slice σ7.next 0 4 (.ex 4)] σ10 fun v11 σ12 =>
tupW v11 0 fun v13 =>
tpI v11 1 fun v14 =>
newW (σ12.bump 7) σ12.next (.rw [.int .i64 1, .int .i64 1, .int .i64 1]) fun σ15 =>
callW PG n_huff_Limit [.int .i64 1, .slice σ12.next 0 3 (.ex 3)] σ15 fun v16 σ17 =>
tupW v16 0 fun v18 =>
tpI v16 1 fun v19 =>
ifB (decide (v4 = 0)) (
newW (σ17.bump 54) (σ17.next + 4) (.rw [.int .i64 2, .int .i64 0, .int .i64 6, .int .i64 7]) fun σ20 =>
callW PG n_law02_ints [v3, .slice (σ17.next + 4) 0 4 (.ex 4)] σ20 fun v21 σ22 =>
castB v21 fun v23 =>
ifB v23 (
newW σ22 (σ17.next + 8) (.rw [.int .i64 1, .int .i64 1, .int .i64 1]) fun σ24 =>
callW PG n_huff_Check [.slice (σ17.next + 8) 0 3 (.ex 3)] σ24 fun v25 σ26 =>
castI .i64 v25 fun v27 =>
ifB (decide (v27 = 10)) (
newW σ26 (σ17.next + 13) (.rw [.int .i64 2]) fun σ28 =>
callW PG n_huff_Check [.slice (σ17.next + 13) 0 1 (.ex 1)] σ28 fun v29 σ30 =>
castI .i64 v29 fun v31 =>
ifB (decide (v31 = 11)) (
newW σ30 (σ17.next + 18) (.rw [.int .i64 1]) fun σ32 =>
callW PG n_huff_Check [.slice (σ17.next + 18) 0 1 (.ex 1)] σ32 fun v33 σ34 =>
castI .i64 v33 fun v35 =>
ifB (decide (v35 = 0)) (
newW σ34 (σ17.next + 23) (.rw [.int .i64 0, .int .i64 0]) fun σ36 =>
callW PG n_huff_Check [.slice (σ17.next + 23) 0 2 (.ex 2)] σ36 fun v37 σ38 =>
castI .i64 v37 fun v39 =>
ifB (decide (v39 = 0)) (
callW PG n_huff_Check [.nils] σ38 fun v40 σ41 =>
castI .i64 v40 fun v42 =>
ifB (decide (v42 = 0)) (
ifB (decide (v9 = 0)) (
newW σ41 (σ17.next + 37) (.rw [.int .i64 3, .int .i64 3, .int .i64 2, .int .i64 1]) fun σ43 =>
callW PG n_law02_ints [v8, .slice (σ17.next + 37) 0 4 (.ex 4)] σ43 fun v44 σ45 =>
castB v44 fun v46 =>
ifB v46 (
ifB (decide (v14 = 0)) (
newW σ45 (σ17.next + 46) (.rw [.int .i64 2, .int .i64 2, .int .i64 2, .int .i64 2]) fun σ47 =>
callW PG n_law02_ints [v13, .slice (σ17.next + 46) 0 4 (.ex 4)] σ47 fun v48 σ49 =>
castB v48 fun v50 =>
ifB v50 (
Q (.bool (decide (v19 = 1))) σ49) (
Q (.bool false) σ49)) (
Q (.bool false) σ45)) (
Q (.bool false) σ45)) (
Q (.bool false) σ41)) (
Q (.bool false) σ41)) (
Q (.bool false) σ38)) (
Q (.bool false) σ34)) (
Q (.bool false) σ30)) (
Q (.bool false) σ26)) (
Q (.bool false) σ22)) (
Q (.bool false) (σ17.bump 54))
theorem ok_law02_awake {σ Q} (h : σ.Live → F_law02_awake σ Q) : ACalls PG n_law02_awake [] σ Q :=
  .of_sem [none, none, none, none, none, none] [(13, tI), (18, tI), (23, tI), (28, tI), (34, .b), (38, tI), (43, tI), (48, tI), (53, tI), (57, tI), (67, .b), (76, .b)] mixed (by kernel_rfl) (by kernel_rfl) h
/-! vitrine/huff.Codes -/
def F_huff_Codes_j1 (next12 : Int → Mem → Prop) (v13 : Int) (σ17 : Mem) : Prop :=
iW (v13 + 1) fun v18 =>
next12 v18 (σ17.bump 2)
def F_huff_Codes_l1 (a0 : AV) (Q : AV → Mem → Prop) (σ1 : Mem) (σ8 : Mem) (v9 : Int) (v11 : Int) (next12 : Int → Mem → Prop) (v13 : Int) (σ14 : Mem) : Prop :=
ifB (decide (v13 < v11)) (
idxW 1 a0 v13 fun v15 =>
ldI (σ14.bump 6) v15 fun v16 =>
joinF [] (fun (k19 : Mem → Prop) =>
ifB (decide (0 < v16)) (
idxAW 16 1 (.ptr (σ1.next + 5) 0) v16 fun v20 =>
ldI (σ14.bump 15) v20 fun v21 =>
idxW 1 (.slice (σ8.next + 2) 0 (Int.toNat v9) (.ex (Int.toNat v9))) v13 fun v22 =>
stW 1 (σ14.bump 15) v22 (.int .i64 v21) fun σ23 =>
idxAW 16 1 (.ptr (σ1.next + 5) 0) v16 fun v24 =>
ldI (σ23.bump 6) v24 fun v25 =>
iW (v25 + 1) fun v26 =>
idxAW 16 1 (.ptr (σ1.next + 5) 0) v16 fun v27 =>
stW 1 (σ23.bump 6) v27 (.int .i64 v26) fun σ28 =>
k19 σ28) (
k19 (σ14.bump 8))) (F_huff_Codes_j1 next12 v13)) (
Q (.tup [.slice (σ8.next + 2) 0 (Int.toNat v9) (.ex (Int.toNat v9)), .int .i64 0]) (σ14.bump 4))
def F_huff_Codes (a0 : AV) (σ : Mem) (Q : AV → Mem → Prop) : Prop :=
callW PG n_huff_Check [a0] (σ.bump 5) fun v0 σ1 =>
castI .i64 v0 fun v2 =>
ifB (decide (v2 ≠ 0)) (
Q (.tup [.nils, .int .i64 v2]) (σ1.bump 5)) (
callW PG n_huff_counted [a0] (σ1.bump 7) fun v3 σ4 =>
callW PG n_huff_first [v3] σ4 fun v5 σ6 =>
newW σ6 (σ1.next + 5) (.rw (List.replicate 16 (.int .i64 0))) fun σ7 =>
stW 16 σ7 (.ptr (σ1.next + 5) 0) v5 fun σ8 =>
slenW a0 fun v9 =>
makeW 8 v9 v9 (
newW (σ8.bump 4) (σ8.next + 2) (.rw (repl (Int.toNat v9) [.int .i64 0])) fun σ10 =>
slenW a0 fun v11 =>
loopF [tI] (F_huff_Codes_l1 a0 Q σ1 σ8 v9 v11) 0 (σ10.bump 3)))
theorem ok_huff_Codes {a0 σ Q} (h : σ.Live → F_huff_Codes a0 σ Q) : ACalls PG n_huff_Codes [a0] σ Q :=
  .of_sem [none, none, none, none, none, none, none, none, none, some ([5, 6, 20, 21], [22]), none, none, none, none, none, some ([5, 6, 20, 21, 22], []), none, none, none, none] [(10, tI), (22, tI), (26, tI), (33, tI), (37, tI)] mixed (by kernel_rfl) (by kernel_rfl) h
/-! vitrine/vitrineref02.Codes -/
def F_ref02_Codes_j1 (next10 : Int → Int → Int → Mem → Prop) (v13 : Int) (v16 : Int) (v17 : Int) (σ18 : Mem) : Prop :=
iW (v13 + 1) fun v19 =>
next10 v16 v17 v19 (σ18.bump 3)
def F_ref02_Codes_j2 (σ1 : Mem) (v3 : Int) (v8 : Int) (v13 : Int) (k20 : Int → Int → Mem → Prop) (v23 : Int) (σ24 : Mem) : Prop :=
idxW 1 (.slice (σ1.next + 4) 0 (Int.toNat v3) (.ex (Int.toNat v3))) v13 fun v25 =>
stW 1 (σ24.bump 5) v25 (.int .i64 v23) fun σ26 =>
k20 v23 v8 (σ26.bump 2)
def F_ref02_Codes_l2 (a0 : AV) (σ1 : Mem) (v3 : Int) (next5 : Int → Int → Int → Mem → Prop) (v8 : Int) (next10 : Int → Int → Int → Mem → Prop) (v11 : Int) (v12 : Int) (v13 : Int) (σ14 : Mem) : Prop :=
slenW a0 fun v15 =>
ifB (decide (v13 < v15)) (
joinF [tI, tI] (fun (k20 : Int → Int → Mem → Prop) =>
idxW 1 a0 v13 fun v21 =>
ldI (σ14.bump 10) v21 fun v22 =>
ifB (decide (v22 ≠ v8)) (
k20 v11 v12 (σ14.bump 10)) (
joinF [tI] (fun (k27 : Int → Mem → Prop) =>
ifB (decide (0 < v12)) (
iW (v11 + 1) fun v28 =>
iW (v8 - v12) fun v29 =>
shlW .i64 v28 v29 fun v30 =>
k27 v30 (σ14.bump 19)) (
k27 v11 (σ14.bump 12))) (F_ref02_Codes_j2 σ1 v3 v8 v13 k20))) (F_ref02_Codes_j1 next10 v13)) (
iW (v8 + 1) fun v31 =>
next5 v11 v12 v31 (σ14.bump 7))
def F_ref02_Codes_l1 (a0 : AV) (Q : AV → Mem → Prop) (σ1 : Mem) (v3 : Int) (next5 : Int → Int → Int → Mem → Prop) (v6 : Int) (v7 : Int) (v8 : Int) (σ9 : Mem) : Prop :=
ifB (decide (v8 ≤ 15)) (
loopF [tI, tI, tI] (F_ref02_Codes_l2 a0 σ1 v3 next5 v8) v6 v7 0 (σ9.bump 3)) (
Q (.tup [.slice (σ1.next + 4) 0 (Int.toNat v3) (.ex (Int.toNat v3)), .int .i64 0]) (σ9.bump 5))
def F_ref02_Codes (a0 : AV) (σ : Mem) (Q : AV → Mem → Prop) : Prop :=
callW PG n_ref02_Check [a0] (σ.bump 5) fun v0 σ1 =>
castI .i64 v0 fun v2 =>
ifB (decide (v2 ≠ 0)) (
Q (.tup [.nils, .int .i64 v2]) (σ1.bump 5)) (
slenW a0 fun v3 =>
makeW 8 v3 v3 (
newW (σ1.bump 6) (σ1.next + 4) (.rw (repl (Int.toNat v3) [.int .i64 0])) fun σ4 =>
loopF [tI, tI, tI] (F_ref02_Codes_l1 a0 Q σ1 v3) 0 0 1 (σ4.bump 3)))
theorem ok_ref02_Codes {a0 σ Q} (h : σ.Live → F_ref02_Codes a0 σ Q) : ACalls PG n_ref02_Codes [a0] σ Q :=
  .of_sem [none, none, none, none, none, none, none, none, none, none, some ([0, 5], [6, 7, 8]), none, none, none, none, none, some ([0, 5, 8], [6, 7, 9]), none, none, some ([0, 5, 8, 9], [6, 7]), none, none, none, some ([0, 5, 8, 9], [6]), none, none, none, none, none, none] [(11, tI), (6, tI), (7, tI), (8, tI), (9, tI), (31, tI)] mixed (by kernel_rfl) (by kernel_rfl) h
/-! vitrine/vitrinelaw02.ints -/
def F_law02_ints_l1 (a0 : AV) (a1 : AV) (Q : AV → Mem → Prop) (next2 : Int → Mem → Prop) (v3 : Int) (σ4 : Mem) : Prop :=
slenW a0 fun v5 =>
ifB (decide (v3 < v5)) (
idxW 1 a0 v3 fun v6 =>
ldI (σ4.bump 13) v6 fun v7 =>
idxW 1 a1 v3 fun v8 =>
ldI (σ4.bump 13) v8 fun v9 =>
ifB (decide (v7 ≠ v9)) (
Q (.bool false) (σ4.bump 14)) (
iW (v3 + 1) fun v10 =>
next2 v10 (σ4.bump 16))) (
Q (.bool true) (σ4.bump 5))
def F_law02_ints (a0 : AV) (a1 : AV) (σ : Mem) (Q : AV → Mem → Prop) : Prop :=
slenW a0 fun v0 =>
slenW a1 fun v1 =>
ifB (decide (v0 ≠ v1)) (
Q (.bool false) (σ.bump 7)) (
loopF [tI] (F_law02_ints_l1 a0 a1 Q) 0 (σ.bump 7))
theorem ok_law02_ints {a0 a1 σ Q} (h : σ.Live → F_law02_ints a0 a1 σ Q) : ACalls PG n_law02_ints [a0, a1] σ Q :=
  .of_sem [none, none, none, none, none, none, some ([0, 1], [5]), none, none, none, none, none, none, none, none] [(5, tI), (20, tI), (24, tI)] mixed (by kernel_rfl) (by kernel_rfl) h
/-! vitrine/huff.Limit -/
def F_huff_Limit_j1 (next5 : AV → Int → Mem → Prop) (v7 : Int) (v11 : AV) (σ12 : Mem) : Prop :=
iW (v7 + 1) fun v13 =>
next5 v11 v13 (σ12.bump 2)
def F_huff_Limit_l2 (Q : AV → Mem → Prop) (v6 : AV) (σ8 : Mem) (v20 : Int) (v27 : Int) (next28 : AV → Int → Mem → Prop) (v29 : AV) (v30 : Int) (σ31 : Mem) : Prop :=
ifB (decide (v30 < v27)) (
callW PG n_slices_Clone___huff_item_huff_item_ [v6] (σ31.bump 5) fun v32 σ33 =>
newW σ33 (σ31.next + 3) (.rw [.nils]) fun σ34 =>
stW 1 σ34 (.ptr (σ31.next + 3) 0) v32 fun σ35 =>
callW PG n_slices_Chunk___huff_item_huff_item_ [v29, .int .i64 2] (σ35.bump 2) fun v36 σ37 =>
False) (
slenW v6 fun v38 =>
iW (2 * v38) fun v39 =>
iW (v39 - 2) fun v40 =>
slcW 3 v29 none (some v40) fun v41 =>
callW PG n_huff_spend [.slice (σ8.next + 8) 0 (Int.toNat v20) (.ex (Int.toNat v20)), v41] (σ31.bump 9) fun v42 σ43 =>
Q (.tup [.slice (σ8.next + 8) 0 (Int.toNat v20) (.ex (Int.toNat v20)), .int .i64 0]) (σ43.bump 3))
def F_huff_Limit_j2 (a0 : Int) (Q : AV → Mem → Prop) (v6 : AV) (σ8 : Mem) (v20 : Int) (σ23 : Mem) : Prop :=
slenW v6 fun v24 =>
ifB (decide (v24 < 2)) (
Q (.tup [.slice (σ8.next + 8) 0 (Int.toNat v20) (.ex (Int.toNat v20)), .int .i64 0]) (σ23.bump 6)) (
callW PG n_slices_SortStableFunc___huff_item_huff_item_ [v6, .func 39 []] (σ23.bump 5) fun v25 σ26 =>
iW (a0 - 1) fun v27 =>
loopF [.v, tI] (F_huff_Limit_l2 Q v6 σ8 v20 v27) v6 0 (σ26.bump 5))
def F_huff_Limit_l1 (a0 : Int) (a1 : AV) (Q : AV → Mem → Prop) (v4 : Int) (next5 : AV → Int → Mem → Prop) (v6 : AV) (v7 : Int) (σ8 : Mem) : Prop :=
ifB (decide (v7 < v4)) (
idxW 1 a1 v7 fun v9 =>
ldI (σ8.bump 6) v9 fun v10 =>
joinF [.v] (fun (k14 : AV → Mem → Prop) =>
ifB (decide (0 < v10)) (
cellOkW (.agg [.int .i64 v10, .int .i64 v7, .nils]) 3 (
newW (σ8.bump 15) (σ8.next + 12) (.rw [.int .i64 v10, .int .i64 v7, .nils]) fun σ15 =>
apW 3 40 (σ8.next + 13) σ15 v6 (.slice (σ8.next + 12) 0 1 (.ex 1)) fun v16 σ17 =>
k14 v16 σ17)) (
k14 v6 (σ8.bump 8))) (F_huff_Limit_j1 next5 v7)) (
slenW v6 fun v18 =>
shlW .i64 1 a0 fun v19 =>
ifB (decide (v19 < v18)) (
Q (.tup [.nils, .int .i64 1]) (σ8.bump 8)) (
slenW a1 fun v20 =>
makeW 8 v20 v20 (
newW (σ8.bump 10) (σ8.next + 8) (.rw (repl (Int.toNat v20) [.int .i64 0])) fun σ21 =>
slenW v6 fun v22 =>
joinF [] (fun (k44 : Mem → Prop) =>
ifB (decide (v22 = 1)) (
idxW 3 v6 0 fun v45 =>
fldW 1 v45 fun v46 =>
ldI (σ21.bump 10) v46 fun v47 =>
idxW 1 (.slice (σ8.next + 8) 0 (Int.toNat v20) (.ex (Int.toNat v20))) v47 fun v48 =>
stW 1 (σ21.bump 10) v48 (.int .i64 1) fun σ49 =>
k44 σ49) (
k44 (σ21.bump 3))) (F_huff_Limit_j2 a0 Q v6 σ8 v20))))
def F_huff_Limit (a0 : Int) (a1 : AV) (σ : Mem) (Q : AV → Mem → Prop) : Prop :=
ifB (decide (a0 < 1)) (
Q (.tup [.nils, .int .i64 1]) (σ.bump 19)) (
ifB (decide (15 < a0)) (
Q (.tup [.nils, .int .i64 1]) (σ.bump 19)) (
slenW a1 fun v0 =>
ifB (decide (288 < v0)) (
Q (.tup [.nils, .int .i64 1]) (σ.bump 19)) (
callW PG n_slices_ContainsFunc___int_int_ [a1, .func 37 []] (σ.bump 17) fun v1 σ2 =>
castB v1 fun v3 =>
ifB v3 (
Q (.tup [.nils, .int .i64 1]) (σ2.bump 2)) (
slenW a1 fun v4 =>
loopF [.v, tI] (F_huff_Limit_l1 a0 a1 Q v4) .nils 0 (σ2.bump 4)))))
theorem ok_huff_Limit {a0 a1 σ Q} (h : σ.Live → F_huff_Limit a0 a1 σ Q) : ACalls PG n_huff_Limit [.int .i64 a0, a1] σ Q :=
  .of_sem [none, none, none, none, none, none, none, some ([0, 1, 28, 29], [6, 30]), none, none, none, none, none, some ([0, 1, 28, 29, 30], [6]), none, none, none, none, none, none, none, some ([0, 6, 9], []), none, none, none, none, none, none, none, none, some ([6, 9, 69], [10, 70]), none, none, none, none, none, none, none, none, none, none, none] [(26, .b), (30, tI), (34, tI), (59, tI), (70, tI)] mixed (by kernel_rfl) (by kernel_rfl) h
/-! vitrine/vitrineref02.Limit -/
def F_ref02_Limit_j1 (next1 : Int → Int → Mem → Prop) (v3 : Int) (v12 : Int) (σ13 : Mem) : Prop :=
iW (v3 + 1) fun v14 =>
next1 v12 v14 (σ13.bump 3)
def F_ref02_Limit_j2 (next20 : AV → Int → Mem → Prop) (v22 : Int) (v25 : AV) (σ26 : Mem) : Prop :=
iW (v22 + 1) fun v27 =>
next20 v25 v27 (σ26.bump 3)
def F_ref02_Limit_j3 (Q : AV → Mem → Prop) (v2 : Int) (σ4 : Mem) (v18 : Int) (v21 : AV) (v22 : Int) (σ23 : Mem) (k28 : AV → Mem → Prop) (v41 : Int) (σ42 : Mem) : Prop :=
slcW 3 v21 none (some v41) fun v43 =>
apW 3 40 (σ42.next + 5) (σ42.bump 7) .nils v43 fun v44 σ45 =>
ldnW 3 (σ45.bump 5) (.ptr (σ23.next + 17) 0) fun v46 =>
cellOkW v46 3 (
newW (σ45.bump 5) (σ45.next + 2) (.rw (setAt [.int .i64 0, .bool false, .nils] 0 v46.cells)) fun σ47 =>
apW 3 40 (σ45.next + 3) σ47 v44 (.slice (σ45.next + 2) 0 1 (.ex 1)) fun v48 σ49 =>
slcW 3 v21 (some v41) none fun v50 =>
apW 3 40 (σ49.next + 4) (σ49.bump 6) v48 v50 fun v51 σ52 =>
ifB (decide (v2 = 1)) (
idxW 1 (.slice (σ4.next + 10) 0 (Int.toNat v18) (.ex (Int.toNat v18))) v22 fun v53 =>
stW 1 (σ52.bump 6) v53 (.int .i64 1) fun σ54 =>
Q (.tup [.slice (σ4.next + 10) 0 (Int.toNat v18) (.ex (Int.toNat v18)), .int .i64 0]) (σ54.bump 3)) (
k28 v51 (σ52.bump 2)))
def F_ref02_Limit_l3 (v21 : AV) (σ23 : Mem) (k55 : Int → Mem → Prop) (next56 : Int → Mem → Prop) (v57 : Int) (σ58 : Mem) : Prop :=
slenW v21 fun v59 =>
ifB (decide (v57 < v59)) (
idxW 3 v21 v57 fun v60 =>
fldW 0 v60 fun v61 =>
ldI (σ58.bump 14) v61 fun v62 =>
fldW 0 (.ptr (σ23.next + 17) 0) fun v63 =>
ldI (σ58.bump 14) v63 fun v64 =>
ifB (decide (v62 ≤ v64)) (
iW (v57 + 1) fun v65 =>
next56 v65 (σ58.bump 17)) (
k55 v57 (σ58.bump 14))) (
k55 v57 (σ58.bump 14))
def F_ref02_Limit_l6 (a1 : AV) (v67 : AV) (next70 : AV → Int → Mem → Prop) (v71 : AV) (v72 : Int) (σ73 : Mem) (next88 : Int → Mem → Prop) (v89 : Int) (σ90 : Mem) : Prop :=
slenW a1 fun v91 =>
ifB (decide (v89 < v91)) (
fldW 2 (.ptr (σ73.next + 21) 0) fun v92 =>
ldW (σ90.bump 27) v92 fun v93 =>
idxW 3 v67 v72 fun v94 =>
fldW 2 v94 fun v95 =>
ldW (σ90.bump 27) v95 fun v96 =>
idxW 1 v96 v89 fun v97 =>
ldI (σ90.bump 27) v97 fun v98 =>
iW (v72 + 1) fun v99 =>
idxW 3 v67 v99 fun v100 =>
fldW 2 v100 fun v101 =>
ldW (σ90.bump 27) v101 fun v102 =>
idxW 1 v102 v89 fun v103 =>
ldI (σ90.bump 27) v103 fun v104 =>
iW (v98 + v104) fun v105 =>
idxW 1 v93 v89 fun v106 =>
stW 1 (σ90.bump 27) v106 (.int .i64 v105) fun σ107 =>
iW (v89 + 1) fun v108 =>
next88 v108 (σ107.bump 3)) (
ldnW 3 (σ90.bump 9) (.ptr (σ73.next + 21) 0) fun v109 =>
cellOkW v109 3 (
newW (σ90.bump 9) (σ90.next + 6) (.rw (setAt [.int .i64 0, .bool false, .nils] 0 v109.cells)) fun σ110 =>
apW 3 40 (σ90.next + 7) σ110 v71 (.slice (σ90.next + 6) 0 1 (.ex 1)) fun v111 σ112 =>
iW (v72 + 2) fun v113 =>
next70 v111 v113 (σ112.bump 3)))
def F_ref02_Limit_l5 (a1 : AV) (v21 : AV) (next66 : AV → Int → Mem → Prop) (v67 : AV) (v68 : Int) (next70 : AV → Int → Mem → Prop) (v71 : AV) (v72 : Int) (σ73 : Mem) : Prop :=
iW (v72 + 1) fun v74 =>
slenW v67 fun v75 =>
ifB (decide (v74 < v75)) (
idxW 3 v67 v72 fun v76 =>
fldW 0 v76 fun v77 =>
ldI (σ73.bump 23) v77 fun v78 =>
iW (v72 + 1) fun v79 =>
idxW 3 v67 v79 fun v80 =>
fldW 0 v80 fun v81 =>
ldI (σ73.bump 23) v81 fun v82 =>
iW (v78 + v82) fun v83 =>
slenW a1 fun v84 =>
makeW 8 v84 v84 (
newW (σ73.bump 23) (σ73.next + 19) (.rw (repl (Int.toNat v84) [.int .i64 0])) fun σ85 =>
newW σ85 (σ73.next + 21) (.rw [.int .i64 0, .bool false, .nils]) fun σ86 =>
stW 3 σ86 (.ptr (σ73.next + 21) 0) (.agg [.int .i64 v83, .bool false, .slice (σ73.next + 19) 0 (Int.toNat v84) (.ex (Int.toNat v84))]) fun σ87 =>
loopF [tI] (F_ref02_Limit_l6 a1 v67 next70 v71 v72 σ73) 0 (σ87.bump 1))) (
callW PG n_ref02_row [v21, v71] (σ73.bump 9) fun v114 σ115 =>
iW (v68 + 1) fun v116 =>
next66 v114 v116 (σ115.bump 3))
def F_ref02_Limit_l8 (a1 : AV) (σ4 : Mem) (v18 : Int) (v67 : AV) (next117 : Int → Mem → Prop) (v118 : Int) (next122 : Int → Mem → Prop) (v123 : Int) (σ124 : Mem) : Prop :=
slenW a1 fun v125 =>
ifB (decide (v123 < v125)) (
idxW 1 (.slice (σ4.next + 10) 0 (Int.toNat v18) (.ex (Int.toNat v18))) v123 fun v126 =>
ldI (σ124.bump 21) v126 fun v127 =>
idxW 3 v67 v118 fun v128 =>
fldW 2 v128 fun v129 =>
ldW (σ124.bump 21) v129 fun v130 =>
idxW 1 v130 v123 fun v131 =>
ldI (σ124.bump 21) v131 fun v132 =>
iW (v127 + v132) fun v133 =>
idxW 1 (.slice (σ4.next + 10) 0 (Int.toNat v18) (.ex (Int.toNat v18))) v123 fun v134 =>
stW 1 (σ124.bump 21) v134 (.int .i64 v133) fun σ135 =>
iW (v123 + 1) fun v136 =>
next122 v136 (σ135.bump 3)) (
iW (v118 + 1) fun v137 =>
next117 v137 (σ124.bump 7))
def F_ref02_Limit_l7 (a1 : AV) (Q : AV → Mem → Prop) (v2 : Int) (σ4 : Mem) (v18 : Int) (v67 : AV) (next117 : Int → Mem → Prop) (v118 : Int) (σ119 : Mem) : Prop :=
iW (2 * v2) fun v120 =>
iW (v120 - 2) fun v121 =>
ifB (decide (v118 < v121)) (
loopF [tI] (F_ref02_Limit_l8 a1 σ4 v18 v67 next117 v118) 0 (σ119.bump 6)) (
Q (.tup [.slice (σ4.next + 10) 0 (Int.toNat v18) (.ex (Int.toNat v18)), .int .i64 0]) (σ119.bump 8))
def F_ref02_Limit_l4 (a0 : Int) (a1 : AV) (Q : AV → Mem → Prop) (v2 : Int) (σ4 : Mem) (v18 : Int) (v21 : AV) (next66 : AV → Int → Mem → Prop) (v67 : AV) (v68 : Int) (σ69 : Mem) : Prop :=
ifB (decide (v68 < a0)) (
loopF [.v, tI] (F_ref02_Limit_l5 a1 v21 next66 v67 v68) .nils 0 (σ69.bump 5)) (
loopF [tI] (F_ref02_Limit_l7 a1 Q v2 σ4 v18 v67) 0 (σ69.bump 4))
def F_ref02_Limit_l2 (a0 : Int) (a1 : AV) (Q : AV → Mem → Prop) (v2 : Int) (σ4 : Mem) (v18 : Int) (next20 : AV → Int → Mem → Prop) (v21 : AV) (v22 : Int) (σ23 : Mem) : Prop :=
slenW a1 fun v24 =>
ifB (decide (v22 < v24)) (
joinF [.v] (fun (k28 : AV → Mem → Prop) =>
idxW 1 a1 v22 fun v29 =>
ldI (σ23.bump 9) v29 fun v30 =>
ifB (decide (v30 = 0)) (
k28 v21 (σ23.bump 9)) (
idxW 1 a1 v22 fun v31 =>
ldI (σ23.bump 19) v31 fun v32 =>
slenW a1 fun v33 =>
makeW 8 v33 v33 (
newW (σ23.bump 19) (σ23.next + 15) (.rw (repl (Int.toNat v33) [.int .i64 0])) fun σ34 =>
newW σ34 (σ23.next + 17) (.rw [.int .i64 0, .bool false, .nils]) fun σ35 =>
stW 3 σ35 (.ptr (σ23.next + 17) 0) (.agg [.int .i64 v32, .bool true, .slice (σ23.next + 15) 0 (Int.toNat v33) (.ex (Int.toNat v33))]) fun σ36 =>
fldW 2 (.ptr (σ23.next + 17) 0) fun v37 =>
ldW (σ36.bump 5) v37 fun v38 =>
idxW 1 v38 v22 fun v39 =>
stW 1 (σ36.bump 5) v39 (.int .i64 1) fun σ40 =>
joinF [tI] (fun (k55 : Int → Mem → Prop) =>
loopF [tI] (F_ref02_Limit_l3 v21 σ23 k55) 0 (σ40.bump 1)) (F_ref02_Limit_j3 Q v2 σ4 v18 v21 v22 σ23 k28)))) (F_ref02_Limit_j2 next20 v22)) (
loopF [.v, tI] (F_ref02_Limit_l4 a0 a1 Q v2 σ4 v18 v21) v21 1 (σ23.bump 7))
def F_ref02_Limit_l1 (a0 : Int) (a1 : AV) (Q : AV → Mem → Prop) (next1 : Int → Int → Mem → Prop) (v2 : Int) (v3 : Int) (σ4 : Mem) : Prop :=
slenW a1 fun v5 =>
ifB (decide (v3 < v5)) (
idxW 1 a1 v3 fun v6 =>
ldI (σ4.bump 16) v6 fun v7 =>
ifB (decide (v7 < 0)) (
Q (.tup [.nils, .int .i64 1]) (σ4.bump 18)) (
idxW 1 a1 v3 fun v8 =>
ldI (σ4.bump 16) v8 fun v9 =>
ifB (decide (1000000000 < v9)) (
Q (.tup [.nils, .int .i64 1]) (σ4.bump 18)) (
idxW 1 a1 v3 fun v10 =>
ldI (σ4.bump 21) v10 fun v11 =>
joinF [tI] (fun (k15 : Int → Mem → Prop) =>
ifB (decide (0 < v11)) (
iW (v2 + 1) fun v16 =>
k15 v16 (σ4.bump 24)) (
k15 v2 (σ4.bump 21))) (F_ref02_Limit_j1 next1 v3)))) (
shlW .i64 1 a0 fun v17 =>
ifB (decide (v17 < v2)) (
Q (.tup [.nils, .int .i64 1]) (σ4.bump 10)) (
slenW a1 fun v18 =>
makeW 8 v18 v18 (
newW (σ4.bump 12) (σ4.next + 10) (.rw (repl (Int.toNat v18) [.int .i64 0])) fun σ19 =>
loopF [.v, tI] (F_ref02_Limit_l2 a0 a1 Q v2 σ4 v18) .nils 0 (σ19.bump 2))))
def F_ref02_Limit (a0 : Int) (a1 : AV) (σ : Mem) (Q : AV → Mem → Prop) : Prop :=
slenW a1 fun v0 =>
ifB (decide (288 < v0)) (
Q (.tup [.nils, .int .i64 1]) (σ.bump 15)) (
ifB (decide (a0 < 1)) (
Q (.tup [.nils, .int .i64 1]) (σ.bump 15)) (
ifB (decide (15 < a0)) (
Q (.tup [.nils, .int .i64 1]) (σ.bump 15)) (
loopF [tI, tI] (F_ref02_Limit_l1 a0 a1 Q) 0 0 (σ.bump 15))))
theorem ok_ref02_Limit {a0 a1 σ Q} (h : σ.Live → F_ref02_Limit a0 a1 σ Q) : ACalls PG n_ref02_Limit [.int .i64 a0, a1] σ Q :=
  .of_sem [none, none, none, none, none, none, none, some ([0, 1], [6, 7]), none, none, none, none, none, none, none, some ([0, 1, 7], [6]), none, none, none, none, none, none, none, none, none, some ([0, 1, 6, 8], [9, 10]), none, none, some ([0, 1, 6, 8, 10], [9]), none, none, none, none, none, some ([0, 1, 6, 8, 9, 10, 11], [12]), some ([0, 1, 6, 8, 9, 10, 11], [12]), none, none, none, none, none, none, none, none, none, none, none, none, none, none, none, none, some ([0, 1, 6, 8, 9], [14, 15]), none, none, none, none, none, none, some ([0, 1, 6, 8, 9, 14, 15], [16, 17]), none, none, none, none, none, none, some ([0, 1, 6, 8, 9, 14, 15, 16, 17, 18], [19]), none, none, none, none, none, none, none, none, none, none, none, some ([1, 6, 8, 14], [20]), none, none, none, none, none, some ([1, 6, 8, 14, 20], [21]), none, none, none, none, none, none, none] [(6, tI), (7, tI), (42, tI), (48, tI), (54, tI), (10, tI), (74, tI), (79, tI), (12, tI), (97, tI), (99, tI), (15, tI), (17, tI), (141, tI), (147, tI), (19, tI), (169, tI), (178, tI), (20, tI), (21, tI), (206, tI), (214, tI)] mixed (by kernel_rfl) (by kernel_rfl) h
/-! vitrine/huff.Make -/
def F_huff_Make_j1 (next15 : Int → Mem → Prop) (v16 : Int) (σ20 : Mem) : Prop :=
iW (v16 + 1) fun v21 =>
next15 v21 (σ20.bump 2)
def F_huff_Make_j2 (Q : AV → Mem → Prop) (σ3 : Mem) (σ34 : Mem) : Prop :=
Q (.tup [.ptr (σ3.next + 8) 0, .int .i64 0]) (σ34.bump 3)
def F_huff_Make_l1 (Q : AV → Mem → Prop) (σ : Mem) (σ3 : Mem) (v13 : AV) (v14 : Int) (next15 : Int → Mem → Prop) (v16 : Int) (σ17 : Mem) : Prop :=
ifB (decide (v16 < v14)) (
idxW 1 v13 v16 fun v18 =>
ldI (σ17.bump 6) v18 fun v19 =>
joinF [] (fun (k22 : Mem → Prop) =>
ifB (decide (0 < v19)) (
lfW 18 (σ17.bump 19) (.ptr (σ3.next + 8) 0) fun v23 =>
newW (σ17.bump 19) (σ17.next + 14) (.rw [.int .i64 v16]) fun σ24 =>
apW 1 8 (σ17.next + 15) σ24 v23 (.slice (σ17.next + 14) 0 1 (.ex 1)) fun v25 σ26 =>
nfW 18 (.ptr (σ3.next + 8) 0) fun v27 =>
stW 1 σ26 v27 v25 fun σ28 =>
k22 σ28) (
k22 (σ17.bump 8))) (F_huff_Make_j1 next15 v16)) (
lfW 18 (σ17.bump 7) (.ptr (σ3.next + 8) 0) fun v29 =>
callW PG n_slices_SortStableFunc___int_int_ [v29, .func n_huff_Make_1 [.ptr σ.next 0]] (σ17.bump 7) fun v30 σ31 =>
lfW 18 (σ31.bump 6) (.ptr (σ3.next + 8) 0) fun v32 =>
slenW v32 fun v33 =>
joinF [] (fun (k35 : Mem → Prop) =>
ifB (decide (v33 < 2)) (
lfW 18 (σ31.bump 15) (.ptr (σ3.next + 8) 0) fun v36 =>
slenW v36 fun v37 =>
nfW 19 (.ptr (σ3.next + 8) 0) fun v38 =>
stW 1 (σ31.bump 15) v38 (.int .i64 v37) fun σ39 =>
k35 σ39) (
k35 (σ31.bump 6))) (F_huff_Make_j2 Q σ3))
def F_huff_Make (a0 : AV) (σ : Mem) (Q : AV → Mem → Prop) : Prop :=
boxW a0 (
newW (σ.bump 3) σ.next (.rw a0.cells) fun σ0 =>
ldW (σ0.bump 7) (.ptr σ.next 0) fun v1 =>
callW PG n_huff_Codes [v1] (σ0.bump 7) fun v2 σ3 =>
tupW v2 0 fun v4 =>
tpI v2 1 fun v5 =>
ifB (decide (v5 ≠ 0)) (
Q (.tup [.nilp, .int .i64 v5]) (σ3.bump 5)) (
ldW (σ3.bump 10) (.ptr σ.next 0) fun v6 =>
ldW (σ3.bump 10) (.ptr σ.next 0) fun v7 =>
callW PG n_slices_Clone___int_int_ [v6] (σ3.bump 10) fun v8 σ9 =>
fltS.sameW (σ3.bump 10) σ9 (.ptr σ.next 0) (
callW PG n_huff_counted [v7] σ9 fun v10 σ11 =>
cellOkW v8 1 (
cellOkW v4 1 (
cellOkW v10 16 (
boxW (.agg (setAt (setAt (setAt (setAt ([.nils, .nils] ++ List.replicate 16 (.int .i64 0) ++ [.nils] ++ [.int .i64 0]) 0 v8.cells) 1 v4.cells) 2 v10.cells) 19 [.int .i64 15])) (
newW σ11 (σ3.next + 8) (.rw (setAt (setAt (setAt (setAt ([.nils, .nils] ++ List.replicate 16 (.int .i64 0) ++ [.nils] ++ [.int .i64 0]) 0 v8.cells) 1 v4.cells) 2 v10.cells) 19 [.int .i64 15])) fun σ12 =>
ldW (σ12.bump 3) (.ptr σ.next 0) fun v13 =>
slenW v13 fun v14 =>
loopF [tI] (F_huff_Make_l1 Q σ σ3 v13 v14) 0 (σ12.bump 3))))))))
theorem ok_huff_Make {a0 σ Q} (h : σ.Live → F_huff_Make a0 σ Q) : ACalls PG n_huff_Make [a0] σ Q :=
  .of_sem [none, none, none, none, none, none, none, none, some ([1, 6, 24, 25], [26]), none, none, none, none, none, some ([1, 6, 24, 25, 26], []), none, none, none, none, some ([6], []), none, none] [(13, tI), (26, tI), (30, tI)] mixed (by kernel_rfl) (by kernel_rfl) h
/-! vitrine/vitrineref02.Make -/
def F_ref02_Make (a0 : AV) (σ : Mem) (Q : AV → Mem → Prop) : Prop :=
callW PG n_ref02_Codes [a0] (σ.bump 9) fun v0 σ1 =>
tupW v0 0 fun v2 =>
tpI v0 1 fun v3 =>
ifB (decide (v3 ≠ 0)) (
Q (.tup [.nilp, .int .i64 v3]) (σ1.bump 5)) (
apW 1 8 (σ1.next + 5) (σ1.bump 11) .nils a0 fun v4 σ5 =>
cellOkW v4 1 (
cellOkW v2 1 (
boxW (.agg (setAt (setAt [.nils, .nils] 0 v4.cells) 1 v2.cells)) (
newW σ5 (σ1.next + 8) (.rw (setAt (setAt [.nils, .nils] 0 v4.cells) 1 v2.cells)) fun σ6 =>
Q (.tup [.ptr (σ1.next + 8) 0, .int .i64 0]) σ6))))
theorem ok_ref02_Make {a0 σ Q} (h : σ.Live → F_ref02_Make a0 σ Q) : ACalls PG n_ref02_Make [a0] σ Q :=
  .of_sem [none, none, none, none, none, none, none] [(11, tI)] mixed (by kernel_rfl) (by kernel_rfl) h
/-! vitrine/bits.New -/
def F_bits_New (σ : Mem) (Q : AV → Mem → Prop) : Prop :=
boxW (.agg [.nils, .int .i64 0, .int .i64 0]) (
newW (σ.bump 4) (σ.next + 2) (.rw [.nils, .int .i64 0, .int .i64 0]) fun σ0 =>
Q (.ptr (σ.next + 2) 0) σ0)
theorem ok_bits_New {σ Q} (h : σ.Live → F_bits_New σ Q) : ACalls PG n_bits_New [] σ Q :=
  .of_sem [none, none] [] mixed (by kernel_rfl) (by kernel_rfl) h
/-! (*vitrine/huff.Table).Lay -/
def F_huff_Table_Lay_l1 (a0 : AV) (a1 : AV) (a2 : Int) (Q : AV → Mem → Prop) (next15 : Int → Mem → Prop) (v16 : Int) (σ17 : Mem) : Prop :=
ifB (decide (0 ≤ v16)) (
lfW 1 (σ17.bump 13) a0 fun v18 =>
idxW 1 v18 a2 fun v19 =>
ldI (σ17.bump 13) v19 fun v20 =>
shrW .i64 v20 v16 fun v21 =>
callW PG n_bits_Writer_Bits [a1, .int .i64 v21, .int .i64 1] (σ17.bump 13) fun v22 σ23 =>
iW (v16 - 1) fun v24 =>
next15 v24 (σ23.bump 3)) (
Q (.int .i64 0) (σ17.bump 3))
def F_huff_Table_Lay (a0 : AV) (a1 : AV) (a2 : Int) (σ : Mem) (Q : AV → Mem → Prop) : Prop :=
eqW .ptr a0 .nilp fun v0 =>
ifB v0 (
Q (.int .i64 2) (σ.bump 9)) (
eqW .ptr a1 .nilp fun v1 =>
ifB v1 (
Q (.int .i64 2) (σ.bump 9)) (
ifB (decide (a2 < 0)) (
Q (.int .i64 1) (σ.bump 31)) (
nchkW a0 fun v2 =>
fldW 0 v2 fun v3 =>
ldW (σ.bump 30) v3 fun v4 =>
slenW v4 fun v5 =>
ifB (decide (v5 ≤ a2)) (
Q (.int .i64 1) (σ.bump 31)) (
nchkW a0 fun v6 =>
fldW 0 v6 fun v7 =>
ldW (σ.bump 30) v7 fun v8 =>
idxW 1 v8 a2 fun v9 =>
ldI (σ.bump 30) v9 fun v10 =>
ifB (decide (v10 = 0)) (
Q (.int .i64 1) (σ.bump 31)) (
lfW 0 (σ.bump 39) a0 fun v11 =>
idxW 1 v11 a2 fun v12 =>
ldI (σ.bump 39) v12 fun v13 =>
iW (v13 - 1) fun v14 =>
loopF [tI] (F_huff_Table_Lay_l1 a0 a1 a2 Q) v14 (σ.bump 39))))))
theorem ok_huff_Table_Lay {a0 a1 a2 σ Q} (h : σ.Live → F_huff_Table_Lay a0 a1 a2 σ Q) : ACalls PG n_huff_Table_Lay [a0, a1, .int .i64 a2] σ Q :=
  .of_sem [none, none, none, none, none, none, none, none, none, none, some ([0, 1, 2], [7]), none, none, none, none, none, none] [(34, tI), (43, tI), (7, tI), (56, tI)] mixed (by kernel_rfl) (by kernel_rfl) h
/-! (*vitrine/vitrineref02.Table).Lay -/
def F_ref02_Table_Lay_l1 (a0 : AV) (a1 : AV) (a2 : Int) (Q : AV → Mem → Prop) (next13 : Int → Mem → Prop) (v14 : Int) (σ15 : Mem) : Prop :=
ifB (decide (0 ≤ v14)) (
lfW 1 (σ15.bump 13) a0 fun v16 =>
idxW 1 v16 a2 fun v17 =>
ldI (σ15.bump 13) v17 fun v18 =>
shrW .i64 v18 v14 fun v19 =>
callW PG n_ref01_Writer_Bits [a1, .int .i64 v19, .int .i64 1] (σ15.bump 13) fun v20 σ21 =>
iW (v14 - 1) fun v22 =>
next13 v22 (σ21.bump 3)) (
Q (.int .i64 0) (σ15.bump 3))
def F_ref02_Table_Lay (a0 : AV) (a1 : AV) (a2 : Int) (σ : Mem) (Q : AV → Mem → Prop) : Prop :=
ifB (decide (a2 < 0)) (
Q (.int .i64 1) (σ.bump 23)) (
nchkW a0 fun v0 =>
fldW 0 v0 fun v1 =>
ldW (σ.bump 22) v1 fun v2 =>
slenW v2 fun v3 =>
ifB (decide (v3 ≤ a2)) (
Q (.int .i64 1) (σ.bump 23)) (
nchkW a0 fun v4 =>
fldW 0 v4 fun v5 =>
ldW (σ.bump 22) v5 fun v6 =>
idxW 1 v6 a2 fun v7 =>
ldI (σ.bump 22) v7 fun v8 =>
ifB (decide (v8 = 0)) (
Q (.int .i64 1) (σ.bump 23)) (
lfW 0 (σ.bump 31) a0 fun v9 =>
idxW 1 v9 a2 fun v10 =>
ldI (σ.bump 31) v10 fun v11 =>
iW (v11 - 1) fun v12 =>
loopF [tI] (F_ref02_Table_Lay_l1 a0 a1 a2 Q) v12 (σ.bump 31))))
theorem ok_ref02_Table_Lay {a0 a1 a2 σ Q} (h : σ.Live → F_ref02_Table_Lay a0 a1 a2 σ Q) : ACalls PG n_ref02_Table_Lay [a0, a1, .int .i64 a2] σ Q :=
  .of_sem [none, none, none, none, none, none, some ([0, 1, 2], [7]), none, none, none, none, none, none] [(26, tI), (35, tI), (7, tI), (48, tI)] mixed (by kernel_rfl) (by kernel_rfl) h
/-! (*vitrine/bits.Writer).Text -/
def F_bits_Writer_Text_j1 (Q : AV → Mem → Prop) (v4 : ByteArray) (σ5 : Mem) : Prop :=
Q (.str v4) (σ5.bump 2)
def F_bits_Writer_Text (a0 : AV) (σ : Mem) (Q : AV → Mem → Prop) : Prop :=
eqW .ptr a0 .nilp fun v0 =>
ifB v0 (
Q (.str ⟨#[]⟩) (σ.bump 4)) (
lfW 0 (σ.bump 9) a0 fun v1 =>
bstrW (σ.bump 9) v1 fun v2 =>
lfI 2 (σ.bump 14) a0 fun v3 =>
joinF [.s] (fun (k6 : ByteArray → Mem → Prop) =>
ifB (decide (0 < v3)) (
lfI 1 (σ.bump 24) a0 fun v7 =>
wrW .u8 v7 fun v8 =>
newW (σ.bump 24) (σ.next + 20) (.rw [.int .u8 v8]) fun σ9 =>
bstrW σ9 (.slice (σ.next + 20) 0 1 (.ex 1)) fun v10 =>
catW v2 v10 fun v11 =>
k6 v11 σ9) (
k6 v2 (σ.bump 14))) (F_bits_Writer_Text_j1 Q))
theorem ok_bits_Writer_Text {a0 σ Q} (h : σ.Live → F_bits_Writer_Text a0 σ Q) : ACalls PG n_bits_Writer_Text [a0] σ Q :=
  .of_sem [none, none, none, none, none, none, some ([], [3]), none, none] [(3, .s), (14, tI), (20, tI)] mixed (by kernel_rfl) (by kernel_rfl) h
/-! (*vitrine/vitrineref01.Writer).Text -/
def F_ref01_Writer_Text (a0 : AV) (σ : Mem) (Q : AV → Mem → Prop) : Prop :=
lfW 0 (σ.bump 7) a0 fun v0 =>
bstrW (σ.bump 7) v0 fun v1 =>
Q (.str v1) (σ.bump 7)
theorem ok_ref01_Writer_Text {a0 σ Q} (h : σ.Live → F_ref01_Writer_Text a0 σ Q) : ACalls PG n_ref01_Writer_Text [a0] σ Q :=
  .of_sem [none, none] [] mixed (by kernel_rfl) (by kernel_rfl) h
/-! vitrine/bits.Read -/
def F_bits_Read (a0 : ByteArray) (σ : Mem) (Q : AV → Mem → Prop) : Prop :=
boxW (.agg [.str a0, .int .i64 0, .int .i64 0]) (
newW (σ.bump 5) (σ.next + 3) (.rw [.str a0, .int .i64 0, .int .i64 0]) fun σ0 =>
Q (.ptr (σ.next + 3) 0) σ0)
theorem ok_bits_Read {a0 σ Q} (h : σ.Live → F_bits_Read a0 σ Q) : ACalls PG n_bits_Read [.str a0] σ Q :=
  .of_sem [none, none] [] mixed (by kernel_rfl) (by kernel_rfl) h
/-! (*vitrine/huff.Table).Next -/
def F_huff_Table_Next_l1 (a0 : AV) (a1 : AV) (Q : AV → Mem → Prop) (next2 : Int → Int → Int → Int → Mem → Prop) (v3 : Int) (v4 : Int) (v5 : Int) (v6 : Int) (σ7 : Mem) : Prop :=
lfI 19 (σ7.bump 6) a0 fun v8 =>
ifB (decide (v6 ≤ v8)) (
callW PG n_bits_Reader_Bits [a1, .int .i64 1] (σ7.bump 13) fun v9 σ10 =>
tpI v9 0 fun v11 =>
tpI v9 1 fun v12 =>
ifB (decide (v12 ≠ 0)) (
Q (.tup [.int .i64 0, .int .i64 v12]) (σ10.bump 5)) (
iW (v3 * 2) fun v13 =>
letW (bitsOp .or .i64 v13 v11) fun v14 =>
iW (v4 * 2) fun v15 =>
iW (v14 - v15) fun v16 =>
nfW 2 a0 fun v17 =>
idxAW 16 1 v17 v6 fun v18 =>
ldI (σ10.bump 22) v18 fun v19 =>
ifB (decide (v16 < v19)) (
lfW 18 (σ10.bump 33) a0 fun v20 =>
iW (v5 + v16) fun v21 =>
idxW 1 v20 v21 fun v22 =>
ldI (σ10.bump 33) v22 fun v23 =>
Q (.tup [.int .i64 v23, .int .i64 0]) (σ10.bump 33)) (
nfW 2 a0 fun v24 =>
idxAW 16 1 v24 v6 fun v25 =>
ldI (σ10.bump 31) v25 fun v26 =>
iW (v15 + v26) fun v27 =>
nfW 2 a0 fun v28 =>
idxAW 16 1 v28 v6 fun v29 =>
ldI (σ10.bump 40) v29 fun v30 =>
iW (v5 + v30) fun v31 =>
iW (v6 + 1) fun v32 =>
next2 v14 v27 v31 v32 (σ10.bump 43)))) (
Q (.tup [.int .i64 0, .int .i64 12]) (σ7.bump 8))
def F_huff_Table_Next (a0 : AV) (a1 : AV) (σ : Mem) (Q : AV → Mem → Prop) : Prop :=
eqW .ptr a0 .nilp fun v0 =>
ifB v0 (
Q (.tup [.int .i64 0, .int .i64 2]) (σ.bump 10)) (
eqW .ptr a1 .nilp fun v1 =>
ifB v1 (
Q (.tup [.int .i64 0, .int .i64 2]) (σ.bump 10)) (
loopF [tI, tI, tI, tI] (F_huff_Table_Next_l1 a0 a1 Q) 0 0 0 1 (σ.bump 12)))
theorem ok_huff_Table_Next {a0 a1 σ Q} (h : σ.Live → F_huff_Table_Next a0 a1 σ Q) : ACalls PG n_huff_Table_Next [a0, a1] σ Q :=
  .of_sem [none, none, none, none, none, none, none, some ([0, 1], [6, 7, 8, 9]), none, none, none, none, none, none, none, none, none, none, none, none, none, none, none, none, none] [(6, tI), (7, tI), (8, tI), (9, tI), (23, tI), (30, tI), (31, tI), (50, tI), (60, tI), (67, tI), (75, tI)] mixed (by kernel_rfl) (by kernel_rfl) h
/-! (*vitrine/vitrineref02.Table).Next -/
def F_ref02_Table_Next_l2 (a0 : AV) (Q : AV → Mem → Prop) (next10 : Int → Int → Mem → Prop) (v12 : Int) (v19 : Int) (next20 : Int → Mem → Prop) (v21 : Int) (σ22 : Mem) : Prop :=
lfW 0 (σ22.bump 7) a0 fun v23 =>
slenW v23 fun v24 =>
ifB (decide (v21 < v24)) (
lfW 0 (σ22.bump 27) a0 fun v25 =>
idxW 1 v25 v21 fun v26 =>
ldI (σ22.bump 27) v26 fun v27 =>
ifB (decide (v27 = v12)) (
nchkW a0 fun v28 =>
fldW 1 v28 fun v29 =>
ldW (σ22.bump 27) v29 fun v30 =>
idxW 1 v30 v21 fun v31 =>
ldI (σ22.bump 27) v31 fun v32 =>
ifB (decide (v32 = v19)) (
Q (.tup [.int .i64 v21, .int .i64 0]) (σ22.bump 30)) (
iW (v21 + 1) fun v33 =>
next20 v33 (σ22.bump 30))) (
iW (v21 + 1) fun v34 =>
next20 v34 (σ22.bump 30))) (
iW (v12 + 1) fun v35 =>
next10 v19 v35 (σ22.bump 10))
def F_ref02_Table_Next_l1 (a0 : AV) (a1 : AV) (Q : AV → Mem → Prop) (v8 : Int) (next10 : Int → Int → Mem → Prop) (v11 : Int) (v12 : Int) (σ13 : Mem) : Prop :=
ifB (decide (v12 ≤ v8)) (
callW PG n_ref01_Reader_Bits [a1, .int .i64 1] (σ13.bump 10) fun v14 σ15 =>
tpI v14 0 fun v16 =>
tpI v14 1 fun v17 =>
ifB (decide (v17 ≠ 0)) (
Q (.tup [.int .i64 0, .int .i64 v17]) (σ15.bump 5)) (
iW (2 * v11) fun v18 =>
iW (v18 + v16) fun v19 =>
loopF [tI] (F_ref02_Table_Next_l2 a0 Q next10 v12 v19) 0 (σ15.bump 8))) (
Q (.tup [.int .i64 0, .int .i64 12]) (σ13.bump 5))
def F_ref02_Table_Next_j2 (a0 : AV) (a1 : AV) (Q : AV → Mem → Prop) (v8 : Int) (σ9 : Mem) : Prop :=
loopF [tI, tI] (F_ref02_Table_Next_l1 a0 a1 Q v8) 0 1 (σ9.bump 2)
def F_ref02_Table_Next_l4 (a0 : AV) (Q : AV → Mem → Prop) (next39 : Int → Int → Mem → Prop) (v41 : Int) (v48 : Int) (next49 : Int → Mem → Prop) (v50 : Int) (σ51 : Mem) : Prop :=
lfW 0 (σ51.bump 7) a0 fun v52 =>
slenW v52 fun v53 =>
ifB (decide (v50 < v53)) (
lfW 0 (σ51.bump 27) a0 fun v54 =>
idxW 1 v54 v50 fun v55 =>
ldI (σ51.bump 27) v55 fun v56 =>
ifB (decide (v56 = v41)) (
nchkW a0 fun v57 =>
fldW 1 v57 fun v58 =>
ldW (σ51.bump 27) v58 fun v59 =>
idxW 1 v59 v50 fun v60 =>
ldI (σ51.bump 27) v60 fun v61 =>
ifB (decide (v61 = v48)) (
Q (.tup [.int .i64 v50, .int .i64 0]) (σ51.bump 30)) (
iW (v50 + 1) fun v62 =>
next49 v62 (σ51.bump 30))) (
iW (v50 + 1) fun v63 =>
next49 v63 (σ51.bump 30))) (
iW (v41 + 1) fun v64 =>
next39 v48 v64 (σ51.bump 10))
def F_ref02_Table_Next_l3 (a0 : AV) (a1 : AV) (Q : AV → Mem → Prop) (v37 : Int) (next39 : Int → Int → Mem → Prop) (v40 : Int) (v41 : Int) (σ42 : Mem) : Prop :=
ifB (decide (v41 ≤ v37)) (
callW PG n_ref01_Reader_Bits [a1, .int .i64 1] (σ42.bump 10) fun v43 σ44 =>
tpI v43 0 fun v45 =>
tpI v43 1 fun v46 =>
ifB (decide (v46 ≠ 0)) (
Q (.tup [.int .i64 0, .int .i64 v46]) (σ44.bump 5)) (
iW (2 * v40) fun v47 =>
iW (v47 + v45) fun v48 =>
loopF [tI] (F_ref02_Table_Next_l4 a0 Q next39 v41 v48) 0 (σ44.bump 8))) (
Q (.tup [.int .i64 0, .int .i64 12]) (σ42.bump 5))
def F_ref02_Table_Next_j3 (a0 : AV) (a1 : AV) (Q : AV → Mem → Prop) (v37 : Int) (σ38 : Mem) : Prop :=
loopF [tI, tI] (F_ref02_Table_Next_l3 a0 a1 Q v37) 0 1 (σ38.bump 2)
def F_ref02_Table_Next_j1 (a0 : AV) (a1 : AV) (Q : AV → Mem → Prop) (v4 : Int) (v5 : Int) (v6 : Int) (σ7 : Mem) : Prop :=
ifB (decide (v4 = 1)) (
joinF [tI] (fun (k36 : Int → Mem → Prop) =>
ifB (decide (v5 = 1)) (
k36 1 (σ7.bump 7)) (
k36 v6 (σ7.bump 6))) (F_ref02_Table_Next_j2 a0 a1 Q)) (
joinF [tI] (fun (k65 : Int → Mem → Prop) =>
k65 v6 (σ7.bump 6)) (F_ref02_Table_Next_j3 a0 a1 Q))
def F_ref02_Table_Next (a0 : AV) (a1 : AV) (σ : Mem) (Q : AV → Mem → Prop) : Prop :=
lfW 0 (σ.bump 14) a0 fun v0 =>
callW PG n_ref02_sum [v0] (σ.bump 14) fun v1 σ2 =>
tpI v1 0 fun v3 =>
tpI v1 1 fun v4 =>
tpI v1 2 fun v5 =>
joinF [tI] (fun (k66 : Int → Mem → Prop) =>
ifB (decide (v4 = 0)) (
k66 0 (σ2.bump 4)) (
k66 15 (σ2.bump 3))) (F_ref02_Table_Next_j1 a0 a1 Q v4 v5)
theorem ok_ref02_Table_Next {a0 a1 σ Q} (h : σ.Live → F_ref02_Table_Next a0 a1 σ Q) : ACalls PG n_ref02_Table_Next [a0, a1] σ Q :=
  .of_sem [none, none, none, none, some ([0, 1, 7, 8], [9]), none, none, some ([0, 1], [9]), none, none, none, none, some ([0, 1, 9], [10, 11]), none, none, none, none, none, none, none, none, none, none, some ([0, 1, 9, 10, 11], [14]), none, none, none, none, none, none, none, none, none] [(21, tI), (22, tI), (23, tI), (9, tI), (10, tI), (11, tI), (40, tI), (41, tI), (14, tI), (64, tI), (74, tI)] mixed (by kernel_rfl) (by kernel_rfl) h
/-! (*vitrine/bits.Reader).Left -/
def F_bits_Reader_Left (a0 : AV) (σ : Mem) (Q : AV → Mem → Prop) : Prop :=
eqW .ptr a0 .nilp fun v0 =>
ifB v0 (
Q (.int .i64 0) (σ.bump 4)) (
lfS 0 (σ.bump 15) a0 fun v1 =>
iW (8 * (v1.size : Int)) fun v2 =>
lfI 2 (σ.bump 15) a0 fun v3 =>
iW (v2 + v3) fun v4 =>
Q (.int .i64 v4) (σ.bump 15))
theorem ok_bits_Reader_Left {a0 σ Q} (h : σ.Live → F_bits_Reader_Left a0 σ Q) : ACalls PG n_bits_Reader_Left [a0] σ Q :=
  .of_sem [none, none, none, none, none] [(8, .s), (14, tI)] mixed (by kernel_rfl) (by kernel_rfl) h
/-! (*vitrine/vitrineref01.Reader).Left -/
def F_ref01_Reader_Left (a0 : AV) (σ : Mem) (Q : AV → Mem → Prop) : Prop :=
lfS 0 (σ.bump 13) a0 fun v0 =>
iW (8 * (v0.size : Int)) fun v1 =>
lfI 1 (σ.bump 13) a0 fun v2 =>
iW (v1 - v2) fun v3 =>
Q (.int .i64 v3) (σ.bump 13)
theorem ok_ref01_Reader_Left {a0 σ Q} (h : σ.Live → F_ref01_Reader_Left a0 σ Q) : ACalls PG n_ref01_Reader_Left [a0] σ Q :=
  .of_sem [none, none] [(6, .s), (12, tI)] mixed (by kernel_rfl) (by kernel_rfl) h
/-! slices.ContainsFunc[[]int,int] -/
def F_slices_ContainsFunc___int_int_ (a0 : AV) (a1 : AV) (σ : Mem) (Q : AV → Mem → Prop) : Prop :=
callW PG n_slices_IndexFunc___int_int_ [a0, a1] (σ.bump 6) fun v0 σ1 =>
castI .i64 v0 fun v2 =>
Q (.bool (decide (0 ≤ v2))) σ1
theorem ok_slices_ContainsFunc___int_int_ {a0 a1 σ Q} (h : σ.Live → F_slices_ContainsFunc___int_int_ a0 a1 σ Q) : ACalls PG n_slices_ContainsFunc___int_int_ [a0, a1] σ Q :=
  .of_sem [none, none] [(7, tI)] mixed (by kernel_rfl) (by kernel_rfl) h
/-! vitrine/huff.Check$1 -/
def F_huff_Check_1 (a0 : Int) (σ : Mem) (Q : AV → Mem → Prop) : Prop :=
ifB (decide (a0 < 0)) (
Q (.bool true) (σ.bump 8)) (
Q (.bool (decide (15 < a0))) (σ.bump 8))
theorem ok_huff_Check_1 {a0 σ Q} (h : σ.Live → F_huff_Check_1 a0 σ Q) : ACalls PG n_huff_Check_1 [.int .i64 a0] σ Q :=
  .of_sem [none, none] [] mixed (by kernel_rfl) (by kernel_rfl) h
/-! vitrine/huff.counted -/
def F_huff_counted_j1 (next3 : Int → Mem → Prop) (v4 : Int) (σ8 : Mem) : Prop :=
iW (v4 + 1) fun v9 =>
next3 v9 (σ8.bump 2)
def F_huff_counted_l1 (a0 : AV) (Q : AV → Mem → Prop) (σ : Mem) (σ0 : Mem) (v2 : Int) (next3 : Int → Mem → Prop) (v4 : Int) (σ5 : Mem) : Prop :=
ifB (decide (v4 < v2)) (
idxW 1 a0 v4 fun v6 =>
ldI (σ5.bump 4) v6 fun v7 =>
joinF [] (fun (k10 : Mem → Prop) =>
ifB (decide (0 < v7)) (
idxAW 16 1 (.ptr σ0.next 0) v7 fun v11 =>
ldI (σ5.bump 12) v11 fun v12 =>
iW (v12 + 1) fun v13 =>
idxAW 16 1 (.ptr σ0.next 0) v7 fun v14 =>
stW 1 (σ5.bump 12) v14 (.int .i64 v13) fun σ15 =>
k10 σ15) (
k10 (σ5.bump 6))) (F_huff_counted_j1 next3 v4)) (
ldnW 16 (σ5.bump 3) (.ptr σ0.next 0) fun v16 =>
stW 16 (σ5.bump 3) (.ptr σ.next 0) v16 fun σ17 =>
ldnW 16 σ17 (.ptr σ.next 0) fun v18 =>
Q v18 σ17)
def F_huff_counted (a0 : AV) (σ : Mem) (Q : AV → Mem → Prop) : Prop :=
newW (σ.bump 1) σ.next (.rw (List.replicate 16 (.int .i64 0))) fun σ0 =>
newW (σ0.bump 1) σ0.next (.rw (List.replicate 16 (.int .i64 0))) fun σ1 =>
slenW a0 fun v2 =>
loopF [tI] (F_huff_counted_l1 a0 Q σ σ0 v2) 0 (σ1.bump 3)
theorem ok_huff_counted {a0 σ Q} (h : σ.Live → F_huff_counted a0 σ Q) : ACalls PG n_huff_counted [a0] σ Q :=
  .of_sem [none, none, none, none, some ([2, 3, 6, 7], [8]), none, none, none, none, none, some ([2, 3, 6, 7, 8], []), none, none, none] [(8, tI), (11, tI), (16, tI)] mixed (by kernel_rfl) (by kernel_rfl) h
/-! vitrine/vitrineref02.sum -/
def F_ref02_sum_j1 (next0 : Int → Int → Int → Int → Mem → Prop) (v4 : Int) (v9 : Int) (v10 : Int) (v11 : Int) (σ12 : Mem) : Prop :=
iW (v4 + 1) fun v13 =>
next0 v9 v10 v11 v13 (σ12.bump 3)
def F_ref02_sum_l1 (a0 : AV) (Q : AV → Mem → Prop) (next0 : Int → Int → Int → Int → Mem → Prop) (v1 : Int) (v2 : Int) (v3 : Int) (v4 : Int) (σ5 : Mem) : Prop :=
slenW a0 fun v6 =>
ifB (decide (v4 < v6)) (
idxW 1 a0 v4 fun v7 =>
ldI (σ5.bump 9) v7 fun v8 =>
joinF [tI, tI, tI] (fun (k14 : Int → Int → Int → Mem → Prop) =>
ifB (decide (0 < v8)) (
idxW 1 a0 v4 fun v15 =>
ldI (σ5.bump 18) v15 fun v16 =>
iW (15 - v16) fun v17 =>
shlW .i64 1 v17 fun v18 =>
iW (v1 + v18) fun v19 =>
iW (v2 + 1) fun v20 =>
idxW 1 a0 v4 fun v21 =>
ldI (σ5.bump 28) v21 fun v22 =>
letW (imax v3 v22) fun v23 =>
k14 v19 v20 v23 (σ5.bump 28)) (
k14 v1 v2 v3 (σ5.bump 9))) (F_ref02_sum_j1 next0 v4)) (
Q (.tup [.int .i64 v1, .int .i64 v2, .int .i64 v3]) (σ5.bump 10))
def F_ref02_sum (a0 : AV) (σ : Mem) (Q : AV → Mem → Prop) : Prop :=
loopF [tI, tI, tI, tI] (F_ref02_sum_l1 a0 Q) 0 0 0 0 (σ.bump 7)
theorem ok_ref02_sum {a0 σ Q} (h : σ.Live → F_ref02_sum a0 σ Q) : ACalls PG n_ref02_sum [a0] σ Q :=
  .of_sem [none, none, none, none, none, none, some ([0], [5, 6, 7, 8]), none, none, none, none, some ([0, 8], [5, 6, 7]), none, none, none, none, none] [(5, tI), (6, tI), (7, tI), (8, tI), (18, tI), (24, tI), (34, tI)] mixed (by kernel_rfl) (by kernel_rfl) h
/-! vitrine/huff.first -/
def F_huff_first_l1 (Q : AV → Mem → Prop) (σ : Mem) (σ1 : Mem) (next3 : Int → Mem → Prop) (v4 : Int) (σ5 : Mem) : Prop :=
ifB (decide (v4 ≤ 15)) (
iW (v4 - 1) fun v6 =>
idxAW 16 1 (.ptr σ1.next 0) v6 fun v7 =>
ldI (σ5.bump 15) v7 fun v8 =>
iW (v4 - 1) fun v9 =>
idxAW 16 1 (.ptr σ.next 0) v9 fun v10 =>
ldI (σ5.bump 15) v10 fun v11 =>
iW (v8 + v11) fun v12 =>
iW (v12 * 2) fun v13 =>
idxAW 16 1 (.ptr σ1.next 0) v4 fun v14 =>
stW 1 (σ5.bump 15) v14 (.int .i64 v13) fun σ15 =>
iW (v4 + 1) fun v16 =>
next3 v16 (σ15.bump 3)) (
ldnW 16 (σ5.bump 4) (.ptr σ1.next 0) fun v17 =>
stW 16 (σ5.bump 4) (.ptr (σ.next + 1) 0) v17 fun σ18 =>
ldnW 16 σ18 (.ptr (σ.next + 1) 0) fun v19 =>
Q v19 σ18)
def F_huff_first (a0 : AV) (σ : Mem) (Q : AV → Mem → Prop) : Prop :=
boxW a0 (
newW (σ.bump 2) σ.next (.rw a0.cells) fun σ0 =>
newW σ0 (σ.next + 1) (.rw (List.replicate 16 (.int .i64 0))) fun σ1 =>
newW (σ1.bump 1) σ1.next (.rw (List.replicate 16 (.int .i64 0))) fun σ2 =>
loopF [tI] (F_huff_first_l1 Q σ σ1) 2 (σ2.bump 1))
theorem ok_huff_first {a0 σ Q} (h : σ.Live → F_huff_first a0 σ Q) : ACalls PG n_huff_first [a0] σ Q :=
  .of_sem [none, none, none, none, some ([1, 2, 3], [4]), none, none, none, none, none, none] [(4, tI), (13, tI), (17, tI)] mixed (by kernel_rfl) (by kernel_rfl) h
/-! vitrine/huff.Limit$1 -/
def F_huff_Limit_1 (a0 : Int) (σ : Mem) (Q : AV → Mem → Prop) : Prop :=
ifB (decide (a0 < 0)) (
Q (.bool true) (σ.bump 8)) (
Q (.bool (decide (1000000000 < a0))) (σ.bump 8))
theorem ok_huff_Limit_1 {a0 σ Q} (h : σ.Live → F_huff_Limit_1 a0 σ Q) : ACalls PG n_huff_Limit_1 [.int .i64 a0] σ Q :=
  .of_sem [none, none] [] mixed (by kernel_rfl) (by kernel_rfl) h
/-! slices.SortStableFunc[[]vitrine/huff.item,vitrine/huff.item] -/
def F_slices_SortStableFunc___huff_item_huff_item_ (a0 : AV) (a1 : AV) (σ : Mem) (Q : AV → Mem → Prop) : Prop :=
slenW a0 fun v0 =>
callW PG n_slices_stableCmpFunc_huff_item_ [a0, .int .i64 v0, a1] (σ.bump 5) fun v1 σ2 =>
Q (.tup []) σ2
theorem ok_slices_SortStableFunc___huff_item_huff_item_ {a0 a1 σ Q} (h : σ.Live → F_slices_SortStableFunc___huff_item_huff_item_ a0 a1 σ Q) : ACalls PG n_slices_SortStableFunc___huff_item_huff_item_ [a0, a1] σ Q :=
  .of_sem [none] [] mixed (by kernel_rfl) (by kernel_rfl) h
/-! vitrine/huff.byCount -/
def F_huff_byCount (a0 : AV) (a1 : AV) (σ : Mem) (Q : AV → Mem → Prop) : Prop :=
boxW a0 (
newW (σ.bump 3) σ.next (.rw a0.cells) fun σ0 =>
boxW a1 (
newW σ0 (σ.next + 1) (.rw a1.cells) fun σ1 =>
fldW 0 (.ptr σ.next 0) fun v2 =>
ldI (σ1.bump 6) v2 fun v3 =>
fldW 0 (.ptr (σ.next + 1) 0) fun v4 =>
ldI (σ1.bump 6) v4 fun v5 =>
callW PG n_cmp_Compare_int_ [.int .i64 v3, .int .i64 v5] (σ1.bump 6) fun v6 σ7 =>
castI .i64 v6 fun v8 =>
Q (.int .i64 v8) σ7))
theorem ok_huff_byCount {a0 a1 σ Q} (h : σ.Live → F_huff_byCount a0 a1 σ Q) : ACalls PG n_huff_byCount [a0, a1] σ Q :=
  .of_sem [none, none] [(6, tI), (8, tI), (9, tI)] mixed (by kernel_rfl) (by kernel_rfl) h
/-! slices.Clone[[]vitrine/huff.item,vitrine/huff.item] -/
def F_slices_Clone___huff_item_huff_item_ (a0 : AV) (σ : Mem) (Q : AV → Mem → Prop) : Prop :=
eqW .sl a0 .nils fun v0 =>
ifB v0 (
Q .nils (σ.bump 4)) (
newW (σ.bump 7) (σ.next + 3) (.rw []) fun σ1 =>
apW 3 40 (σ.next + 5) σ1 (.slice (σ.next + 3) 0 0 (.ex 0)) a0 fun v2 σ3 =>
Q v2 σ3)
theorem ok_slices_Clone___huff_item_huff_item_ {a0 σ Q} (h : σ.Live → F_slices_Clone___huff_item_huff_item_ a0 σ Q) : ACalls PG n_slices_Clone___huff_item_huff_item_ [a0] σ Q :=
  .of_sem [none, none, none, none, none] [] mixed (by kernel_rfl) (by kernel_rfl) h
/-! slices.Chunk[[]vitrine/huff.item,vitrine/huff.item] -/
def F_slices_Chunk___huff_item_huff_item__j1 (Q : AV → Mem → Prop) (σ : Mem) (σ3 : Mem) : Prop :=
Q (.func n_slices_Chunk___huff_item_huff_item__1 [.ptr σ.next 0, .ptr (σ.next + 1) 0]) (σ3.bump 2)
def F_slices_Chunk___huff_item_huff_item_ (a0 : AV) (a1 : Int) (σ : Mem) (Q : AV → Mem → Prop) : Prop :=
boxW a0 (
newW (σ.bump 3) σ.next (.rw a0.cells) fun σ0 =>
newW σ0 (σ.next + 1) (.rw [.int .i64 a1]) fun σ1 =>
ldI (σ1.bump 2) (.ptr (σ.next + 1) 0) fun v2 =>
joinF [] (fun (k4 : Mem → Prop) =>
ifB (decide (v2 < 1)) (
False) (
k4 (σ1.bump 2))) (F_slices_Chunk___huff_item_huff_item__j1 Q σ))
theorem ok_slices_Chunk___huff_item_huff_item_ {a0 a1 σ Q} (h : σ.Live → F_slices_Chunk___huff_item_huff_item_ a0 a1 σ Q) : ACalls PG n_slices_Chunk___huff_item_huff_item_ [a0, .int .i64 a1] σ Q :=
  .of_sem [none, none, some ([2, 3], []), none, none] [(5, tI)] mixed (by kernel_rfl) (by kernel_rfl) h
/-! vitrine/huff.spend -/
def F_huff_spend_j1 (next1 : Int → Mem → Prop) (v2 : Int) (σ11 : Mem) : Prop :=
iW (v2 + 1) fun v12 =>
next1 v12 (σ11.bump 2)
def F_huff_spend_l1 (a0 : AV) (a1 : AV) (Q : AV → Mem → Prop) (v0 : Int) (next1 : Int → Mem → Prop) (v2 : Int) (σ3 : Mem) : Prop :=
ifB (decide (v2 < v0)) (
idxW 3 a1 v2 fun v4 =>
ldnW 3 (σ3.bump 5) v4 fun v5 =>
newW (σ3.bump 5) (σ3.next + 3) (.rw [.int .i64 0, .int .i64 0, .nils]) fun σ6 =>
stW 3 σ6 (.ptr (σ3.next + 3) 0) v5 fun σ7 =>
fldW 2 (.ptr (σ3.next + 3) 0) fun v8 =>
ldW (σ7.bump 3) v8 fun v9 =>
eqW .sl v9 .nils fun v10 =>
joinF [] (fun (k13 : Mem → Prop) =>
ifB v10 (
fldW 1 (.ptr (σ3.next + 3) 0) fun v14 =>
ldI (σ7.bump 11) v14 fun v15 =>
idxW 1 a0 v15 fun v16 =>
ldI (σ7.bump 11) v16 fun v17 =>
iW (v17 + 1) fun v18 =>
idxW 1 a0 v15 fun v19 =>
stW 1 (σ7.bump 11) v19 (.int .i64 v18) fun σ20 =>
k13 σ20) (
fldW 2 (.ptr (σ3.next + 3) 0) fun v21 =>
ldW (σ7.bump 7) v21 fun v22 =>
callW PG n_huff_spend [a0, v22] (σ7.bump 7) fun v23 σ24 =>
k13 σ24)) (F_huff_spend_j1 next1 v2)) (
Q (.tup []) (σ3.bump 1))
def F_huff_spend (a0 : AV) (a1 : AV) (σ : Mem) (Q : AV → Mem → Prop) : Prop :=
slenW a1 fun v0 =>
loopF [tI] (F_huff_spend_l1 a0 a1 Q v0) 0 (σ.bump 3)
theorem ok_huff_spend {a0 a1 σ Q} (h : σ.Live → F_huff_spend a0 a1 σ Q) : ACalls PG n_huff_spend [a0, a1] σ Q :=
  .of_sem [none, none, some ([0, 6, 7], [8]), none, none, none, none, none, some ([0, 6, 7, 8], []), none, none, none] [(8, tI), (17, tI), (19, tI)] mixed (by kernel_rfl) (by kernel_rfl) h
/-! vitrine/vitrineref02.row -/
def F_ref02_row_j1 (next0 : AV → Int → Int → Mem → Prop) (v7 : AV) (v8 : Int) (v9 : Int) (σ10 : Mem) : Prop :=
next0 v7 v8 v9 σ10
def F_ref02_row_j2 (next0 : AV → Int → Int → Mem → Prop) (v25 : AV) (v26 : Int) (v27 : Int) (σ28 : Mem) : Prop :=
next0 v25 v26 v27 σ28
def F_ref02_row_j3 (next0 : AV → Int → Int → Mem → Prop) (v42 : AV) (v43 : Int) (v44 : Int) (σ45 : Mem) : Prop :=
next0 v42 v43 v44 σ45
def F_ref02_row_j4 (next0 : AV → Int → Int → Mem → Prop) (v55 : AV) (v56 : Int) (v57 : Int) (σ58 : Mem) : Prop :=
next0 v55 v56 v57 σ58
def F_ref02_row_j5 (next0 : AV → Int → Int → Mem → Prop) (v73 : AV) (v74 : Int) (v75 : Int) (σ76 : Mem) : Prop :=
next0 v73 v74 v75 σ76
def F_ref02_row_j6 (next0 : AV → Int → Int → Mem → Prop) (v90 : AV) (v91 : Int) (v92 : Int) (σ93 : Mem) : Prop :=
next0 v90 v91 v92 σ93
def F_ref02_row_l1 (a0 : AV) (a1 : AV) (Q : AV → Mem → Prop) (next0 : AV → Int → Int → Mem → Prop) (v1 : AV) (v2 : Int) (v3 : Int) (σ4 : Mem) : Prop :=
slenW a0 fun v5 =>
ifB (decide (v2 < v5)) (
slenW a1 fun v6 =>
ifB (decide (v3 = v6)) (
joinF [.v, tI, tI] (fun (k11 : AV → Int → Int → Mem → Prop) =>
idxW 3 a0 v2 fun v12 =>
ldnW 3 (σ4.bump 41) v12 fun v13 =>
cellOkW v13 3 (
newW (σ4.bump 41) (σ4.next + 38) (.rw (setAt [.int .i64 0, .bool false, .nils] 0 v13.cells)) fun σ14 =>
apW 3 40 (σ4.next + 39) σ14 v1 (.slice (σ4.next + 38) 0 1 (.ex 1)) fun v15 σ16 =>
iW (v2 + 1) fun v17 =>
k11 v15 v17 v3 (σ16.bump 3))) (F_ref02_row_j1 next0)) (
slenW a0 fun v18 =>
ifB (decide (v2 < v18)) (
idxW 3 a0 v2 fun v19 =>
fldW 0 v19 fun v20 =>
ldI (σ4.bump 33) v20 fun v21 =>
idxW 3 a1 v3 fun v22 =>
fldW 0 v22 fun v23 =>
ldI (σ4.bump 33) v23 fun v24 =>
joinF [.v, tI, tI] (fun (k29 : AV → Int → Int → Mem → Prop) =>
ifB (decide (v21 ≤ v24)) (
idxW 3 a0 v2 fun v30 =>
ldnW 3 (σ4.bump 41) v30 fun v31 =>
cellOkW v31 3 (
newW (σ4.bump 41) (σ4.next + 38) (.rw (setAt [.int .i64 0, .bool false, .nils] 0 v31.cells)) fun σ32 =>
apW 3 40 (σ4.next + 39) σ32 v1 (.slice (σ4.next + 38) 0 1 (.ex 1)) fun v33 σ34 =>
iW (v2 + 1) fun v35 =>
k29 v33 v35 v3 (σ34.bump 3))) (
idxW 3 a1 v3 fun v36 =>
ldnW 3 (σ4.bump 41) v36 fun v37 =>
cellOkW v37 3 (
newW (σ4.bump 41) (σ4.next + 38) (.rw (setAt [.int .i64 0, .bool false, .nils] 0 v37.cells)) fun σ38 =>
apW 3 40 (σ4.next + 39) σ38 v1 (.slice (σ4.next + 38) 0 1 (.ex 1)) fun v39 σ40 =>
iW (v3 + 1) fun v41 =>
k29 v39 v2 v41 (σ40.bump 3)))) (F_ref02_row_j2 next0)) (
joinF [.v, tI, tI] (fun (k46 : AV → Int → Int → Mem → Prop) =>
idxW 3 a1 v3 fun v47 =>
ldnW 3 (σ4.bump 41) v47 fun v48 =>
cellOkW v48 3 (
newW (σ4.bump 41) (σ4.next + 38) (.rw (setAt [.int .i64 0, .bool false, .nils] 0 v48.cells)) fun σ49 =>
apW 3 40 (σ4.next + 39) σ49 v1 (.slice (σ4.next + 38) 0 1 (.ex 1)) fun v50 σ51 =>
iW (v3 + 1) fun v52 =>
k46 v50 v2 v52 (σ51.bump 3))) (F_ref02_row_j3 next0)))) (
slenW a1 fun v53 =>
ifB (decide (v3 < v53)) (
slenW a1 fun v54 =>
ifB (decide (v3 = v54)) (
joinF [.v, tI, tI] (fun (k59 : AV → Int → Int → Mem → Prop) =>
idxW 3 a0 v2 fun v60 =>
ldnW 3 (σ4.bump 41) v60 fun v61 =>
cellOkW v61 3 (
newW (σ4.bump 41) (σ4.next + 38) (.rw (setAt [.int .i64 0, .bool false, .nils] 0 v61.cells)) fun σ62 =>
apW 3 40 (σ4.next + 39) σ62 v1 (.slice (σ4.next + 38) 0 1 (.ex 1)) fun v63 σ64 =>
iW (v2 + 1) fun v65 =>
k59 v63 v65 v3 (σ64.bump 3))) (F_ref02_row_j4 next0)) (
slenW a0 fun v66 =>
ifB (decide (v2 < v66)) (
idxW 3 a0 v2 fun v67 =>
fldW 0 v67 fun v68 =>
ldI (σ4.bump 33) v68 fun v69 =>
idxW 3 a1 v3 fun v70 =>
fldW 0 v70 fun v71 =>
ldI (σ4.bump 33) v71 fun v72 =>
joinF [.v, tI, tI] (fun (k77 : AV → Int → Int → Mem → Prop) =>
ifB (decide (v69 ≤ v72)) (
idxW 3 a0 v2 fun v78 =>
ldnW 3 (σ4.bump 41) v78 fun v79 =>
cellOkW v79 3 (
newW (σ4.bump 41) (σ4.next + 38) (.rw (setAt [.int .i64 0, .bool false, .nils] 0 v79.cells)) fun σ80 =>
apW 3 40 (σ4.next + 39) σ80 v1 (.slice (σ4.next + 38) 0 1 (.ex 1)) fun v81 σ82 =>
iW (v2 + 1) fun v83 =>
k77 v81 v83 v3 (σ82.bump 3))) (
idxW 3 a1 v3 fun v84 =>
ldnW 3 (σ4.bump 41) v84 fun v85 =>
cellOkW v85 3 (
newW (σ4.bump 41) (σ4.next + 38) (.rw (setAt [.int .i64 0, .bool false, .nils] 0 v85.cells)) fun σ86 =>
apW 3 40 (σ4.next + 39) σ86 v1 (.slice (σ4.next + 38) 0 1 (.ex 1)) fun v87 σ88 =>
iW (v3 + 1) fun v89 =>
k77 v87 v2 v89 (σ88.bump 3)))) (F_ref02_row_j5 next0)) (
joinF [.v, tI, tI] (fun (k94 : AV → Int → Int → Mem → Prop) =>
idxW 3 a1 v3 fun v95 =>
ldnW 3 (σ4.bump 41) v95 fun v96 =>
cellOkW v96 3 (
newW (σ4.bump 41) (σ4.next + 38) (.rw (setAt [.int .i64 0, .bool false, .nils] 0 v96.cells)) fun σ97 =>
apW 3 40 (σ4.next + 39) σ97 v1 (.slice (σ4.next + 38) 0 1 (.ex 1)) fun v98 σ99 =>
iW (v3 + 1) fun v100 =>
k94 v98 v2 v100 (σ99.bump 3))) (F_ref02_row_j6 next0)))) (
Q v1 (σ4.bump 12)))
def F_ref02_row (a0 : AV) (a1 : AV) (σ : Mem) (Q : AV → Mem → Prop) : Prop :=
loopF [.v, tI, tI] (F_ref02_row_l1 a0 a1 Q) .nils 0 0 (σ.bump 4)
theorem ok_ref02_row {a0 a1 σ Q} (h : σ.Live → F_ref02_row a0 a1 σ Q) : ACalls PG n_ref02_row [a0, a1] σ Q :=
  .of_sem [none, none, none, none, none, some ([0, 1], [5, 6, 7]), none, none, none, none, some ([0, 1], [5, 6, 7]), none, none, none, none, none] [(6, tI), (7, tI), (32, tI), (37, tI)] mixed (by kernel_rfl) (by kernel_rfl) h
/-! slices.Clone[[]int,int] -/
def F_slices_Clone___int_int_ (a0 : AV) (σ : Mem) (Q : AV → Mem → Prop) : Prop :=
eqW .sl a0 .nils fun v0 =>
ifB v0 (
Q .nils (σ.bump 4)) (
newW (σ.bump 7) (σ.next + 3) (.rw []) fun σ1 =>
apW 1 8 (σ.next + 5) σ1 (.slice (σ.next + 3) 0 0 (.ex 0)) a0 fun v2 σ3 =>
Q v2 σ3)
theorem ok_slices_Clone___int_int_ {a0 σ Q} (h : σ.Live → F_slices_Clone___int_int_ a0 σ Q) : ACalls PG n_slices_Clone___int_int_ [a0] σ Q :=
  .of_sem [none, none, none, none, none] [] mixed (by kernel_rfl) (by kernel_rfl) h
/-! slices.SortStableFunc[[]int,int] -/
def F_slices_SortStableFunc___int_int_ (a0 : AV) (a1 : AV) (σ : Mem) (Q : AV → Mem → Prop) : Prop :=
slenW a0 fun v0 =>
callW PG n_slices_stableCmpFunc_int_ [a0, .int .i64 v0, a1] (σ.bump 5) fun v1 σ2 =>
Q (.tup []) σ2
theorem ok_slices_SortStableFunc___int_int_ {a0 a1 σ Q} (h : σ.Live → F_slices_SortStableFunc___int_int_ a0 a1 σ Q) : ACalls PG n_slices_SortStableFunc___int_int_ [a0, a1] σ Q :=
  .of_sem [none] [] mixed (by kernel_rfl) (by kernel_rfl) h
/-! vitrine/huff.Make$1 -/
def F_huff_Make_1 (a0 : Int) (a1 : Int) (a2 : AV) (σ : Mem) (Q : AV → Mem → Prop) : Prop :=
ldW (σ.bump 11) a2 fun v0 =>
idxW 1 v0 a0 fun v1 =>
ldI (σ.bump 11) v1 fun v2 =>
ldW (σ.bump 11) a2 fun v3 =>
idxW 1 v3 a1 fun v4 =>
ldI (σ.bump 11) v4 fun v5 =>
callW PG n_cmp_Compare_int_ [.int .i64 v2, .int .i64 v5] (σ.bump 11) fun v6 σ7 =>
castI .i64 v6 fun v8 =>
Q (.int .i64 v8) σ7
theorem ok_huff_Make_1 {a0 a1 a2 σ Q} (h : σ.Live → F_huff_Make_1 a0 a1 a2 σ Q) : ACalls PG n_huff_Make_1 [.int .i64 a0, .int .i64 a1, a2] σ Q :=
  .of_sem [none, none] [(9, tI), (13, tI), (14, tI)] mixed (by kernel_rfl) (by kernel_rfl) h
/-! cmp.Compare[int] -/
def F_cmp_Compare_int_ (a0 : Int) (a1 : Int) (σ : Mem) (Q : AV → Mem → Prop) : Prop :=
callW PG n_cmp_isNaN_int_ [.int .i64 a0] (σ.bump 4) fun v0 σ1 =>
castB v0 fun v2 =>
callW PG n_cmp_isNaN_int_ [.int .i64 a1] (σ1.bump 3) fun v3 σ4 =>
castB v3 fun v5 =>
ifB v2 (
ifB v5 (
Q (.int .i64 0) (σ4.bump 3)) (
Q (.int .i64 (-1)) (σ4.bump 3))) (
ifB v5 (
Q (.int .i64 1) (σ4.bump 3)) (
ifB (decide (a0 < a1)) (
Q (.int .i64 (-1)) (σ4.bump 6)) (
ifB (decide (a1 < a0)) (
Q (.int .i64 1) (σ4.bump 9)) (
Q (.int .i64 0) (σ4.bump 9)))))
theorem ok_cmp_Compare_int_ {a0 a1 σ Q} (h : σ.Live → F_cmp_Compare_int_ a0 a1 σ Q) : ACalls PG n_cmp_Compare_int_ [.int .i64 a0, .int .i64 a1] σ Q :=
  .of_sem [none, none, none, none, none, none, none, none, none, none, none, none, none, none, none, none, none, none, none] [(8, .b), (10, .b)] mixed (by kernel_rfl) (by kernel_rfl) h
/-! (*vitrine/bits.Writer).Bits -/
def F_bits_Writer_Bits_l1 (a0 : AV) (Q : AV → Mem → Prop) (next14 : Mem → Prop) (σ15 : Mem) : Prop :=
lfI 2 (σ15.bump 5) a0 fun v16 =>
ifB (decide (8 ≤ v16)) (
lfW 0 (σ15.bump 20) a0 fun v17 =>
lfI 1 (σ15.bump 20) a0 fun v18 =>
wrW .u8 v18 fun v19 =>
newW (σ15.bump 20) (σ15.next + 15) (.rw [.int .u8 v19]) fun σ20 =>
apW 1 1 (σ15.next + 16) σ20 v17 (.slice (σ15.next + 15) 0 1 (.ex 1)) fun v21 σ22 =>
nfW 0 a0 fun v23 =>
stW 1 σ22 v23 v21 fun σ24 =>
lfI 1 (σ24.bump 8) a0 fun v25 =>
letW (v25 / 256) fun v26 =>
nfW 1 a0 fun v27 =>
stW 1 (σ24.bump 8) v27 (.int .i64 v26) fun σ28 =>
lfI 2 (σ28.bump 8) a0 fun v29 =>
iW (v29 - 8) fun v30 =>
nfW 2 a0 fun v31 =>
stW 1 (σ28.bump 8) v31 (.int .i64 v30) fun σ32 =>
next14 σ32) (
Q (.tup []) (σ15.bump 5))
def F_bits_Writer_Bits (a0 : AV) (a1 : Int) (a2 : Int) (σ : Mem) (Q : AV → Mem → Prop) : Prop :=
eqW .ptr a0 .nilp fun v0 =>
ifB v0 (
Q (.tup []) (σ.bump 10)) (
ifB (decide (a2 < 0)) (
Q (.tup []) (σ.bump 10)) (
ifB (decide (24 < a2)) (
Q (.tup []) (σ.bump 10)) (
lfI 1 (σ.bump 28) a0 fun v1 =>
shlW .i64 1 a2 fun v2 =>
iW (v2 - 1) fun v3 =>
letW (bitsOp .and .i64 a1 v3) fun v4 =>
lfI 2 (σ.bump 28) a0 fun v5 =>
shlW .i64 v4 v5 fun v6 =>
letW (bitsOp .or .i64 v1 v6) fun v7 =>
nfW 1 a0 fun v8 =>
stW 1 (σ.bump 28) v8 (.int .i64 v7) fun σ9 =>
lfI 2 (σ9.bump 9) a0 fun v10 =>
iW (v10 + a2) fun v11 =>
nfW 2 a0 fun v12 =>
stW 1 (σ9.bump 9) v12 (.int .i64 v11) fun σ13 =>
loopF [] (F_bits_Writer_Bits_l1 a0 Q) σ13)))
theorem ok_bits_Writer_Bits {a0 a1 a2 σ Q} (h : σ.Live → F_bits_Writer_Bits a0 a1 a2 σ Q) : ACalls PG n_bits_Writer_Bits [a0, .int .i64 a1, .int .i64 a2] σ Q :=
  .of_sem [none, none, none, none, none, some ([0], []), none, none, none, none, none, none] [(19, tI), (28, tI), (36, tI), (44, tI), (61, tI), (70, tI), (49, tI)] mixed (by kernel_rfl) (by kernel_rfl) h
/-! (*vitrine/vitrineref01.Writer).Bits -/
def F_ref01_Writer_Bits_j1 (a0 : AV) (a1 : Int) (next0 : Int → Mem → Prop) (v1 : Int) (σ5 : Mem) : Prop :=
lfW 0 (σ5.bump 34) a0 fun v6 =>
lfI 1 (σ5.bump 34) a0 fun v7 =>
quoW .i64 v7 8 fun v8 =>
lfW 0 (σ5.bump 34) a0 fun v9 =>
lfI 1 (σ5.bump 34) a0 fun v10 =>
quoW .i64 v10 8 fun v11 =>
idxW 1 v9 v11 fun v12 =>
ldU (σ5.bump 34) v12 fun v13 =>
shrW .i64 a1 v1 fun v14 =>
letW (bitsOp .and .i64 v14 1) fun v15 =>
wrW .u8 v15 fun v16 =>
lfI 1 (σ5.bump 34) a0 fun v17 =>
remW v17 8 fun v18 =>
shlW .u8 v16 v18 fun v19 =>
letW (bitsOp .or .u8 v13 v19) fun v20 =>
idxW 1 v6 v8 fun v21 =>
stW 1 (σ5.bump 34) v21 (.int .u8 v20) fun σ22 =>
lfI 1 (σ22.bump 9) a0 fun v23 =>
iW (v23 + 1) fun v24 =>
nfW 1 a0 fun v25 =>
stW 1 (σ22.bump 9) v25 (.int .i64 v24) fun σ26 =>
iW (v1 + 1) fun v27 =>
next0 v27 (σ26.bump 3)
def F_ref01_Writer_Bits_l1 (a0 : AV) (a1 : Int) (a2 : Int) (Q : AV → Mem → Prop) (next0 : Int → Mem → Prop) (v1 : Int) (σ2 : Mem) : Prop :=
ifB (decide (v1 < a2)) (
lfI 1 (σ2.bump 9) a0 fun v3 =>
remW v3 8 fun v4 =>
joinF [] (fun (k28 : Mem → Prop) =>
ifB (decide (v4 = 0)) (
lfW 0 (σ2.bump 19) a0 fun v29 =>
newW (σ2.bump 19) (σ2.next + 14) (.rw [.int .u8 0]) fun σ30 =>
apW 1 1 (σ2.next + 15) σ30 v29 (.slice (σ2.next + 14) 0 1 (.ex 1)) fun v31 σ32 =>
nfW 0 a0 fun v33 =>
stW 1 σ32 v33 v31 fun σ34 =>
k28 σ34) (
k28 (σ2.bump 9))) (F_ref01_Writer_Bits_j1 a0 a1 next0 v1)) (
Q (.tup []) (σ2.bump 3))
def F_ref01_Writer_Bits (a0 : AV) (a1 : Int) (a2 : Int) (σ : Mem) (Q : AV → Mem → Prop) : Prop :=
ifB (decide (a2 < 0)) (
Q (.tup []) (σ.bump 6)) (
ifB (decide (24 < a2)) (
Q (.tup []) (σ.bump 6)) (
loopF [tI] (F_ref01_Writer_Bits_l1 a0 a1 a2 Q) 0 (σ.bump 7)))
theorem ok_ref01_Writer_Bits {a0 a1 a2 σ Q} (h : σ.Live → F_ref01_Writer_Bits a0 a1 a2 σ Q) : ACalls PG n_ref01_Writer_Bits [a0, .int .i64 a1, .int .i64 a2] σ Q :=
  .of_sem [none, none, none, none, some ([0, 1, 2], [6]), none, none, none, none, some ([0, 1, 2, 6], []), none, none, none, none] [(6, tI), (21, tI), (40, tI), (49, tI), (52, tU), (61, tI), (70, tI)] mixed (by kernel_rfl) (by kernel_rfl) h
/-! (*vitrine/bits.Reader).Bits -/
def F_bits_Reader_Bits_l1 (a0 : AV) (a1 : Int) (Q : AV → Mem → Prop) (next4 : Mem → Prop) (σ5 : Mem) : Prop :=
lfI 2 (σ5.bump 6) a0 fun v6 =>
ifB (decide (v6 < a1)) (
lfI 1 (σ5.bump 25) a0 fun v7 =>
lfS 0 (σ5.bump 25) a0 fun v8 =>
sidxW v8 0 fun v9 =>
iW v9 fun v10 =>
lfI 2 (σ5.bump 25) a0 fun v11 =>
shlW .i64 v10 v11 fun v12 =>
letW (bitsOp .or .i64 v7 v12) fun v13 =>
nfW 1 a0 fun v14 =>
stW 1 (σ5.bump 25) v14 (.int .i64 v13) fun σ15 =>
lfI 2 (σ15.bump 8) a0 fun v16 =>
iW (v16 + 8) fun v17 =>
nfW 2 a0 fun v18 =>
stW 1 (σ15.bump 8) v18 (.int .i64 v17) fun σ19 =>
lfS 0 (σ19.bump 9) a0 fun v20 =>
subW v20 1 v20.size fun v21 =>
nfW 0 a0 fun v22 =>
stW 1 (σ19.bump 9) v22 (.str v21) fun σ23 =>
next4 σ23) (
lfI 1 (σ5.bump 15) a0 fun v24 =>
shlW .i64 1 a1 fun v25 =>
iW (v25 - 1) fun v26 =>
letW (bitsOp .and .i64 v24 v26) fun v27 =>
lfI 1 (σ5.bump 24) a0 fun v28 =>
shrW .i64 v28 a1 fun v29 =>
nfW 1 a0 fun v30 =>
stW 1 (σ5.bump 24) v30 (.int .i64 v29) fun σ31 =>
lfI 2 (σ31.bump 9) a0 fun v32 =>
iW (v32 - a1) fun v33 =>
nfW 2 a0 fun v34 =>
stW 1 (σ31.bump 9) v34 (.int .i64 v33) fun σ35 =>
Q (.tup [.int .i64 v27, .int .i64 0]) (σ35.bump 3))
def F_bits_Reader_Bits (a0 : AV) (a1 : Int) (σ : Mem) (Q : AV → Mem → Prop) : Prop :=
eqW .ptr a0 .nilp fun v0 =>
ifB v0 (
Q (.tup [.int .i64 0, .int .i64 2]) (σ.bump 7)) (
ifB (decide (a1 < 0)) (
Q (.tup [.int .i64 0, .int .i64 1]) (σ.bump 14)) (
ifB (decide (24 < a1)) (
Q (.tup [.int .i64 0, .int .i64 1]) (σ.bump 14)) (
callW PG n_bits_Reader_Left [a0] (σ.bump 17) fun v1 σ2 =>
castI .i64 v1 fun v3 =>
ifB (decide (v3 < a1)) (
Q (.tup [.int .i64 0, .int .i64 3]) (σ2.bump 2)) (
loopF [] (F_bits_Reader_Bits_l1 a0 a1 Q) σ2))))
theorem ok_bits_Reader_Bits {a0 a1 σ Q} (h : σ.Live → F_bits_Reader_Bits a0 a1 σ Q) : ACalls PG n_bits_Reader_Bits [a0, .int .i64 a1] σ Q :=
  .of_sem [none, none, none, none, none, none, none, none, none, none, none, none, some ([0, 1], []), none, none, none, none, none, none, none, none, none, none] [(20, tI), (25, tI), (31, tI), (35, .s), (41, tI), (49, tI), (57, .s), (64, tI), (72, tI), (80, tI)] mixed (by kernel_rfl) (by kernel_rfl) h
/-! (*vitrine/vitrineref01.Reader).Bits -/
def F_ref01_Reader_Bits_l1 (a0 : AV) (a1 : Int) (Q : AV → Mem → Prop) (next3 : Int → Int → Mem → Prop) (v4 : Int) (v5 : Int) (σ6 : Mem) : Prop :=
ifB (decide (v5 < a1)) (
lfS 0 (σ6.bump 30) a0 fun v7 =>
lfI 1 (σ6.bump 30) a0 fun v8 =>
iW (v8 + v5) fun v9 =>
quoW .i64 v9 8 fun v10 =>
sidxW v7 v10 fun v11 =>
lfI 1 (σ6.bump 30) a0 fun v12 =>
iW (v12 + v5) fun v13 =>
remW v13 8 fun v14 =>
shrW .u8 v11 v14 fun v15 =>
letW (bitsOp .and .u8 v15 1) fun v16 =>
iW v16 fun v17 =>
shlW .i64 v17 v5 fun v18 =>
letW (bitsOp .or .i64 v4 v18) fun v19 =>
iW (v5 + 1) fun v20 =>
next3 v19 v20 (σ6.bump 33)) (
lfI 1 (σ6.bump 13) a0 fun v21 =>
iW (v21 + a1) fun v22 =>
nfW 1 a0 fun v23 =>
stW 1 (σ6.bump 13) v23 (.int .i64 v22) fun σ24 =>
Q (.tup [.int .i64 v4, .int .i64 0]) (σ24.bump 3))
def F_ref01_Reader_Bits (a0 : AV) (a1 : Int) (σ : Mem) (Q : AV → Mem → Prop) : Prop :=
ifB (decide (a1 < 0)) (
Q (.tup [.int .i64 0, .int .i64 1]) (σ.bump 10)) (
ifB (decide (24 < a1)) (
Q (.tup [.int .i64 0, .int .i64 1]) (σ.bump 10)) (
callW PG n_ref01_Reader_Left [a0] (σ.bump 12) fun v0 σ1 =>
castI .i64 v0 fun v2 =>
ifB (decide (v2 < a1)) (
Q (.tup [.int .i64 0, .int .i64 3]) (σ1.bump 2)) (
loopF [tI, tI] (F_ref01_Reader_Bits_l1 a0 a1 Q) 0 0 (σ1.bump 2))))
theorem ok_ref01_Reader_Bits {a0 a1 σ Q} (h : σ.Live → F_ref01_Reader_Bits a0 a1 σ Q) : ACalls PG n_ref01_Reader_Bits [a0, .int .i64 a1] σ Q :=
  .of_sem [none, none, none, none, none, none, none, none, none, none, some ([0, 1], [6, 7]), none, none, none, none, none, none, none] [(16, tI), (6, tI), (7, tI), (27, .s), (31, tI), (39, tI), (53, tI)] mixed (by kernel_rfl) (by kernel_rfl) h
/-! slices.IndexFunc[[]int,int] -/
def F_slices_IndexFunc___int_int__l1 (a0 : AV) (a1 : AV) (Q : AV → Mem → Prop) (v0 : Int) (next1 : Int → Mem → Prop) (v2 : Int) (σ3 : Mem) : Prop :=
ifB (decide (v2 < v0)) (
idxW 1 a0 v2 fun v4 =>
ldI (σ3.bump 9) v4 fun v5 =>
callvW PG a1 [.int .i64 v5] (σ3.bump 9) fun v6 σ7 =>
castB v6 fun v8 =>
ifB v8 (
Q (.int .i64 v2) (σ7.bump 2)) (
iW (v2 + 1) fun v9 =>
next1 v9 (σ7.bump 2))) (
Q (.int .i64 (-1)) (σ3.bump 2))
def F_slices_IndexFunc___int_int_ (a0 : AV) (a1 : AV) (σ : Mem) (Q : AV → Mem → Prop) : Prop :=
slenW a0 fun v0 =>
loopF [tI] (F_slices_IndexFunc___int_int__l1 a0 a1 Q v0) 0 (σ.bump 4)
theorem ok_slices_IndexFunc___int_int_ {a0 a1 σ Q} (h : σ.Live → F_slices_IndexFunc___int_int_ a0 a1 σ Q) : ACalls PG n_slices_IndexFunc___int_int_ [a0, a1] σ Q :=
  .of_sem [none, none, none, some ([0, 1, 7], [8]), none, none, none, none, none, none, none, none, none] [(8, tI), (15, tI), (16, .b)] mixed (by kernel_rfl) (by kernel_rfl) h
/-! slices.stableCmpFunc[vitrine/huff.item] -/
def F_slices_stableCmpFunc_huff_item__j1 (next9 : Int → Mem → Prop) (v10 : Int) (σ23 : Mem) : Prop :=
iW (v10 * 2) fun v24 =>
next9 v24 (σ23.bump 3)
def F_slices_stableCmpFunc_huff_item__l3 (a0 : AV) (a1 : Int) (a2 : AV) (next9 : Int → Mem → Prop) (v10 : Int) (next13 : Int → Int → Mem → Prop) (v14 : Int) (v15 : Int) (σ16 : Mem) : Prop :=
ifB (decide (v15 ≤ a1)) (
iW (v14 + v10) fun v17 =>
callW PG n_slices_symMergeCmpFunc_huff_item_ [a0, .int .i64 v14, .int .i64 v17, .int .i64 v15, a2] (σ16.bump 11) fun v18 σ19 =>
iW (2 * v10) fun v20 =>
iW (v15 + v20) fun v21 =>
next13 v15 v21 (σ19.bump 7)) (
iW (v14 + v10) fun v22 =>
joinF [] (fun (k25 : Mem → Prop) =>
ifB (decide (v22 < a1)) (
callW PG n_slices_symMergeCmpFunc_huff_item_ [a0, .int .i64 v14, .int .i64 v22, .int .i64 a1, a2] (σ16.bump 16) fun v26 σ27 =>
k25 σ27) (
k25 (σ16.bump 10))) (F_slices_stableCmpFunc_huff_item__j1 next9 v10))
def F_slices_stableCmpFunc_huff_item__l2 (a0 : AV) (a1 : Int) (a2 : AV) (Q : AV → Mem → Prop) (next9 : Int → Mem → Prop) (v10 : Int) (σ11 : Mem) : Prop :=
ifB (decide (v10 < a1)) (
iW (2 * v10) fun v12 =>
loopF [tI, tI] (F_slices_stableCmpFunc_huff_item__l3 a0 a1 a2 next9 v10) 0 v12 (σ11.bump 7)) (
Q (.tup []) (σ11.bump 3))
def F_slices_stableCmpFunc_huff_item__l1 (a0 : AV) (a1 : Int) (a2 : AV) (Q : AV → Mem → Prop) (next0 : Int → Int → Mem → Prop) (v1 : Int) (v2 : Int) (σ3 : Mem) : Prop :=
ifB (decide (v2 ≤ a1)) (
callW PG n_slices_insertionSortCmpFunc_huff_item_ [a0, .int .i64 v1, .int .i64 v2, a2] (σ3.bump 8) fun v4 σ5 =>
iW (v2 + 20) fun v6 =>
next0 v2 v6 (σ5.bump 6)) (
callW PG n_slices_insertionSortCmpFunc_huff_item_ [a0, .int .i64 v1, .int .i64 a1, a2] (σ3.bump 8) fun v7 σ8 =>
loopF [tI] (F_slices_stableCmpFunc_huff_item__l2 a0 a1 a2 Q) 20 σ8)
def F_slices_stableCmpFunc_huff_item_ (a0 : AV) (a1 : Int) (a2 : AV) (σ : Mem) (Q : AV → Mem → Prop) : Prop :=
loopF [tI, tI] (F_slices_stableCmpFunc_huff_item__l1 a0 a1 a2 Q) 0 20 (σ.bump 4)
theorem ok_slices_stableCmpFunc_huff_item_ {a0 a1 a2 σ Q} (h : σ.Live → F_slices_stableCmpFunc_huff_item_ a0 a1 a2 σ Q) : ACalls PG n_slices_stableCmpFunc_huff_item_ [a0, .int .i64 a1, a2] σ Q :=
  .of_sem [none, none, none, some ([0, 1, 2, 6], [7, 8]), none, none, none, none, none, none, none, none, some ([0, 1, 2], [6]), none, none, none, none, none, some ([0, 1, 2, 6], [7, 8]), none, none, none, none, none, none, none, none, some ([0, 1, 2, 6], []), none, none] [(6, tI), (7, tI), (8, tI)] mixed (by kernel_rfl) (by kernel_rfl) h
/-! slices.Chunk[[]vitrine/huff.item,vitrine/huff.item]$1 -/
def F_slices_Chunk___huff_item_huff_item__1_l1 (a0 : AV) (a1 : AV) (a2 : AV) (Q : AV → Mem → Prop) (next0 : Int → Mem → Prop) (v1 : Int) (σ2 : Mem) : Prop :=
ldW (σ2.bump 4) a1 fun v3 =>
slenW v3 fun v4 =>
ifB (decide (v1 < v4)) (
ldI (σ2.bump 11) a2 fun v5 =>
ldW (σ2.bump 11) a1 fun v6 =>
slcW 3 v6 (some v1) none fun v7 =>
slenW v7 fun v8 =>
letW (imin v5 v8) fun v9 =>
ldW (σ2.bump 23) a1 fun v10 =>
iW (v1 + v9) fun v11 =>
iW (v1 + v9) fun v12 =>
slc3W 3 v10 (some v1) v11 v12 fun v13 =>
callvW PG a0 [v13] (σ2.bump 23) fun v14 σ15 =>
castB v14 fun v16 =>
ifB (!v16) (
Q (.tup []) σ15) (
ldI (σ15.bump 4) a2 fun v17 =>
iW (v1 + v17) fun v18 =>
next0 v18 (σ15.bump 4))) (
Q (.tup []) (σ2.bump 4))
def F_slices_Chunk___huff_item_huff_item__1 (a0 : AV) (a1 : AV) (a2 : AV) (σ : Mem) (Q : AV → Mem → Prop) : Prop :=
loopF [tI] (F_slices_Chunk___huff_item_huff_item__1_l1 a0 a1 a2 Q) 0 (σ.bump 1)
theorem ok_slices_Chunk___huff_item_huff_item__1 {a0 a1 a2 σ Q} (h : σ.Live → F_slices_Chunk___huff_item_huff_item__1 a0 a1 a2 σ Q) : ACalls PG n_slices_Chunk___huff_item_huff_item__1 [a0, a1, a2] σ Q :=
  .of_sem [none, none, some ([0, 1, 2], [4]), none, none, none, none, none, none, none] [(4, tI), (13, tI), (29, .b), (11, tI)] mixed (by kernel_rfl) (by kernel_rfl) h
/-! slices.stableCmpFunc[int] -/
def F_slices_stableCmpFunc_int__j1 (next9 : Int → Mem → Prop) (v10 : Int) (σ23 : Mem) : Prop :=
iW (v10 * 2) fun v24 =>
next9 v24 (σ23.bump 3)
def F_slices_stableCmpFunc_int__l3 (a0 : AV) (a1 : Int) (a2 : AV) (next9 : Int → Mem → Prop) (v10 : Int) (next13 : Int → Int → Mem → Prop) (v14 : Int) (v15 : Int) (σ16 : Mem) : Prop :=
ifB (decide (v15 ≤ a1)) (
iW (v14 + v10) fun v17 =>
callW PG n_slices_symMergeCmpFunc_int_ [a0, .int .i64 v14, .int .i64 v17, .int .i64 v15, a2] (σ16.bump 11) fun v18 σ19 =>
iW (2 * v10) fun v20 =>
iW (v15 + v20) fun v21 =>
next13 v15 v21 (σ19.bump 7)) (
iW (v14 + v10) fun v22 =>
joinF [] (fun (k25 : Mem → Prop) =>
ifB (decide (v22 < a1)) (
callW PG n_slices_symMergeCmpFunc_int_ [a0, .int .i64 v14, .int .i64 v22, .int .i64 a1, a2] (σ16.bump 16) fun v26 σ27 =>
k25 σ27) (
k25 (σ16.bump 10))) (F_slices_stableCmpFunc_int__j1 next9 v10))
def F_slices_stableCmpFunc_int__l2 (a0 : AV) (a1 : Int) (a2 : AV) (Q : AV → Mem → Prop) (next9 : Int → Mem → Prop) (v10 : Int) (σ11 : Mem) : Prop :=
ifB (decide (v10 < a1)) (
iW (2 * v10) fun v12 =>
loopF [tI, tI] (F_slices_stableCmpFunc_int__l3 a0 a1 a2 next9 v10) 0 v12 (σ11.bump 7)) (
Q (.tup []) (σ11.bump 3))
def F_slices_stableCmpFunc_int__l1 (a0 : AV) (a1 : Int) (a2 : AV) (Q : AV → Mem → Prop) (next0 : Int → Int → Mem → Prop) (v1 : Int) (v2 : Int) (σ3 : Mem) : Prop :=
ifB (decide (v2 ≤ a1)) (
callW PG n_slices_insertionSortCmpFunc_int_ [a0, .int .i64 v1, .int .i64 v2, a2] (σ3.bump 8) fun v4 σ5 =>
iW (v2 + 20) fun v6 =>
next0 v2 v6 (σ5.bump 6)) (
callW PG n_slices_insertionSortCmpFunc_int_ [a0, .int .i64 v1, .int .i64 a1, a2] (σ3.bump 8) fun v7 σ8 =>
loopF [tI] (F_slices_stableCmpFunc_int__l2 a0 a1 a2 Q) 20 σ8)
def F_slices_stableCmpFunc_int_ (a0 : AV) (a1 : Int) (a2 : AV) (σ : Mem) (Q : AV → Mem → Prop) : Prop :=
loopF [tI, tI] (F_slices_stableCmpFunc_int__l1 a0 a1 a2 Q) 0 20 (σ.bump 4)
theorem ok_slices_stableCmpFunc_int_ {a0 a1 a2 σ Q} (h : σ.Live → F_slices_stableCmpFunc_int_ a0 a1 a2 σ Q) : ACalls PG n_slices_stableCmpFunc_int_ [a0, .int .i64 a1, a2] σ Q :=
  .of_sem [none, none, none, some ([0, 1, 2, 6], [7, 8]), none, none, none, none, none, none, none, none, some ([0, 1, 2], [6]), none, none, none, none, none, some ([0, 1, 2, 6], [7, 8]), none, none, none, none, none, none, none, none, some ([0, 1, 2, 6], []), none, none] [(6, tI), (7, tI), (8, tI)] mixed (by kernel_rfl) (by kernel_rfl) h
/-! cmp.isNaN[int] -/
def F_cmp_isNaN_int_ (a0 : Int) (σ : Mem) (Q : AV → Mem → Prop) : Prop :=
Q (.bool (decide (a0 ≠ a0))) (σ.bump 5)
theorem ok_cmp_isNaN_int_ {a0 σ Q} (h : σ.Live → F_cmp_isNaN_int_ a0 σ Q) : ACalls PG n_cmp_isNaN_int_ [.int .i64 a0] σ Q :=
  .of_sem [none, none] [] mixed (by kernel_rfl) (by kernel_rfl) h
/-! slices.insertionSortCmpFunc[vitrine/huff.item] -/
def F_slices_insertionSortCmpFunc_huff_item__j1 (next1 : Int → Mem → Prop) (v2 : Int) (σ4 : Mem) : Prop :=
iW (v2 + 1) fun v5 =>
next1 v5 (σ4.bump 3)
def F_slices_insertionSortCmpFunc_huff_item__l2 (a0 : AV) (a1 : Int) (a3 : AV) (k6 : Mem → Prop) (next7 : Int → Mem → Prop) (v8 : Int) (σ9 : Mem) : Prop :=
ifB (decide (a1 < v8)) (
idxW 3 a0 v8 fun v10 =>
ldnW 3 (σ9.bump 17) v10 fun v11 =>
iW (v8 - 1) fun v12 =>
idxW 3 a0 v12 fun v13 =>
ldnW 3 (σ9.bump 17) v13 fun v14 =>
callvW PG a3 [v11, v14] (σ9.bump 17) fun v15 σ16 =>
castI .i64 v15 fun v17 =>
ifB (decide (v17 < 0)) (
iW (v8 - 1) fun v18 =>
iW (v8 - 1) fun v19 =>
idxW 3 a0 v19 fun v20 =>
ldnW 3 (σ16.bump 18) v20 fun v21 =>
idxW 3 a0 v8 fun v22 =>
ldnW 3 (σ16.bump 18) v22 fun v23 =>
idxW 3 a0 v8 fun v24 =>
stW 3 (σ16.bump 18) v24 v21 fun σ25 =>
idxW 3 a0 v18 fun v26 =>
stW 3 σ25 v26 v23 fun σ27 =>
iW (v8 - 1) fun v28 =>
next7 v28 (σ27.bump 3)) (
k6 σ16)) (
k6 (σ9.bump 17))
def F_slices_insertionSortCmpFunc_huff_item__l1 (a0 : AV) (a1 : Int) (a2 : Int) (a3 : AV) (Q : AV → Mem → Prop) (next1 : Int → Mem → Prop) (v2 : Int) (σ3 : Mem) : Prop :=
ifB (decide (v2 < a2)) (
joinF [] (fun (k6 : Mem → Prop) =>
loopF [tI] (F_slices_insertionSortCmpFunc_huff_item__l2 a0 a1 a3 k6) v2 (σ3.bump 5)) (F_slices_insertionSortCmpFunc_huff_item__j1 next1 v2)) (
Q (.tup []) (σ3.bump 3))
def F_slices_insertionSortCmpFunc_huff_item_ (a0 : AV) (a1 : Int) (a2 : Int) (a3 : AV) (σ : Mem) (Q : AV → Mem → Prop) : Prop :=
iW (a1 + 1) fun v0 =>
loopF [tI] (F_slices_insertionSortCmpFunc_huff_item__l1 a0 a1 a2 a3 Q) v0 (σ.bump 3)
theorem ok_slices_insertionSortCmpFunc_huff_item_ {a0 a1 a2 a3 σ Q} (h : σ.Live → F_slices_insertionSortCmpFunc_huff_item_ a0 a1 a2 a3 σ Q) : ACalls PG n_slices_insertionSortCmpFunc_huff_item_ [a0, .int .i64 a1, .int .i64 a2, a3] σ Q :=
  .of_sem [none, none, some ([0, 1, 2, 3], [8]), none, none, none, none, some ([0, 1, 2, 3, 8], []), some ([0, 1, 2, 3, 8], [9]), none, none, none, none, none, none] [(8, tI), (9, tI), (32, tI)] mixed (by kernel_rfl) (by kernel_rfl) h
/-! slices.symMergeCmpFunc[vitrine/huff.item] -/
def F_slices_symMergeCmpFunc_huff_item__j1 (next1 : Int → Int → Mem → Prop) (v16 : Int) (v17 : Int) (σ18 : Mem) : Prop :=
next1 v16 v17 σ18
def F_slices_symMergeCmpFunc_huff_item__l2 (a0 : AV) (Q : AV → Mem → Prop) (v2 : Int) (next21 : Int → Mem → Prop) (v22 : Int) (σ23 : Mem) : Prop :=
iW (v2 - 1) fun v24 =>
ifB (decide (v22 < v24)) (
iW (v22 + 1) fun v25 =>
iW (v22 + 1) fun v26 =>
idxW 3 a0 v26 fun v27 =>
ldnW 3 (σ23.bump 22) v27 fun v28 =>
idxW 3 a0 v22 fun v29 =>
ldnW 3 (σ23.bump 22) v29 fun v30 =>
idxW 3 a0 v22 fun v31 =>
stW 3 (σ23.bump 22) v31 v28 fun σ32 =>
idxW 3 a0 v25 fun v33 =>
stW 3 σ32 v33 v30 fun σ34 =>
iW (v22 + 1) fun v35 =>
next21 v35 (σ34.bump 3)) (
Q (.tup []) (σ23.bump 4))
def F_slices_symMergeCmpFunc_huff_item__l1 (a0 : AV) (a1 : Int) (a4 : AV) (Q : AV → Mem → Prop) (next1 : Int → Int → Mem → Prop) (v2 : Int) (v3 : Int) (σ4 : Mem) : Prop :=
ifB (decide (v2 < v3)) (
iW (v2 + v3) fun v5 =>
wrW .u64 v5 fun v6 =>
letW (v6 / 2) fun v7 =>
iW v7 fun v8 =>
idxW 3 a0 v8 fun v9 =>
ldnW 3 (σ4.bump 21) v9 fun v10 =>
idxW 3 a0 a1 fun v11 =>
ldnW 3 (σ4.bump 21) v11 fun v12 =>
callvW PG a4 [v10, v12] (σ4.bump 21) fun v13 σ14 =>
castI .i64 v13 fun v15 =>
joinF [tI, tI] (fun (k19 : Int → Int → Mem → Prop) =>
ifB (decide (v15 < 0)) (
iW (v8 + 1) fun v20 =>
k19 v20 v3 (σ14.bump 3)) (
k19 v2 v8 (σ14.bump 2))) (F_slices_symMergeCmpFunc_huff_item__j1 next1)) (
loopF [tI] (F_slices_symMergeCmpFunc_huff_item__l2 a0 Q v2) a1 (σ4.bump 5))
def F_slices_symMergeCmpFunc_huff_item__j2 (next37 : Int → Int → Mem → Prop) (v52 : Int) (v53 : Int) (σ54 : Mem) : Prop :=
next37 v52 v53 σ54
def F_slices_symMergeCmpFunc_huff_item__l4 (a0 : AV) (Q : AV → Mem → Prop) (v38 : Int) (next57 : Int → Mem → Prop) (v58 : Int) (σ59 : Mem) : Prop :=
ifB (decide (v38 < v58)) (
iW (v58 - 1) fun v60 =>
iW (v58 - 1) fun v61 =>
idxW 3 a0 v61 fun v62 =>
ldnW 3 (σ59.bump 21) v62 fun v63 =>
idxW 3 a0 v58 fun v64 =>
ldnW 3 (σ59.bump 21) v64 fun v65 =>
idxW 3 a0 v58 fun v66 =>
stW 3 (σ59.bump 21) v66 v63 fun σ67 =>
idxW 3 a0 v60 fun v68 =>
stW 3 σ67 v68 v65 fun σ69 =>
iW (v58 - 1) fun v70 =>
next57 v70 (σ69.bump 3)) (
Q (.tup []) (σ59.bump 3))
def F_slices_symMergeCmpFunc_huff_item__l3 (a0 : AV) (a2 : Int) (a4 : AV) (Q : AV → Mem → Prop) (next37 : Int → Int → Mem → Prop) (v38 : Int) (v39 : Int) (σ40 : Mem) : Prop :=
ifB (decide (v38 < v39)) (
iW (v38 + v39) fun v41 =>
wrW .u64 v41 fun v42 =>
letW (v42 / 2) fun v43 =>
iW v43 fun v44 =>
idxW 3 a0 a2 fun v45 =>
ldnW 3 (σ40.bump 22) v45 fun v46 =>
idxW 3 a0 v44 fun v47 =>
ldnW 3 (σ40.bump 22) v47 fun v48 =>
callvW PG a4 [v46, v48] (σ40.bump 22) fun v49 σ50 =>
castI .i64 v49 fun v51 =>
joinF [tI, tI] (fun (k55 : Int → Int → Mem → Prop) =>
ifB (!(decide (v51 < 0))) (
iW (v44 + 1) fun v56 =>
k55 v56 v39 (σ50.bump 3)) (
k55 v38 v44 (σ50.bump 2))) (F_slices_symMergeCmpFunc_huff_item__j2 next37)) (
loopF [tI] (F_slices_symMergeCmpFunc_huff_item__l4 a0 Q v38) a2 (σ40.bump 5))
def F_slices_symMergeCmpFunc_huff_item__j4 (next80 : Int → Int → Mem → Prop) (v96 : Int) (v97 : Int) (σ98 : Mem) : Prop :=
next80 v96 v97 σ98
def F_slices_symMergeCmpFunc_huff_item__j7 (Q : AV → Mem → Prop) (σ104 : Mem) : Prop :=
Q (.tup []) σ104
def F_slices_symMergeCmpFunc_huff_item__j8 (Q : AV → Mem → Prop) (σ108 : Mem) : Prop :=
Q (.tup []) σ108
def F_slices_symMergeCmpFunc_huff_item__j6 (a0 : AV) (a3 : Int) (a4 : AV) (Q : AV → Mem → Prop) (v74 : Int) (v101 : Int) (σ103 : Mem) : Prop :=
ifB (decide (v74 < v101)) (
joinF [] (fun (k105 : Mem → Prop) =>
ifB (decide (v101 < a3)) (
callW PG n_slices_symMergeCmpFunc_huff_item_ [a0, .int .i64 v74, .int .i64 v101, .int .i64 a3, a4] (σ103.bump 14) fun v106 σ107 =>
k105 σ107) (
k105 (σ103.bump 8))) (F_slices_symMergeCmpFunc_huff_item__j7 Q)) (
joinF [] (fun (k109 : Mem → Prop) =>
k109 (σ103.bump 8)) (F_slices_symMergeCmpFunc_huff_item__j8 Q))
def F_slices_symMergeCmpFunc_huff_item__j10 (Q : AV → Mem → Prop) (σ114 : Mem) : Prop :=
Q (.tup []) σ114
def F_slices_symMergeCmpFunc_huff_item__j11 (Q : AV → Mem → Prop) (σ118 : Mem) : Prop :=
Q (.tup []) σ118
def F_slices_symMergeCmpFunc_huff_item__j9 (a0 : AV) (a3 : Int) (a4 : AV) (Q : AV → Mem → Prop) (v74 : Int) (v101 : Int) (σ113 : Mem) : Prop :=
ifB (decide (v74 < v101)) (
joinF [] (fun (k115 : Mem → Prop) =>
ifB (decide (v101 < a3)) (
callW PG n_slices_symMergeCmpFunc_huff_item_ [a0, .int .i64 v74, .int .i64 v101, .int .i64 a3, a4] (σ113.bump 14) fun v116 σ117 =>
k115 σ117) (
k115 (σ113.bump 8))) (F_slices_symMergeCmpFunc_huff_item__j10 Q)) (
joinF [] (fun (k119 : Mem → Prop) =>
k119 (σ113.bump 8)) (F_slices_symMergeCmpFunc_huff_item__j11 Q))
def F_slices_symMergeCmpFunc_huff_item__j5 (a0 : AV) (a1 : Int) (a3 : Int) (a4 : AV) (Q : AV → Mem → Prop) (v74 : Int) (v81 : Int) (v101 : Int) (σ102 : Mem) : Prop :=
ifB (decide (a1 < v81)) (
joinF [] (fun (k110 : Mem → Prop) =>
ifB (decide (v81 < v74)) (
callW PG n_slices_symMergeCmpFunc_huff_item_ [a0, .int .i64 a1, .int .i64 v81, .int .i64 v74, a4] (σ102.bump 14) fun v111 σ112 =>
k110 σ112) (
k110 (σ102.bump 8))) (F_slices_symMergeCmpFunc_huff_item__j6 a0 a3 a4 Q v74 v101)) (
joinF [] (fun (k120 : Mem → Prop) =>
k120 (σ102.bump 8)) (F_slices_symMergeCmpFunc_huff_item__j9 a0 a3 a4 Q v74 v101))
def F_slices_symMergeCmpFunc_huff_item__j14 (Q : AV → Mem → Prop) (σ126 : Mem) : Prop :=
Q (.tup []) σ126
def F_slices_symMergeCmpFunc_huff_item__j15 (Q : AV → Mem → Prop) (σ130 : Mem) : Prop :=
Q (.tup []) σ130
def F_slices_symMergeCmpFunc_huff_item__j13 (a0 : AV) (a3 : Int) (a4 : AV) (Q : AV → Mem → Prop) (v74 : Int) (v101 : Int) (σ125 : Mem) : Prop :=
ifB (decide (v74 < v101)) (
joinF [] (fun (k127 : Mem → Prop) =>
ifB (decide (v101 < a3)) (
callW PG n_slices_symMergeCmpFunc_huff_item_ [a0, .int .i64 v74, .int .i64 v101, .int .i64 a3, a4] (σ125.bump 14) fun v128 σ129 =>
k127 σ129) (
k127 (σ125.bump 8))) (F_slices_symMergeCmpFunc_huff_item__j14 Q)) (
joinF [] (fun (k131 : Mem → Prop) =>
k131 (σ125.bump 8)) (F_slices_symMergeCmpFunc_huff_item__j15 Q))
def F_slices_symMergeCmpFunc_huff_item__j17 (Q : AV → Mem → Prop) (σ136 : Mem) : Prop :=
Q (.tup []) σ136
def F_slices_symMergeCmpFunc_huff_item__j18 (Q : AV → Mem → Prop) (σ140 : Mem) : Prop :=
Q (.tup []) σ140
def F_slices_symMergeCmpFunc_huff_item__j16 (a0 : AV) (a3 : Int) (a4 : AV) (Q : AV → Mem → Prop) (v74 : Int) (v101 : Int) (σ135 : Mem) : Prop :=
ifB (decide (v74 < v101)) (
joinF [] (fun (k137 : Mem → Prop) =>
ifB (decide (v101 < a3)) (
callW PG n_slices_symMergeCmpFunc_huff_item_ [a0, .int .i64 v74, .int .i64 v101, .int .i64 a3, a4] (σ135.bump 14) fun v138 σ139 =>
k137 σ139) (
k137 (σ135.bump 8))) (F_slices_symMergeCmpFunc_huff_item__j17 Q)) (
joinF [] (fun (k141 : Mem → Prop) =>
k141 (σ135.bump 8)) (F_slices_symMergeCmpFunc_huff_item__j18 Q))
def F_slices_symMergeCmpFunc_huff_item__j12 (a0 : AV) (a1 : Int) (a3 : Int) (a4 : AV) (Q : AV → Mem → Prop) (v74 : Int) (v81 : Int) (v101 : Int) (σ124 : Mem) : Prop :=
ifB (decide (a1 < v81)) (
joinF [] (fun (k132 : Mem → Prop) =>
ifB (decide (v81 < v74)) (
callW PG n_slices_symMergeCmpFunc_huff_item_ [a0, .int .i64 a1, .int .i64 v81, .int .i64 v74, a4] (σ124.bump 14) fun v133 σ134 =>
k132 σ134) (
k132 (σ124.bump 8))) (F_slices_symMergeCmpFunc_huff_item__j13 a0 a3 a4 Q v74 v101)) (
joinF [] (fun (k142 : Mem → Prop) =>
k142 (σ124.bump 8)) (F_slices_symMergeCmpFunc_huff_item__j16 a0 a3 a4 Q v74 v101))
def F_slices_symMergeCmpFunc_huff_item__l5 (a0 : AV) (a1 : Int) (a2 : Int) (a3 : Int) (a4 : AV) (Q : AV → Mem → Prop) (v74 : Int) (v75 : Int) (v79 : Int) (next80 : Int → Int → Mem → Prop) (v81 : Int) (v82 : Int) (σ83 : Mem) : Prop :=
ifB (decide (v81 < v82)) (
iW (v81 + v82) fun v84 =>
wrW .u64 v84 fun v85 =>
letW (v85 / 2) fun v86 =>
iW v86 fun v87 =>
iW (v79 - v87) fun v88 =>
idxW 3 a0 v88 fun v89 =>
ldnW 3 (σ83.bump 24) v89 fun v90 =>
idxW 3 a0 v87 fun v91 =>
ldnW 3 (σ83.bump 24) v91 fun v92 =>
callvW PG a4 [v90, v92] (σ83.bump 24) fun v93 σ94 =>
castI .i64 v93 fun v95 =>
joinF [tI, tI] (fun (k99 : Int → Int → Mem → Prop) =>
ifB (!(decide (v95 < 0))) (
iW (v87 + 1) fun v100 =>
k99 v100 v82 (σ94.bump 3)) (
k99 v81 v87 (σ94.bump 2))) (F_slices_symMergeCmpFunc_huff_item__j4 next80)) (
iW (v75 - v81) fun v101 =>
ifB (decide (v81 < a2)) (
joinF [] (fun (k121 : Mem → Prop) =>
ifB (decide (a2 < v101)) (
callW PG n_slices_rotateCmpFunc_huff_item_ [a0, .int .i64 v81, .int .i64 a2, .int .i64 v101, a4] (σ83.bump 21) fun v122 σ123 =>
k121 σ123) (
k121 (σ83.bump 15))) (F_slices_symMergeCmpFunc_huff_item__j5 a0 a1 a3 a4 Q v74 v81 v101)) (
joinF [] (fun (k143 : Mem → Prop) =>
k143 (σ83.bump 15)) (F_slices_symMergeCmpFunc_huff_item__j12 a0 a1 a3 a4 Q v74 v81 v101)))
def F_slices_symMergeCmpFunc_huff_item__j3 (a0 : AV) (a1 : Int) (a2 : Int) (a3 : Int) (a4 : AV) (Q : AV → Mem → Prop) (v74 : Int) (v75 : Int) (v76 : Int) (v77 : Int) (σ78 : Mem) : Prop :=
iW (v75 - 1) fun v79 =>
loopF [tI, tI] (F_slices_symMergeCmpFunc_huff_item__l5 a0 a1 a2 a3 a4 Q v74 v75 v79) v76 v77 (σ78.bump 3)
def F_slices_symMergeCmpFunc_huff_item_ (a0 : AV) (a1 : Int) (a2 : Int) (a3 : Int) (a4 : AV) (σ : Mem) (Q : AV → Mem → Prop) : Prop :=
iW (a2 - a1) fun v0 =>
ifB (decide (v0 = 1)) (
loopF [tI, tI] (F_slices_symMergeCmpFunc_huff_item__l1 a0 a1 a4 Q) a2 a3 (σ.bump 8)) (
iW (a3 - a2) fun v36 =>
ifB (decide (v36 = 1)) (
loopF [tI, tI] (F_slices_symMergeCmpFunc_huff_item__l3 a0 a2 a4 Q) a1 a2 (σ.bump 12)) (
iW (a1 + a3) fun v71 =>
wrW .u64 v71 fun v72 =>
letW (v72 / 2) fun v73 =>
iW v73 fun v74 =>
iW (v74 + a2) fun v75 =>
joinF [tI, tI] (fun (k144 : Int → Int → Mem → Prop) =>
ifB (decide (v74 < a2)) (
iW (v75 - a3) fun v145 =>
k144 v145 v74 (σ.bump 30)) (
k144 a1 a2 (σ.bump 28))) (F_slices_symMergeCmpFunc_huff_item__j3 a0 a1 a2 a3 a4 Q v74 v75)))
theorem ok_slices_symMergeCmpFunc_huff_item_ {a0 a1 a2 a3 a4 σ Q} (h : σ.Live → F_slices_symMergeCmpFunc_huff_item_ a0 a1 a2 a3 a4 σ Q) : ACalls PG n_slices_symMergeCmpFunc_huff_item_ [a0, .int .i64 a1, .int .i64 a2, .int .i64 a3, a4] σ Q :=
  .of_sem [none, none, none, none, none, some ([0, 1, 4], [10, 11]), none, none, none, none, none, some ([0, 1, 4], [10, 11]), none, none, none, none, some ([0, 10], [13]), none, none, none, none, none, none, none, none, none, none, some ([0, 2, 4], [14, 15]), none, none, none, none, none, some ([0, 2, 4], [14, 15]), none, none, none, none, some ([0, 14], [17]), none, none, none, none, none, none, none, none, none, some ([0, 1, 2, 3, 4, 18, 19], [20, 21]), none, none, none, none, none, none, some ([0, 1, 2, 3, 4, 18, 19, 22], [20, 21]), none, none, none, none, none, some ([0, 1, 2, 3, 4, 18, 19, 22], [20, 21]), none, none, none, none, some ([0, 1, 3, 4, 18, 20, 24], []), none, none, some ([0, 3, 4, 18, 24], []), none, none, some ([], []), none] [(10, tI), (11, tI), (49, tI), (13, tI), (14, tI), (15, tI), (101, tI), (17, tI), (20, tI), (21, tI), (169, tI)] mixed (by kernel_rfl) (by kernel_rfl) h
/-! slices.insertionSortCmpFunc[int] -/
def F_slices_insertionSortCmpFunc_int__j1 (next1 : Int → Mem → Prop) (v2 : Int) (σ4 : Mem) : Prop :=
iW (v2 + 1) fun v5 =>
next1 v5 (σ4.bump 3)
def F_slices_insertionSortCmpFunc_int__l2 (a0 : AV) (a1 : Int) (a3 : AV) (k6 : Mem → Prop) (next7 : Int → Mem → Prop) (v8 : Int) (σ9 : Mem) : Prop :=
ifB (decide (a1 < v8)) (
idxW 1 a0 v8 fun v10 =>
ldI (σ9.bump 17) v10 fun v11 =>
iW (v8 - 1) fun v12 =>
idxW 1 a0 v12 fun v13 =>
ldI (σ9.bump 17) v13 fun v14 =>
callvW PG a3 [.int .i64 v11, .int .i64 v14] (σ9.bump 17) fun v15 σ16 =>
castI .i64 v15 fun v17 =>
ifB (decide (v17 < 0)) (
iW (v8 - 1) fun v18 =>
iW (v8 - 1) fun v19 =>
idxW 1 a0 v19 fun v20 =>
ldI (σ16.bump 18) v20 fun v21 =>
idxW 1 a0 v8 fun v22 =>
ldI (σ16.bump 18) v22 fun v23 =>
idxW 1 a0 v8 fun v24 =>
stW 1 (σ16.bump 18) v24 (.int .i64 v21) fun σ25 =>
idxW 1 a0 v18 fun v26 =>
stW 1 σ25 v26 (.int .i64 v23) fun σ27 =>
iW (v8 - 1) fun v28 =>
next7 v28 (σ27.bump 3)) (
k6 σ16)) (
k6 (σ9.bump 17))
def F_slices_insertionSortCmpFunc_int__l1 (a0 : AV) (a1 : Int) (a2 : Int) (a3 : AV) (Q : AV → Mem → Prop) (next1 : Int → Mem → Prop) (v2 : Int) (σ3 : Mem) : Prop :=
ifB (decide (v2 < a2)) (
joinF [] (fun (k6 : Mem → Prop) =>
loopF [tI] (F_slices_insertionSortCmpFunc_int__l2 a0 a1 a3 k6) v2 (σ3.bump 5)) (F_slices_insertionSortCmpFunc_int__j1 next1 v2)) (
Q (.tup []) (σ3.bump 3))
def F_slices_insertionSortCmpFunc_int_ (a0 : AV) (a1 : Int) (a2 : Int) (a3 : AV) (σ : Mem) (Q : AV → Mem → Prop) : Prop :=
iW (a1 + 1) fun v0 =>
loopF [tI] (F_slices_insertionSortCmpFunc_int__l1 a0 a1 a2 a3 Q) v0 (σ.bump 3)
theorem ok_slices_insertionSortCmpFunc_int_ {a0 a1 a2 a3 σ Q} (h : σ.Live → F_slices_insertionSortCmpFunc_int_ a0 a1 a2 a3 σ Q) : ACalls PG n_slices_insertionSortCmpFunc_int_ [a0, .int .i64 a1, .int .i64 a2, a3] σ Q :=
  .of_sem [none, none, some ([0, 1, 2, 3], [8]), none, none, none, none, some ([0, 1, 2, 3, 8], []), some ([0, 1, 2, 3, 8], [9]), none, none, none, none, none, none] [(8, tI), (9, tI), (26, tI), (31, tI), (32, tI), (46, tI), (50, tI)] mixed (by kernel_rfl) (by kernel_rfl) h
/-! slices.symMergeCmpFunc[int] -/
def F_slices_symMergeCmpFunc_int__j1 (next1 : Int → Int → Mem → Prop) (v16 : Int) (v17 : Int) (σ18 : Mem) : Prop :=
next1 v16 v17 σ18
def F_slices_symMergeCmpFunc_int__l2 (a0 : AV) (Q : AV → Mem → Prop) (v2 : Int) (next21 : Int → Mem → Prop) (v22 : Int) (σ23 : Mem) : Prop :=
iW (v2 - 1) fun v24 =>
ifB (decide (v22 < v24)) (
iW (v22 + 1) fun v25 =>
iW (v22 + 1) fun v26 =>
idxW 1 a0 v26 fun v27 =>
ldI (σ23.bump 22) v27 fun v28 =>
idxW 1 a0 v22 fun v29 =>
ldI (σ23.bump 22) v29 fun v30 =>
idxW 1 a0 v22 fun v31 =>
stW 1 (σ23.bump 22) v31 (.int .i64 v28) fun σ32 =>
idxW 1 a0 v25 fun v33 =>
stW 1 σ32 v33 (.int .i64 v30) fun σ34 =>
iW (v22 + 1) fun v35 =>
next21 v35 (σ34.bump 3)) (
Q (.tup []) (σ23.bump 4))
def F_slices_symMergeCmpFunc_int__l1 (a0 : AV) (a1 : Int) (a4 : AV) (Q : AV → Mem → Prop) (next1 : Int → Int → Mem → Prop) (v2 : Int) (v3 : Int) (σ4 : Mem) : Prop :=
ifB (decide (v2 < v3)) (
iW (v2 + v3) fun v5 =>
wrW .u64 v5 fun v6 =>
letW (v6 / 2) fun v7 =>
iW v7 fun v8 =>
idxW 1 a0 v8 fun v9 =>
ldI (σ4.bump 21) v9 fun v10 =>
idxW 1 a0 a1 fun v11 =>
ldI (σ4.bump 21) v11 fun v12 =>
callvW PG a4 [.int .i64 v10, .int .i64 v12] (σ4.bump 21) fun v13 σ14 =>
castI .i64 v13 fun v15 =>
joinF [tI, tI] (fun (k19 : Int → Int → Mem → Prop) =>
ifB (decide (v15 < 0)) (
iW (v8 + 1) fun v20 =>
k19 v20 v3 (σ14.bump 3)) (
k19 v2 v8 (σ14.bump 2))) (F_slices_symMergeCmpFunc_int__j1 next1)) (
loopF [tI] (F_slices_symMergeCmpFunc_int__l2 a0 Q v2) a1 (σ4.bump 5))
def F_slices_symMergeCmpFunc_int__j2 (next37 : Int → Int → Mem → Prop) (v52 : Int) (v53 : Int) (σ54 : Mem) : Prop :=
next37 v52 v53 σ54
def F_slices_symMergeCmpFunc_int__l4 (a0 : AV) (Q : AV → Mem → Prop) (v38 : Int) (next57 : Int → Mem → Prop) (v58 : Int) (σ59 : Mem) : Prop :=
ifB (decide (v38 < v58)) (
iW (v58 - 1) fun v60 =>
iW (v58 - 1) fun v61 =>
idxW 1 a0 v61 fun v62 =>
ldI (σ59.bump 21) v62 fun v63 =>
idxW 1 a0 v58 fun v64 =>
ldI (σ59.bump 21) v64 fun v65 =>
idxW 1 a0 v58 fun v66 =>
stW 1 (σ59.bump 21) v66 (.int .i64 v63) fun σ67 =>
idxW 1 a0 v60 fun v68 =>
stW 1 σ67 v68 (.int .i64 v65) fun σ69 =>
iW (v58 - 1) fun v70 =>
next57 v70 (σ69.bump 3)) (
Q (.tup []) (σ59.bump 3))
def F_slices_symMergeCmpFunc_int__l3 (a0 : AV) (a2 : Int) (a4 : AV) (Q : AV → Mem → Prop) (next37 : Int → Int → Mem → Prop) (v38 : Int) (v39 : Int) (σ40 : Mem) : Prop :=
ifB (decide (v38 < v39)) (
iW (v38 + v39) fun v41 =>
wrW .u64 v41 fun v42 =>
letW (v42 / 2) fun v43 =>
iW v43 fun v44 =>
idxW 1 a0 a2 fun v45 =>
ldI (σ40.bump 22) v45 fun v46 =>
idxW 1 a0 v44 fun v47 =>
ldI (σ40.bump 22) v47 fun v48 =>
callvW PG a4 [.int .i64 v46, .int .i64 v48] (σ40.bump 22) fun v49 σ50 =>
castI .i64 v49 fun v51 =>
joinF [tI, tI] (fun (k55 : Int → Int → Mem → Prop) =>
ifB (!(decide (v51 < 0))) (
iW (v44 + 1) fun v56 =>
k55 v56 v39 (σ50.bump 3)) (
k55 v38 v44 (σ50.bump 2))) (F_slices_symMergeCmpFunc_int__j2 next37)) (
loopF [tI] (F_slices_symMergeCmpFunc_int__l4 a0 Q v38) a2 (σ40.bump 5))
def F_slices_symMergeCmpFunc_int__j4 (next80 : Int → Int → Mem → Prop) (v96 : Int) (v97 : Int) (σ98 : Mem) : Prop :=
next80 v96 v97 σ98
def F_slices_symMergeCmpFunc_int__j7 (Q : AV → Mem → Prop) (σ104 : Mem) : Prop :=
Q (.tup []) σ104
def F_slices_symMergeCmpFunc_int__j8 (Q : AV → Mem → Prop) (σ108 : Mem) : Prop :=
Q (.tup []) σ108
def F_slices_symMergeCmpFunc_int__j6 (a0 : AV) (a3 : Int) (a4 : AV) (Q : AV → Mem → Prop) (v74 : Int) (v101 : Int) (σ103 : Mem) : Prop :=
ifB (decide (v74 < v101)) (
joinF [] (fun (k105 : Mem → Prop) =>
ifB (decide (v101 < a3)) (
callW PG n_slices_symMergeCmpFunc_int_ [a0, .int .i64 v74, .int .i64 v101, .int .i64 a3, a4] (σ103.bump 14) fun v106 σ107 =>
k105 σ107) (
k105 (σ103.bump 8))) (F_slices_symMergeCmpFunc_int__j7 Q)) (
joinF [] (fun (k109 : Mem → Prop) =>
k109 (σ103.bump 8)) (F_slices_symMergeCmpFunc_int__j8 Q))
def F_slices_symMergeCmpFunc_int__j10 (Q : AV → Mem → Prop) (σ114 : Mem) : Prop :=
Q (.tup []) σ114
def F_slices_symMergeCmpFunc_int__j11 (Q : AV → Mem → Prop) (σ118 : Mem) : Prop :=
Q (.tup []) σ118
def F_slices_symMergeCmpFunc_int__j9 (a0 : AV) (a3 : Int) (a4 : AV) (Q : AV → Mem → Prop) (v74 : Int) (v101 : Int) (σ113 : Mem) : Prop :=
ifB (decide (v74 < v101)) (
joinF [] (fun (k115 : Mem → Prop) =>
ifB (decide (v101 < a3)) (
callW PG n_slices_symMergeCmpFunc_int_ [a0, .int .i64 v74, .int .i64 v101, .int .i64 a3, a4] (σ113.bump 14) fun v116 σ117 =>
k115 σ117) (
k115 (σ113.bump 8))) (F_slices_symMergeCmpFunc_int__j10 Q)) (
joinF [] (fun (k119 : Mem → Prop) =>
k119 (σ113.bump 8)) (F_slices_symMergeCmpFunc_int__j11 Q))
def F_slices_symMergeCmpFunc_int__j5 (a0 : AV) (a1 : Int) (a3 : Int) (a4 : AV) (Q : AV → Mem → Prop) (v74 : Int) (v81 : Int) (v101 : Int) (σ102 : Mem) : Prop :=
ifB (decide (a1 < v81)) (
joinF [] (fun (k110 : Mem → Prop) =>
ifB (decide (v81 < v74)) (
callW PG n_slices_symMergeCmpFunc_int_ [a0, .int .i64 a1, .int .i64 v81, .int .i64 v74, a4] (σ102.bump 14) fun v111 σ112 =>
k110 σ112) (
k110 (σ102.bump 8))) (F_slices_symMergeCmpFunc_int__j6 a0 a3 a4 Q v74 v101)) (
joinF [] (fun (k120 : Mem → Prop) =>
k120 (σ102.bump 8)) (F_slices_symMergeCmpFunc_int__j9 a0 a3 a4 Q v74 v101))
def F_slices_symMergeCmpFunc_int__j14 (Q : AV → Mem → Prop) (σ126 : Mem) : Prop :=
Q (.tup []) σ126
def F_slices_symMergeCmpFunc_int__j15 (Q : AV → Mem → Prop) (σ130 : Mem) : Prop :=
Q (.tup []) σ130
def F_slices_symMergeCmpFunc_int__j13 (a0 : AV) (a3 : Int) (a4 : AV) (Q : AV → Mem → Prop) (v74 : Int) (v101 : Int) (σ125 : Mem) : Prop :=
ifB (decide (v74 < v101)) (
joinF [] (fun (k127 : Mem → Prop) =>
ifB (decide (v101 < a3)) (
callW PG n_slices_symMergeCmpFunc_int_ [a0, .int .i64 v74, .int .i64 v101, .int .i64 a3, a4] (σ125.bump 14) fun v128 σ129 =>
k127 σ129) (
k127 (σ125.bump 8))) (F_slices_symMergeCmpFunc_int__j14 Q)) (
joinF [] (fun (k131 : Mem → Prop) =>
k131 (σ125.bump 8)) (F_slices_symMergeCmpFunc_int__j15 Q))
def F_slices_symMergeCmpFunc_int__j17 (Q : AV → Mem → Prop) (σ136 : Mem) : Prop :=
Q (.tup []) σ136
def F_slices_symMergeCmpFunc_int__j18 (Q : AV → Mem → Prop) (σ140 : Mem) : Prop :=
Q (.tup []) σ140
def F_slices_symMergeCmpFunc_int__j16 (a0 : AV) (a3 : Int) (a4 : AV) (Q : AV → Mem → Prop) (v74 : Int) (v101 : Int) (σ135 : Mem) : Prop :=
ifB (decide (v74 < v101)) (
joinF [] (fun (k137 : Mem → Prop) =>
ifB (decide (v101 < a3)) (
callW PG n_slices_symMergeCmpFunc_int_ [a0, .int .i64 v74, .int .i64 v101, .int .i64 a3, a4] (σ135.bump 14) fun v138 σ139 =>
k137 σ139) (
k137 (σ135.bump 8))) (F_slices_symMergeCmpFunc_int__j17 Q)) (
joinF [] (fun (k141 : Mem → Prop) =>
k141 (σ135.bump 8)) (F_slices_symMergeCmpFunc_int__j18 Q))
def F_slices_symMergeCmpFunc_int__j12 (a0 : AV) (a1 : Int) (a3 : Int) (a4 : AV) (Q : AV → Mem → Prop) (v74 : Int) (v81 : Int) (v101 : Int) (σ124 : Mem) : Prop :=
ifB (decide (a1 < v81)) (
joinF [] (fun (k132 : Mem → Prop) =>
ifB (decide (v81 < v74)) (
callW PG n_slices_symMergeCmpFunc_int_ [a0, .int .i64 a1, .int .i64 v81, .int .i64 v74, a4] (σ124.bump 14) fun v133 σ134 =>
k132 σ134) (
k132 (σ124.bump 8))) (F_slices_symMergeCmpFunc_int__j13 a0 a3 a4 Q v74 v101)) (
joinF [] (fun (k142 : Mem → Prop) =>
k142 (σ124.bump 8)) (F_slices_symMergeCmpFunc_int__j16 a0 a3 a4 Q v74 v101))
def F_slices_symMergeCmpFunc_int__l5 (a0 : AV) (a1 : Int) (a2 : Int) (a3 : Int) (a4 : AV) (Q : AV → Mem → Prop) (v74 : Int) (v75 : Int) (v79 : Int) (next80 : Int → Int → Mem → Prop) (v81 : Int) (v82 : Int) (σ83 : Mem) : Prop :=
ifB (decide (v81 < v82)) (
iW (v81 + v82) fun v84 =>
wrW .u64 v84 fun v85 =>
letW (v85 / 2) fun v86 =>
iW v86 fun v87 =>
iW (v79 - v87) fun v88 =>
idxW 1 a0 v88 fun v89 =>
ldI (σ83.bump 24) v89 fun v90 =>
idxW 1 a0 v87 fun v91 =>
ldI (σ83.bump 24) v91 fun v92 =>
callvW PG a4 [.int .i64 v90, .int .i64 v92] (σ83.bump 24) fun v93 σ94 =>
castI .i64 v93 fun v95 =>
joinF [tI, tI] (fun (k99 : Int → Int → Mem → Prop) =>
ifB (!(decide (v95 < 0))) (
iW (v87 + 1) fun v100 =>
k99 v100 v82 (σ94.bump 3)) (
k99 v81 v87 (σ94.bump 2))) (F_slices_symMergeCmpFunc_int__j4 next80)) (
iW (v75 - v81) fun v101 =>
ifB (decide (v81 < a2)) (
joinF [] (fun (k121 : Mem → Prop) =>
ifB (decide (a2 < v101)) (
callW PG n_slices_rotateCmpFunc_int_ [a0, .int .i64 v81, .int .i64 a2, .int .i64 v101, a4] (σ83.bump 21) fun v122 σ123 =>
k121 σ123) (
k121 (σ83.bump 15))) (F_slices_symMergeCmpFunc_int__j5 a0 a1 a3 a4 Q v74 v81 v101)) (
joinF [] (fun (k143 : Mem → Prop) =>
k143 (σ83.bump 15)) (F_slices_symMergeCmpFunc_int__j12 a0 a1 a3 a4 Q v74 v81 v101)))
def F_slices_symMergeCmpFunc_int__j3 (a0 : AV) (a1 : Int) (a2 : Int) (a3 : Int) (a4 : AV) (Q : AV → Mem → Prop) (v74 : Int) (v75 : Int) (v76 : Int) (v77 : Int) (σ78 : Mem) : Prop :=
iW (v75 - 1) fun v79 =>
loopF [tI, tI] (F_slices_symMergeCmpFunc_int__l5 a0 a1 a2 a3 a4 Q v74 v75 v79) v76 v77 (σ78.bump 3)
def F_slices_symMergeCmpFunc_int_ (a0 : AV) (a1 : Int) (a2 : Int) (a3 : Int) (a4 : AV) (σ : Mem) (Q : AV → Mem → Prop) : Prop :=
iW (a2 - a1) fun v0 =>
ifB (decide (v0 = 1)) (
loopF [tI, tI] (F_slices_symMergeCmpFunc_int__l1 a0 a1 a4 Q) a2 a3 (σ.bump 8)) (
iW (a3 - a2) fun v36 =>
ifB (decide (v36 = 1)) (
loopF [tI, tI] (F_slices_symMergeCmpFunc_int__l3 a0 a2 a4 Q) a1 a2 (σ.bump 12)) (
iW (a1 + a3) fun v71 =>
wrW .u64 v71 fun v72 =>
letW (v72 / 2) fun v73 =>
iW v73 fun v74 =>
iW (v74 + a2) fun v75 =>
joinF [tI, tI] (fun (k144 : Int → Int → Mem → Prop) =>
ifB (decide (v74 < a2)) (
iW (v75 - a3) fun v145 =>
k144 v145 v74 (σ.bump 30)) (
k144 a1 a2 (σ.bump 28))) (F_slices_symMergeCmpFunc_int__j3 a0 a1 a2 a3 a4 Q v74 v75)))
theorem ok_slices_symMergeCmpFunc_int_ {a0 a1 a2 a3 a4 σ Q} (h : σ.Live → F_slices_symMergeCmpFunc_int_ a0 a1 a2 a3 a4 σ Q) : ACalls PG n_slices_symMergeCmpFunc_int_ [a0, .int .i64 a1, .int .i64 a2, .int .i64 a3, a4] σ Q :=
  .of_sem [none, none, none, none, none, some ([0, 1, 4], [10, 11]), none, none, none, none, none, some ([0, 1, 4], [10, 11]), none, none, none, none, some ([0, 10], [13]), none, none, none, none, none, none, none, none, none, none, some ([0, 2, 4], [14, 15]), none, none, none, none, none, some ([0, 2, 4], [14, 15]), none, none, none, none, some ([0, 14], [17]), none, none, none, none, none, none, none, none, none, some ([0, 1, 2, 3, 4, 18, 19], [20, 21]), none, none, none, none, none, none, some ([0, 1, 2, 3, 4, 18, 19, 22], [20, 21]), none, none, none, none, none, some ([0, 1, 2, 3, 4, 18, 19, 22], [20, 21]), none, none, none, none, some ([0, 1, 3, 4, 18, 20, 24], []), none, none, some ([0, 3, 4, 18, 24], []), none, none, some ([], []), none] [(10, tI), (11, tI), (44, tI), (48, tI), (49, tI), (13, tI), (70, tI), (74, tI), (14, tI), (15, tI), (96, tI), (100, tI), (101, tI), (17, tI), (122, tI), (126, tI), (20, tI), (21, tI), (164, tI), (168, tI), (169, tI)] mixed (by kernel_rfl) (by kernel_rfl) h
/-! slices.rotateCmpFunc[vitrine/huff.item] -/
def F_slices_rotateCmpFunc_huff_item__j1 (next2 : Int → Int → Mem → Prop) (v6 : Int) (v7 : Int) (σ8 : Mem) : Prop :=
next2 v6 v7 σ8
def F_slices_rotateCmpFunc_huff_item__l1 (a0 : AV) (a2 : Int) (a4 : AV) (Q : AV → Mem → Prop) (next2 : Int → Int → Mem → Prop) (v3 : Int) (v4 : Int) (σ5 : Mem) : Prop :=
ifB (decide (v3 ≠ v4)) (
joinF [tI, tI] (fun (k9 : Int → Int → Mem → Prop) =>
ifB (decide (v4 < v3)) (
iW (a2 - v3) fun v10 =>
callW PG n_slices_swapRangeCmpFunc_huff_item_ [a0, .int .i64 v10, .int .i64 a2, .int .i64 v4, a4] (σ5.bump 14) fun v11 σ12 =>
iW (v3 - v4) fun v13 =>
k9 v13 v4 (σ12.bump 4)) (
iW (a2 - v3) fun v14 =>
iW (a2 + v4) fun v15 =>
iW (v15 - v3) fun v16 =>
callW PG n_slices_swapRangeCmpFunc_huff_item_ [a0, .int .i64 v14, .int .i64 v16, .int .i64 v3, a4] (σ5.bump 18) fun v17 σ18 =>
iW (v4 - v3) fun v19 =>
k9 v3 v19 (σ18.bump 4))) (F_slices_rotateCmpFunc_huff_item__j1 next2)) (
iW (a2 - v3) fun v20 =>
callW PG n_slices_swapRangeCmpFunc_huff_item_ [a0, .int .i64 v20, .int .i64 a2, .int .i64 v3, a4] (σ5.bump 11) fun v21 σ22 =>
Q (.tup []) σ22)
def F_slices_rotateCmpFunc_huff_item_ (a0 : AV) (a1 : Int) (a2 : Int) (a3 : Int) (a4 : AV) (σ : Mem) (Q : AV → Mem → Prop) : Prop :=
iW (a2 - a1) fun v0 =>
iW (a3 - a2) fun v1 =>
loopF [tI, tI] (F_slices_rotateCmpFunc_huff_item__l1 a0 a2 a4 Q) v0 v1 (σ.bump 8)
theorem ok_slices_rotateCmpFunc_huff_item_ {a0 a1 a2 a3 a4 σ Q} (h : σ.Live → F_slices_rotateCmpFunc_huff_item_ a0 a1 a2 a3 a4 σ Q) : ACalls PG n_slices_rotateCmpFunc_huff_item_ [a0, .int .i64 a1, .int .i64 a2, .int .i64 a3, a4] σ Q :=
  .of_sem [none, none, none, some ([0, 2, 4], [10, 11]), none, none, none, none, some ([0, 2, 4], [10, 11]), none, none, none, none, none] [(10, tI), (11, tI)] mixed (by kernel_rfl) (by kernel_rfl) h
/-! slices.rotateCmpFunc[int] -/
def F_slices_rotateCmpFunc_int__j1 (next2 : Int → Int → Mem → Prop) (v6 : Int) (v7 : Int) (σ8 : Mem) : Prop :=
next2 v6 v7 σ8
def F_slices_rotateCmpFunc_int__l1 (a0 : AV) (a2 : Int) (a4 : AV) (Q : AV → Mem → Prop) (next2 : Int → Int → Mem → Prop) (v3 : Int) (v4 : Int) (σ5 : Mem) : Prop :=
ifB (decide (v3 ≠ v4)) (
joinF [tI, tI] (fun (k9 : Int → Int → Mem → Prop) =>
ifB (decide (v4 < v3)) (
iW (a2 - v3) fun v10 =>
callW PG n_slices_swapRangeCmpFunc_int_ [a0, .int .i64 v10, .int .i64 a2, .int .i64 v4, a4] (σ5.bump 14) fun v11 σ12 =>
iW (v3 - v4) fun v13 =>
k9 v13 v4 (σ12.bump 4)) (
iW (a2 - v3) fun v14 =>
iW (a2 + v4) fun v15 =>
iW (v15 - v3) fun v16 =>
callW PG n_slices_swapRangeCmpFunc_int_ [a0, .int .i64 v14, .int .i64 v16, .int .i64 v3, a4] (σ5.bump 18) fun v17 σ18 =>
iW (v4 - v3) fun v19 =>
k9 v3 v19 (σ18.bump 4))) (F_slices_rotateCmpFunc_int__j1 next2)) (
iW (a2 - v3) fun v20 =>
callW PG n_slices_swapRangeCmpFunc_int_ [a0, .int .i64 v20, .int .i64 a2, .int .i64 v3, a4] (σ5.bump 11) fun v21 σ22 =>
Q (.tup []) σ22)
def F_slices_rotateCmpFunc_int_ (a0 : AV) (a1 : Int) (a2 : Int) (a3 : Int) (a4 : AV) (σ : Mem) (Q : AV → Mem → Prop) : Prop :=
iW (a2 - a1) fun v0 =>
iW (a3 - a2) fun v1 =>
loopF [tI, tI] (F_slices_rotateCmpFunc_int__l1 a0 a2 a4 Q) v0 v1 (σ.bump 8)
theorem ok_slices_rotateCmpFunc_int_ {a0 a1 a2 a3 a4 σ Q} (h : σ.Live → F_slices_rotateCmpFunc_int_ a0 a1 a2 a3 a4 σ Q) : ACalls PG n_slices_rotateCmpFunc_int_ [a0, .int .i64 a1, .int .i64 a2, .int .i64 a3, a4] σ Q :=
  .of_sem [none, none, none, some ([0, 2, 4], [10, 11]), none, none, none, none, some ([0, 2, 4], [10, 11]), none, none, none, none, none] [(10, tI), (11, tI)] mixed (by kernel_rfl) (by kernel_rfl) h
/-! slices.swapRangeCmpFunc[vitrine/huff.item] -/
def F_slices_swapRangeCmpFunc_huff_item__l1 (a0 : AV) (a1 : Int) (a2 : Int) (a3 : Int) (Q : AV → Mem → Prop) (next0 : Int → Mem → Prop) (v1 : Int) (σ2 : Mem) : Prop :=
ifB (decide (v1 < a3)) (
iW (a1 + v1) fun v3 =>
iW (a2 + v1) fun v4 =>
iW (a2 + v1) fun v5 =>
idxW 3 a0 v5 fun v6 =>
ldnW 3 (σ2.bump 27) v6 fun v7 =>
iW (a1 + v1) fun v8 =>
idxW 3 a0 v8 fun v9 =>
ldnW 3 (σ2.bump 27) v9 fun v10 =>
idxW 3 a0 v3 fun v11 =>
stW 3 (σ2.bump 27) v11 v7 fun σ12 =>
idxW 3 a0 v4 fun v13 =>
stW 3 σ12 v13 v10 fun σ14 =>
iW (v1 + 1) fun v15 =>
next0 v15 (σ14.bump 3)) (
Q (.tup []) (σ2.bump 3))
def F_slices_swapRangeCmpFunc_huff_item_ (a0 : AV) (a1 : Int) (a2 : Int) (a3 : Int) (a4 : AV) (σ : Mem) (Q : AV → Mem → Prop) : Prop :=
loopF [tI] (F_slices_swapRangeCmpFunc_huff_item__l1 a0 a1 a2 a3 Q) 0 (σ.bump 1)
theorem ok_slices_swapRangeCmpFunc_huff_item_ {a0 a1 a2 a3 a4 σ Q} (h : σ.Live → F_slices_swapRangeCmpFunc_huff_item_ a0 a1 a2 a3 a4 σ Q) : ACalls PG n_slices_swapRangeCmpFunc_huff_item_ [a0, .int .i64 a1, .int .i64 a2, .int .i64 a3, a4] σ Q :=
  .of_sem [none, none, some ([0, 1, 2, 3], [10]), none, none, none, none, none] [(10, tI)] mixed (by kernel_rfl) (by kernel_rfl) h
/-! slices.swapRangeCmpFunc[int] -/
def F_slices_swapRangeCmpFunc_int__l1 (a0 : AV) (a1 : Int) (a2 : Int) (a3 : Int) (Q : AV → Mem → Prop) (next0 : Int → Mem → Prop) (v1 : Int) (σ2 : Mem) : Prop :=
ifB (decide (v1 < a3)) (
iW (a1 + v1) fun v3 =>
iW (a2 + v1) fun v4 =>
iW (a2 + v1) fun v5 =>
idxW 1 a0 v5 fun v6 =>
ldI (σ2.bump 27) v6 fun v7 =>
iW (a1 + v1) fun v8 =>
idxW 1 a0 v8 fun v9 =>
ldI (σ2.bump 27) v9 fun v10 =>
idxW 1 a0 v3 fun v11 =>
stW 1 (σ2.bump 27) v11 (.int .i64 v7) fun σ12 =>
idxW 1 a0 v4 fun v13 =>
stW 1 σ12 v13 (.int .i64 v10) fun σ14 =>
iW (v1 + 1) fun v15 =>
next0 v15 (σ14.bump 3)) (
Q (.tup []) (σ2.bump 3))
def F_slices_swapRangeCmpFunc_int_ (a0 : AV) (a1 : Int) (a2 : Int) (a3 : Int) (a4 : AV) (σ : Mem) (Q : AV → Mem → Prop) : Prop :=
loopF [tI] (F_slices_swapRangeCmpFunc_int__l1 a0 a1 a2 a3 Q) 0 (σ.bump 1)
theorem ok_slices_swapRangeCmpFunc_int_ {a0 a1 a2 a3 a4 σ Q} (h : σ.Live → F_slices_swapRangeCmpFunc_int_ a0 a1 a2 a3 a4 σ Q) : ACalls PG n_slices_swapRangeCmpFunc_int_ [a0, .int .i64 a1, .int .i64 a2, .int .i64 a3, a4] σ Q :=
  .of_sem [none, none, some ([0, 1, 2, 3], [10]), none, none, none, none, none] [(10, tI), (29, tI), (35, tI)] mixed (by kernel_rfl) (by kernel_rfl) h
end Go.Vit
