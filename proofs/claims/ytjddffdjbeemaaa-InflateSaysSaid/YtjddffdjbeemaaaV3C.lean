/- The functions, as printed conditions. -/
import Derived.Test.YtjddffdjbeemaaaVm2
import Derived.Test.YtjddffdjbeemaaaChecked
import Derived.KernelRfl
set_option linter.unusedVariables false
set_option linter.unusedSimpArgs false
set_option linter.unusedVariables false
set_option maxRecDepth 100000
namespace Go.Vit
open Go.Proofs
noncomputable abbrev PG : Program := Try.prog
theorem mixed : PG.follows .mixedOrders = true := by kernel_rfl
abbrev n_law03_InflateSays : Nat := 3
abbrev n_law03_awake : Nat := 6
abbrev n_inflate_Inflate : Nat := 7
abbrev n_ref03_Inflate : Nat := 8
abbrev n_bits_Read : Nat := 9
abbrev n_inflate_stream_several : Nat := 10
abbrev n_inflate_stream_stored : Nat := 11
abbrev n_inflate_fixed : Nat := 12
abbrev n_inflate_stream_dynamic : Nat := 13
abbrev n_huff_Make : Nat := 14
abbrev n_huff_Table_Next : Nat := 15
abbrev n_inflate_stream_room : Nat := 16
abbrev n_inflate_stream_match : Nat := 17
abbrev n_bits_Reader_Left : Nat := 18
abbrev n_ref03_inflater_bits : Nat := 19
abbrev n_ref03_inflater_stored : Nat := 20
abbrev n_ref03_Fixed : Nat := 21
abbrev n_ref03_inflater_symbols : Nat := 22
abbrev n_ref03_inflater_lens : Nat := 23
abbrev n_bits_Reader_Bits : Nat := 24
abbrev n_inflate_stream_pair : Nat := 25
abbrev n_bits_Reader_Bytes : Nat := 26
abbrev n_inflate_stream_small : Nat := 27
abbrev n_inflate_stream_run : Nat := 28
abbrev n_huff_Codes : Nat := 29
abbrev n_slices_Clone___int_int_ : Nat := 30
abbrev n_huff_counted : Nat := 31
abbrev n_slices_SortStableFunc___int_int_ : Nat := 32
abbrev n_huff_Make_1 : Nat := 33
abbrev n_cmp_Compare_int_ : Nat := 34
abbrev n_inflate_stream_length : Nat := 35
abbrev n_inflate_stream_distance : Nat := 36
abbrev n_ref01_Reader_Bits : Nat := 37
abbrev n_ref03_inflater_bytes : Nat := 38
abbrev n_ref03_inflater_table : Nat := 39
abbrev n_ref03_inflater_next : Nat := 40
abbrev n_ref03_Length : Nat := 41
abbrev n_ref03_Distance : Nat := 42
abbrev n_ref03_Order : Nat := 43
abbrev n_huff_Check : Nat := 44
abbrev n_huff_first : Nat := 45
abbrev n_slices_stableCmpFunc_int_ : Nat := 46
abbrev n_cmp_isNaN_int_ : Nat := 47
abbrev n_ref01_Reader_Left : Nat := 48
abbrev n_ref01_Reader_Bytes : Nat := 49
abbrev n_ref02_Make : Nat := 50
abbrev n_ref02_Table_Next : Nat := 51
abbrev n_ref03_lengthBits : Nat := 52
abbrev n_ref03_distanceBits : Nat := 53
abbrev n_slices_ContainsFunc___int_int_ : Nat := 54
abbrev n_huff_Check_1 : Nat := 55
abbrev n_slices_insertionSortCmpFunc_int_ : Nat := 56
abbrev n_slices_symMergeCmpFunc_int_ : Nat := 57
abbrev n_ref02_Codes : Nat := 58
abbrev n_ref02_sum : Nat := 59
abbrev n_slices_IndexFunc___int_int_ : Nat := 60
abbrev n_slices_rotateCmpFunc_int_ : Nat := 61
abbrev n_ref02_Check : Nat := 62
abbrev n_slices_swapRangeCmpFunc_int_ : Nat := 63
/-! vitrine/vitrinelaw03.InflateSays -/
def F_law03_InflateSays (a0 : ByteArray) (a1 : Int) (σ : Mem) (Q : AV → Mem → Prop) : Prop :=
ifB (decide (20000 < (a0.size : Int))) (
callW PG n_law03_awake [] (σ.bump 10) fun v0 σ1 =>
castB v0 fun v2 =>
Q (.bool v2) σ1) (
ifB (decide (100000 < a1)) (
callW PG n_law03_awake [] (σ.bump 10) fun v3 σ4 =>
castB v3 fun v5 =>
Q (.bool v5) σ4) (
callW PG n_inflate_Inflate [.str a0, .int .i64 a1] (σ.bump 18) fun v6 σ7 =>
tpS v6 0 fun v8 =>
tpI v6 1 fun v9 =>
tpI v6 2 fun v10 =>
callW PG n_ref03_Inflate [.str a0, .int .i64 a1] (σ7.bump 10) fun v11 σ12 =>
tpS v11 0 fun v13 =>
tpI v11 1 fun v14 =>
tpI v11 2 fun v15 =>
ifB (decide (v8 = v13)) (
ifB (decide (v9 = v14)) (
ifB (decide (v10 = v15)) (
callW PG n_law03_awake [] (σ12.bump 17) fun v16 σ17 =>
castB v16 fun v18 =>
Q (.bool v18) σ17) (
Q (.bool false) (σ12.bump 17))) (
Q (.bool false) (σ12.bump 17))) (
Q (.bool false) (σ12.bump 17))))
theorem ok_law03_InflateSays {a0 a1 σ Q} (h : σ.Live → F_law03_InflateSays a0 a1 σ Q) : ACalls PG n_law03_InflateSays [.str a0, .int .i64 a1] σ Q :=
  .of_sem [none, none, none, none, none, none, none] [(18, .b), (23, .s), (24, tI), (25, tI), (30, .s), (31, tI), (32, tI), (47, .b)] mixed (by kernel_rfl) (by kernel_rfl) h
/-! vitrine/vitrinelaw03.InflateFront -/
/-! vitrine/vitrinelaw03.InflateBound -/
/-! vitrine/vitrinelaw03.awake -/
def F_law03_awake (σ : Mem) (Q : AV → Mem → Prop) : Prop :=
callW PG n_inflate_Inflate [.str ⟨#[1, 2, 0, 253, 255, 97, 98]⟩, .int .i64 9] (σ.bump 9) fun v0 σ1 =>
tpS v0 0 fun v2 =>
tpI v0 1 fun v3 =>
tpI v0 2 fun v4 =>
callW PG n_inflate_Inflate [.str ⟨#[3, 0]⟩, .int .i64 9] (σ1.bump 8) fun v5 σ6 =>
tpS v5 0 fun v7 =>
tpI v5 1 fun v8 =>
tpI v5 2 fun v9 =>
callW PG n_inflate_Inflate [.str ⟨#[75, 4, 0]⟩, .int .i64 1] (σ6.bump 8) fun v10 σ11 =>
tpS v10 0 fun v12 =>
tpI v10 1 fun v13 =>
tpI v10 2 fun v14 =>
callW PG n_inflate_Inflate [.str ⟨#[7]⟩, .int .i64 9] (σ11.bump 8) fun v15 σ16 =>
tpS v15 0 fun v17 =>
tpI v15 1 fun v18 =>
tpI v15 2 fun v19 =>
callW PG n_inflate_Inflate [.str ⟨#[1, 2, 0, 253, 254]⟩, .int .i64 9] (σ16.bump 8) fun v20 σ21 =>
tpS v20 0 fun v22 =>
tpI v20 1 fun v23 =>
tpI v20 2 fun v24 =>
ifB (decide (v2 = ⟨#[97, 98]⟩)) (
ifB (decide (v3 = 7)) (
ifB (decide (v4 = 0)) (
ifB (decide (v7 = ⟨#[]⟩)) (
ifB (decide (v8 = 2)) (
ifB (decide (v9 = 0)) (
ifB (decide (v12 = ⟨#[97]⟩)) (
ifB (decide (v13 = 3)) (
ifB (decide (v14 = 0)) (
ifB (decide (v19 = 13)) (
Q (.bool (decide (v24 = 14))) (σ21.bump 43)) (
Q (.bool false) (σ21.bump 43))) (
Q (.bool false) (σ21.bump 43))) (
Q (.bool false) (σ21.bump 43))) (
Q (.bool false) (σ21.bump 43))) (
Q (.bool false) (σ21.bump 43))) (
Q (.bool false) (σ21.bump 43))) (
Q (.bool false) (σ21.bump 43))) (
Q (.bool false) (σ21.bump 43))) (
Q (.bool false) (σ21.bump 43))) (
Q (.bool false) (σ21.bump 43))
theorem ok_law03_awake {σ Q} (h : σ.Live → F_law03_awake σ Q) : ACalls PG n_law03_awake [] σ Q :=
  .of_sem [none, none, none, none, none, none, none] [(18, .s), (19, tI), (20, tI), (23, .s), (24, tI), (25, tI), (28, .s), (29, tI), (30, tI), (33, .s), (34, tI), (35, tI), (38, .s), (39, tI), (40, tI)] mixed (by kernel_rfl) (by kernel_rfl) h
/-! vitrine/inflate.Inflate -/
def F_inflate_Inflate_j1 (next3 : Bool → Mem → Prop) (v6 : Bool) (σ7 : Mem) : Prop :=
next3 v6 σ7
def F_inflate_Inflate_j3 (Q : AV → Mem → Prop) (next32 : Mem → Prop) (v39 : Int) (σ40 : Mem) : Prop :=
ifB (decide (v39 ≠ 0)) (
Q (.tup [.str ⟨#[]⟩, .int .i64 0, .int .i64 v39]) (σ40.bump 6)) (
next32 (σ40.bump 2))
def F_inflate_Inflate_j4 (k41 : Int → Mem → Prop) (v42 : Int) (σ43 : Mem) : Prop :=
k41 v42 σ43
def F_inflate_Inflate_j5 (k44 : Int → Mem → Prop) (v47 : Int) (σ48 : Mem) : Prop :=
k44 v47 σ48
def F_inflate_Inflate_l2 (Q : AV → Mem → Prop) (σ : Mem) (k8 : Bool → Mem → Prop) (v15 : Int) (v26 : AV) (v30 : AV) (next32 : Mem → Prop) (σ33 : Mem) : Prop :=
lfW 0 (σ33.bump 11) (.ptr (σ.next + 7) 0) fun v34 =>
callW PG n_huff_Table_Next [v26, v34] (σ33.bump 11) fun v35 σ36 =>
tpI v35 0 fun v37 =>
tpI v35 1 fun v38 =>
joinF [tI] (fun (k41 : Int → Mem → Prop) =>
ifB (decide (v38 ≠ 0)) (
k41 v38 (σ36.bump 3)) (
joinF [tI] (fun (k44 : Int → Mem → Prop) =>
ifB (decide (v37 < 256)) (
callW PG n_inflate_stream_room [.ptr (σ.next + 7) 0, .int .i64 1] (σ36.bump 9) fun v45 σ46 =>
castI .i64 v45 fun v47 =>
joinF [] (fun (k49 : Mem → Prop) =>
ifB (decide (v47 = 0)) (
lfW 1 (σ46.bump 14) (.ptr (σ.next + 7) 0) fun v50 =>
wrW .u8 v37 fun v51 =>
newW (σ46.bump 14) (σ46.next + 9) (.rw [.int .u8 v51]) fun σ52 =>
apW 1 1 (σ46.next + 10) σ52 v50 (.slice (σ46.next + 9) 0 1 (.ex 1)) fun v53 σ54 =>
nfW 1 (.ptr (σ.next + 7) 0) fun v55 =>
stW 1 σ54 v55 v53 fun σ56 =>
k49 σ56) (
k49 (σ46.bump 2))) (F_inflate_Inflate_j5 k44 v47)) (
ifB (decide (v37 = 256)) (
k8 (decide (v15 = 1)) (σ36.bump 9)) (
callW PG n_inflate_stream_match [.ptr (σ.next + 7) 0, .int .i64 v37, v30] (σ36.bump 14) fun v57 σ58 =>
castI .i64 v57 fun v59 =>
k44 v59 σ58))) (F_inflate_Inflate_j4 k41))) (F_inflate_Inflate_j3 Q next32)
def F_inflate_Inflate_j2 (Q : AV → Mem → Prop) (σ : Mem) (k8 : Bool → Mem → Prop) (v15 : Int) (v21 : AV) (v22 : AV) (σ23 : Mem) : Prop :=
callW PG n_huff_Make [v21] (σ23.bump 7) fun v24 σ25 =>
tupW v24 0 fun v26 =>
tpI v24 1 fun v27 =>
ifB (decide (v27 ≠ 0)) (
Q (.tup [.str ⟨#[]⟩, .int .i64 0, .int .i64 v27]) (σ25.bump 6)) (
callW PG n_huff_Make [v22] (σ25.bump 9) fun v28 σ29 =>
tupW v28 0 fun v30 =>
tpI v28 1 fun v31 =>
ifB (decide (v31 ≠ 0)) (
Q (.tup [.str ⟨#[]⟩, .int .i64 0, .int .i64 v31]) (σ29.bump 6)) (
loopF [] (F_inflate_Inflate_l2 Q σ k8 v15 v26 v30) (σ29.bump 2)))
def F_inflate_Inflate_l1 (a0 : ByteArray) (Q : AV → Mem → Prop) (σ : Mem) (next3 : Bool → Mem → Prop) (v4 : Bool) (σ5 : Mem) : Prop :=
ifB (!v4) (
joinF [.b] (fun (k8 : Bool → Mem → Prop) =>
newW (σ5.bump 10) (σ5.next + 3) (.rw [.int .i64 1, .int .i64 2]) fun σ9 =>
callW PG n_inflate_stream_several [.ptr (σ.next + 7) 0, .slice (σ5.next + 3) 0 2 (.ex 2)] σ9 fun v10 σ11 =>
tupW v10 0 fun v12 =>
tpI v10 1 fun v13 =>
ifB (decide (v13 ≠ 0)) (
Q (.tup [.str ⟨#[]⟩, .int .i64 0, .int .i64 v13]) (σ11.bump 6)) (
idxW 1 v12 0 fun v14 =>
ldI (σ11.bump 7) v14 fun v15 =>
idxW 1 v12 1 fun v16 =>
ldI (σ11.bump 12) v16 fun v17 =>
ifB (decide (v17 = 0)) (
callW PG n_inflate_stream_stored [.ptr (σ.next + 7) 0] (σ11.bump 17) fun v18 σ19 =>
castI .i64 v18 fun v20 =>
ifB (decide (v20 ≠ 0)) (
Q (.tup [.str ⟨#[]⟩, .int .i64 0, .int .i64 v20]) (σ19.bump 6)) (
k8 (decide (v15 = 1)) (σ19.bump 2))) (
joinF [.v, .v] (fun (k60 : AV → AV → Mem → Prop) =>
ifB (decide (v17 = 1)) (
callW PG n_inflate_fixed [] (σ11.bump 22) fun v61 σ62 =>
tupW v61 0 fun v63 =>
tupW v61 1 fun v64 =>
k60 v63 v64 σ62) (
ifB (decide (v17 = 2)) (
callW PG n_inflate_stream_dynamic [.ptr (σ.next + 7) 0] (σ11.bump 27) fun v65 σ66 =>
tupW v65 0 fun v67 =>
tupW v65 1 fun v68 =>
tpI v65 2 fun v69 =>
ifB (decide (v69 ≠ 0)) (
Q (.tup [.str ⟨#[]⟩, .int .i64 0, .int .i64 v69]) (σ66.bump 6)) (
k60 v67 v68 (σ66.bump 2))) (
Q (.tup [.str ⟨#[]⟩, .int .i64 0, .int .i64 13]) (σ11.bump 21)))) (F_inflate_Inflate_j2 Q σ k8 v15)))) (F_inflate_Inflate_j1 next3)) (
nfW 1 (.ptr (σ.next + 7) 0) fun v70 =>
ldW (σ5.bump 19) v70 fun v71 =>
bstrW (σ5.bump 19) v71 fun v72 =>
lfW 0 (σ5.bump 19) (.ptr (σ.next + 7) 0) fun v73 =>
callW PG n_bits_Reader_Left [v73] (σ5.bump 19) fun v74 σ75 =>
fltS.sameW (σ5.bump 19) σ75 v70 (
fltS.sameW (σ5.bump 19) σ75 v71 (
castI .i64 v74 fun v76 =>
quoW .i64 v76 8 fun v77 =>
iW ((a0.size : Int) - v77) fun v78 =>
Q (.tup [.str v72, .int .i64 v78, .int .i64 0]) σ75)))
def F_inflate_Inflate (a0 : ByteArray) (a1 : Int) (σ : Mem) (Q : AV → Mem → Prop) : Prop :=
callW PG n_bits_Read [.str a0] (σ.bump 9) fun v0 σ1 =>
cellOkW v0 1 (
boxW (.agg (setAt (setAt [.nilp, .nils, .int .i64 0] 0 v0.cells) 2 [.int .i64 a1])) (
newW σ1 (σ.next + 7) (.rw (setAt (setAt [.nilp, .nils, .int .i64 0] 0 v0.cells) 2 [.int .i64 a1])) fun σ2 =>
loopF [.b] (F_inflate_Inflate_l1 a0 Q σ) false (σ2.bump 1)))
theorem ok_inflate_Inflate {a0 a1 σ Q} (h : σ.Live → F_inflate_Inflate a0 a1 σ Q) : ACalls PG n_inflate_Inflate [.str a0, .int .i64 a1] σ Q :=
  .of_sem [none, none, none, none, some ([0, 7], [8]), none, none, some ([0, 7], [8]), none, none, none, none, none, none, none, none, none, none, none, none, none, none, none, some ([0, 7, 8], [11, 12]), none, none, none, none, none, none, none, none, none, none, none, none, none, none, none, none, none, some ([0, 7, 8, 14, 15], []), none, none, none, none, some ([0, 7, 8, 14, 15], [17]), none, some ([0, 7, 8, 14, 15], [17]), none, none, some ([0, 7, 8, 14, 15, 17], []), none, none, none, none, none, none, none, none] [(8, .b), (30, tI), (36, tI), (40, tI), (44, tI), (61, tI), (69, tI), (77, tI), (88, tI), (89, tI), (17, tI), (101, tI), (93, tI), (132, tI)] mixed (by kernel_rfl) (by kernel_rfl) h
/-! vitrine/vitrineref03.Inflate -/
def F_ref03_Inflate_j1 (Q : AV → Mem → Prop) (σ : Mem) (σ2 : Mem) : Prop :=
lfI 3 (σ2.bump 5) (.ptr (σ.next + 8) 0) fun v3 =>
ifB (decide (v3 ≠ 0)) (
lfI 3 (σ2.bump 12) (.ptr (σ.next + 8) 0) fun v4 =>
Q (.tup [.str ⟨#[]⟩, .int .i64 0, .int .i64 v4]) (σ2.bump 12)) (
lfW 1 (σ2.bump 22) (.ptr (σ.next + 8) 0) fun v5 =>
bstrW (σ2.bump 22) v5 fun v6 =>
lfW 0 (σ2.bump 22) (.ptr (σ.next + 8) 0) fun v7 =>
lfI 1 (σ2.bump 22) v7 fun v8 =>
iW (v8 + 7) fun v9 =>
quoW .i64 v9 8 fun v10 =>
Q (.tup [.str v6, .int .i64 v10, .int .i64 0]) (σ2.bump 22))
def F_ref03_Inflate_j2 (next12 : Int → Mem → Prop) (v20 : Int) (σ25 : Mem) : Prop :=
next12 v20 σ25
def F_ref03_Inflate_j3 (k26 : Mem → Prop) (σ29 : Mem) : Prop :=
k26 σ29
def F_ref03_Inflate_j4 (k30 : Mem → Prop) (σ37 : Mem) : Prop :=
k30 σ37
def F_ref03_Inflate_j5 (k38 : Mem → Prop) (σ44 : Mem) : Prop :=
k38 σ44
def F_ref03_Inflate_j6 (k38 : Mem → Prop) (σ48 : Mem) : Prop :=
k38 σ48
def F_ref03_Inflate_l1 (σ : Mem) (k11 : Mem → Prop) (next12 : Int → Mem → Prop) (v13 : Int) (σ14 : Mem) : Prop :=
ifB (decide (v13 = 0)) (
nchkW (.ptr (σ.next + 8) 0) fun v15 =>
fldW 3 v15 fun v16 =>
ldI (σ14.bump 9) v16 fun v17 =>
ifB (decide (v17 = 0)) (
callW PG n_ref03_inflater_bits [.ptr (σ.next + 8) 0, .int .i64 1] (σ14.bump 12) fun v18 σ19 =>
castI .i64 v18 fun v20 =>
callW PG n_ref03_inflater_bits [.ptr (σ.next + 8) 0, .int .i64 2] (σ19.bump 3) fun v21 σ22 =>
castI .i64 v21 fun v23 =>
lfI 3 (σ22.bump 5) (.ptr (σ.next + 8) 0) fun v24 =>
ifB (decide (v24 ≠ 0)) (
k11 (σ22.bump 5)) (
joinF [] (fun (k26 : Mem → Prop) =>
ifB (decide (v23 = 0)) (
callW PG n_ref03_inflater_stored [.ptr (σ.next + 8) 0] (σ22.bump 10) fun v27 σ28 =>
k26 σ28) (
joinF [] (fun (k30 : Mem → Prop) =>
ifB (decide (v23 = 1)) (
callW PG n_ref03_Fixed [] (σ22.bump 16) fun v31 σ32 =>
tupW v31 0 fun v33 =>
tupW v31 1 fun v34 =>
callW PG n_ref03_inflater_symbols [.ptr (σ.next + 8) 0, v33, v34] (σ32.bump 4) fun v35 σ36 =>
k30 σ36) (
joinF [] (fun (k38 : Mem → Prop) =>
ifB (decide (v23 = 2)) (
callW PG n_ref03_inflater_lens [.ptr (σ.next + 8) 0] (σ22.bump 19) fun v39 σ40 =>
tupW v39 0 fun v41 =>
tupW v39 1 fun v42 =>
lfI 3 (σ40.bump 5) (.ptr (σ.next + 8) 0) fun v43 =>
joinF [] (fun (k45 : Mem → Prop) =>
ifB (decide (v43 = 0)) (
callW PG n_ref03_inflater_symbols [.ptr (σ.next + 8) 0, v41, v42] (σ40.bump 9) fun v46 σ47 =>
k45 σ47) (
k45 (σ40.bump 5))) (F_ref03_Inflate_j5 k38)) (
joinF [] (fun (k49 : Mem → Prop) =>
ifB (decide (v23 = 3)) (
nfW 3 (.ptr (σ.next + 8) 0) fun v50 =>
stW 1 (σ22.bump 18) v50 (.int .i64 13) fun σ51 =>
k49 σ51) (
k49 (σ22.bump 14))) (F_ref03_Inflate_j6 k38))) (F_ref03_Inflate_j4 k30))) (F_ref03_Inflate_j3 k26))) (F_ref03_Inflate_j2 next12 v20))) (
k11 (σ14.bump 9))) (
k11 (σ14.bump 9))
def F_ref03_Inflate (a0 : ByteArray) (a1 : Int) (σ : Mem) (Q : AV → Mem → Prop) : Prop :=
boxW (.agg [.str a0, .int .i64 0]) (
newW (σ.bump 10) (σ.next + 5) (.rw [.str a0, .int .i64 0]) fun σ0 =>
boxW (.agg [.ptr (σ.next + 5) 0, .nils, .int .i64 a1, .int .i64 0]) (
newW σ0 (σ.next + 8) (.rw [.ptr (σ.next + 5) 0, .nils, .int .i64 a1, .int .i64 0]) fun σ1 =>
joinF [] (fun (k11 : Mem → Prop) =>
loopF [tI] (F_ref03_Inflate_l1 σ k11) 0 (σ1.bump 1)) (F_ref03_Inflate_j1 Q σ)))
theorem ok_ref03_Inflate {a0 a1 σ Q} (h : σ.Live → F_ref03_Inflate a0 a1 σ Q) : ACalls PG n_ref03_Inflate [.str a0, .int .i64 a1] σ Q :=
  .of_sem [none, none, none, some ([7], []), some ([7], [8]), none, none, none, none, none, none, none, none, none, none, some ([7, 8], []), none, none, some ([7, 8], []), none, none, none, some ([7, 8], []), none, none, some ([7, 8], []), none, none, some ([7, 8], []), none, none, none, none, none] [(8, tI), (26, tI), (30, tI), (32, tI), (36, tI), (63, tI), (77, tI), (82, tI), (94, tI)] mixed (by kernel_rfl) (by kernel_rfl) h
/-! vitrine/bits.Read -/
def F_bits_Read (a0 : ByteArray) (σ : Mem) (Q : AV → Mem → Prop) : Prop :=
boxW (.agg [.str a0, .int .i64 0, .int .i64 0]) (
newW (σ.bump 5) (σ.next + 3) (.rw [.str a0, .int .i64 0, .int .i64 0]) fun σ0 =>
Q (.ptr (σ.next + 3) 0) σ0)
theorem ok_bits_Read {a0 σ Q} (h : σ.Live → F_bits_Read a0 σ Q) : ACalls PG n_bits_Read [.str a0] σ Q :=
  .of_sem [none, none] [] mixed (by kernel_rfl) (by kernel_rfl) h
/-! (*vitrine/inflate.stream).several -/
def F_inflate_stream_several_l1 (a0 : AV) (a1 : AV) (Q : AV → Mem → Prop) (v0 : Int) (next1 : AV → Int → Mem → Prop) (v2 : AV) (v3 : Int) (σ4 : Mem) : Prop :=
ifB (decide (v3 < v0)) (
idxW 1 a1 v3 fun v5 =>
ldI (σ4.bump 4) v5 fun v6 =>
lfW 0 (σ4.bump 15) a0 fun v7 =>
callW PG n_bits_Reader_Bits [v7, .int .i64 v6] (σ4.bump 15) fun v8 σ9 =>
tpI v8 0 fun v10 =>
tpI v8 1 fun v11 =>
ifB (decide (v11 ≠ 0)) (
Q (.tup [.nils, .int .i64 v11]) (σ9.bump 5)) (
newW (σ9.bump 7) (σ9.next + 4) (.rw [.int .i64 v10]) fun σ12 =>
apW 1 8 (σ9.next + 5) σ12 v2 (.slice (σ9.next + 4) 0 1 (.ex 1)) fun v13 σ14 =>
iW (v3 + 1) fun v15 =>
next1 v13 v15 (σ14.bump 2))) (
Q (.tup [v2, .int .i64 0]) (σ4.bump 4))
def F_inflate_stream_several (a0 : AV) (a1 : AV) (σ : Mem) (Q : AV → Mem → Prop) : Prop :=
slenW a1 fun v0 =>
loopF [.v, tI] (F_inflate_stream_several_l1 a0 a1 Q v0) .nils 0 (σ.bump 6)
theorem ok_inflate_stream_several {a0 a1 σ Q} (h : σ.Live → F_inflate_stream_several a0 a1 σ Q) : ACalls PG n_inflate_stream_several [a0, a1] σ Q :=
  .of_sem [none, none, none, none, some ([0, 11, 12], [6, 13]), none, none, none, none, none, none, none, none, none, none, none] [(13, tI), (16, tI), (24, tI), (25, tI)] mixed (by kernel_rfl) (by kernel_rfl) h
/-! (*vitrine/inflate.stream).stored -/
def F_inflate_stream_stored (a0 : AV) (σ : Mem) (Q : AV → Mem → Prop) : Prop :=
callW PG n_inflate_stream_pair [a0] (σ.bump 8) fun v0 σ1 =>
tpI v0 0 fun v2 =>
tpI v0 1 fun v3 =>
ifB (decide (v3 ≠ 0)) (
Q (.int .i64 v3) (σ1.bump 4)) (
callW PG n_inflate_stream_pair [a0] (σ1.bump 9) fun v4 σ5 =>
tpI v4 0 fun v6 =>
tpI v4 1 fun v7 =>
ifB (decide (v7 ≠ 0)) (
Q (.int .i64 v7) (σ5.bump 4)) (
letW (bitsOp .xor .i64 v2 v6) fun v8 =>
ifB (decide (v8 ≠ 65535)) (
Q (.int .i64 14) (σ5.bump 7)) (
lfW 0 (σ5.bump 17) a0 fun v9 =>
callW PG n_bits_Reader_Bytes [v9, .int .i64 v2] (σ5.bump 17) fun v10 σ11 =>
tpS v10 0 fun v12 =>
tpI v10 1 fun v13 =>
ifB (decide (v13 ≠ 0)) (
Q (.int .i64 v13) (σ11.bump 4)) (
callW PG n_inflate_stream_room [a0, .int .i64 v2] (σ11.bump 6) fun v14 σ15 =>
castI .i64 v14 fun v16 =>
ifB (decide (v16 ≠ 0)) (
Q (.int .i64 v16) (σ15.bump 4)) (
lfW 1 (σ15.bump 12) a0 fun v17 =>
apW 1 1 (σ15.next + 8) (σ15.bump 12) v17 (.str v12) fun v18 σ19 =>
nfW 1 a0 fun v20 =>
stW 1 σ19 v20 v18 fun σ21 =>
Q (.int .i64 0) (σ21.bump 1))))))
theorem ok_inflate_stream_stored {a0 σ Q} (h : σ.Live → F_inflate_stream_stored a0 σ Q) : ACalls PG n_inflate_stream_stored [a0] σ Q :=
  .of_sem [none, none, none, none, none, none, none, none, none, none, none, none, none, none, none, none, none, none, none, none, none, none] [(11, tI), (12, tI), (19, tI), (20, tI), (35, .s), (36, tI), (42, tI)] mixed (by kernel_rfl) (by kernel_rfl) h
/-! vitrine/inflate.fixed -/
def F_inflate_fixed_j1 (next3 : Int → Mem → Prop) (v4 : Int) (σ6 : Mem) : Prop :=
iW (v4 + 1) fun v7 =>
next3 v7 (σ6.bump 2)
def F_inflate_fixed_j2 (next3 : Int → Mem → Prop) (v4 : Int) (σ11 : Mem) : Prop :=
iW (v4 + 1) fun v12 =>
next3 v12 (σ11.bump 2)
def F_inflate_fixed_j3 (k13 : Mem → Prop) (σ16 : Mem) : Prop :=
k13 σ16
def F_inflate_fixed_l2 (Q : AV → Mem → Prop) (σ : Mem) (v22 : Int) (next23 : Int → Mem → Prop) (v24 : Int) (σ25 : Mem) : Prop :=
ifB (decide (v24 < v22)) (
idxW 1 (.slice (σ.next + 3) 0 (Int.toNat 32) (.ex (Int.toNat 32))) v24 fun v26 =>
stW 1 (σ25.bump 7) v26 (.int .i64 5) fun σ27 =>
iW (v24 + 1) fun v28 =>
next23 v28 (σ27.bump 2)) (
Q (.tup [.slice (σ.next + 2) 0 (Int.toNat 288) (.ex (Int.toNat 288)), .slice (σ.next + 3) 0 (Int.toNat 32) (.ex (Int.toNat 32))]) (σ25.bump 5))
def F_inflate_fixed_l1 (Q : AV → Mem → Prop) (σ : Mem) (v2 : Int) (next3 : Int → Mem → Prop) (v4 : Int) (σ5 : Mem) : Prop :=
ifB (decide (v4 < v2)) (
ifB (decide (280 ≤ v4)) (
joinF [] (fun (k8 : Mem → Prop) =>
idxW 1 (.slice (σ.next + 2) 0 (Int.toNat 288) (.ex (Int.toNat 288))) v4 fun v9 =>
stW 1 (σ5.bump 14) v9 (.int .i64 8) fun σ10 =>
k8 σ10) (F_inflate_fixed_j1 next3 v4)) (
joinF [] (fun (k13 : Mem → Prop) =>
ifB (decide (v4 < 144)) (
idxW 1 (.slice (σ.next + 2) 0 (Int.toNat 288) (.ex (Int.toNat 288))) v4 fun v14 =>
stW 1 (σ5.bump 14) v14 (.int .i64 8) fun σ15 =>
k13 σ15) (
joinF [] (fun (k17 : Mem → Prop) =>
ifB (decide (v4 < 256)) (
idxW 1 (.slice (σ.next + 2) 0 (Int.toNat 288) (.ex (Int.toNat 288))) v4 fun v18 =>
stW 1 (σ5.bump 17) v18 (.int .i64 9) fun σ19 =>
k17 σ19) (
idxW 1 (.slice (σ.next + 2) 0 (Int.toNat 288) (.ex (Int.toNat 288))) v4 fun v20 =>
stW 1 (σ5.bump 17) v20 (.int .i64 7) fun σ21 =>
k17 σ21)) (F_inflate_fixed_j3 k13))) (F_inflate_fixed_j2 next3 v4))) (
slenW (.slice (σ.next + 3) 0 (Int.toNat 32) (.ex (Int.toNat 32))) fun v22 =>
loopF [tI] (F_inflate_fixed_l2 Q σ v22) 0 (σ5.bump 4))
def F_inflate_fixed (σ : Mem) (Q : AV → Mem → Prop) : Prop :=
makeW 8 288 288 (
newW (σ.bump 6) (σ.next + 2) (.rw (repl (Int.toNat 288) [.int .i64 0])) fun σ0 =>
makeW 8 32 32 (
newW σ0 (σ.next + 3) (.rw (repl (Int.toNat 32) [.int .i64 0])) fun σ1 =>
slenW (.slice (σ.next + 2) 0 (Int.toNat 288) (.ex (Int.toNat 288))) fun v2 =>
loopF [tI] (F_inflate_fixed_l1 Q σ v2) 0 (σ1.bump 3)))
theorem ok_inflate_fixed {σ Q} (h : σ.Live → F_inflate_fixed σ Q) : ACalls PG n_inflate_fixed [] σ Q :=
  .of_sem [none, none, none, none, some ([2, 3, 9], [10]), none, none, none, none, none, none, some ([2, 3, 9, 10], []), none, none, some ([2, 3, 9, 10], []), none, none, none, none, none, some ([2, 3, 34], [35]), none, none, none, none, none, none, none] [(10, tI), (35, tI)] mixed (by kernel_rfl) (by kernel_rfl) h
/-! (*vitrine/inflate.stream).dynamic -/
def F_inflate_stream_dynamic_l2 (next22 : AV → Mem → Prop) (v28 : Int) (v29 : Int) (next35 : AV → Int → Mem → Prop) (v36 : AV) (v37 : Int) (σ38 : Mem) : Prop :=
ifB (decide (v37 < v29)) (
newW (σ38.bump 6) (σ38.next + 3) (.rw [.int .i64 v28]) fun σ39 =>
apW 1 8 (σ38.next + 4) σ39 v36 (.slice (σ38.next + 3) 0 1 (.ex 1)) fun v40 σ41 =>
iW (v37 + 1) fun v42 =>
next35 v40 v42 (σ41.bump 2)) (
next22 v36 (σ38.bump 1))
def F_inflate_stream_dynamic_j1 (Q : AV → Mem → Prop) (next22 : AV → Mem → Prop) (v23 : AV) (v28 : Int) (v29 : Int) (v33 : Int) (σ34 : Mem) : Prop :=
ifB (decide (v33 ≠ 0)) (
Q (.tup [.nils, .nils, .int .i64 v33]) (σ34.bump 6)) (
loopF [.v, tI] (F_inflate_stream_dynamic_l2 next22 v28 v29) v23 0 (σ34.bump 4))
def F_inflate_stream_dynamic_l3 (next22 : AV → Mem → Prop) (v28 : Int) (v29 : Int) (next46 : AV → Int → Mem → Prop) (v47 : AV) (v48 : Int) (σ49 : Mem) : Prop :=
ifB (decide (v48 < v29)) (
newW (σ49.bump 6) (σ49.next + 3) (.rw [.int .i64 v28]) fun σ50 =>
apW 1 8 (σ49.next + 4) σ50 v47 (.slice (σ49.next + 3) 0 1 (.ex 1)) fun v51 σ52 =>
iW (v48 + 1) fun v53 =>
next46 v51 v53 (σ52.bump 2)) (
next22 v47 (σ49.bump 1))
def F_inflate_stream_dynamic_j2 (Q : AV → Mem → Prop) (next22 : AV → Mem → Prop) (v23 : AV) (v28 : Int) (v29 : Int) (v44 : Int) (σ45 : Mem) : Prop :=
ifB (decide (v44 ≠ 0)) (
Q (.tup [.nils, .nils, .int .i64 v44]) (σ45.bump 6)) (
loopF [.v, tI] (F_inflate_stream_dynamic_l3 next22 v28 v29) v23 0 (σ45.bump 4))
def F_inflate_stream_dynamic_l1 (a0 : AV) (Q : AV → Mem → Prop) (v7 : Int) (v14 : Int) (v20 : AV) (next22 : AV → Mem → Prop) (v23 : AV) (σ24 : Mem) : Prop :=
slenW v23 fun v25 =>
ifB (decide (v25 < v14)) (
callW PG n_inflate_stream_run [a0, v20, v23] (σ24.bump 15) fun v26 σ27 =>
tpI v26 0 fun v28 =>
tpI v26 1 fun v29 =>
tpI v26 2 fun v30 =>
ifB (decide (v30 = 0)) (
slenW v23 fun v31 =>
iW (v31 + v29) fun v32 =>
joinF [tI] (fun (k43 : Int → Mem → Prop) =>
ifB (decide (v14 < v32)) (
k43 12 (σ27.bump 11)) (
k43 v30 (σ27.bump 10))) (F_inflate_stream_dynamic_j1 Q next22 v23 v28 v29)) (
joinF [tI] (fun (k54 : Int → Mem → Prop) =>
k54 v30 (σ27.bump 10)) (F_inflate_stream_dynamic_j2 Q next22 v23 v28 v29))) (
slcW 1 v23 none (some v7) fun v55 =>
slcW 1 v23 (some v7) none fun v56 =>
Q (.tup [v55, v56, .int .i64 0]) (σ24.bump 13))
def F_inflate_stream_dynamic (a0 : AV) (σ : Mem) (Q : AV → Mem → Prop) : Prop :=
newW (σ.bump 11) (σ.next + 4) (.rw [.int .i64 5, .int .i64 5, .int .i64 4]) fun σ0 =>
callW PG n_inflate_stream_several [a0, .slice (σ.next + 4) 0 3 (.ex 3)] σ0 fun v1 σ2 =>
tupW v1 0 fun v3 =>
tpI v1 1 fun v4 =>
ifB (decide (v4 ≠ 0)) (
Q (.tup [.nils, .nils, .int .i64 v4]) (σ2.bump 6)) (
idxW 1 v3 0 fun v5 =>
ldI (σ2.bump 17) v5 fun v6 =>
iW (v6 + 257) fun v7 =>
idxW 1 v3 0 fun v8 =>
ldI (σ2.bump 17) v8 fun v9 =>
iW (v9 + 257) fun v10 =>
idxW 1 v3 1 fun v11 =>
ldI (σ2.bump 17) v11 fun v12 =>
iW (v10 + v12) fun v13 =>
iW (v13 + 1) fun v14 =>
idxW 1 v3 2 fun v15 =>
ldI (σ2.bump 28) v15 fun v16 =>
iW (v16 + 4) fun v17 =>
callW PG n_inflate_stream_small [a0, .int .i64 v17] (σ2.bump 28) fun v18 σ19 =>
tupW v18 0 fun v20 =>
tpI v18 1 fun v21 =>
ifB (decide (v21 ≠ 0)) (
Q (.tup [.nils, .nils, .int .i64 v21]) (σ19.bump 6)) (
loopF [.v] (F_inflate_stream_dynamic_l1 a0 Q v7 v14 v20) .nils (σ19.bump 3)))
theorem ok_inflate_stream_dynamic {a0 σ Q} (h : σ.Live → F_inflate_stream_dynamic a0 σ Q) : ACalls PG n_inflate_stream_dynamic [a0] σ Q :=
  .of_sem [none, none, none, none, none, none, none, none, none, none, none, none, some ([0, 7, 8, 9], [10]), none, none, none, none, none, some ([0, 7, 8, 9, 10, 11, 12], [13]), none, none, none, none, none, none, some ([0, 7, 8, 9, 11, 73], [10, 74]), none, none, none, none, none, none] [(19, tI), (25, tI), (29, tI), (33, tI), (40, tI), (44, tI), (57, tI), (58, tI), (59, tI), (13, tI), (74, tI)] mixed (by kernel_rfl) (by kernel_rfl) h
/-! vitrine/huff.Make -/
def F_huff_Make_j1 (next15 : Int → Mem → Prop) (v16 : Int) (σ20 : Mem) : Prop :=
iW (v16 + 1) fun v21 =>
next15 v21 (σ20.bump 2)
def F_huff_Make_j2 (Q : AV → Mem → Prop) (σ3 : Mem) (σ34 : Mem) : Prop :=
Q (.tup [.ptr (σ3.next + 8) 0, .int .i64 0]) (σ34.bump 3)
def F_huff_Make_l1 (Q : AV → Mem → Prop) (σ : Mem) (σ3 : Mem) (v13 : AV) (v14 : Int) (next15 : Int → Mem → Prop) (v16 : Int) (σ17 : Mem) : Prop :=
ifB (decide (v16 < v14)) (
idxW 1 v13 v16 fun v18 =>
ldI (σ17.bump 6) v18 fun v19 =>
joinF [] (fun (k22 : Mem → Prop) =>
ifB (decide (0 < v19)) (
lfW 18 (σ17.bump 19) (.ptr (σ3.next + 8) 0) fun v23 =>
newW (σ17.bump 19) (σ17.next + 14) (.rw [.int .i64 v16]) fun σ24 =>
apW 1 8 (σ17.next + 15) σ24 v23 (.slice (σ17.next + 14) 0 1 (.ex 1)) fun v25 σ26 =>
nfW 18 (.ptr (σ3.next + 8) 0) fun v27 =>
stW 1 σ26 v27 v25 fun σ28 =>
k22 σ28) (
k22 (σ17.bump 8))) (F_huff_Make_j1 next15 v16)) (
lfW 18 (σ17.bump 7) (.ptr (σ3.next + 8) 0) fun v29 =>
callW PG n_slices_SortStableFunc___int_int_ [v29, .func n_huff_Make_1 [.ptr σ.next 0]] (σ17.bump 7) fun v30 σ31 =>
lfW 18 (σ31.bump 6) (.ptr (σ3.next + 8) 0) fun v32 =>
slenW v32 fun v33 =>
joinF [] (fun (k35 : Mem → Prop) =>
ifB (decide (v33 < 2)) (
lfW 18 (σ31.bump 15) (.ptr (σ3.next + 8) 0) fun v36 =>
slenW v36 fun v37 =>
nfW 19 (.ptr (σ3.next + 8) 0) fun v38 =>
stW 1 (σ31.bump 15) v38 (.int .i64 v37) fun σ39 =>
k35 σ39) (
k35 (σ31.bump 6))) (F_huff_Make_j2 Q σ3))
def F_huff_Make (a0 : AV) (σ : Mem) (Q : AV → Mem → Prop) : Prop :=
boxW a0 (
newW (σ.bump 3) σ.next (.rw a0.cells) fun σ0 =>
ldW (σ0.bump 7) (.ptr σ.next 0) fun v1 =>
callW PG n_huff_Codes [v1] (σ0.bump 7) fun v2 σ3 =>
tupW v2 0 fun v4 =>
tpI v2 1 fun v5 =>
ifB (decide (v5 ≠ 0)) (
Q (.tup [.nilp, .int .i64 v5]) (σ3.bump 5)) (
ldW (σ3.bump 10) (.ptr σ.next 0) fun v6 =>
ldW (σ3.bump 10) (.ptr σ.next 0) fun v7 =>
callW PG n_slices_Clone___int_int_ [v6] (σ3.bump 10) fun v8 σ9 =>
fltS.sameW (σ3.bump 10) σ9 (.ptr σ.next 0) (
callW PG n_huff_counted [v7] σ9 fun v10 σ11 =>
cellOkW v8 1 (
cellOkW v4 1 (
cellOkW v10 16 (
boxW (.agg (setAt (setAt (setAt (setAt ([.nils, .nils] ++ List.replicate 16 (.int .i64 0) ++ [.nils] ++ [.int .i64 0]) 0 v8.cells) 1 v4.cells) 2 v10.cells) 19 [.int .i64 15])) (
newW σ11 (σ3.next + 8) (.rw (setAt (setAt (setAt (setAt ([.nils, .nils] ++ List.replicate 16 (.int .i64 0) ++ [.nils] ++ [.int .i64 0]) 0 v8.cells) 1 v4.cells) 2 v10.cells) 19 [.int .i64 15])) fun σ12 =>
ldW (σ12.bump 3) (.ptr σ.next 0) fun v13 =>
slenW v13 fun v14 =>
loopF [tI] (F_huff_Make_l1 Q σ σ3 v13 v14) 0 (σ12.bump 3))))))))
theorem ok_huff_Make {a0 σ Q} (h : σ.Live → F_huff_Make a0 σ Q) : ACalls PG n_huff_Make [a0] σ Q :=
  .of_sem [none, none, none, none, none, none, none, none, some ([1, 6, 24, 25], [26]), none, none, none, none, none, some ([1, 6, 24, 25, 26], []), none, none, none, none, some ([6], []), none, none] [(13, tI), (26, tI), (30, tI)] mixed (by kernel_rfl) (by kernel_rfl) h
/-! (*vitrine/huff.Table).Next -/
def F_huff_Table_Next_l1 (a0 : AV) (a1 : AV) (Q : AV → Mem → Prop) (next2 : Int → Int → Int → Int → Mem → Prop) (v3 : Int) (v4 : Int) (v5 : Int) (v6 : Int) (σ7 : Mem) : Prop :=
lfI 19 (σ7.bump 6) a0 fun v8 =>
ifB (decide (v6 ≤ v8)) (
callW PG n_bits_Reader_Bits [a1, .int .i64 1] (σ7.bump 13) fun v9 σ10 =>
tpI v9 0 fun v11 =>
tpI v9 1 fun v12 =>
ifB (decide (v12 ≠ 0)) (
Q (.tup [.int .i64 0, .int .i64 v12]) (σ10.bump 5)) (
iW (v3 * 2) fun v13 =>
letW (bitsOp .or .i64 v13 v11) fun v14 =>
iW (v4 * 2) fun v15 =>
iW (v14 - v15) fun v16 =>
nfW 2 a0 fun v17 =>
idxAW 16 1 v17 v6 fun v18 =>
ldI (σ10.bump 22) v18 fun v19 =>
ifB (decide (v16 < v19)) (
lfW 18 (σ10.bump 33) a0 fun v20 =>
iW (v5 + v16) fun v21 =>
idxW 1 v20 v21 fun v22 =>
ldI (σ10.bump 33) v22 fun v23 =>
Q (.tup [.int .i64 v23, .int .i64 0]) (σ10.bump 33)) (
nfW 2 a0 fun v24 =>
idxAW 16 1 v24 v6 fun v25 =>
ldI (σ10.bump 31) v25 fun v26 =>
iW (v15 + v26) fun v27 =>
nfW 2 a0 fun v28 =>
idxAW 16 1 v28 v6 fun v29 =>
ldI (σ10.bump 40) v29 fun v30 =>
iW (v5 + v30) fun v31 =>
iW (v6 + 1) fun v32 =>
next2 v14 v27 v31 v32 (σ10.bump 43)))) (
Q (.tup [.int .i64 0, .int .i64 12]) (σ7.bump 8))
def F_huff_Table_Next (a0 : AV) (a1 : AV) (σ : Mem) (Q : AV → Mem → Prop) : Prop :=
eqW .ptr a0 .nilp fun v0 =>
ifB v0 (
Q (.tup [.int .i64 0, .int .i64 2]) (σ.bump 10)) (
eqW .ptr a1 .nilp fun v1 =>
ifB v1 (
Q (.tup [.int .i64 0, .int .i64 2]) (σ.bump 10)) (
loopF [tI, tI, tI, tI] (F_huff_Table_Next_l1 a0 a1 Q) 0 0 0 1 (σ.bump 12)))
theorem ok_huff_Table_Next {a0 a1 σ Q} (h : σ.Live → F_huff_Table_Next a0 a1 σ Q) : ACalls PG n_huff_Table_Next [a0, a1] σ Q :=
  .of_sem [none, none, none, none, none, none, none, some ([0, 1], [6, 7, 8, 9]), none, none, none, none, none, none, none, none, none, none, none, none, none, none, none, none, none] [(6, tI), (7, tI), (8, tI), (9, tI), (23, tI), (30, tI), (31, tI), (50, tI), (60, tI), (67, tI), (75, tI)] mixed (by kernel_rfl) (by kernel_rfl) h
/-! (*vitrine/inflate.stream).room -/
def F_inflate_stream_room (a0 : AV) (a1 : Int) (σ : Mem) (Q : AV → Mem → Prop) : Prop :=
lfI 2 (σ.bump 13) a0 fun v0 =>
lfW 1 (σ.bump 13) a0 fun v1 =>
slenW v1 fun v2 =>
iW (v0 - v2) fun v3 =>
ifB (decide (v3 < a1)) (
Q (.int .i64 5) (σ.bump 14)) (
Q (.int .i64 0) (σ.bump 14))
theorem ok_inflate_stream_room {a0 a1 σ Q} (h : σ.Live → F_inflate_stream_room a0 a1 σ Q) : ACalls PG n_inflate_stream_room [a0, .int .i64 a1] σ Q :=
  .of_sem [none, none, none, none, none] [(9, tI)] mixed (by kernel_rfl) (by kernel_rfl) h
/-! (*vitrine/inflate.stream).match -/
def F_inflate_stream_match_l1 (a0 : AV) (Q : AV → Mem → Prop) (v2 : Int) (v11 : Int) (next18 : Int → Mem → Prop) (v19 : Int) (σ20 : Mem) : Prop :=
ifB (decide (v19 < v2)) (
lfW 1 (σ20.bump 24) a0 fun v21 =>
lfW 1 (σ20.bump 24) a0 fun v22 =>
lfW 1 (σ20.bump 24) a0 fun v23 =>
slenW v23 fun v24 =>
iW (v24 - v11) fun v25 =>
idxW 1 v22 v25 fun v26 =>
ldU (σ20.bump 24) v26 fun v27 =>
newW (σ20.bump 24) (σ20.next + 19) (.rw [.int .u8 v27]) fun σ28 =>
apW 1 1 (σ20.next + 20) σ28 v21 (.slice (σ20.next + 19) 0 1 (.ex 1)) fun v29 σ30 =>
nfW 1 a0 fun v31 =>
stW 1 σ30 v31 v29 fun σ32 =>
iW (v19 + 1) fun v33 =>
next18 v33 (σ32.bump 2)) (
Q (.int .i64 0) (σ20.bump 2))
def F_inflate_stream_match (a0 : AV) (a1 : Int) (a2 : AV) (σ : Mem) (Q : AV → Mem → Prop) : Prop :=
callW PG n_inflate_stream_length [a0, .int .i64 a1] (σ.bump 9) fun v0 σ1 =>
tpI v0 0 fun v2 =>
tpI v0 1 fun v3 =>
ifB (decide (v3 ≠ 0)) (
Q (.int .i64 v3) (σ1.bump 4)) (
lfW 0 (σ1.bump 13) a0 fun v4 =>
callW PG n_huff_Table_Next [a2, v4] (σ1.bump 13) fun v5 σ6 =>
tpI v5 0 fun v7 =>
tpI v5 1 fun v8 =>
ifB (decide (v8 ≠ 0)) (
Q (.int .i64 v8) (σ6.bump 4)) (
callW PG n_inflate_stream_distance [a0, .int .i64 v7] (σ6.bump 10) fun v9 σ10 =>
tpI v9 0 fun v11 =>
tpI v9 1 fun v12 =>
ifB (decide (v12 ≠ 0)) (
Q (.int .i64 v12) (σ10.bump 5)) (
lfW 1 (σ10.bump 11) a0 fun v13 =>
slenW v13 fun v14 =>
ifB (decide (v14 < v11)) (
Q (.int .i64 15) (σ10.bump 12)) (
callW PG n_inflate_stream_room [a0, .int .i64 v2] (σ10.bump 15) fun v15 σ16 =>
castI .i64 v15 fun v17 =>
ifB (decide (v17 ≠ 0)) (
Q (.int .i64 v17) (σ16.bump 4)) (
loopF [tI] (F_inflate_stream_match_l1 a0 Q v2 v11) 0 (σ16.bump 4))))))
theorem ok_inflate_stream_match {a0 a1 a2 σ Q} (h : σ.Live → F_inflate_stream_match a0 a1 a2 σ Q) : ACalls PG n_inflate_stream_match [a0, .int .i64 a1, a2] σ Q :=
  .of_sem [none, none, none, none, none, none, none, none, none, none, none, none, none, none, none, none, none, none, none, none, none, none, none, some ([0, 10, 57], [58]), none, none, none, none, none, none] [(16, tI), (17, tI), (28, tI), (29, tI), (37, tI), (38, tI), (53, tI), (58, tI), (77, tU)] mixed (by kernel_rfl) (by kernel_rfl) h
/-! (*vitrine/bits.Reader).Left -/
def F_bits_Reader_Left (a0 : AV) (σ : Mem) (Q : AV → Mem → Prop) : Prop :=
eqW .ptr a0 .nilp fun v0 =>
ifB v0 (
Q (.int .i64 0) (σ.bump 4)) (
lfS 0 (σ.bump 15) a0 fun v1 =>
iW (8 * (v1.size : Int)) fun v2 =>
lfI 2 (σ.bump 15) a0 fun v3 =>
iW (v2 + v3) fun v4 =>
Q (.int .i64 v4) (σ.bump 15))
theorem ok_bits_Reader_Left {a0 σ Q} (h : σ.Live → F_bits_Reader_Left a0 σ Q) : ACalls PG n_bits_Reader_Left [a0] σ Q :=
  .of_sem [none, none, none, none, none] [(8, .s), (14, tI)] mixed (by kernel_rfl) (by kernel_rfl) h
/-! (*vitrine/vitrineref03.inflater).bits -/
def F_ref03_inflater_bits (a0 : AV) (a1 : Int) (σ : Mem) (Q : AV → Mem → Prop) : Prop :=
lfI 3 (σ.bump 6) a0 fun v0 =>
ifB (decide (v0 ≠ 0)) (
Q (.int .i64 0) (σ.bump 7)) (
lfW 0 (σ.bump 17) a0 fun v1 =>
callW PG n_ref01_Reader_Bits [v1, .int .i64 a1] (σ.bump 17) fun v2 σ3 =>
tpI v2 0 fun v4 =>
tpI v2 1 fun v5 =>
nfW 3 a0 fun v6 =>
stW 1 (σ3.bump 5) v6 (.int .i64 v5) fun σ7 =>
Q (.int .i64 v4) (σ7.bump 2))
theorem ok_ref03_inflater_bits {a0 a1 σ Q} (h : σ.Live → F_ref03_inflater_bits a0 a1 σ Q) : ACalls PG n_ref03_inflater_bits [a0, .int .i64 a1] σ Q :=
  .of_sem [none, none, none, none, none, none, none] [(10, tI), (19, tI), (20, tI)] mixed (by kernel_rfl) (by kernel_rfl) h
/-! (*vitrine/vitrineref03.inflater).stored -/
def F_ref03_inflater_stored_j2 (Q : AV → Mem → Prop) (σ36 : Mem) : Prop :=
Q (.tup []) σ36
def F_ref03_inflater_stored_j1 (a0 : AV) (Q : AV → Mem → Prop) (v24 : ByteArray) (σ34 : Mem) : Prop :=
lfI 3 (σ34.bump 5) a0 fun v35 =>
joinF [] (fun (k37 : Mem → Prop) =>
ifB (decide (v35 = 0)) (
lfW 1 (σ34.bump 15) a0 fun v38 =>
apW 1 1 (σ34.next + 11) (σ34.bump 15) v38 (.str v24) fun v39 σ40 =>
nfW 1 a0 fun v41 =>
stW 1 σ40 v41 v39 fun σ42 =>
k37 σ42) (
k37 (σ34.bump 5))) (F_ref03_inflater_stored_j2 Q)
def F_ref03_inflater_stored_j4 (Q : AV → Mem → Prop) (σ48 : Mem) : Prop :=
Q (.tup []) σ48
def F_ref03_inflater_stored_j3 (a0 : AV) (Q : AV → Mem → Prop) (v24 : ByteArray) (σ46 : Mem) : Prop :=
lfI 3 (σ46.bump 5) a0 fun v47 =>
joinF [] (fun (k49 : Mem → Prop) =>
ifB (decide (v47 = 0)) (
lfW 1 (σ46.bump 15) a0 fun v50 =>
apW 1 1 (σ46.next + 11) (σ46.bump 15) v50 (.str v24) fun v51 σ52 =>
nfW 1 a0 fun v53 =>
stW 1 σ52 v53 v51 fun σ54 =>
k49 σ54) (
k49 (σ46.bump 5))) (F_ref03_inflater_stored_j4 Q)
def F_ref03_inflater_stored (a0 : AV) (σ : Mem) (Q : AV → Mem → Prop) : Prop :=
callW PG n_ref03_inflater_bytes [a0, .int .i64 2] (σ.bump 3) fun v0 σ1 =>
castS v0 fun v2 =>
callW PG n_ref03_inflater_bytes [a0, .int .i64 2] (σ1.bump 3) fun v3 σ4 =>
castS v3 fun v5 =>
lfI 3 (σ4.bump 5) a0 fun v6 =>
ifB (decide (v6 ≠ 0)) (
Q (.tup []) (σ4.bump 5)) (
sidxW v2 0 fun v7 =>
iW v7 fun v8 =>
sidxW v2 1 fun v9 =>
iW v9 fun v10 =>
iW (256 * v10) fun v11 =>
iW (v8 + v11) fun v12 =>
sidxW v5 0 fun v13 =>
iW v13 fun v14 =>
sidxW v5 1 fun v15 =>
iW v15 fun v16 =>
iW (256 * v16) fun v17 =>
iW (v14 + v17) fun v18 =>
iW (65535 - v12) fun v19 =>
ifB (decide (v18 ≠ v19)) (
nfW 3 a0 fun v20 =>
stW 1 (σ4.bump 29) v20 (.int .i64 14) fun σ21 =>
Q (.tup []) σ21) (
callW PG n_ref03_inflater_bytes [a0, .int .i64 v12] (σ4.bump 29) fun v22 σ23 =>
castS v22 fun v24 =>
lfI 3 (σ23.bump 19) a0 fun v25 =>
ifB (decide (v25 = 0)) (
nchkW a0 fun v26 =>
fldW 1 v26 fun v27 =>
ldW (σ23.bump 19) v27 fun v28 =>
slenW v28 fun v29 =>
iW (v29 + v12) fun v30 =>
nchkW a0 fun v31 =>
fldW 2 v31 fun v32 =>
ldI (σ23.bump 19) v32 fun v33 =>
joinF [] (fun (k43 : Mem → Prop) =>
ifB (decide (v33 < v30)) (
nfW 3 a0 fun v44 =>
stW 1 (σ23.bump 23) v44 (.int .i64 5) fun σ45 =>
k43 σ45) (
k43 (σ23.bump 19))) (F_ref03_inflater_stored_j1 a0 Q v24)) (
joinF [] (fun (k55 : Mem → Prop) =>
k55 (σ23.bump 19)) (F_ref03_inflater_stored_j3 a0 Q v24))))
theorem ok_ref03_inflater_stored {a0 σ Q} (h : σ.Live → F_ref03_inflater_stored a0 σ Q) : ACalls PG n_ref03_inflater_stored [a0] σ Q :=
  .of_sem [none, none, none, none, none, none, none, none, none, none, some ([0, 5], []), none, none, some ([], []), none] [(7, .s), (9, .s), (13, tI), (39, .s), (43, tI), (56, tI), (65, tI)] mixed (by kernel_rfl) (by kernel_rfl) h
/-! vitrine/vitrineref03.Fixed -/
def F_ref03_Fixed_j1 (next0 : AV → Int → Mem → Prop) (v2 : Int) (v4 : AV) (σ5 : Mem) : Prop :=
iW (v2 + 1) fun v6 =>
next0 v4 v6 (σ5.bump 3)
def F_ref03_Fixed_j2 (next0 : AV → Int → Mem → Prop) (v2 : Int) (v11 : AV) (σ12 : Mem) : Prop :=
iW (v2 + 1) fun v13 =>
next0 v11 v13 (σ12.bump 3)
def F_ref03_Fixed_j3 (k14 : AV → Mem → Prop) (v18 : AV) (σ19 : Mem) : Prop :=
k14 v18 σ19
def F_ref03_Fixed_l2 (Q : AV → Mem → Prop) (v1 : AV) (next27 : AV → Int → Mem → Prop) (v28 : AV) (v29 : Int) (σ30 : Mem) : Prop :=
ifB (decide (v29 < 32)) (
newW (σ30.bump 6) (σ30.next + 3) (.rw [.int .i64 5]) fun σ31 =>
apW 1 8 (σ30.next + 4) σ31 v28 (.slice (σ30.next + 3) 0 1 (.ex 1)) fun v32 σ33 =>
iW (v29 + 1) fun v34 =>
next27 v32 v34 (σ33.bump 3)) (
Q (.tup [v1, v28]) (σ30.bump 6))
def F_ref03_Fixed_l1 (Q : AV → Mem → Prop) (next0 : AV → Int → Mem → Prop) (v1 : AV) (v2 : Int) (σ3 : Mem) : Prop :=
ifB (decide (v2 < 288)) (
ifB (decide (v2 < 144)) (
joinF [.v] (fun (k7 : AV → Mem → Prop) =>
newW (σ3.bump 13) (σ3.next + 10) (.rw [.int .i64 8]) fun σ8 =>
apW 1 8 (σ3.next + 11) σ8 v1 (.slice (σ3.next + 10) 0 1 (.ex 1)) fun v9 σ10 =>
k7 v9 σ10) (F_ref03_Fixed_j1 next0 v2)) (
joinF [.v] (fun (k14 : AV → Mem → Prop) =>
ifB (decide (280 ≤ v2)) (
newW (σ3.bump 13) (σ3.next + 10) (.rw [.int .i64 8]) fun σ15 =>
apW 1 8 (σ3.next + 11) σ15 v1 (.slice (σ3.next + 10) 0 1 (.ex 1)) fun v16 σ17 =>
k14 v16 σ17) (
joinF [.v] (fun (k20 : AV → Mem → Prop) =>
ifB (decide (v2 < 256)) (
newW (σ3.bump 16) (σ3.next + 13) (.rw [.int .i64 9]) fun σ21 =>
apW 1 8 (σ3.next + 14) σ21 v1 (.slice (σ3.next + 13) 0 1 (.ex 1)) fun v22 σ23 =>
k20 v22 σ23) (
newW (σ3.bump 16) (σ3.next + 13) (.rw [.int .i64 7]) fun σ24 =>
apW 1 8 (σ3.next + 14) σ24 v1 (.slice (σ3.next + 13) 0 1 (.ex 1)) fun v25 σ26 =>
k20 v25 σ26)) (F_ref03_Fixed_j3 k14))) (F_ref03_Fixed_j2 next0 v2))) (
loopF [.v, tI] (F_ref03_Fixed_l2 Q v1) .nils 0 (σ3.bump 3))
def F_ref03_Fixed (σ : Mem) (Q : AV → Mem → Prop) : Prop :=
loopF [.v, tI] (F_ref03_Fixed_l1 Q) .nils 0 (σ.bump 5)
theorem ok_ref03_Fixed {σ Q} (h : σ.Live → F_ref03_Fixed σ Q) : ACalls PG n_ref03_Fixed [] σ Q :=
  .of_sem [none, none, none, none, none, some ([3], [2, 4]), none, none, none, none, none, some ([3, 4], [2]), none, none, some ([3, 4], [2]), none, none, none, none, none, some ([2], [3, 5]), none, none, none, none, none, none] [(4, tI), (5, tI)] mixed (by kernel_rfl) (by kernel_rfl) h
/-! (*vitrine/vitrineref03.inflater).symbols -/
def F_ref03_inflater_symbols_j1 (next4 : Mem → Prop) (σ7 : Mem) : Prop :=
next4 σ7
def F_ref03_inflater_symbols_l2 (a0 : AV) (k8 : Mem → Prop) (v35 : Int) (v49 : Int) (next61 : Int → Mem → Prop) (v62 : Int) (σ63 : Mem) : Prop :=
ifB (decide (v62 < v35)) (
lfW 1 (σ63.bump 26) a0 fun v64 =>
lfW 1 (σ63.bump 26) a0 fun v65 =>
lfW 1 (σ63.bump 26) a0 fun v66 =>
slenW v66 fun v67 =>
iW (v67 - v49) fun v68 =>
idxW 1 v65 v68 fun v69 =>
ldU (σ63.bump 26) v69 fun v70 =>
newW (σ63.bump 26) (σ63.next + 21) (.rw [.int .u8 v70]) fun σ71 =>
apW 1 1 (σ63.next + 22) σ71 v64 (.slice (σ63.next + 21) 0 1 (.ex 1)) fun v72 σ73 =>
nfW 1 a0 fun v74 =>
stW 1 σ73 v74 v72 fun σ75 =>
iW (v62 + 1) fun v76 =>
next61 v76 (σ75.bump 3)) (
k8 (σ63.bump 3))
def F_ref03_inflater_symbols_j2 (a0 : AV) (Q : AV → Mem → Prop) (k8 : Mem → Prop) (v35 : Int) (v38 : Int) (σ40 : Mem) : Prop :=
lfI 3 (σ40.bump 5) a0 fun v41 =>
ifB (decide (v41 ≠ 0)) (
Q (.tup []) (σ40.bump 5)) (
callW PG n_ref03_Distance [.int .i64 v38] (σ40.bump 12) fun v42 σ43 =>
tpI v42 0 fun v44 =>
tpI v42 1 fun v45 =>
callW PG n_ref03_inflater_bits [a0, .int .i64 v45] (σ43.bump 6) fun v46 σ47 =>
castI .i64 v46 fun v48 =>
iW (v44 + v48) fun v49 =>
lfI 3 (σ47.bump 5) a0 fun v50 =>
ifB (decide (v50 ≠ 0)) (
Q (.tup []) (σ47.bump 5)) (
lfW 1 (σ47.bump 12) a0 fun v51 =>
slenW v51 fun v52 =>
ifB (decide (v52 < v49)) (
nfW 3 a0 fun v53 =>
stW 1 (σ47.bump 16) v53 (.int .i64 15) fun σ54 =>
Q (.tup []) σ54) (
lfW 1 (σ47.bump 24) a0 fun v55 =>
slenW v55 fun v56 =>
iW (v56 + v35) fun v57 =>
lfI 2 (σ47.bump 24) a0 fun v58 =>
ifB (decide (v58 < v57)) (
nfW 3 a0 fun v59 =>
stW 1 (σ47.bump 28) v59 (.int .i64 5) fun σ60 =>
Q (.tup []) σ60) (
loopF [tI] (F_ref03_inflater_symbols_l2 a0 k8 v35 v49) 0 (σ47.bump 25)))))
def F_ref03_inflater_symbols_l3 (a0 : AV) (k8 : Mem → Prop) (v35 : Int) (v89 : Int) (next101 : Int → Mem → Prop) (v102 : Int) (σ103 : Mem) : Prop :=
ifB (decide (v102 < v35)) (
lfW 1 (σ103.bump 26) a0 fun v104 =>
lfW 1 (σ103.bump 26) a0 fun v105 =>
lfW 1 (σ103.bump 26) a0 fun v106 =>
slenW v106 fun v107 =>
iW (v107 - v89) fun v108 =>
idxW 1 v105 v108 fun v109 =>
ldU (σ103.bump 26) v109 fun v110 =>
newW (σ103.bump 26) (σ103.next + 21) (.rw [.int .u8 v110]) fun σ111 =>
apW 1 1 (σ103.next + 22) σ111 v104 (.slice (σ103.next + 21) 0 1 (.ex 1)) fun v112 σ113 =>
nfW 1 a0 fun v114 =>
stW 1 σ113 v114 v112 fun σ115 =>
iW (v102 + 1) fun v116 =>
next101 v116 (σ115.bump 3)) (
k8 (σ103.bump 3))
def F_ref03_inflater_symbols_j3 (a0 : AV) (Q : AV → Mem → Prop) (k8 : Mem → Prop) (v35 : Int) (v38 : Int) (σ80 : Mem) : Prop :=
lfI 3 (σ80.bump 5) a0 fun v81 =>
ifB (decide (v81 ≠ 0)) (
Q (.tup []) (σ80.bump 5)) (
callW PG n_ref03_Distance [.int .i64 v38] (σ80.bump 12) fun v82 σ83 =>
tpI v82 0 fun v84 =>
tpI v82 1 fun v85 =>
callW PG n_ref03_inflater_bits [a0, .int .i64 v85] (σ83.bump 6) fun v86 σ87 =>
castI .i64 v86 fun v88 =>
iW (v84 + v88) fun v89 =>
lfI 3 (σ87.bump 5) a0 fun v90 =>
ifB (decide (v90 ≠ 0)) (
Q (.tup []) (σ87.bump 5)) (
lfW 1 (σ87.bump 12) a0 fun v91 =>
slenW v91 fun v92 =>
ifB (decide (v92 < v89)) (
nfW 3 a0 fun v93 =>
stW 1 (σ87.bump 16) v93 (.int .i64 15) fun σ94 =>
Q (.tup []) σ94) (
lfW 1 (σ87.bump 24) a0 fun v95 =>
slenW v95 fun v96 =>
iW (v96 + v35) fun v97 =>
lfI 2 (σ87.bump 24) a0 fun v98 =>
ifB (decide (v98 < v97)) (
nfW 3 a0 fun v99 =>
stW 1 (σ87.bump 28) v99 (.int .i64 5) fun σ100 =>
Q (.tup []) σ100) (
loopF [tI] (F_ref03_inflater_symbols_l3 a0 k8 v35 v89) 0 (σ87.bump 25)))))
def F_ref03_inflater_symbols_l1 (a0 : AV) (Q : AV → Mem → Prop) (v0 : AV) (v2 : AV) (next4 : Mem → Prop) (σ5 : Mem) : Prop :=
lfI 3 (σ5.bump 5) a0 fun v6 =>
ifB (decide (v6 = 0)) (
joinF [] (fun (k8 : Mem → Prop) =>
callW PG n_ref03_inflater_next [a0, v0] (σ5.bump 9) fun v9 σ10 =>
castI .i64 v9 fun v11 =>
lfI 3 (σ10.bump 9) a0 fun v12 =>
ifB (decide (v12 ≠ 0)) (
Q (.tup []) (σ10.bump 9)) (
ifB (decide (v11 = 256)) (
Q (.tup []) (σ10.bump 9)) (
ifB (decide (v11 < 256)) (
lfW 1 (σ10.bump 22) a0 fun v13 =>
slenW v13 fun v14 =>
iW (v14 + 1) fun v15 =>
lfI 2 (σ10.bump 22) a0 fun v16 =>
ifB (decide (v16 < v15)) (
nfW 3 a0 fun v17 =>
stW 1 (σ10.bump 26) v17 (.int .i64 5) fun σ18 =>
Q (.tup []) σ18) (
lfW 1 (σ10.bump 34) a0 fun v19 =>
wrW .u8 v11 fun v20 =>
newW (σ10.bump 34) (σ10.next + 29) (.rw [.int .u8 v20]) fun σ21 =>
apW 1 1 (σ10.next + 30) σ21 v19 (.slice (σ10.next + 29) 0 1 (.ex 1)) fun v22 σ23 =>
nfW 1 a0 fun v24 =>
stW 1 σ23 v24 v22 fun σ25 =>
k8 σ25)) (
ifB (decide (285 < v11)) (
nfW 3 a0 fun v26 =>
stW 1 (σ10.bump 17) v26 (.int .i64 12) fun σ27 =>
Q (.tup []) σ27) (
callW PG n_ref03_Length [.int .i64 v11] (σ10.bump 20) fun v28 σ29 =>
tpI v28 0 fun v30 =>
tpI v28 1 fun v31 =>
callW PG n_ref03_inflater_bits [a0, .int .i64 v31] (σ29.bump 6) fun v32 σ33 =>
castI .i64 v32 fun v34 =>
iW (v30 + v34) fun v35 =>
callW PG n_ref03_inflater_next [a0, v2] (σ33.bump 4) fun v36 σ37 =>
castI .i64 v36 fun v38 =>
lfI 3 (σ37.bump 9) a0 fun v39 =>
ifB (decide (v39 = 0)) (
joinF [] (fun (k77 : Mem → Prop) =>
ifB (decide (29 < v38)) (
nfW 3 a0 fun v78 =>
stW 1 (σ37.bump 13) v78 (.int .i64 12) fun σ79 =>
k77 σ79) (
k77 (σ37.bump 9))) (F_ref03_inflater_symbols_j2 a0 Q k8 v35 v38)) (
joinF [] (fun (k117 : Mem → Prop) =>
k117 (σ37.bump 9)) (F_ref03_inflater_symbols_j3 a0 Q k8 v35 v38))))))) (F_ref03_inflater_symbols_j1 next4)) (
Q (.tup []) (σ5.bump 5))
def F_ref03_inflater_symbols (a0 : AV) (a1 : AV) (a2 : AV) (σ : Mem) (Q : AV → Mem → Prop) : Prop :=
callW PG n_ref03_inflater_table [a0, a1] (σ.bump 4) fun v0 σ1 =>
callW PG n_ref03_inflater_table [a0, a2] (σ1.bump 4) fun v2 σ3 =>
loopF [] (F_ref03_inflater_symbols_l1 a0 Q v0 v2) σ3
theorem ok_ref03_inflater_symbols {a0 a1 a2 σ Q} (h : σ.Live → F_ref03_inflater_symbols a0 a1 a2 σ Q) : ACalls PG n_ref03_inflater_symbols [a0, a1, a2] σ Q :=
  .of_sem [none, none, none, some ([0, 6, 7], []), none, none, some ([0, 6, 7], []), none, none, none, none, none, none, none, none, none, none, none, none, none, none, none, none, some ([0, 6, 7, 9, 11], []), none, none, none, none, none, none, none, none, none, none, none, none, none, none, none, some ([0, 6, 7, 9, 12], [13]), none, none, none, none, none] [(23, tI), (27, tI), (31, tI), (48, tI), (72, tI), (73, tI), (77, tI), (81, tI), (85, tI), (97, tI), (102, tI), (103, tI), (107, tI), (112, tI), (134, tI), (13, tI), (161, tU)] mixed (by kernel_rfl) (by kernel_rfl) h
/-! (*vitrine/vitrineref03.inflater).lens -/
def F_ref03_inflater_lens_j1 (a0 : AV) (Q : AV → Mem → Prop) (v3 : Int) (v28 : AV) (σ29 : Mem) : Prop :=
lfI 3 (σ29.bump 5) a0 fun v30 =>
ifB (decide (v30 ≠ 0)) (
Q (.tup [.nils, .nils]) (σ29.bump 7)) (
slcW 1 v28 none (some v3) fun v31 =>
slcW 1 v28 (some v3) none fun v32 =>
Q (.tup [v31, v32]) (σ29.bump 13))
def F_ref03_inflater_lens_j4 (next34 : AV → Mem → Prop) (v51 : AV) (σ52 : Mem) : Prop :=
next34 v51 σ52
def F_ref03_inflater_lens_l3 (a0 : AV) (v43 : Int) (v44 : Int) (k53 : AV → Mem → Prop) (next54 : AV → Int → Mem → Prop) (v55 : AV) (v56 : Int) (σ57 : Mem) : Prop :=
ifB (decide (v56 < v44)) (
nchkW a0 fun v58 =>
fldW 3 v58 fun v59 =>
ldI (σ57.bump 10) v59 fun v60 =>
ifB (decide (v60 = 0)) (
newW (σ57.bump 15) (σ57.next + 12) (.rw [.int .i64 v43]) fun σ61 =>
apW 1 8 (σ57.next + 13) σ61 v55 (.slice (σ57.next + 12) 0 1 (.ex 1)) fun v62 σ63 =>
iW (v56 + 1) fun v64 =>
next54 v62 v64 (σ63.bump 3)) (
k53 v55 (σ57.bump 10))) (
k53 v55 (σ57.bump 10))
def F_ref03_inflater_lens_j3 (a0 : AV) (next34 : AV → Mem → Prop) (v35 : AV) (v43 : Int) (v44 : Int) (σ50 : Mem) : Prop :=
joinF [.v] (fun (k53 : AV → Mem → Prop) =>
loopF [.v, tI] (F_ref03_inflater_lens_l3 a0 v43 v44 k53) v35 0 (σ50.bump 1)) (F_ref03_inflater_lens_j4 next34)
def F_ref03_inflater_lens_j6 (next34 : AV → Mem → Prop) (v69 : AV) (σ70 : Mem) : Prop :=
next34 v69 σ70
def F_ref03_inflater_lens_l4 (a0 : AV) (v43 : Int) (v44 : Int) (k71 : AV → Mem → Prop) (next72 : AV → Int → Mem → Prop) (v73 : AV) (v74 : Int) (σ75 : Mem) : Prop :=
ifB (decide (v74 < v44)) (
nchkW a0 fun v76 =>
fldW 3 v76 fun v77 =>
ldI (σ75.bump 10) v77 fun v78 =>
ifB (decide (v78 = 0)) (
newW (σ75.bump 15) (σ75.next + 12) (.rw [.int .i64 v43]) fun σ79 =>
apW 1 8 (σ75.next + 13) σ79 v73 (.slice (σ75.next + 12) 0 1 (.ex 1)) fun v80 σ81 =>
iW (v74 + 1) fun v82 =>
next72 v80 v82 (σ81.bump 3)) (
k71 v73 (σ75.bump 10))) (
k71 v73 (σ75.bump 10))
def F_ref03_inflater_lens_j5 (a0 : AV) (next34 : AV → Mem → Prop) (v35 : AV) (v43 : Int) (v44 : Int) (σ68 : Mem) : Prop :=
joinF [.v] (fun (k71 : AV → Mem → Prop) =>
loopF [.v, tI] (F_ref03_inflater_lens_l4 a0 v43 v44 k71) v35 0 (σ68.bump 1)) (F_ref03_inflater_lens_j6 next34)
def F_ref03_inflater_lens_j2 (a0 : AV) (v3 : Int) (v7 : Int) (next34 : AV → Mem → Prop) (v35 : AV) (v43 : Int) (v44 : Int) (σ45 : Mem) : Prop :=
lfI 3 (σ45.bump 15) a0 fun v46 =>
ifB (decide (v46 = 0)) (
slenW v35 fun v47 =>
iW (v47 + v44) fun v48 =>
iW (v3 + v7) fun v49 =>
joinF [] (fun (k65 : Mem → Prop) =>
ifB (decide (v49 < v48)) (
nfW 3 a0 fun v66 =>
stW 1 (σ45.bump 19) v66 (.int .i64 12) fun σ67 =>
k65 σ67) (
k65 (σ45.bump 15))) (F_ref03_inflater_lens_j3 a0 next34 v35 v43 v44)) (
joinF [] (fun (k83 : Mem → Prop) =>
k83 (σ45.bump 15)) (F_ref03_inflater_lens_j5 a0 next34 v35 v43 v44))
def F_ref03_inflater_lens_j7 (k84 : Int → Int → Mem → Prop) (v85 : Int) (v86 : Int) (σ87 : Mem) : Prop :=
k84 v85 v86 σ87
def F_ref03_inflater_lens_j8 (a0 : AV) (k88 : Int → Int → Mem → Prop) (v94 : Int) (σ95 : Mem) : Prop :=
callW PG n_ref03_inflater_bits [a0, .int .i64 2] (σ95.bump 4) fun v96 σ97 =>
castI .i64 v96 fun v98 =>
iW (3 + v98) fun v99 =>
k88 v94 v99 σ97
def F_ref03_inflater_lens_j9 (a0 : AV) (k88 : Int → Int → Mem → Prop) (v106 : Int) (σ107 : Mem) : Prop :=
callW PG n_ref03_inflater_bits [a0, .int .i64 2] (σ107.bump 4) fun v108 σ109 =>
castI .i64 v108 fun v110 =>
iW (3 + v110) fun v111 =>
k88 v106 v111 σ109
def F_ref03_inflater_lens_j10 (k88 : Int → Int → Mem → Prop) (v117 : Int) (σ118 : Mem) : Prop :=
k88 0 v117 σ118
def F_ref03_inflater_lens_l2 (a0 : AV) (Q : AV → Mem → Prop) (v3 : Int) (v7 : Int) (v26 : AV) (k33 : AV → Mem → Prop) (next34 : AV → Mem → Prop) (v35 : AV) (σ36 : Mem) : Prop :=
lfI 3 (σ36.bump 13) a0 fun v37 =>
ifB (decide (v37 = 0)) (
slenW v35 fun v38 =>
iW (v3 + v7) fun v39 =>
ifB (decide (v38 < v39)) (
callW PG n_ref03_inflater_next [a0, v26] (σ36.bump 17) fun v40 σ41 =>
castI .i64 v40 fun v42 =>
joinF [tI, tI] (fun (k84 : Int → Int → Mem → Prop) =>
ifB (decide (v42 < 16)) (
k84 v42 1 (σ41.bump 7)) (
joinF [tI, tI] (fun (k88 : Int → Int → Mem → Prop) =>
ifB (decide (v42 = 16)) (
lfI 3 (σ41.bump 18) a0 fun v89 =>
ifB (decide (v89 = 0)) (
slenW v35 fun v90 =>
ifB (decide (v90 = 0)) (
nfW 3 a0 fun v91 =>
stW 1 (σ41.bump 22) v91 (.int .i64 12) fun σ92 =>
Q (.tup [.nils, .nils]) (σ92.bump 2)) (
slenW v35 fun v93 =>
joinF [tI] (fun (k100 : Int → Mem → Prop) =>
ifB (decide (0 < v93)) (
slenW v35 fun v101 =>
iW (v101 - 1) fun v102 =>
idxW 1 v35 v102 fun v103 =>
ldI (σ41.bump 28) v103 fun v104 =>
k100 v104 (σ41.bump 28)) (
k100 0 (σ41.bump 21))) (F_ref03_inflater_lens_j8 a0 k88))) (
slenW v35 fun v105 =>
joinF [tI] (fun (k112 : Int → Mem → Prop) =>
ifB (decide (0 < v105)) (
slenW v35 fun v113 =>
iW (v113 - 1) fun v114 =>
idxW 1 v35 v114 fun v115 =>
ldI (σ41.bump 28) v115 fun v116 =>
k112 v116 (σ41.bump 28)) (
k112 0 (σ41.bump 21))) (F_ref03_inflater_lens_j9 a0 k88))) (
joinF [tI] (fun (k119 : Int → Mem → Prop) =>
ifB (decide (v42 = 17)) (
callW PG n_ref03_inflater_bits [a0, .int .i64 3] (σ41.bump 15) fun v120 σ121 =>
castI .i64 v120 fun v122 =>
iW (3 + v122) fun v123 =>
k119 v123 σ121) (
callW PG n_ref03_inflater_bits [a0, .int .i64 7] (σ41.bump 15) fun v124 σ125 =>
castI .i64 v124 fun v126 =>
iW (11 + v126) fun v127 =>
k119 v127 σ125)) (F_ref03_inflater_lens_j10 k88))) (F_ref03_inflater_lens_j7 k84))) (F_ref03_inflater_lens_j2 a0 v3 v7 next34 v35)) (
k33 v35 (σ36.bump 13))) (
k33 v35 (σ36.bump 13))
def F_ref03_inflater_lens_l1 (a0 : AV) (Q : AV → Mem → Prop) (v3 : Int) (v7 : Int) (σ9 : Mem) (v11 : Int) (next13 : Int → Mem → Prop) (v14 : Int) (σ15 : Mem) : Prop :=
ifB (decide (v14 < v11)) (
callW PG n_ref03_Order [] (σ15.bump 12) fun v16 σ17 =>
idxW 1 v16 v14 fun v18 =>
ldI σ17 v18 fun v19 =>
callW PG n_ref03_inflater_bits [a0, .int .i64 3] σ17 fun v20 σ21 =>
fltS.sameW σ17 σ21 v18 (
castI .i64 v20 fun v22 =>
idxW 1 (.slice σ9.next 0 (Int.toNat 19) (.ex (Int.toNat 19))) v19 fun v23 =>
stW 1 σ21 v23 (.int .i64 v22) fun σ24 =>
iW (v14 + 1) fun v25 =>
next13 v25 (σ24.bump 3))) (
callW PG n_ref03_inflater_table [a0, .slice σ9.next 0 (Int.toNat 19) (.ex (Int.toNat 19))] (σ15.bump 7) fun v26 σ27 =>
joinF [.v] (fun (k33 : AV → Mem → Prop) =>
loopF [.v] (F_ref03_inflater_lens_l2 a0 Q v3 v7 v26 k33) .nils (σ27.bump 1)) (F_ref03_inflater_lens_j1 a0 Q v3))
def F_ref03_inflater_lens (a0 : AV) (σ : Mem) (Q : AV → Mem → Prop) : Prop :=
callW PG n_ref03_inflater_bits [a0, .int .i64 5] (σ.bump 6) fun v0 σ1 =>
castI .i64 v0 fun v2 =>
iW (v2 + 257) fun v3 =>
callW PG n_ref03_inflater_bits [a0, .int .i64 5] (σ1.bump 4) fun v4 σ5 =>
castI .i64 v4 fun v6 =>
iW (v6 + 1) fun v7 =>
callW PG n_ref03_inflater_bits [a0, .int .i64 4] (σ5.bump 4) fun v8 σ9 =>
castI .i64 v8 fun v10 =>
iW (v10 + 4) fun v11 =>
makeW 8 19 19 (
newW (σ9.bump 2) σ9.next (.rw (repl (Int.toNat 19) [.int .i64 0])) fun σ12 =>
loopF [tI] (F_ref03_inflater_lens_l1 a0 Q v3 v7 σ9 v11) 0 (σ12.bump 1))
theorem ok_ref03_inflater_lens {a0 σ Q} (h : σ.Live → F_ref03_inflater_lens a0 σ Q) : ACalls PG n_ref03_inflater_lens [a0] σ Q :=
  .of_sem [none, none, none, none, none, none, none, some ([0, 4, 5, 6, 7], [8]), none, none, none, none, none, none, none, some ([0, 4], [10]), some ([0, 4, 5, 9], [10]), none, none, none, none, none, none, none, none, some ([0, 4, 5, 9, 10], [12, 13]), none, none, some ([0, 4, 5, 9, 10], [12, 13]), none, none, none, none, none, some ([0, 4, 5, 9, 10], [12]), none, none, none, some ([0, 4, 5, 9, 10, 12], [13]), none, none, none, some ([0, 4, 5, 9, 10, 12, 13], []), none, none, some ([0, 4, 5, 9], [10]), some ([0, 4, 5, 9, 12, 13], [10, 14]), none, none, none, none, none, none, none, none, none] [(16, tI), (19, tI), (22, tI), (8, tI), (34, tI), (36, tI), (44, tI), (56, tI), (12, tI), (13, tI), (70, tI), (88, tI), (90, tI), (96, tI), (58, tI), (101, tI), (14, tI), (123, tI), (135, tI)] mixed (by kernel_rfl) (by kernel_rfl) h
/-! (*vitrine/bits.Reader).Bits -/
def F_bits_Reader_Bits_l1 (a0 : AV) (a1 : Int) (Q : AV → Mem → Prop) (next4 : Mem → Prop) (σ5 : Mem) : Prop :=
lfI 2 (σ5.bump 6) a0 fun v6 =>
ifB (decide (v6 < a1)) (
lfI 1 (σ5.bump 25) a0 fun v7 =>
lfS 0 (σ5.bump 25) a0 fun v8 =>
sidxW v8 0 fun v9 =>
iW v9 fun v10 =>
lfI 2 (σ5.bump 25) a0 fun v11 =>
shlW .i64 v10 v11 fun v12 =>
letW (bitsOp .or .i64 v7 v12) fun v13 =>
nfW 1 a0 fun v14 =>
stW 1 (σ5.bump 25) v14 (.int .i64 v13) fun σ15 =>
lfI 2 (σ15.bump 8) a0 fun v16 =>
iW (v16 + 8) fun v17 =>
nfW 2 a0 fun v18 =>
stW 1 (σ15.bump 8) v18 (.int .i64 v17) fun σ19 =>
lfS 0 (σ19.bump 9) a0 fun v20 =>
subW v20 1 v20.size fun v21 =>
nfW 0 a0 fun v22 =>
stW 1 (σ19.bump 9) v22 (.str v21) fun σ23 =>
next4 σ23) (
lfI 1 (σ5.bump 15) a0 fun v24 =>
shlW .i64 1 a1 fun v25 =>
iW (v25 - 1) fun v26 =>
letW (bitsOp .and .i64 v24 v26) fun v27 =>
lfI 1 (σ5.bump 24) a0 fun v28 =>
shrW .i64 v28 a1 fun v29 =>
nfW 1 a0 fun v30 =>
stW 1 (σ5.bump 24) v30 (.int .i64 v29) fun σ31 =>
lfI 2 (σ31.bump 9) a0 fun v32 =>
iW (v32 - a1) fun v33 =>
nfW 2 a0 fun v34 =>
stW 1 (σ31.bump 9) v34 (.int .i64 v33) fun σ35 =>
Q (.tup [.int .i64 v27, .int .i64 0]) (σ35.bump 3))
def F_bits_Reader_Bits (a0 : AV) (a1 : Int) (σ : Mem) (Q : AV → Mem → Prop) : Prop :=
eqW .ptr a0 .nilp fun v0 =>
ifB v0 (
Q (.tup [.int .i64 0, .int .i64 2]) (σ.bump 7)) (
ifB (decide (a1 < 0)) (
Q (.tup [.int .i64 0, .int .i64 1]) (σ.bump 14)) (
ifB (decide (24 < a1)) (
Q (.tup [.int .i64 0, .int .i64 1]) (σ.bump 14)) (
callW PG n_bits_Reader_Left [a0] (σ.bump 17) fun v1 σ2 =>
castI .i64 v1 fun v3 =>
ifB (decide (v3 < a1)) (
Q (.tup [.int .i64 0, .int .i64 3]) (σ2.bump 2)) (
loopF [] (F_bits_Reader_Bits_l1 a0 a1 Q) σ2))))
theorem ok_bits_Reader_Bits {a0 a1 σ Q} (h : σ.Live → F_bits_Reader_Bits a0 a1 σ Q) : ACalls PG n_bits_Reader_Bits [a0, .int .i64 a1] σ Q :=
  .of_sem [none, none, none, none, none, none, none, none, none, none, none, none, some ([0, 1], []), none, none, none, none, none, none, none, none, none, none] [(20, tI), (25, tI), (31, tI), (35, .s), (41, tI), (49, tI), (57, .s), (64, tI), (72, tI), (80, tI)] mixed (by kernel_rfl) (by kernel_rfl) h
/-! (*vitrine/inflate.stream).pair -/
def F_inflate_stream_pair (a0 : AV) (σ : Mem) (Q : AV → Mem → Prop) : Prop :=
lfW 0 (σ.bump 12) a0 fun v0 =>
callW PG n_bits_Reader_Bytes [v0, .int .i64 2] (σ.bump 12) fun v1 σ2 =>
tpS v1 0 fun v3 =>
tpI v1 1 fun v4 =>
ifB (decide (v4 ≠ 0)) (
Q (.tup [.int .i64 0, .int .i64 v4]) (σ2.bump 5)) (
sidxW v3 0 fun v5 =>
iW v5 fun v6 =>
sidxW v3 1 fun v7 =>
iW v7 fun v8 =>
iW (v8 * 256) fun v9 =>
letW (bitsOp .or .i64 v6 v9) fun v10 =>
Q (.tup [.int .i64 v10, .int .i64 0]) (σ2.bump 12))
theorem ok_inflate_stream_pair {a0 σ Q} (h : σ.Live → F_inflate_stream_pair a0 σ Q) : ACalls PG n_inflate_stream_pair [a0] σ Q :=
  .of_sem [none, none, none, none, none, none] [(12, .s), (13, tI)] mixed (by kernel_rfl) (by kernel_rfl) h
/-! (*vitrine/bits.Reader).Bytes -/
def F_bits_Reader_Bytes (a0 : AV) (a1 : Int) (σ : Mem) (Q : AV → Mem → Prop) : Prop :=
eqW .ptr a0 .nilp fun v0 =>
ifB v0 (
Q (.tup [.str ⟨#[]⟩, .int .i64 2]) (σ.bump 7)) (
ifB (decide (a1 < 0)) (
Q (.tup [.str ⟨#[]⟩, .int .i64 1]) (σ.bump 10)) (
nfW 1 a0 fun v1 =>
stW 1 (σ.bump 16) v1 (.int .i64 0) fun σ2 =>
nfW 2 a0 fun v3 =>
stW 1 σ2 v3 (.int .i64 0) fun σ4 =>
lfS 0 (σ4.bump 7) a0 fun v5 =>
ifB (decide ((v5.size : Int) < a1)) (
Q (.tup [.str ⟨#[]⟩, .int .i64 3]) (σ4.bump 9)) (
lfS 0 (σ4.bump 14) a0 fun v6 =>
subW v6 0 a1 fun v7 =>
lfS 0 (σ4.bump 24) a0 fun v8 =>
subW v8 a1 v8.size fun v9 =>
nfW 0 a0 fun v10 =>
stW 1 (σ4.bump 24) v10 (.str v9) fun σ11 =>
Q (.tup [.str v7, .int .i64 0]) (σ11.bump 3))))
theorem ok_bits_Reader_Bytes {a0 a1 σ Q} (h : σ.Live → F_bits_Reader_Bytes a0 a1 σ Q) : ACalls PG n_bits_Reader_Bytes [a0, .int .i64 a1] σ Q :=
  .of_sem [none, none, none, none, none, none, none, none, none, none, none, none, none, none, none] [(23, .s), (29, .s), (36, .s)] mixed (by kernel_rfl) (by kernel_rfl) h
/-! (*vitrine/inflate.stream).small -/
def F_inflate_stream_small_l1 (a0 : AV) (Q : AV → Mem → Prop) (σ : Mem) (v2 : AV) (v3 : Int) (next4 : Int → Mem → Prop) (v5 : Int) (σ6 : Mem) : Prop :=
ifB (decide (v5 < v3)) (
idxW 1 v2 v5 fun v7 =>
ldI (σ6.bump 4) v7 fun v8 =>
lfW 0 (σ6.bump 14) a0 fun v9 =>
callW PG n_bits_Reader_Bits [v9, .int .i64 3] (σ6.bump 14) fun v10 σ11 =>
tpI v10 0 fun v12 =>
tpI v10 1 fun v13 =>
ifB (decide (v13 ≠ 0)) (
Q (.tup [.nilp, .int .i64 v13]) (σ11.bump 5)) (
idxAW 19 1 (.ptr (σ.next + 2) 0) v8 fun v14 =>
stW 1 (σ11.bump 6) v14 (.int .i64 v12) fun σ15 =>
iW (v5 + 1) fun v16 =>
next4 v16 (σ15.bump 2))) (
slaW 19 1 (.ptr (σ.next + 2) 0) none none fun v17 =>
callW PG n_huff_Make [v17] (σ6.bump 7) fun v18 σ19 =>
tupW v18 0 fun v20 =>
tpI v18 1 fun v21 =>
Q (.tup [v20, .int .i64 v21]) σ19)
def F_inflate_stream_small (a0 : AV) (a1 : Int) (σ : Mem) (Q : AV → Mem → Prop) : Prop :=
newW (σ.bump 3) (σ.next + 2) (.rw (List.replicate 19 (.int .i64 0))) fun σ0 =>
newW (σ0.bump 5) σ0.next (.rw [.int .i64 16, .int .i64 17, .int .i64 18, .int .i64 0, .int .i64 8, .int .i64 7, .int .i64 9, .int .i64 6, .int .i64 10, .int .i64 5, .int .i64 11, .int .i64 4, .int .i64 12, .int .i64 3, .int .i64 13, .int .i64 2, .int .i64 14, .int .i64 1, .int .i64 15]) fun σ1 =>
slcW 1 (.slice σ0.next 0 19 (.ex 19)) none (some a1) fun v2 =>
slenW v2 fun v3 =>
loopF [tI] (F_inflate_stream_small_l1 a0 Q σ v2 v3) 0 σ1
theorem ok_inflate_stream_small {a0 a1 σ Q} (h : σ.Live → F_inflate_stream_small a0 a1 σ Q) : ACalls PG n_inflate_stream_small [a0, .int .i64 a1] σ Q :=
  .of_sem [none, none, none, none, some ([0, 6, 13, 14], [15]), none, none, none, none, none, none, none, none, none, none, none] [(15, tI), (18, tI), (25, tI), (26, tI), (37, tI)] mixed (by kernel_rfl) (by kernel_rfl) h
/-! (*vitrine/inflate.stream).run -/
def F_inflate_stream_run (a0 : AV) (a1 : AV) (a2 : AV) (σ : Mem) (Q : AV → Mem → Prop) : Prop :=
lfW 0 (σ.bump 14) a0 fun v0 =>
callW PG n_huff_Table_Next [a1, v0] (σ.bump 14) fun v1 σ2 =>
tpI v1 0 fun v3 =>
tpI v1 1 fun v4 =>
ifB (decide (v4 ≠ 0)) (
Q (.tup [.int .i64 v3, .int .i64 1, .int .i64 v4]) (σ2.bump 11)) (
ifB (decide (v3 < 16)) (
Q (.tup [.int .i64 v3, .int .i64 1, .int .i64 v4]) (σ2.bump 11)) (
ifB (decide (v3 = 16)) (
slenW a2 fun v5 =>
ifB (decide (v5 = 0)) (
Q (.tup [.int .i64 0, .int .i64 0, .int .i64 12]) (σ2.bump 16)) (
iW (v3 - 16) fun v6 =>
aidxW 3 1 none (.agg [.int .i64 2, .int .i64 3, .int .i64 7]) v6 fun a => castI .i64 a fun v7 =>
lfW 0 (σ2.bump 29) a0 fun v8 =>
callW PG n_bits_Reader_Bits [v8, .int .i64 v7] (σ2.bump 29) fun v9 σ10 =>
tpI v9 0 fun v11 =>
tpI v9 1 fun v12 =>
iW (v3 - 16) fun v13 =>
aidxW 3 1 none (.agg [.int .i64 3, .int .i64 3, .int .i64 11]) v13 fun a => castI .i64 a fun v14 =>
iW (v11 + v14) fun v15 =>
ifB (decide (v3 = 16)) (
slenW a2 fun v16 =>
iW (v16 - 1) fun v17 =>
idxW 1 a2 v17 fun v18 =>
ldI (σ10.bump 20) v18 fun v19 =>
Q (.tup [.int .i64 v19, .int .i64 v15, .int .i64 v12]) (σ10.bump 20)) (
Q (.tup [.int .i64 0, .int .i64 v15, .int .i64 v12]) (σ10.bump 14)))) (
iW (v3 - 16) fun v20 =>
aidxW 3 1 none (.agg [.int .i64 2, .int .i64 3, .int .i64 7]) v20 fun a => castI .i64 a fun v21 =>
lfW 0 (σ2.bump 29) a0 fun v22 =>
callW PG n_bits_Reader_Bits [v22, .int .i64 v21] (σ2.bump 29) fun v23 σ24 =>
tpI v23 0 fun v25 =>
tpI v23 1 fun v26 =>
iW (v3 - 16) fun v27 =>
aidxW 3 1 none (.agg [.int .i64 3, .int .i64 3, .int .i64 11]) v27 fun a => castI .i64 a fun v28 =>
iW (v25 + v28) fun v29 =>
ifB (decide (v3 = 16)) (
slenW a2 fun v30 =>
iW (v30 - 1) fun v31 =>
idxW 1 a2 v31 fun v32 =>
ldI (σ24.bump 20) v32 fun v33 =>
Q (.tup [.int .i64 v33, .int .i64 v29, .int .i64 v26]) (σ24.bump 20)) (
Q (.tup [.int .i64 0, .int .i64 v29, .int .i64 v26]) (σ24.bump 14)))))
theorem ok_inflate_stream_run {a0 a1 a2 σ Q} (h : σ.Live → F_inflate_stream_run a0 a1 a2 σ Q) : ACalls PG n_inflate_stream_run [a0, a1, a2] σ Q :=
  .of_sem [none, none, none, none, none, none, none, none, none, none, none, none, none, none, none] [(21, tI), (22, tI), (41, tI), (49, tI), (50, tI), (55, tI), (64, tI)] mixed (by kernel_rfl) (by kernel_rfl) h
/-! vitrine/huff.Codes -/
def F_huff_Codes_j1 (next12 : Int → Mem → Prop) (v13 : Int) (σ17 : Mem) : Prop :=
iW (v13 + 1) fun v18 =>
next12 v18 (σ17.bump 2)
def F_huff_Codes_l1 (a0 : AV) (Q : AV → Mem → Prop) (σ1 : Mem) (σ8 : Mem) (v9 : Int) (v11 : Int) (next12 : Int → Mem → Prop) (v13 : Int) (σ14 : Mem) : Prop :=
ifB (decide (v13 < v11)) (
idxW 1 a0 v13 fun v15 =>
ldI (σ14.bump 6) v15 fun v16 =>
joinF [] (fun (k19 : Mem → Prop) =>
ifB (decide (0 < v16)) (
idxAW 16 1 (.ptr (σ1.next + 5) 0) v16 fun v20 =>
ldI (σ14.bump 15) v20 fun v21 =>
idxW 1 (.slice (σ8.next + 2) 0 (Int.toNat v9) (.ex (Int.toNat v9))) v13 fun v22 =>
stW 1 (σ14.bump 15) v22 (.int .i64 v21) fun σ23 =>
idxAW 16 1 (.ptr (σ1.next + 5) 0) v16 fun v24 =>
ldI (σ23.bump 6) v24 fun v25 =>
iW (v25 + 1) fun v26 =>
idxAW 16 1 (.ptr (σ1.next + 5) 0) v16 fun v27 =>
stW 1 (σ23.bump 6) v27 (.int .i64 v26) fun σ28 =>
k19 σ28) (
k19 (σ14.bump 8))) (F_huff_Codes_j1 next12 v13)) (
Q (.tup [.slice (σ8.next + 2) 0 (Int.toNat v9) (.ex (Int.toNat v9)), .int .i64 0]) (σ14.bump 4))
def F_huff_Codes (a0 : AV) (σ : Mem) (Q : AV → Mem → Prop) : Prop :=
callW PG n_huff_Check [a0] (σ.bump 5) fun v0 σ1 =>
castI .i64 v0 fun v2 =>
ifB (decide (v2 ≠ 0)) (
Q (.tup [.nils, .int .i64 v2]) (σ1.bump 5)) (
callW PG n_huff_counted [a0] (σ1.bump 7) fun v3 σ4 =>
callW PG n_huff_first [v3] σ4 fun v5 σ6 =>
newW σ6 (σ1.next + 5) (.rw (List.replicate 16 (.int .i64 0))) fun σ7 =>
stW 16 σ7 (.ptr (σ1.next + 5) 0) v5 fun σ8 =>
slenW a0 fun v9 =>
makeW 8 v9 v9 (
newW (σ8.bump 4) (σ8.next + 2) (.rw (repl (Int.toNat v9) [.int .i64 0])) fun σ10 =>
slenW a0 fun v11 =>
loopF [tI] (F_huff_Codes_l1 a0 Q σ1 σ8 v9 v11) 0 (σ10.bump 3)))
theorem ok_huff_Codes {a0 σ Q} (h : σ.Live → F_huff_Codes a0 σ Q) : ACalls PG n_huff_Codes [a0] σ Q :=
  .of_sem [none, none, none, none, none, none, none, none, none, some ([5, 6, 20, 21], [22]), none, none, none, none, none, some ([5, 6, 20, 21, 22], []), none, none, none, none] [(10, tI), (22, tI), (26, tI), (33, tI), (37, tI)] mixed (by kernel_rfl) (by kernel_rfl) h
/-! slices.Clone[[]int,int] -/
def F_slices_Clone___int_int_ (a0 : AV) (σ : Mem) (Q : AV → Mem → Prop) : Prop :=
eqW .sl a0 .nils fun v0 =>
ifB v0 (
Q .nils (σ.bump 4)) (
newW (σ.bump 7) (σ.next + 3) (.rw []) fun σ1 =>
apW 1 8 (σ.next + 5) σ1 (.slice (σ.next + 3) 0 0 (.ex 0)) a0 fun v2 σ3 =>
Q v2 σ3)
theorem ok_slices_Clone___int_int_ {a0 σ Q} (h : σ.Live → F_slices_Clone___int_int_ a0 σ Q) : ACalls PG n_slices_Clone___int_int_ [a0] σ Q :=
  .of_sem [none, none, none, none, none] [] mixed (by kernel_rfl) (by kernel_rfl) h
/-! vitrine/huff.counted -/
def F_huff_counted_j1 (next3 : Int → Mem → Prop) (v4 : Int) (σ8 : Mem) : Prop :=
iW (v4 + 1) fun v9 =>
next3 v9 (σ8.bump 2)
def F_huff_counted_l1 (a0 : AV) (Q : AV → Mem → Prop) (σ : Mem) (σ0 : Mem) (v2 : Int) (next3 : Int → Mem → Prop) (v4 : Int) (σ5 : Mem) : Prop :=
ifB (decide (v4 < v2)) (
idxW 1 a0 v4 fun v6 =>
ldI (σ5.bump 4) v6 fun v7 =>
joinF [] (fun (k10 : Mem → Prop) =>
ifB (decide (0 < v7)) (
idxAW 16 1 (.ptr σ0.next 0) v7 fun v11 =>
ldI (σ5.bump 12) v11 fun v12 =>
iW (v12 + 1) fun v13 =>
idxAW 16 1 (.ptr σ0.next 0) v7 fun v14 =>
stW 1 (σ5.bump 12) v14 (.int .i64 v13) fun σ15 =>
k10 σ15) (
k10 (σ5.bump 6))) (F_huff_counted_j1 next3 v4)) (
ldnW 16 (σ5.bump 3) (.ptr σ0.next 0) fun v16 =>
stW 16 (σ5.bump 3) (.ptr σ.next 0) v16 fun σ17 =>
ldnW 16 σ17 (.ptr σ.next 0) fun v18 =>
Q v18 σ17)
def F_huff_counted (a0 : AV) (σ : Mem) (Q : AV → Mem → Prop) : Prop :=
newW (σ.bump 1) σ.next (.rw (List.replicate 16 (.int .i64 0))) fun σ0 =>
newW (σ0.bump 1) σ0.next (.rw (List.replicate 16 (.int .i64 0))) fun σ1 =>
slenW a0 fun v2 =>
loopF [tI] (F_huff_counted_l1 a0 Q σ σ0 v2) 0 (σ1.bump 3)
theorem ok_huff_counted {a0 σ Q} (h : σ.Live → F_huff_counted a0 σ Q) : ACalls PG n_huff_counted [a0] σ Q :=
  .of_sem [none, none, none, none, some ([2, 3, 6, 7], [8]), none, none, none, none, none, some ([2, 3, 6, 7, 8], []), none, none, none] [(8, tI), (11, tI), (16, tI)] mixed (by kernel_rfl) (by kernel_rfl) h
/-! slices.SortStableFunc[[]int,int] -/
def F_slices_SortStableFunc___int_int_ (a0 : AV) (a1 : AV) (σ : Mem) (Q : AV → Mem → Prop) : Prop :=
slenW a0 fun v0 =>
callW PG n_slices_stableCmpFunc_int_ [a0, .int .i64 v0, a1] (σ.bump 5) fun v1 σ2 =>
Q (.tup []) σ2
theorem ok_slices_SortStableFunc___int_int_ {a0 a1 σ Q} (h : σ.Live → F_slices_SortStableFunc___int_int_ a0 a1 σ Q) : ACalls PG n_slices_SortStableFunc___int_int_ [a0, a1] σ Q :=
  .of_sem [none] [] mixed (by kernel_rfl) (by kernel_rfl) h
/-! vitrine/huff.Make$1 -/
def F_huff_Make_1 (a0 : Int) (a1 : Int) (a2 : AV) (σ : Mem) (Q : AV → Mem → Prop) : Prop :=
ldW (σ.bump 11) a2 fun v0 =>
idxW 1 v0 a0 fun v1 =>
ldI (σ.bump 11) v1 fun v2 =>
ldW (σ.bump 11) a2 fun v3 =>
idxW 1 v3 a1 fun v4 =>
ldI (σ.bump 11) v4 fun v5 =>
callW PG n_cmp_Compare_int_ [.int .i64 v2, .int .i64 v5] (σ.bump 11) fun v6 σ7 =>
castI .i64 v6 fun v8 =>
Q (.int .i64 v8) σ7
theorem ok_huff_Make_1 {a0 a1 a2 σ Q} (h : σ.Live → F_huff_Make_1 a0 a1 a2 σ Q) : ACalls PG n_huff_Make_1 [.int .i64 a0, .int .i64 a1, a2] σ Q :=
  .of_sem [none, none] [(9, tI), (13, tI), (14, tI)] mixed (by kernel_rfl) (by kernel_rfl) h
/-! cmp.Compare[int] -/
def F_cmp_Compare_int_ (a0 : Int) (a1 : Int) (σ : Mem) (Q : AV → Mem → Prop) : Prop :=
callW PG n_cmp_isNaN_int_ [.int .i64 a0] (σ.bump 4) fun v0 σ1 =>
castB v0 fun v2 =>
callW PG n_cmp_isNaN_int_ [.int .i64 a1] (σ1.bump 3) fun v3 σ4 =>
castB v3 fun v5 =>
ifB v2 (
ifB v5 (
Q (.int .i64 0) (σ4.bump 3)) (
Q (.int .i64 (-1)) (σ4.bump 3))) (
ifB v5 (
Q (.int .i64 1) (σ4.bump 3)) (
ifB (decide (a0 < a1)) (
Q (.int .i64 (-1)) (σ4.bump 6)) (
ifB (decide (a1 < a0)) (
Q (.int .i64 1) (σ4.bump 9)) (
Q (.int .i64 0) (σ4.bump 9)))))
theorem ok_cmp_Compare_int_ {a0 a1 σ Q} (h : σ.Live → F_cmp_Compare_int_ a0 a1 σ Q) : ACalls PG n_cmp_Compare_int_ [.int .i64 a0, .int .i64 a1] σ Q :=
  .of_sem [none, none, none, none, none, none, none, none, none, none, none, none, none, none, none, none, none, none, none] [(8, .b), (10, .b)] mixed (by kernel_rfl) (by kernel_rfl) h
/-! (*vitrine/inflate.stream).length -/
def F_inflate_stream_length (a0 : AV) (a1 : Int) (σ : Mem) (Q : AV → Mem → Prop) : Prop :=
iW (a1 - 257) fun v0 =>
ifB (decide (285 < a1)) (
Q (.tup [.int .i64 0, .int .i64 12]) (σ.bump 10)) (
ifB (decide (a1 = 285)) (
Q (.tup [.int .i64 258, .int .i64 0]) (σ.bump 13)) (
ifB (decide (v0 < 8)) (
iW (v0 + 3) fun v1 =>
Q (.tup [.int .i64 v1, .int .i64 0]) (σ.bump 18)) (
quoW .i64 v0 4 fun v2 =>
iW (v2 - 1) fun v3 =>
lfW 0 (σ.bump 29) a0 fun v4 =>
callW PG n_bits_Reader_Bits [v4, .int .i64 v3] (σ.bump 29) fun v5 σ6 =>
tpI v5 0 fun v7 =>
tpI v5 1 fun v8 =>
remW v0 4 fun v9 =>
iW (4 + v9) fun v10 =>
shlW .i64 v10 v3 fun v11 =>
iW (v11 + 3) fun v12 =>
iW (v12 + v7) fun v13 =>
Q (.tup [.int .i64 v13, .int .i64 v8]) (σ6.bump 11))))
theorem ok_inflate_stream_length {a0 a1 σ Q} (h : σ.Live → F_inflate_stream_length a0 a1 σ Q) : ACalls PG n_inflate_stream_length [a0, .int .i64 a1] σ Q :=
  .of_sem [none, none, none, none, none, none, none, none, none, none, none, none, none, none, none] [(33, tI), (34, tI)] mixed (by kernel_rfl) (by kernel_rfl) h
/-! (*vitrine/inflate.stream).distance -/
def F_inflate_stream_distance (a0 : AV) (a1 : Int) (σ : Mem) (Q : AV → Mem → Prop) : Prop :=
ifB (decide (29 < a1)) (
Q (.tup [.int .i64 0, .int .i64 12]) (σ.bump 7)) (
ifB (decide (a1 < 4)) (
iW (a1 + 1) fun v0 =>
Q (.tup [.int .i64 v0, .int .i64 0]) (σ.bump 12)) (
quoW .i64 a1 2 fun v1 =>
iW (v1 - 1) fun v2 =>
lfW 0 (σ.bump 23) a0 fun v3 =>
callW PG n_bits_Reader_Bits [v3, .int .i64 v2] (σ.bump 23) fun v4 σ5 =>
tpI v4 0 fun v6 =>
tpI v4 1 fun v7 =>
remW a1 2 fun v8 =>
iW (2 + v8) fun v9 =>
shlW .i64 v9 v2 fun v10 =>
iW (v10 + 1) fun v11 =>
iW (v11 + v6) fun v12 =>
Q (.tup [.int .i64 v12, .int .i64 v7]) (σ5.bump 11)))
theorem ok_inflate_stream_distance {a0 a1 σ Q} (h : σ.Live → F_inflate_stream_distance a0 a1 σ Q) : ACalls PG n_inflate_stream_distance [a0, .int .i64 a1] σ Q :=
  .of_sem [none, none, none, none, none, none, none, none, none, none, none] [(27, tI), (28, tI)] mixed (by kernel_rfl) (by kernel_rfl) h
/-! (*vitrine/vitrineref01.Reader).Bits -/
def F_ref01_Reader_Bits_l1 (a0 : AV) (a1 : Int) (Q : AV → Mem → Prop) (next3 : Int → Int → Mem → Prop) (v4 : Int) (v5 : Int) (σ6 : Mem) : Prop :=
ifB (decide (v5 < a1)) (
lfS 0 (σ6.bump 30) a0 fun v7 =>
lfI 1 (σ6.bump 30) a0 fun v8 =>
iW (v8 + v5) fun v9 =>
quoW .i64 v9 8 fun v10 =>
sidxW v7 v10 fun v11 =>
lfI 1 (σ6.bump 30) a0 fun v12 =>
iW (v12 + v5) fun v13 =>
remW v13 8 fun v14 =>
shrW .u8 v11 v14 fun v15 =>
letW (bitsOp .and .u8 v15 1) fun v16 =>
iW v16 fun v17 =>
shlW .i64 v17 v5 fun v18 =>
letW (bitsOp .or .i64 v4 v18) fun v19 =>
iW (v5 + 1) fun v20 =>
next3 v19 v20 (σ6.bump 33)) (
lfI 1 (σ6.bump 13) a0 fun v21 =>
iW (v21 + a1) fun v22 =>
nfW 1 a0 fun v23 =>
stW 1 (σ6.bump 13) v23 (.int .i64 v22) fun σ24 =>
Q (.tup [.int .i64 v4, .int .i64 0]) (σ24.bump 3))
def F_ref01_Reader_Bits (a0 : AV) (a1 : Int) (σ : Mem) (Q : AV → Mem → Prop) : Prop :=
ifB (decide (a1 < 0)) (
Q (.tup [.int .i64 0, .int .i64 1]) (σ.bump 10)) (
ifB (decide (24 < a1)) (
Q (.tup [.int .i64 0, .int .i64 1]) (σ.bump 10)) (
callW PG n_ref01_Reader_Left [a0] (σ.bump 12) fun v0 σ1 =>
castI .i64 v0 fun v2 =>
ifB (decide (v2 < a1)) (
Q (.tup [.int .i64 0, .int .i64 3]) (σ1.bump 2)) (
loopF [tI, tI] (F_ref01_Reader_Bits_l1 a0 a1 Q) 0 0 (σ1.bump 2))))
theorem ok_ref01_Reader_Bits {a0 a1 σ Q} (h : σ.Live → F_ref01_Reader_Bits a0 a1 σ Q) : ACalls PG n_ref01_Reader_Bits [a0, .int .i64 a1] σ Q :=
  .of_sem [none, none, none, none, none, none, none, none, none, none, some ([0, 1], [6, 7]), none, none, none, none, none, none, none] [(16, tI), (6, tI), (7, tI), (27, .s), (31, tI), (39, tI), (53, tI)] mixed (by kernel_rfl) (by kernel_rfl) h
/-! (*vitrine/vitrineref03.inflater).bytes -/
def F_ref03_inflater_bytes (a0 : AV) (a1 : Int) (σ : Mem) (Q : AV → Mem → Prop) : Prop :=
lfI 3 (σ.bump 6) a0 fun v0 =>
ifB (decide (v0 ≠ 0)) (
Q (.str ⟨#[]⟩) (σ.bump 7)) (
lfW 0 (σ.bump 17) a0 fun v1 =>
callW PG n_ref01_Reader_Bytes [v1, .int .i64 a1] (σ.bump 17) fun v2 σ3 =>
tpS v2 0 fun v4 =>
tpI v2 1 fun v5 =>
nfW 3 a0 fun v6 =>
stW 1 (σ3.bump 5) v6 (.int .i64 v5) fun σ7 =>
Q (.str v4) (σ7.bump 2))
theorem ok_ref03_inflater_bytes {a0 a1 σ Q} (h : σ.Live → F_ref03_inflater_bytes a0 a1 σ Q) : ACalls PG n_ref03_inflater_bytes [a0, .int .i64 a1] σ Q :=
  .of_sem [none, none, none, none, none, none, none] [(10, tI), (19, .s), (20, tI)] mixed (by kernel_rfl) (by kernel_rfl) h
/-! (*vitrine/vitrineref03.inflater).table -/
def F_ref03_inflater_table (a0 : AV) (a1 : AV) (σ : Mem) (Q : AV → Mem → Prop) : Prop :=
lfI 3 (σ.bump 6) a0 fun v0 =>
ifB (decide (v0 ≠ 0)) (
Q .nilp (σ.bump 7)) (
callW PG n_ref02_Make [a1] (σ.bump 13) fun v1 σ2 =>
tupW v1 0 fun v3 =>
tpI v1 1 fun v4 =>
nfW 3 a0 fun v5 =>
stW 1 (σ2.bump 5) v5 (.int .i64 v4) fun σ6 =>
Q v3 (σ6.bump 2))
theorem ok_ref03_inflater_table {a0 a1 σ Q} (h : σ.Live → F_ref03_inflater_table a0 a1 σ Q) : ACalls PG n_ref03_inflater_table [a0, a1] σ Q :=
  .of_sem [none, none, none, none, none, none, none] [(10, tI), (16, tI)] mixed (by kernel_rfl) (by kernel_rfl) h
/-! (*vitrine/vitrineref03.inflater).next -/
def F_ref03_inflater_next (a0 : AV) (a1 : AV) (σ : Mem) (Q : AV → Mem → Prop) : Prop :=
lfI 3 (σ.bump 6) a0 fun v0 =>
ifB (decide (v0 ≠ 0)) (
Q (.int .i64 0) (σ.bump 7)) (
lfW 0 (σ.bump 17) a0 fun v1 =>
callW PG n_ref02_Table_Next [a1, v1] (σ.bump 17) fun v2 σ3 =>
tpI v2 0 fun v4 =>
tpI v2 1 fun v5 =>
nfW 3 a0 fun v6 =>
stW 1 (σ3.bump 5) v6 (.int .i64 v5) fun σ7 =>
Q (.int .i64 v4) (σ7.bump 2))
theorem ok_ref03_inflater_next {a0 a1 σ Q} (h : σ.Live → F_ref03_inflater_next a0 a1 σ Q) : ACalls PG n_ref03_inflater_next [a0, a1] σ Q :=
  .of_sem [none, none, none, none, none, none, none] [(10, tI), (19, tI), (20, tI)] mixed (by kernel_rfl) (by kernel_rfl) h
/-! vitrine/vitrineref03.Length -/
def F_ref03_Length_l1 (a0 : Int) (Q : AV → Mem → Prop) (next0 : Int → Int → Mem → Prop) (v1 : Int) (v2 : Int) (σ3 : Mem) : Prop :=
ifB (decide (v2 < a0)) (
callW PG n_ref03_lengthBits [.int .i64 v2] (σ3.bump 9) fun v4 σ5 =>
castI .i64 v4 fun v6 =>
shlW .i64 1 v6 fun v7 =>
iW (v1 + v7) fun v8 =>
iW (v2 + 1) fun v9 =>
next0 v8 v9 (σ5.bump 3)) (
callW PG n_ref03_lengthBits [.int .i64 a0] (σ3.bump 8) fun v10 σ11 =>
castI .i64 v10 fun v12 =>
Q (.tup [.int .i64 v1, .int .i64 v12]) σ11)
def F_ref03_Length (a0 : Int) (σ : Mem) (Q : AV → Mem → Prop) : Prop :=
ifB (decide (a0 = 285)) (
Q (.tup [.int .i64 258, .int .i64 0]) (σ.bump 6)) (
loopF [tI, tI] (F_ref03_Length_l1 a0 Q) 3 257 (σ.bump 6))
theorem ok_ref03_Length {a0 σ Q} (h : σ.Live → F_ref03_Length a0 σ Q) : ACalls PG n_ref03_Length [.int .i64 a0] σ Q :=
  .of_sem [none, none, none, none, none, none, none, some ([0], [4, 5]), none, none, none, none, none, none] [(4, tI), (5, tI), (15, tI), (20, tI)] mixed (by kernel_rfl) (by kernel_rfl) h
/-! vitrine/vitrineref03.Distance -/
def F_ref03_Distance_l1 (a0 : Int) (Q : AV → Mem → Prop) (next0 : Int → Int → Mem → Prop) (v1 : Int) (v2 : Int) (σ3 : Mem) : Prop :=
ifB (decide (v2 < a0)) (
callW PG n_ref03_distanceBits [.int .i64 v2] (σ3.bump 9) fun v4 σ5 =>
castI .i64 v4 fun v6 =>
shlW .i64 1 v6 fun v7 =>
iW (v1 + v7) fun v8 =>
iW (v2 + 1) fun v9 =>
next0 v8 v9 (σ5.bump 3)) (
callW PG n_ref03_distanceBits [.int .i64 a0] (σ3.bump 8) fun v10 σ11 =>
castI .i64 v10 fun v12 =>
Q (.tup [.int .i64 v1, .int .i64 v12]) σ11)
def F_ref03_Distance (a0 : Int) (σ : Mem) (Q : AV → Mem → Prop) : Prop :=
loopF [tI, tI] (F_ref03_Distance_l1 a0 Q) 1 0 (σ.bump 4)
theorem ok_ref03_Distance {a0 σ Q} (h : σ.Live → F_ref03_Distance a0 σ Q) : ACalls PG n_ref03_Distance [.int .i64 a0] σ Q :=
  .of_sem [none, none, none, none, some ([0], [4, 5]), none, none, none, none, none, none] [(4, tI), (5, tI), (13, tI), (18, tI)] mixed (by kernel_rfl) (by kernel_rfl) h
/-! vitrine/vitrineref03.Order -/
def F_ref03_Order (σ : Mem) (Q : AV → Mem → Prop) : Prop :=
newW (σ.bump 3) (σ.next + 1) (.rw [.int .i64 16, .int .i64 17, .int .i64 18, .int .i64 0, .int .i64 8, .int .i64 7, .int .i64 9, .int .i64 6, .int .i64 10, .int .i64 5, .int .i64 11, .int .i64 4, .int .i64 12, .int .i64 3, .int .i64 13, .int .i64 2, .int .i64 14, .int .i64 1, .int .i64 15]) fun σ0 =>
Q (.slice (σ.next + 1) 0 19 (.ex 19)) σ0
theorem ok_ref03_Order {σ Q} (h : σ.Live → F_ref03_Order σ Q) : ACalls PG n_ref03_Order [] σ Q :=
  .of_sem [none, none] [] mixed (by kernel_rfl) (by kernel_rfl) h
/-! vitrine/huff.Check -/
def F_huff_Check_l1 (Q : AV → Mem → Prop) (σ2 : Mem) (v8 : AV) (next9 : Int → Int → Int → Mem → Prop) (v10 : Int) (v11 : Int) (v12 : Int) (σ13 : Mem) : Prop :=
ifB (decide (v12 < 16)) (
aidxW 16 1 none v8 v12 fun a => castI .i64 a fun v14 =>
iW (15 - v12) fun v15 =>
shlW .i64 v14 v15 fun v16 =>
iW (v10 + v16) fun v17 =>
iW (v11 + v14) fun v18 =>
iW (v12 + 1) fun v19 =>
next9 v17 v18 v19 (σ13.bump 18)) (
ifB (decide (32768 < v10)) (
Q (.int .i64 10) (σ13.bump 5)) (
ifB (decide (v10 < 32768)) (
ifB (decide (0 < v11)) (
ifB (decide (1 < v11)) (
Q (.int .i64 11) (σ13.bump 21)) (
idxAW 16 1 (.ptr (σ2.next + 2) 0) 1 fun v20 =>
ldI (σ13.bump 20) v20 fun v21 =>
ifB (decide (v21 = 0)) (
Q (.int .i64 11) (σ13.bump 21)) (
Q (.int .i64 0) (σ13.bump 21)))) (
Q (.int .i64 0) (σ13.bump 21))) (
Q (.int .i64 0) (σ13.bump 21))))
def F_huff_Check (a0 : AV) (σ : Mem) (Q : AV → Mem → Prop) : Prop :=
slenW a0 fun v0 =>
ifB (decide (288 < v0)) (
Q (.int .i64 1) (σ.bump 9)) (
callW PG n_slices_ContainsFunc___int_int_ [a0, .func 55 []] (σ.bump 8) fun v1 σ2 =>
castB v1 fun v3 =>
ifB v3 (
Q (.int .i64 1) (σ2.bump 1)) (
callW PG n_huff_counted [a0] (σ2.bump 4) fun v4 σ5 =>
newW σ5 (σ2.next + 2) (.rw (List.replicate 16 (.int .i64 0))) fun σ6 =>
stW 16 σ6 (.ptr (σ2.next + 2) 0) v4 fun σ7 =>
ldnW 16 (σ7.bump 4) (.ptr (σ2.next + 2) 0) fun v8 =>
loopF [tI, tI, tI] (F_huff_Check_l1 Q σ2 v8) 0 0 0 (σ7.bump 4)))
theorem ok_huff_Check {a0 σ Q} (h : σ.Live → F_huff_Check a0 σ Q) : ACalls PG n_huff_Check [a0] σ Q :=
  .of_sem [none, none, none, none, none, none, none, none, some ([3, 17], [4, 5, 18]), none, none, none, none, none, none, none, none, none, none, none, none, none, none, none] [(13, .b), (4, tI), (5, tI), (18, tI), (21, tI), (47, tI)] mixed (by kernel_rfl) (by kernel_rfl) h
/-! vitrine/huff.first -/
def F_huff_first_l1 (Q : AV → Mem → Prop) (σ : Mem) (σ1 : Mem) (next3 : Int → Mem → Prop) (v4 : Int) (σ5 : Mem) : Prop :=
ifB (decide (v4 ≤ 15)) (
iW (v4 - 1) fun v6 =>
idxAW 16 1 (.ptr σ1.next 0) v6 fun v7 =>
ldI (σ5.bump 15) v7 fun v8 =>
iW (v4 - 1) fun v9 =>
idxAW 16 1 (.ptr σ.next 0) v9 fun v10 =>
ldI (σ5.bump 15) v10 fun v11 =>
iW (v8 + v11) fun v12 =>
iW (v12 * 2) fun v13 =>
idxAW 16 1 (.ptr σ1.next 0) v4 fun v14 =>
stW 1 (σ5.bump 15) v14 (.int .i64 v13) fun σ15 =>
iW (v4 + 1) fun v16 =>
next3 v16 (σ15.bump 3)) (
ldnW 16 (σ5.bump 4) (.ptr σ1.next 0) fun v17 =>
stW 16 (σ5.bump 4) (.ptr (σ.next + 1) 0) v17 fun σ18 =>
ldnW 16 σ18 (.ptr (σ.next + 1) 0) fun v19 =>
Q v19 σ18)
def F_huff_first (a0 : AV) (σ : Mem) (Q : AV → Mem → Prop) : Prop :=
boxW a0 (
newW (σ.bump 2) σ.next (.rw a0.cells) fun σ0 =>
newW σ0 (σ.next + 1) (.rw (List.replicate 16 (.int .i64 0))) fun σ1 =>
newW (σ1.bump 1) σ1.next (.rw (List.replicate 16 (.int .i64 0))) fun σ2 =>
loopF [tI] (F_huff_first_l1 Q σ σ1) 2 (σ2.bump 1))
theorem ok_huff_first {a0 σ Q} (h : σ.Live → F_huff_first a0 σ Q) : ACalls PG n_huff_first [a0] σ Q :=
  .of_sem [none, none, none, none, some ([1, 2, 3], [4]), none, none, none, none, none, none] [(4, tI), (13, tI), (17, tI)] mixed (by kernel_rfl) (by kernel_rfl) h
/-! slices.stableCmpFunc[int] -/
def F_slices_stableCmpFunc_int__j1 (next9 : Int → Mem → Prop) (v10 : Int) (σ23 : Mem) : Prop :=
iW (v10 * 2) fun v24 =>
next9 v24 (σ23.bump 3)
def F_slices_stableCmpFunc_int__l3 (a0 : AV) (a1 : Int) (a2 : AV) (next9 : Int → Mem → Prop) (v10 : Int) (next13 : Int → Int → Mem → Prop) (v14 : Int) (v15 : Int) (σ16 : Mem) : Prop :=
ifB (decide (v15 ≤ a1)) (
iW (v14 + v10) fun v17 =>
callW PG n_slices_symMergeCmpFunc_int_ [a0, .int .i64 v14, .int .i64 v17, .int .i64 v15, a2] (σ16.bump 11) fun v18 σ19 =>
iW (2 * v10) fun v20 =>
iW (v15 + v20) fun v21 =>
next13 v15 v21 (σ19.bump 7)) (
iW (v14 + v10) fun v22 =>
joinF [] (fun (k25 : Mem → Prop) =>
ifB (decide (v22 < a1)) (
callW PG n_slices_symMergeCmpFunc_int_ [a0, .int .i64 v14, .int .i64 v22, .int .i64 a1, a2] (σ16.bump 16) fun v26 σ27 =>
k25 σ27) (
k25 (σ16.bump 10))) (F_slices_stableCmpFunc_int__j1 next9 v10))
def F_slices_stableCmpFunc_int__l2 (a0 : AV) (a1 : Int) (a2 : AV) (Q : AV → Mem → Prop) (next9 : Int → Mem → Prop) (v10 : Int) (σ11 : Mem) : Prop :=
ifB (decide (v10 < a1)) (
iW (2 * v10) fun v12 =>
loopF [tI, tI] (F_slices_stableCmpFunc_int__l3 a0 a1 a2 next9 v10) 0 v12 (σ11.bump 7)) (
Q (.tup []) (σ11.bump 3))
def F_slices_stableCmpFunc_int__l1 (a0 : AV) (a1 : Int) (a2 : AV) (Q : AV → Mem → Prop) (next0 : Int → Int → Mem → Prop) (v1 : Int) (v2 : Int) (σ3 : Mem) : Prop :=
ifB (decide (v2 ≤ a1)) (
callW PG n_slices_insertionSortCmpFunc_int_ [a0, .int .i64 v1, .int .i64 v2, a2] (σ3.bump 8) fun v4 σ5 =>
iW (v2 + 20) fun v6 =>
next0 v2 v6 (σ5.bump 6)) (
callW PG n_slices_insertionSortCmpFunc_int_ [a0, .int .i64 v1, .int .i64 a1, a2] (σ3.bump 8) fun v7 σ8 =>
loopF [tI] (F_slices_stableCmpFunc_int__l2 a0 a1 a2 Q) 20 σ8)
def F_slices_stableCmpFunc_int_ (a0 : AV) (a1 : Int) (a2 : AV) (σ : Mem) (Q : AV → Mem → Prop) : Prop :=
loopF [tI, tI] (F_slices_stableCmpFunc_int__l1 a0 a1 a2 Q) 0 20 (σ.bump 4)
theorem ok_slices_stableCmpFunc_int_ {a0 a1 a2 σ Q} (h : σ.Live → F_slices_stableCmpFunc_int_ a0 a1 a2 σ Q) : ACalls PG n_slices_stableCmpFunc_int_ [a0, .int .i64 a1, a2] σ Q :=
  .of_sem [none, none, none, some ([0, 1, 2, 6], [7, 8]), none, none, none, none, none, none, none, none, some ([0, 1, 2], [6]), none, none, none, none, none, some ([0, 1, 2, 6], [7, 8]), none, none, none, none, none, none, none, none, some ([0, 1, 2, 6], []), none, none] [(6, tI), (7, tI), (8, tI)] mixed (by kernel_rfl) (by kernel_rfl) h
/-! cmp.isNaN[int] -/
def F_cmp_isNaN_int_ (a0 : Int) (σ : Mem) (Q : AV → Mem → Prop) : Prop :=
Q (.bool (decide (a0 ≠ a0))) (σ.bump 5)
theorem ok_cmp_isNaN_int_ {a0 σ Q} (h : σ.Live → F_cmp_isNaN_int_ a0 σ Q) : ACalls PG n_cmp_isNaN_int_ [.int .i64 a0] σ Q :=
  .of_sem [none, none] [] mixed (by kernel_rfl) (by kernel_rfl) h
/-! (*vitrine/vitrineref01.Reader).Left -/
def F_ref01_Reader_Left (a0 : AV) (σ : Mem) (Q : AV → Mem → Prop) : Prop :=
lfS 0 (σ.bump 13) a0 fun v0 =>
iW (8 * (v0.size : Int)) fun v1 =>
lfI 1 (σ.bump 13) a0 fun v2 =>
iW (v1 - v2) fun v3 =>
Q (.int .i64 v3) (σ.bump 13)
theorem ok_ref01_Reader_Left {a0 σ Q} (h : σ.Live → F_ref01_Reader_Left a0 σ Q) : ACalls PG n_ref01_Reader_Left [a0] σ Q :=
  .of_sem [none, none] [(6, .s), (12, tI)] mixed (by kernel_rfl) (by kernel_rfl) h
/-! (*vitrine/vitrineref01.Reader).Bytes -/
def F_ref01_Reader_Bytes (a0 : AV) (a1 : Int) (σ : Mem) (Q : AV → Mem → Prop) : Prop :=
ifB (decide (a1 < 0)) (
Q (.tup [.str ⟨#[]⟩, .int .i64 1]) (σ.bump 6)) (
lfI 1 (σ.bump 15) a0 fun v0 =>
iW (v0 + 7) fun v1 =>
quoW .i64 v1 8 fun v2 =>
iW (v2 * 8) fun v3 =>
nfW 1 a0 fun v4 =>
stW 1 (σ.bump 15) v4 (.int .i64 v3) fun σ5 =>
callW PG n_ref01_Reader_Left [a0] (σ5.bump 5) fun v6 σ7 =>
castI .i64 v6 fun v8 =>
quoW .i64 v8 8 fun v9 =>
ifB (decide (v9 < a1)) (
Q (.tup [.str ⟨#[]⟩, .int .i64 3]) (σ7.bump 2)) (
lfS 0 (σ7.bump 18) a0 fun v10 =>
lfI 1 (σ7.bump 18) a0 fun v11 =>
quoW .i64 v11 8 fun v12 =>
lfI 1 (σ7.bump 18) a0 fun v13 =>
quoW .i64 v13 8 fun v14 =>
iW (v14 + a1) fun v15 =>
subW v10 v12 v15 fun v16 =>
lfI 1 (σ7.bump 29) a0 fun v17 =>
iW (8 * a1) fun v18 =>
iW (v17 + v18) fun v19 =>
nfW 1 a0 fun v20 =>
stW 1 (σ7.bump 29) v20 (.int .i64 v19) fun σ21 =>
Q (.tup [.str v16, .int .i64 0]) (σ21.bump 3)))
theorem ok_ref01_Reader_Bytes {a0 a1 σ Q} (h : σ.Live → F_ref01_Reader_Bytes a0 a1 σ Q) : ACalls PG n_ref01_Reader_Bytes [a0, .int .i64 a1] σ Q :=
  .of_sem [none, none, none, none, none, none, none, none, none, none, none] [(13, tI), (21, tI), (27, .s), (31, tI), (36, tI), (45, tI)] mixed (by kernel_rfl) (by kernel_rfl) h
/-! vitrine/vitrineref02.Make -/
def F_ref02_Make (a0 : AV) (σ : Mem) (Q : AV → Mem → Prop) : Prop :=
callW PG n_ref02_Codes [a0] (σ.bump 9) fun v0 σ1 =>
tupW v0 0 fun v2 =>
tpI v0 1 fun v3 =>
ifB (decide (v3 ≠ 0)) (
Q (.tup [.nilp, .int .i64 v3]) (σ1.bump 5)) (
apW 1 8 (σ1.next + 5) (σ1.bump 11) .nils a0 fun v4 σ5 =>
cellOkW v4 1 (
cellOkW v2 1 (
boxW (.agg (setAt (setAt [.nils, .nils] 0 v4.cells) 1 v2.cells)) (
newW σ5 (σ1.next + 8) (.rw (setAt (setAt [.nils, .nils] 0 v4.cells) 1 v2.cells)) fun σ6 =>
Q (.tup [.ptr (σ1.next + 8) 0, .int .i64 0]) σ6))))
theorem ok_ref02_Make {a0 σ Q} (h : σ.Live → F_ref02_Make a0 σ Q) : ACalls PG n_ref02_Make [a0] σ Q :=
  .of_sem [none, none, none, none, none, none, none] [(11, tI)] mixed (by kernel_rfl) (by kernel_rfl) h
/-! (*vitrine/vitrineref02.Table).Next -/
def F_ref02_Table_Next_l2 (a0 : AV) (Q : AV → Mem → Prop) (next10 : Int → Int → Mem → Prop) (v12 : Int) (v19 : Int) (next20 : Int → Mem → Prop) (v21 : Int) (σ22 : Mem) : Prop :=
lfW 0 (σ22.bump 7) a0 fun v23 =>
slenW v23 fun v24 =>
ifB (decide (v21 < v24)) (
lfW 0 (σ22.bump 27) a0 fun v25 =>
idxW 1 v25 v21 fun v26 =>
ldI (σ22.bump 27) v26 fun v27 =>
ifB (decide (v27 = v12)) (
nchkW a0 fun v28 =>
fldW 1 v28 fun v29 =>
ldW (σ22.bump 27) v29 fun v30 =>
idxW 1 v30 v21 fun v31 =>
ldI (σ22.bump 27) v31 fun v32 =>
ifB (decide (v32 = v19)) (
Q (.tup [.int .i64 v21, .int .i64 0]) (σ22.bump 30)) (
iW (v21 + 1) fun v33 =>
next20 v33 (σ22.bump 30))) (
iW (v21 + 1) fun v34 =>
next20 v34 (σ22.bump 30))) (
iW (v12 + 1) fun v35 =>
next10 v19 v35 (σ22.bump 10))
def F_ref02_Table_Next_l1 (a0 : AV) (a1 : AV) (Q : AV → Mem → Prop) (v8 : Int) (next10 : Int → Int → Mem → Prop) (v11 : Int) (v12 : Int) (σ13 : Mem) : Prop :=
ifB (decide (v12 ≤ v8)) (
callW PG n_ref01_Reader_Bits [a1, .int .i64 1] (σ13.bump 10) fun v14 σ15 =>
tpI v14 0 fun v16 =>
tpI v14 1 fun v17 =>
ifB (decide (v17 ≠ 0)) (
Q (.tup [.int .i64 0, .int .i64 v17]) (σ15.bump 5)) (
iW (2 * v11) fun v18 =>
iW (v18 + v16) fun v19 =>
loopF [tI] (F_ref02_Table_Next_l2 a0 Q next10 v12 v19) 0 (σ15.bump 8))) (
Q (.tup [.int .i64 0, .int .i64 12]) (σ13.bump 5))
def F_ref02_Table_Next_j2 (a0 : AV) (a1 : AV) (Q : AV → Mem → Prop) (v8 : Int) (σ9 : Mem) : Prop :=
loopF [tI, tI] (F_ref02_Table_Next_l1 a0 a1 Q v8) 0 1 (σ9.bump 2)
def F_ref02_Table_Next_l4 (a0 : AV) (Q : AV → Mem → Prop) (next39 : Int → Int → Mem → Prop) (v41 : Int) (v48 : Int) (next49 : Int → Mem → Prop) (v50 : Int) (σ51 : Mem) : Prop :=
lfW 0 (σ51.bump 7) a0 fun v52 =>
slenW v52 fun v53 =>
ifB (decide (v50 < v53)) (
lfW 0 (σ51.bump 27) a0 fun v54 =>
idxW 1 v54 v50 fun v55 =>
ldI (σ51.bump 27) v55 fun v56 =>
ifB (decide (v56 = v41)) (
nchkW a0 fun v57 =>
fldW 1 v57 fun v58 =>
ldW (σ51.bump 27) v58 fun v59 =>
idxW 1 v59 v50 fun v60 =>
ldI (σ51.bump 27) v60 fun v61 =>
ifB (decide (v61 = v48)) (
Q (.tup [.int .i64 v50, .int .i64 0]) (σ51.bump 30)) (
iW (v50 + 1) fun v62 =>
next49 v62 (σ51.bump 30))) (
iW (v50 + 1) fun v63 =>
next49 v63 (σ51.bump 30))) (
iW (v41 + 1) fun v64 =>
next39 v48 v64 (σ51.bump 10))
def F_ref02_Table_Next_l3 (a0 : AV) (a1 : AV) (Q : AV → Mem → Prop) (v37 : Int) (next39 : Int → Int → Mem → Prop) (v40 : Int) (v41 : Int) (σ42 : Mem) : Prop :=
ifB (decide (v41 ≤ v37)) (
callW PG n_ref01_Reader_Bits [a1, .int .i64 1] (σ42.bump 10) fun v43 σ44 =>
tpI v43 0 fun v45 =>
tpI v43 1 fun v46 =>
ifB (decide (v46 ≠ 0)) (
Q (.tup [.int .i64 0, .int .i64 v46]) (σ44.bump 5)) (
iW (2 * v40) fun v47 =>
iW (v47 + v45) fun v48 =>
loopF [tI] (F_ref02_Table_Next_l4 a0 Q next39 v41 v48) 0 (σ44.bump 8))) (
Q (.tup [.int .i64 0, .int .i64 12]) (σ42.bump 5))
def F_ref02_Table_Next_j3 (a0 : AV) (a1 : AV) (Q : AV → Mem → Prop) (v37 : Int) (σ38 : Mem) : Prop :=
loopF [tI, tI] (F_ref02_Table_Next_l3 a0 a1 Q v37) 0 1 (σ38.bump 2)
def F_ref02_Table_Next_j1 (a0 : AV) (a1 : AV) (Q : AV → Mem → Prop) (v4 : Int) (v5 : Int) (v6 : Int) (σ7 : Mem) : Prop :=
ifB (decide (v4 = 1)) (
joinF [tI] (fun (k36 : Int → Mem → Prop) =>
ifB (decide (v5 = 1)) (
k36 1 (σ7.bump 7)) (
k36 v6 (σ7.bump 6))) (F_ref02_Table_Next_j2 a0 a1 Q)) (
joinF [tI] (fun (k65 : Int → Mem → Prop) =>
k65 v6 (σ7.bump 6)) (F_ref02_Table_Next_j3 a0 a1 Q))
def F_ref02_Table_Next (a0 : AV) (a1 : AV) (σ : Mem) (Q : AV → Mem → Prop) : Prop :=
lfW 0 (σ.bump 14) a0 fun v0 =>
callW PG n_ref02_sum [v0] (σ.bump 14) fun v1 σ2 =>
tpI v1 0 fun v3 =>
tpI v1 1 fun v4 =>
tpI v1 2 fun v5 =>
joinF [tI] (fun (k66 : Int → Mem → Prop) =>
ifB (decide (v4 = 0)) (
k66 0 (σ2.bump 4)) (
k66 15 (σ2.bump 3))) (F_ref02_Table_Next_j1 a0 a1 Q v4 v5)
theorem ok_ref02_Table_Next {a0 a1 σ Q} (h : σ.Live → F_ref02_Table_Next a0 a1 σ Q) : ACalls PG n_ref02_Table_Next [a0, a1] σ Q :=
  .of_sem [none, none, none, none, some ([0, 1, 7, 8], [9]), none, none, some ([0, 1], [9]), none, none, none, none, some ([0, 1, 9], [10, 11]), none, none, none, none, none, none, none, none, none, none, some ([0, 1, 9, 10, 11], [14]), none, none, none, none, none, none, none, none, none] [(21, tI), (22, tI), (23, tI), (9, tI), (10, tI), (11, tI), (40, tI), (41, tI), (14, tI), (64, tI), (74, tI)] mixed (by kernel_rfl) (by kernel_rfl) h
/-! vitrine/vitrineref03.lengthBits -/
def F_ref03_lengthBits (a0 : Int) (σ : Mem) (Q : AV → Mem → Prop) : Prop :=
ifB (decide (a0 < 265)) (
Q (.int .i64 0) (σ.bump 8)) (
ifB (decide (a0 = 285)) (
Q (.int .i64 0) (σ.bump 8)) (
iW (a0 - 261) fun v0 =>
quoW .i64 v0 4 fun v1 =>
Q (.int .i64 v1) (σ.bump 11)))
theorem ok_ref03_lengthBits {a0 σ Q} (h : σ.Live → F_ref03_lengthBits a0 σ Q) : ACalls PG n_ref03_lengthBits [.int .i64 a0] σ Q :=
  .of_sem [none, none, none, none, none] [] mixed (by kernel_rfl) (by kernel_rfl) h
/-! vitrine/vitrineref03.distanceBits -/
def F_ref03_distanceBits (a0 : Int) (σ : Mem) (Q : AV → Mem → Prop) : Prop :=
ifB (decide (a0 < 4)) (
Q (.int .i64 0) (σ.bump 4)) (
quoW .i64 a0 2 fun v0 =>
iW (v0 - 1) fun v1 =>
Q (.int .i64 v1) (σ.bump 7))
theorem ok_ref03_distanceBits {a0 σ Q} (h : σ.Live → F_ref03_distanceBits a0 σ Q) : ACalls PG n_ref03_distanceBits [.int .i64 a0] σ Q :=
  .of_sem [none, none, none, none, none] [] mixed (by kernel_rfl) (by kernel_rfl) h
/-! slices.ContainsFunc[[]int,int] -/
def F_slices_ContainsFunc___int_int_ (a0 : AV) (a1 : AV) (σ : Mem) (Q : AV → Mem → Prop) : Prop :=
callW PG n_slices_IndexFunc___int_int_ [a0, a1] (σ.bump 6) fun v0 σ1 =>
castI .i64 v0 fun v2 =>
Q (.bool (decide (0 ≤ v2))) σ1
theorem ok_slices_ContainsFunc___int_int_ {a0 a1 σ Q} (h : σ.Live → F_slices_ContainsFunc___int_int_ a0 a1 σ Q) : ACalls PG n_slices_ContainsFunc___int_int_ [a0, a1] σ Q :=
  .of_sem [none, none] [(7, tI)] mixed (by kernel_rfl) (by kernel_rfl) h
/-! vitrine/huff.Check$1 -/
def F_huff_Check_1 (a0 : Int) (σ : Mem) (Q : AV → Mem → Prop) : Prop :=
ifB (decide (a0 < 0)) (
Q (.bool true) (σ.bump 8)) (
Q (.bool (decide (15 < a0))) (σ.bump 8))
theorem ok_huff_Check_1 {a0 σ Q} (h : σ.Live → F_huff_Check_1 a0 σ Q) : ACalls PG n_huff_Check_1 [.int .i64 a0] σ Q :=
  .of_sem [none, none] [] mixed (by kernel_rfl) (by kernel_rfl) h
/-! slices.insertionSortCmpFunc[int] -/
def F_slices_insertionSortCmpFunc_int__j1 (next1 : Int → Mem → Prop) (v2 : Int) (σ4 : Mem) : Prop :=
iW (v2 + 1) fun v5 =>
next1 v5 (σ4.bump 3)
def F_slices_insertionSortCmpFunc_int__l2 (a0 : AV) (a1 : Int) (a3 : AV) (k6 : Mem → Prop) (next7 : Int → Mem → Prop) (v8 : Int) (σ9 : Mem) : Prop :=
ifB (decide (a1 < v8)) (
idxW 1 a0 v8 fun v10 =>
ldI (σ9.bump 17) v10 fun v11 =>
iW (v8 - 1) fun v12 =>
idxW 1 a0 v12 fun v13 =>
ldI (σ9.bump 17) v13 fun v14 =>
callvW PG a3 [.int .i64 v11, .int .i64 v14] (σ9.bump 17) fun v15 σ16 =>
castI .i64 v15 fun v17 =>
ifB (decide (v17 < 0)) (
iW (v8 - 1) fun v18 =>
iW (v8 - 1) fun v19 =>
idxW 1 a0 v19 fun v20 =>
ldI (σ16.bump 18) v20 fun v21 =>
idxW 1 a0 v8 fun v22 =>
ldI (σ16.bump 18) v22 fun v23 =>
idxW 1 a0 v8 fun v24 =>
stW 1 (σ16.bump 18) v24 (.int .i64 v21) fun σ25 =>
idxW 1 a0 v18 fun v26 =>
stW 1 σ25 v26 (.int .i64 v23) fun σ27 =>
iW (v8 - 1) fun v28 =>
next7 v28 (σ27.bump 3)) (
k6 σ16)) (
k6 (σ9.bump 17))
def F_slices_insertionSortCmpFunc_int__l1 (a0 : AV) (a1 : Int) (a2 : Int) (a3 : AV) (Q : AV → Mem → Prop) (next1 : Int → Mem → Prop) (v2 : Int) (σ3 : Mem) : Prop :=
ifB (decide (v2 < a2)) (
joinF [] (fun (k6 : Mem → Prop) =>
loopF [tI] (F_slices_insertionSortCmpFunc_int__l2 a0 a1 a3 k6) v2 (σ3.bump 5)) (F_slices_insertionSortCmpFunc_int__j1 next1 v2)) (
Q (.tup []) (σ3.bump 3))
def F_slices_insertionSortCmpFunc_int_ (a0 : AV) (a1 : Int) (a2 : Int) (a3 : AV) (σ : Mem) (Q : AV → Mem → Prop) : Prop :=
iW (a1 + 1) fun v0 =>
loopF [tI] (F_slices_insertionSortCmpFunc_int__l1 a0 a1 a2 a3 Q) v0 (σ.bump 3)
theorem ok_slices_insertionSortCmpFunc_int_ {a0 a1 a2 a3 σ Q} (h : σ.Live → F_slices_insertionSortCmpFunc_int_ a0 a1 a2 a3 σ Q) : ACalls PG n_slices_insertionSortCmpFunc_int_ [a0, .int .i64 a1, .int .i64 a2, a3] σ Q :=
  .of_sem [none, none, some ([0, 1, 2, 3], [8]), none, none, none, none, some ([0, 1, 2, 3, 8], []), some ([0, 1, 2, 3, 8], [9]), none, none, none, none, none, none] [(8, tI), (9, tI), (26, tI), (31, tI), (32, tI), (46, tI), (50, tI)] mixed (by kernel_rfl) (by kernel_rfl) h
/-! slices.symMergeCmpFunc[int] -/
def F_slices_symMergeCmpFunc_int__j1 (next1 : Int → Int → Mem → Prop) (v16 : Int) (v17 : Int) (σ18 : Mem) : Prop :=
next1 v16 v17 σ18
def F_slices_symMergeCmpFunc_int__l2 (a0 : AV) (Q : AV → Mem → Prop) (v2 : Int) (next21 : Int → Mem → Prop) (v22 : Int) (σ23 : Mem) : Prop :=
iW (v2 - 1) fun v24 =>
ifB (decide (v22 < v24)) (
iW (v22 + 1) fun v25 =>
iW (v22 + 1) fun v26 =>
idxW 1 a0 v26 fun v27 =>
ldI (σ23.bump 22) v27 fun v28 =>
idxW 1 a0 v22 fun v29 =>
ldI (σ23.bump 22) v29 fun v30 =>
idxW 1 a0 v22 fun v31 =>
stW 1 (σ23.bump 22) v31 (.int .i64 v28) fun σ32 =>
idxW 1 a0 v25 fun v33 =>
stW 1 σ32 v33 (.int .i64 v30) fun σ34 =>
iW (v22 + 1) fun v35 =>
next21 v35 (σ34.bump 3)) (
Q (.tup []) (σ23.bump 4))
def F_slices_symMergeCmpFunc_int__l1 (a0 : AV) (a1 : Int) (a4 : AV) (Q : AV → Mem → Prop) (next1 : Int → Int → Mem → Prop) (v2 : Int) (v3 : Int) (σ4 : Mem) : Prop :=
ifB (decide (v2 < v3)) (
iW (v2 + v3) fun v5 =>
wrW .u64 v5 fun v6 =>
letW (v6 / 2) fun v7 =>
iW v7 fun v8 =>
idxW 1 a0 v8 fun v9 =>
ldI (σ4.bump 21) v9 fun v10 =>
idxW 1 a0 a1 fun v11 =>
ldI (σ4.bump 21) v11 fun v12 =>
callvW PG a4 [.int .i64 v10, .int .i64 v12] (σ4.bump 21) fun v13 σ14 =>
castI .i64 v13 fun v15 =>
joinF [tI, tI] (fun (k19 : Int → Int → Mem → Prop) =>
ifB (decide (v15 < 0)) (
iW (v8 + 1) fun v20 =>
k19 v20 v3 (σ14.bump 3)) (
k19 v2 v8 (σ14.bump 2))) (F_slices_symMergeCmpFunc_int__j1 next1)) (
loopF [tI] (F_slices_symMergeCmpFunc_int__l2 a0 Q v2) a1 (σ4.bump 5))
def F_slices_symMergeCmpFunc_int__j2 (next37 : Int → Int → Mem → Prop) (v52 : Int) (v53 : Int) (σ54 : Mem) : Prop :=
next37 v52 v53 σ54
def F_slices_symMergeCmpFunc_int__l4 (a0 : AV) (Q : AV → Mem → Prop) (v38 : Int) (next57 : Int → Mem → Prop) (v58 : Int) (σ59 : Mem) : Prop :=
ifB (decide (v38 < v58)) (
iW (v58 - 1) fun v60 =>
iW (v58 - 1) fun v61 =>
idxW 1 a0 v61 fun v62 =>
ldI (σ59.bump 21) v62 fun v63 =>
idxW 1 a0 v58 fun v64 =>
ldI (σ59.bump 21) v64 fun v65 =>
idxW 1 a0 v58 fun v66 =>
stW 1 (σ59.bump 21) v66 (.int .i64 v63) fun σ67 =>
idxW 1 a0 v60 fun v68 =>
stW 1 σ67 v68 (.int .i64 v65) fun σ69 =>
iW (v58 - 1) fun v70 =>
next57 v70 (σ69.bump 3)) (
Q (.tup []) (σ59.bump 3))
def F_slices_symMergeCmpFunc_int__l3 (a0 : AV) (a2 : Int) (a4 : AV) (Q : AV → Mem → Prop) (next37 : Int → Int → Mem → Prop) (v38 : Int) (v39 : Int) (σ40 : Mem) : Prop :=
ifB (decide (v38 < v39)) (
iW (v38 + v39) fun v41 =>
wrW .u64 v41 fun v42 =>
letW (v42 / 2) fun v43 =>
iW v43 fun v44 =>
idxW 1 a0 a2 fun v45 =>
ldI (σ40.bump 22) v45 fun v46 =>
idxW 1 a0 v44 fun v47 =>
ldI (σ40.bump 22) v47 fun v48 =>
callvW PG a4 [.int .i64 v46, .int .i64 v48] (σ40.bump 22) fun v49 σ50 =>
castI .i64 v49 fun v51 =>
joinF [tI, tI] (fun (k55 : Int → Int → Mem → Prop) =>
ifB (!(decide (v51 < 0))) (
iW (v44 + 1) fun v56 =>
k55 v56 v39 (σ50.bump 3)) (
k55 v38 v44 (σ50.bump 2))) (F_slices_symMergeCmpFunc_int__j2 next37)) (
loopF [tI] (F_slices_symMergeCmpFunc_int__l4 a0 Q v38) a2 (σ40.bump 5))
def F_slices_symMergeCmpFunc_int__j4 (next80 : Int → Int → Mem → Prop) (v96 : Int) (v97 : Int) (σ98 : Mem) : Prop :=
next80 v96 v97 σ98
def F_slices_symMergeCmpFunc_int__j7 (Q : AV → Mem → Prop) (σ104 : Mem) : Prop :=
Q (.tup []) σ104
def F_slices_symMergeCmpFunc_int__j8 (Q : AV → Mem → Prop) (σ108 : Mem) : Prop :=
Q (.tup []) σ108
def F_slices_symMergeCmpFunc_int__j6 (a0 : AV) (a3 : Int) (a4 : AV) (Q : AV → Mem → Prop) (v74 : Int) (v101 : Int) (σ103 : Mem) : Prop :=
ifB (decide (v74 < v101)) (
joinF [] (fun (k105 : Mem → Prop) =>
ifB (decide (v101 < a3)) (
callW PG n_slices_symMergeCmpFunc_int_ [a0, .int .i64 v74, .int .i64 v101, .int .i64 a3, a4] (σ103.bump 14) fun v106 σ107 =>
k105 σ107) (
k105 (σ103.bump 8))) (F_slices_symMergeCmpFunc_int__j7 Q)) (
joinF [] (fun (k109 : Mem → Prop) =>
k109 (σ103.bump 8)) (F_slices_symMergeCmpFunc_int__j8 Q))
def F_slices_symMergeCmpFunc_int__j10 (Q : AV → Mem → Prop) (σ114 : Mem) : Prop :=
Q (.tup []) σ114
def F_slices_symMergeCmpFunc_int__j11 (Q : AV → Mem → Prop) (σ118 : Mem) : Prop :=
Q (.tup []) σ118
def F_slices_symMergeCmpFunc_int__j9 (a0 : AV) (a3 : Int) (a4 : AV) (Q : AV → Mem → Prop) (v74 : Int) (v101 : Int) (σ113 : Mem) : Prop :=
ifB (decide (v74 < v101)) (
joinF [] (fun (k115 : Mem → Prop) =>
ifB (decide (v101 < a3)) (
callW PG n_slices_symMergeCmpFunc_int_ [a0, .int .i64 v74, .int .i64 v101, .int .i64 a3, a4] (σ113.bump 14) fun v116 σ117 =>
k115 σ117) (
k115 (σ113.bump 8))) (F_slices_symMergeCmpFunc_int__j10 Q)) (
joinF [] (fun (k119 : Mem → Prop) =>
k119 (σ113.bump 8)) (F_slices_symMergeCmpFunc_int__j11 Q))
def F_slices_symMergeCmpFunc_int__j5 (a0 : AV) (a1 : Int) (a3 : Int) (a4 : AV) (Q : AV → Mem → Prop) (v74 : Int) (v81 : Int) (v101 : Int) (σ102 : Mem) : Prop :=
ifB (decide (a1 < v81)) (
joinF [] (fun (k110 : Mem → Prop) =>
ifB (decide (v81 < v74)) (
callW PG n_slices_symMergeCmpFunc_int_ [a0, .int .i64 a1, .int .i64 v81, .int .i64 v74, a4] (σ102.bump 14) fun v111 σ112 =>
k110 σ112) (
k110 (σ102.bump 8))) (F_slices_symMergeCmpFunc_int__j6 a0 a3 a4 Q v74 v101)) (
joinF [] (fun (k120 : Mem → Prop) =>
k120 (σ102.bump 8)) (F_slices_symMergeCmpFunc_int__j9 a0 a3 a4 Q v74 v101))
def F_slices_symMergeCmpFunc_int__j14 (Q : AV → Mem → Prop) (σ126 : Mem) : Prop :=
Q (.tup []) σ126
def F_slices_symMergeCmpFunc_int__j15 (Q : AV → Mem → Prop) (σ130 : Mem) : Prop :=
Q (.tup []) σ130
def F_slices_symMergeCmpFunc_int__j13 (a0 : AV) (a3 : Int) (a4 : AV) (Q : AV → Mem → Prop) (v74 : Int) (v101 : Int) (σ125 : Mem) : Prop :=
ifB (decide (v74 < v101)) (
joinF [] (fun (k127 : Mem → Prop) =>
ifB (decide (v101 < a3)) (
callW PG n_slices_symMergeCmpFunc_int_ [a0, .int .i64 v74, .int .i64 v101, .int .i64 a3, a4] (σ125.bump 14) fun v128 σ129 =>
k127 σ129) (
k127 (σ125.bump 8))) (F_slices_symMergeCmpFunc_int__j14 Q)) (
joinF [] (fun (k131 : Mem → Prop) =>
k131 (σ125.bump 8)) (F_slices_symMergeCmpFunc_int__j15 Q))
def F_slices_symMergeCmpFunc_int__j17 (Q : AV → Mem → Prop) (σ136 : Mem) : Prop :=
Q (.tup []) σ136
def F_slices_symMergeCmpFunc_int__j18 (Q : AV → Mem → Prop) (σ140 : Mem) : Prop :=
Q (.tup []) σ140
def F_slices_symMergeCmpFunc_int__j16 (a0 : AV) (a3 : Int) (a4 : AV) (Q : AV → Mem → Prop) (v74 : Int) (v101 : Int) (σ135 : Mem) : Prop :=
ifB (decide (v74 < v101)) (
joinF [] (fun (k137 : Mem → Prop) =>
ifB (decide (v101 < a3)) (
callW PG n_slices_symMergeCmpFunc_int_ [a0, .int .i64 v74, .int .i64 v101, .int .i64 a3, a4] (σ135.bump 14) fun v138 σ139 =>
k137 σ139) (
k137 (σ135.bump 8))) (F_slices_symMergeCmpFunc_int__j17 Q)) (
joinF [] (fun (k141 : Mem → Prop) =>
k141 (σ135.bump 8)) (F_slices_symMergeCmpFunc_int__j18 Q))
def F_slices_symMergeCmpFunc_int__j12 (a0 : AV) (a1 : Int) (a3 : Int) (a4 : AV) (Q : AV → Mem → Prop) (v74 : Int) (v81 : Int) (v101 : Int) (σ124 : Mem) : Prop :=
ifB (decide (a1 < v81)) (
joinF [] (fun (k132 : Mem → Prop) =>
ifB (decide (v81 < v74)) (
callW PG n_slices_symMergeCmpFunc_int_ [a0, .int .i64 a1, .int .i64 v81, .int .i64 v74, a4] (σ124.bump 14) fun v133 σ134 =>
k132 σ134) (
k132 (σ124.bump 8))) (F_slices_symMergeCmpFunc_int__j13 a0 a3 a4 Q v74 v101)) (
joinF [] (fun (k142 : Mem → Prop) =>
k142 (σ124.bump 8)) (F_slices_symMergeCmpFunc_int__j16 a0 a3 a4 Q v74 v101))
def F_slices_symMergeCmpFunc_int__l5 (a0 : AV) (a1 : Int) (a2 : Int) (a3 : Int) (a4 : AV) (Q : AV → Mem → Prop) (v74 : Int) (v75 : Int) (v79 : Int) (next80 : Int → Int → Mem → Prop) (v81 : Int) (v82 : Int) (σ83 : Mem) : Prop :=
ifB (decide (v81 < v82)) (
iW (v81 + v82) fun v84 =>
wrW .u64 v84 fun v85 =>
letW (v85 / 2) fun v86 =>
iW v86 fun v87 =>
iW (v79 - v87) fun v88 =>
idxW 1 a0 v88 fun v89 =>
ldI (σ83.bump 24) v89 fun v90 =>
idxW 1 a0 v87 fun v91 =>
ldI (σ83.bump 24) v91 fun v92 =>
callvW PG a4 [.int .i64 v90, .int .i64 v92] (σ83.bump 24) fun v93 σ94 =>
castI .i64 v93 fun v95 =>
joinF [tI, tI] (fun (k99 : Int → Int → Mem → Prop) =>
ifB (!(decide (v95 < 0))) (
iW (v87 + 1) fun v100 =>
k99 v100 v82 (σ94.bump 3)) (
k99 v81 v87 (σ94.bump 2))) (F_slices_symMergeCmpFunc_int__j4 next80)) (
iW (v75 - v81) fun v101 =>
ifB (decide (v81 < a2)) (
joinF [] (fun (k121 : Mem → Prop) =>
ifB (decide (a2 < v101)) (
callW PG n_slices_rotateCmpFunc_int_ [a0, .int .i64 v81, .int .i64 a2, .int .i64 v101, a4] (σ83.bump 21) fun v122 σ123 =>
k121 σ123) (
k121 (σ83.bump 15))) (F_slices_symMergeCmpFunc_int__j5 a0 a1 a3 a4 Q v74 v81 v101)) (
joinF [] (fun (k143 : Mem → Prop) =>
k143 (σ83.bump 15)) (F_slices_symMergeCmpFunc_int__j12 a0 a1 a3 a4 Q v74 v81 v101)))
def F_slices_symMergeCmpFunc_int__j3 (a0 : AV) (a1 : Int) (a2 : Int) (a3 : Int) (a4 : AV) (Q : AV → Mem → Prop) (v74 : Int) (v75 : Int) (v76 : Int) (v77 : Int) (σ78 : Mem) : Prop :=
iW (v75 - 1) fun v79 =>
loopF [tI, tI] (F_slices_symMergeCmpFunc_int__l5 a0 a1 a2 a3 a4 Q v74 v75 v79) v76 v77 (σ78.bump 3)
def F_slices_symMergeCmpFunc_int_ (a0 : AV) (a1 : Int) (a2 : Int) (a3 : Int) (a4 : AV) (σ : Mem) (Q : AV → Mem → Prop) : Prop :=
iW (a2 - a1) fun v0 =>
ifB (decide (v0 = 1)) (
loopF [tI, tI] (F_slices_symMergeCmpFunc_int__l1 a0 a1 a4 Q) a2 a3 (σ.bump 8)) (
iW (a3 - a2) fun v36 =>
ifB (decide (v36 = 1)) (
loopF [tI, tI] (F_slices_symMergeCmpFunc_int__l3 a0 a2 a4 Q) a1 a2 (σ.bump 12)) (
iW (a1 + a3) fun v71 =>
wrW .u64 v71 fun v72 =>
letW (v72 / 2) fun v73 =>
iW v73 fun v74 =>
iW (v74 + a2) fun v75 =>
joinF [tI, tI] (fun (k144 : Int → Int → Mem → Prop) =>
ifB (decide (v74 < a2)) (
iW (v75 - a3) fun v145 =>
k144 v145 v74 (σ.bump 30)) (
k144 a1 a2 (σ.bump 28))) (F_slices_symMergeCmpFunc_int__j3 a0 a1 a2 a3 a4 Q v74 v75)))
theorem ok_slices_symMergeCmpFunc_int_ {a0 a1 a2 a3 a4 σ Q} (h : σ.Live → F_slices_symMergeCmpFunc_int_ a0 a1 a2 a3 a4 σ Q) : ACalls PG n_slices_symMergeCmpFunc_int_ [a0, .int .i64 a1, .int .i64 a2, .int .i64 a3, a4] σ Q :=
  .of_sem [none, none, none, none, none, some ([0, 1, 4], [10, 11]), none, none, none, none, none, some ([0, 1, 4], [10, 11]), none, none, none, none, some ([0, 10], [13]), none, none, none, none, none, none, none, none, none, none, some ([0, 2, 4], [14, 15]), none, none, none, none, none, some ([0, 2, 4], [14, 15]), none, none, none, none, some ([0, 14], [17]), none, none, none, none, none, none, none, none, none, some ([0, 1, 2, 3, 4, 18, 19], [20, 21]), none, none, none, none, none, none, some ([0, 1, 2, 3, 4, 18, 19, 22], [20, 21]), none, none, none, none, none, some ([0, 1, 2, 3, 4, 18, 19, 22], [20, 21]), none, none, none, none, some ([0, 1, 3, 4, 18, 20, 24], []), none, none, some ([0, 3, 4, 18, 24], []), none, none, some ([], []), none] [(10, tI), (11, tI), (44, tI), (48, tI), (49, tI), (13, tI), (70, tI), (74, tI), (14, tI), (15, tI), (96, tI), (100, tI), (101, tI), (17, tI), (122, tI), (126, tI), (20, tI), (21, tI), (164, tI), (168, tI), (169, tI)] mixed (by kernel_rfl) (by kernel_rfl) h
/-! vitrine/vitrineref02.Codes -/
def F_ref02_Codes_j1 (next10 : Int → Int → Int → Mem → Prop) (v13 : Int) (v16 : Int) (v17 : Int) (σ18 : Mem) : Prop :=
iW (v13 + 1) fun v19 =>
next10 v16 v17 v19 (σ18.bump 3)
def F_ref02_Codes_j2 (σ1 : Mem) (v3 : Int) (v8 : Int) (v13 : Int) (k20 : Int → Int → Mem → Prop) (v23 : Int) (σ24 : Mem) : Prop :=
idxW 1 (.slice (σ1.next + 4) 0 (Int.toNat v3) (.ex (Int.toNat v3))) v13 fun v25 =>
stW 1 (σ24.bump 5) v25 (.int .i64 v23) fun σ26 =>
k20 v23 v8 (σ26.bump 2)
def F_ref02_Codes_l2 (a0 : AV) (σ1 : Mem) (v3 : Int) (next5 : Int → Int → Int → Mem → Prop) (v8 : Int) (next10 : Int → Int → Int → Mem → Prop) (v11 : Int) (v12 : Int) (v13 : Int) (σ14 : Mem) : Prop :=
slenW a0 fun v15 =>
ifB (decide (v13 < v15)) (
joinF [tI, tI] (fun (k20 : Int → Int → Mem → Prop) =>
idxW 1 a0 v13 fun v21 =>
ldI (σ14.bump 10) v21 fun v22 =>
ifB (decide (v22 ≠ v8)) (
k20 v11 v12 (σ14.bump 10)) (
joinF [tI] (fun (k27 : Int → Mem → Prop) =>
ifB (decide (0 < v12)) (
iW (v11 + 1) fun v28 =>
iW (v8 - v12) fun v29 =>
shlW .i64 v28 v29 fun v30 =>
k27 v30 (σ14.bump 19)) (
k27 v11 (σ14.bump 12))) (F_ref02_Codes_j2 σ1 v3 v8 v13 k20))) (F_ref02_Codes_j1 next10 v13)) (
iW (v8 + 1) fun v31 =>
next5 v11 v12 v31 (σ14.bump 7))
def F_ref02_Codes_l1 (a0 : AV) (Q : AV → Mem → Prop) (σ1 : Mem) (v3 : Int) (next5 : Int → Int → Int → Mem → Prop) (v6 : Int) (v7 : Int) (v8 : Int) (σ9 : Mem) : Prop :=
ifB (decide (v8 ≤ 15)) (
loopF [tI, tI, tI] (F_ref02_Codes_l2 a0 σ1 v3 next5 v8) v6 v7 0 (σ9.bump 3)) (
Q (.tup [.slice (σ1.next + 4) 0 (Int.toNat v3) (.ex (Int.toNat v3)), .int .i64 0]) (σ9.bump 5))
def F_ref02_Codes (a0 : AV) (σ : Mem) (Q : AV → Mem → Prop) : Prop :=
callW PG n_ref02_Check [a0] (σ.bump 5) fun v0 σ1 =>
castI .i64 v0 fun v2 =>
ifB (decide (v2 ≠ 0)) (
Q (.tup [.nils, .int .i64 v2]) (σ1.bump 5)) (
slenW a0 fun v3 =>
makeW 8 v3 v3 (
newW (σ1.bump 6) (σ1.next + 4) (.rw (repl (Int.toNat v3) [.int .i64 0])) fun σ4 =>
loopF [tI, tI, tI] (F_ref02_Codes_l1 a0 Q σ1 v3) 0 0 1 (σ4.bump 3)))
theorem ok_ref02_Codes {a0 σ Q} (h : σ.Live → F_ref02_Codes a0 σ Q) : ACalls PG n_ref02_Codes [a0] σ Q :=
  .of_sem [none, none, none, none, none, none, none, none, none, none, some ([0, 5], [6, 7, 8]), none, none, none, none, none, some ([0, 5, 8], [6, 7, 9]), none, none, some ([0, 5, 8, 9], [6, 7]), none, none, none, some ([0, 5, 8, 9], [6]), none, none, none, none, none, none] [(11, tI), (6, tI), (7, tI), (8, tI), (9, tI), (31, tI)] mixed (by kernel_rfl) (by kernel_rfl) h
/-! vitrine/vitrineref02.sum -/
def F_ref02_sum_j1 (next0 : Int → Int → Int → Int → Mem → Prop) (v4 : Int) (v9 : Int) (v10 : Int) (v11 : Int) (σ12 : Mem) : Prop :=
iW (v4 + 1) fun v13 =>
next0 v9 v10 v11 v13 (σ12.bump 3)
def F_ref02_sum_l1 (a0 : AV) (Q : AV → Mem → Prop) (next0 : Int → Int → Int → Int → Mem → Prop) (v1 : Int) (v2 : Int) (v3 : Int) (v4 : Int) (σ5 : Mem) : Prop :=
slenW a0 fun v6 =>
ifB (decide (v4 < v6)) (
idxW 1 a0 v4 fun v7 =>
ldI (σ5.bump 9) v7 fun v8 =>
joinF [tI, tI, tI] (fun (k14 : Int → Int → Int → Mem → Prop) =>
ifB (decide (0 < v8)) (
idxW 1 a0 v4 fun v15 =>
ldI (σ5.bump 18) v15 fun v16 =>
iW (15 - v16) fun v17 =>
shlW .i64 1 v17 fun v18 =>
iW (v1 + v18) fun v19 =>
iW (v2 + 1) fun v20 =>
idxW 1 a0 v4 fun v21 =>
ldI (σ5.bump 28) v21 fun v22 =>
letW (imax v3 v22) fun v23 =>
k14 v19 v20 v23 (σ5.bump 28)) (
k14 v1 v2 v3 (σ5.bump 9))) (F_ref02_sum_j1 next0 v4)) (
Q (.tup [.int .i64 v1, .int .i64 v2, .int .i64 v3]) (σ5.bump 10))
def F_ref02_sum (a0 : AV) (σ : Mem) (Q : AV → Mem → Prop) : Prop :=
loopF [tI, tI, tI, tI] (F_ref02_sum_l1 a0 Q) 0 0 0 0 (σ.bump 7)
theorem ok_ref02_sum {a0 σ Q} (h : σ.Live → F_ref02_sum a0 σ Q) : ACalls PG n_ref02_sum [a0] σ Q :=
  .of_sem [none, none, none, none, none, none, some ([0], [5, 6, 7, 8]), none, none, none, none, some ([0, 8], [5, 6, 7]), none, none, none, none, none] [(5, tI), (6, tI), (7, tI), (8, tI), (18, tI), (24, tI), (34, tI)] mixed (by kernel_rfl) (by kernel_rfl) h
/-! slices.IndexFunc[[]int,int] -/
def F_slices_IndexFunc___int_int__l1 (a0 : AV) (a1 : AV) (Q : AV → Mem → Prop) (v0 : Int) (next1 : Int → Mem → Prop) (v2 : Int) (σ3 : Mem) : Prop :=
ifB (decide (v2 < v0)) (
idxW 1 a0 v2 fun v4 =>
ldI (σ3.bump 9) v4 fun v5 =>
callvW PG a1 [.int .i64 v5] (σ3.bump 9) fun v6 σ7 =>
castB v6 fun v8 =>
ifB v8 (
Q (.int .i64 v2) (σ7.bump 2)) (
iW (v2 + 1) fun v9 =>
next1 v9 (σ7.bump 2))) (
Q (.int .i64 (-1)) (σ3.bump 2))
def F_slices_IndexFunc___int_int_ (a0 : AV) (a1 : AV) (σ : Mem) (Q : AV → Mem → Prop) : Prop :=
slenW a0 fun v0 =>
loopF [tI] (F_slices_IndexFunc___int_int__l1 a0 a1 Q v0) 0 (σ.bump 4)
theorem ok_slices_IndexFunc___int_int_ {a0 a1 σ Q} (h : σ.Live → F_slices_IndexFunc___int_int_ a0 a1 σ Q) : ACalls PG n_slices_IndexFunc___int_int_ [a0, a1] σ Q :=
  .of_sem [none, none, none, some ([0, 1, 7], [8]), none, none, none, none, none, none, none, none, none] [(8, tI), (15, tI), (16, .b)] mixed (by kernel_rfl) (by kernel_rfl) h
/-! slices.rotateCmpFunc[int] -/
def F_slices_rotateCmpFunc_int__j1 (next2 : Int → Int → Mem → Prop) (v6 : Int) (v7 : Int) (σ8 : Mem) : Prop :=
next2 v6 v7 σ8
def F_slices_rotateCmpFunc_int__l1 (a0 : AV) (a2 : Int) (a4 : AV) (Q : AV → Mem → Prop) (next2 : Int → Int → Mem → Prop) (v3 : Int) (v4 : Int) (σ5 : Mem) : Prop :=
ifB (decide (v3 ≠ v4)) (
joinF [tI, tI] (fun (k9 : Int → Int → Mem → Prop) =>
ifB (decide (v4 < v3)) (
iW (a2 - v3) fun v10 =>
callW PG n_slices_swapRangeCmpFunc_int_ [a0, .int .i64 v10, .int .i64 a2, .int .i64 v4, a4] (σ5.bump 14) fun v11 σ12 =>
iW (v3 - v4) fun v13 =>
k9 v13 v4 (σ12.bump 4)) (
iW (a2 - v3) fun v14 =>
iW (a2 + v4) fun v15 =>
iW (v15 - v3) fun v16 =>
callW PG n_slices_swapRangeCmpFunc_int_ [a0, .int .i64 v14, .int .i64 v16, .int .i64 v3, a4] (σ5.bump 18) fun v17 σ18 =>
iW (v4 - v3) fun v19 =>
k9 v3 v19 (σ18.bump 4))) (F_slices_rotateCmpFunc_int__j1 next2)) (
iW (a2 - v3) fun v20 =>
callW PG n_slices_swapRangeCmpFunc_int_ [a0, .int .i64 v20, .int .i64 a2, .int .i64 v3, a4] (σ5.bump 11) fun v21 σ22 =>
Q (.tup []) σ22)
def F_slices_rotateCmpFunc_int_ (a0 : AV) (a1 : Int) (a2 : Int) (a3 : Int) (a4 : AV) (σ : Mem) (Q : AV → Mem → Prop) : Prop :=
iW (a2 - a1) fun v0 =>
iW (a3 - a2) fun v1 =>
loopF [tI, tI] (F_slices_rotateCmpFunc_int__l1 a0 a2 a4 Q) v0 v1 (σ.bump 8)
theorem ok_slices_rotateCmpFunc_int_ {a0 a1 a2 a3 a4 σ Q} (h : σ.Live → F_slices_rotateCmpFunc_int_ a0 a1 a2 a3 a4 σ Q) : ACalls PG n_slices_rotateCmpFunc_int_ [a0, .int .i64 a1, .int .i64 a2, .int .i64 a3, a4] σ Q :=
  .of_sem [none, none, none, some ([0, 2, 4], [10, 11]), none, none, none, none, some ([0, 2, 4], [10, 11]), none, none, none, none, none] [(10, tI), (11, tI)] mixed (by kernel_rfl) (by kernel_rfl) h
/-! vitrine/vitrineref02.Check -/
def F_ref02_Check_l1 (a0 : AV) (Q : AV → Mem → Prop) (next1 : Int → Mem → Prop) (v2 : Int) (σ3 : Mem) : Prop :=
slenW a0 fun v4 =>
ifB (decide (v2 < v4)) (
idxW 1 a0 v2 fun v5 =>
ldI (σ3.bump 16) v5 fun v6 =>
ifB (decide (v6 < 0)) (
Q (.int .i64 1) (σ3.bump 17)) (
idxW 1 a0 v2 fun v7 =>
ldI (σ3.bump 16) v7 fun v8 =>
ifB (decide (15 < v8)) (
Q (.int .i64 1) (σ3.bump 17)) (
iW (v2 + 1) fun v9 =>
next1 v9 (σ3.bump 19)))) (
callW PG n_ref02_sum [a0] (σ3.bump 13) fun v10 σ11 =>
tpI v10 0 fun v12 =>
tpI v10 1 fun v13 =>
tpI v10 2 fun v14 =>
ifB (decide (32768 < v12)) (
Q (.int .i64 10) (σ11.bump 3)) (
ifB (decide (v12 < 32768)) (
ifB (decide (0 < v13)) (
ifB (decide (v13 = 1)) (
ifB (!(decide (v14 = 1))) (
Q (.int .i64 11) (σ11.bump 18)) (
Q (.int .i64 0) (σ11.bump 18))) (
Q (.int .i64 11) (σ11.bump 18))) (
Q (.int .i64 0) (σ11.bump 18))) (
Q (.int .i64 0) (σ11.bump 18))))
def F_ref02_Check (a0 : AV) (σ : Mem) (Q : AV → Mem → Prop) : Prop :=
slenW a0 fun v0 =>
ifB (decide (288 < v0)) (
Q (.int .i64 1) (σ.bump 5)) (
loopF [tI] (F_ref02_Check_l1 a0 Q) 0 (σ.bump 5))
theorem ok_ref02_Check {a0 σ Q} (h : σ.Live → F_ref02_Check a0 σ Q) : ACalls PG n_ref02_Check [a0] σ Q :=
  .of_sem [none, none, none, none, none, none, some ([0], [3]), none, none, none, none, none, none, none, none, none, none, none, none, none, none, none] [(3, tI), (19, tI), (25, tI), (31, tI), (32, tI), (33, tI)] mixed (by kernel_rfl) (by kernel_rfl) h
/-! slices.swapRangeCmpFunc[int] -/
def F_slices_swapRangeCmpFunc_int__l1 (a0 : AV) (a1 : Int) (a2 : Int) (a3 : Int) (Q : AV → Mem → Prop) (next0 : Int → Mem → Prop) (v1 : Int) (σ2 : Mem) : Prop :=
ifB (decide (v1 < a3)) (
iW (a1 + v1) fun v3 =>
iW (a2 + v1) fun v4 =>
iW (a2 + v1) fun v5 =>
idxW 1 a0 v5 fun v6 =>
ldI (σ2.bump 27) v6 fun v7 =>
iW (a1 + v1) fun v8 =>
idxW 1 a0 v8 fun v9 =>
ldI (σ2.bump 27) v9 fun v10 =>
idxW 1 a0 v3 fun v11 =>
stW 1 (σ2.bump 27) v11 (.int .i64 v7) fun σ12 =>
idxW 1 a0 v4 fun v13 =>
stW 1 σ12 v13 (.int .i64 v10) fun σ14 =>
iW (v1 + 1) fun v15 =>
next0 v15 (σ14.bump 3)) (
Q (.tup []) (σ2.bump 3))
def F_slices_swapRangeCmpFunc_int_ (a0 : AV) (a1 : Int) (a2 : Int) (a3 : Int) (a4 : AV) (σ : Mem) (Q : AV → Mem → Prop) : Prop :=
loopF [tI] (F_slices_swapRangeCmpFunc_int__l1 a0 a1 a2 a3 Q) 0 (σ.bump 1)
theorem ok_slices_swapRangeCmpFunc_int_ {a0 a1 a2 a3 a4 σ Q} (h : σ.Live → F_slices_swapRangeCmpFunc_int_ a0 a1 a2 a3 a4 σ Q) : ACalls PG n_slices_swapRangeCmpFunc_int_ [a0, .int .i64 a1, .int .i64 a2, .int .i64 a3, a4] σ Q :=
  .of_sem [none, none, some ([0, 1, 2, 3], [10]), none, none, none, none, none] [(10, tI), (29, tI), (35, tI)] mixed (by kernel_rfl) (by kernel_rfl) h
end Go.Vit
