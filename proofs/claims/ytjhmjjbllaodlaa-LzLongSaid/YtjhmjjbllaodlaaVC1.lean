/- The functions, as printed conditions. -/
import Derived.Test.YtjhmjjbllaodlaaVsD
import Derived.Test.YtjhmjjbllaodlaaChecked
import Derived.KernelRfl
set_option linter.unusedVariables false
set_option linter.unusedSimpArgs false
set_option linter.unusedVariables false
set_option maxRecDepth 100000
namespace Go.Vit
open Go.Proofs
noncomputable abbrev PG : Program := Try.prog
theorem mixed : PG.follows .mixedOrders = true := by kernel_rfl
abbrev n_law04_LzTokens : Nat := 3
abbrev n_law04_LzExpands : Nat := 4
abbrev n_law04_LzBack : Nat := 5
abbrev n_law04_LzLong : Nat := 6
abbrev n_law01_BitsCrc : Nat := 7
abbrev n_law01_BitsAdler : Nat := 8
abbrev n_law01_BitsReads : Nat := 9
abbrev n_law01_BitsWrites : Nat := 10
abbrev n_law01_BitsBack : Nat := 11
abbrev n_law01_BitsTold : Nat := 12
abbrev n_law01_BitsNil : Nat := 13
abbrev n_law04_tokens : Nat := 14
abbrev n_lz_Tokens : Nat := 15
abbrev n_ref04_Tokens : Nat := 16
abbrev n_law04_awake : Nat := 17
abbrev n_lz_Expand : Nat := 18
abbrev n_ref04_Expand : Nat := 19
abbrev n_ref04_Right : Nat := 20
abbrev n_bits_Crc : Nat := 21
abbrev n_ref01_Crc : Nat := 22
abbrev n_law01_awake : Nat := 23
abbrev n_bits_Adler : Nat := 24
abbrev n_ref01_Adler : Nat := 25
abbrev n_bits_Read : Nat := 26
abbrev n_bits_Reader_Bytes : Nat := 27
abbrev n_ref01_Reader_Bytes : Nat := 28
abbrev n_bits_Reader_Bits : Nat := 29
abbrev n_ref01_Reader_Bits : Nat := 30
abbrev n_bits_Reader_Left : Nat := 31
abbrev n_ref01_Reader_Left : Nat := 32
abbrev n_bits_New : Nat := 33
abbrev n_bits_Writer_Bytes : Nat := 34
abbrev n_law01_Op_text : Nat := 35
abbrev n_ref01_Writer_Bytes : Nat := 36
abbrev n_bits_Writer_Bits : Nat := 37
abbrev n_ref01_Writer_Bits : Nat := 38
abbrev n_bits_Writer_Text : Nat := 39
abbrev n_ref01_Writer_Text : Nat := 40
abbrev n_lz_Tokens_1 : Nat := 41
/-! vitrine/vitrinelaw04.LzTokens -/
def F_law04_LzTokens (a0 : ByteArray) (σ : Mem) (Q : AV → Mem → Prop) : Prop :=
ifB (decide (20000 < (a0.size : Int))) (
callW PG n_law04_awake [] (σ.bump 15) fun v0 σ1 =>
castB v0 fun v2 =>
Q (.bool v2) σ1) (
callW PG n_lz_Tokens [.str a0] (σ.bump 15) fun v3 σ4 =>
callW PG n_ref04_Tokens [.str a0] σ4 fun v5 σ6 =>
callW PG n_law04_tokens [v3, v5] σ6 fun v7 σ8 =>
castB v7 fun v9 =>
ifB v9 (
callW PG n_law04_awake [] σ8 fun v10 σ11 =>
castB v10 fun v12 =>
Q (.bool v12) σ11) (
Q (.bool false) σ8))
theorem ok_law04_LzTokens {a0 σ Q} (h : σ.Live → F_law04_LzTokens a0 σ Q) : ACalls PG n_law04_LzTokens [.str a0] σ Q :=
  .of_sem [none, none] [(11, .b), (14, .b)] mixed (by kernel_rfl) (by kernel_rfl) h
/-! vitrine/vitrinelaw04.LzExpands -/
def F_law04_LzExpands (a0 : AV) (σ : Mem) (Q : AV → Mem → Prop) : Prop :=
slenW a0 fun v0 =>
ifB (decide (2000 < v0)) (
callW PG n_law04_awake [] (σ.bump 6) fun v1 σ2 =>
castB v1 fun v3 =>
Q (.bool v3) σ2) (
newW (σ.bump 8) (σ.next + 4) (.rw []) fun σ4 =>
apW 3 24 (σ.next + 6) σ4 (.slice (σ.next + 4) 0 0 (.ex 0)) a0 fun v5 σ6 =>
callW PG n_lz_Expand [v5] (σ6.bump 7) fun v7 σ8 =>
tpS v7 0 fun v9 =>
tpI v7 1 fun v10 =>
callW PG n_ref04_Expand [a0] (σ8.bump 7) fun v11 σ12 =>
tpS v11 0 fun v13 =>
tpI v11 1 fun v14 =>
ifB (decide (v9 = v13)) (
ifB (decide (v10 = v14)) (
callW PG n_law04_tokens [v5, a0] (σ12.bump 17) fun v15 σ16 =>
castB v15 fun v17 =>
ifB v17 (
callW PG n_law04_awake [] σ16 fun v18 σ19 =>
castB v18 fun v20 =>
Q (.bool v20) σ19) (
Q (.bool false) σ16)) (
Q (.bool false) (σ12.bump 17))) (
Q (.bool false) (σ12.bump 17)))
theorem ok_law04_LzExpands {a0 σ Q} (h : σ.Live → F_law04_LzExpands a0 σ Q) : ACalls PG n_law04_LzExpands [a0] σ Q :=
  .of_sem [none, none, none, none, none, none, none, none] [(11, .b), (18, .s), (19, tI), (23, .s), (24, tI), (36, .b), (39, .b)] mixed (by kernel_rfl) (by kernel_rfl) h
/-! vitrine/vitrinelaw04.LzBack -/
def F_law04_LzBack_l1 (a0 : ByteArray) (Q : AV → Mem → Prop) (v3 : AV) (v7 : ByteArray) (v8 : Int) (next9 : Int → Int → Mem → Prop) (v10 : Int) (v11 : Int) (σ12 : Mem) : Prop :=
slenW v3 fun v13 =>
ifB (decide (v11 < v13)) (
idxW 3 v3 v11 fun v14 =>
ldnW 3 (σ12.bump 18) v14 fun v15 =>
callW PG n_ref04_Right [v15] (σ12.bump 18) fun v16 σ17 =>
castB v16 fun v18 =>
ifB (!v18) (
Q (.bool false) (σ17.bump 1)) (
idxW 3 v3 v11 fun v19 =>
fldW 2 v19 fun v20 =>
ldI σ17 v20 fun v21 =>
ifB (decide (512 < v21)) (
Q (.bool false) (σ17.bump 1)) (
idxW 3 v3 v11 fun v22 =>
fldW 1 v22 fun v23 =>
ldI (σ17.bump 9) v23 fun v24 =>
letW (imax v24 1) fun v25 =>
iW (v10 + v25) fun v26 =>
iW (v11 + 1) fun v27 =>
next9 v26 v27 (σ17.bump 12)))) (
ifB (decide (v8 = 0)) (
ifB (decide (v7 = a0)) (
slenW v3 fun v28 =>
ifB (decide (v28 ≤ (a0.size : Int))) (
ifB (decide (v10 = (a0.size : Int))) (
callW PG n_law04_awake [] (σ12.bump 28) fun v29 σ30 =>
castB v29 fun v31 =>
Q (.bool v31) σ30) (
Q (.bool false) (σ12.bump 28))) (
Q (.bool false) (σ12.bump 28))) (
Q (.bool false) (σ12.bump 28))) (
Q (.bool false) (σ12.bump 28)))
def F_law04_LzBack (a0 : ByteArray) (σ : Mem) (Q : AV → Mem → Prop) : Prop :=
ifB (decide (20000 < (a0.size : Int))) (
callW PG n_law04_awake [] (σ.bump 6) fun v0 σ1 =>
castB v0 fun v2 =>
Q (.bool v2) σ1) (
callW PG n_lz_Tokens [.str a0] (σ.bump 7) fun v3 σ4 =>
callW PG n_lz_Expand [v3] (σ4.bump 7) fun v5 σ6 =>
tpS v5 0 fun v7 =>
tpI v5 1 fun v8 =>
loopF [tI, tI] (F_law04_LzBack_l1 a0 Q v3 v7 v8) 0 0 (σ6.bump 2))
theorem ok_law04_LzBack {a0 σ Q} (h : σ.Live → F_law04_LzBack a0 σ Q) : ACalls PG n_law04_LzBack [.str a0] σ Q :=
  .of_sem [none, none, none, none, none, none, none, none, none, some ([0, 3, 4, 5], [6, 7]), none, none, none, none, none, none, none, none, none] [(11, .b), (17, .s), (18, tI), (6, tI), (7, tI), (29, .b), (36, tI), (44, tI), (68, .b)] mixed (by kernel_rfl) (by kernel_rfl) h
/-! vitrine/vitrinelaw04.LzLong -/
def F_law04_LzLong_l1 (a0 : ByteArray) (Q : AV → Mem → Prop) (v7 : Int) (next8 : ByteArray → Int → Mem → Prop) (v9 : ByteArray) (v10 : Int) (σ11 : Mem) : Prop :=
ifB (decide (v10 < v7)) (
catW v9 a0 fun v12 =>
iW (v10 + 1) fun v13 =>
next8 v12 v13 (σ11.bump 10)) (
callW PG n_lz_Tokens [.str v9] (σ11.bump 21) fun v14 σ15 =>
slenW v14 fun v16 =>
iW ((v9.size : Int) - (a0.size : Int)) fun v17 =>
quoW .i64 v17 258 fun v18 =>
iW ((a0.size : Int) + v18) fun v19 =>
iW (v19 + 3) fun v20 =>
ifB (decide (v16 ≤ v20)) (
callW PG n_law04_awake [] σ15 fun v21 σ22 =>
castB v21 fun v23 =>
Q (.bool v23) σ22) (
Q (.bool false) σ15))
def F_law04_LzLong (a0 : ByteArray) (a1 : Int) (σ : Mem) (Q : AV → Mem → Prop) : Prop :=
ifB (decide ((a0.size : Int) < 1)) (
callW PG n_law04_awake [] (σ.bump 11) fun v0 σ1 =>
castB v0 fun v2 =>
Q (.bool v2) σ1) (
ifB (decide (200 < (a0.size : Int))) (
callW PG n_law04_awake [] (σ.bump 11) fun v3 σ4 =>
castB v3 fun v5 =>
Q (.bool v5) σ4) (
letW (imax a1 1) fun v6 =>
letW (imin v6 40) fun v7 =>
loopF [.s, tI] (F_law04_LzLong_l1 a0 Q v7) ⟨#[]⟩ 0 (σ.bump 15)))
theorem ok_law04_LzLong {a0 a1 σ Q} (h : σ.Live → F_law04_LzLong a0 a1 σ Q) : ACalls PG n_law04_LzLong [.str a0, .int .i64 a1] σ Q :=
  .of_sem [none, none, none, none, none, none, none, none, some ([0, 5], [6, 7]), none, none, none, none, none, none] [(16, .b), (6, .s), (7, tI), (43, .b)] mixed (by kernel_rfl) (by kernel_rfl) h
/-! vitrine/vitrinelaw01.BitsCrc -/
def F_law01_BitsCrc (a0 : ByteArray) (σ : Mem) (Q : AV → Mem → Prop) : Prop :=
callW PG n_bits_Crc [.str a0] (σ.bump 10) fun v0 σ1 =>
castI .i64 v0 fun v2 =>
callW PG n_ref01_Crc [.str a0] σ1 fun v3 σ4 =>
castI .i64 v3 fun v5 =>
ifB (decide (v2 = v5)) (
callW PG n_law01_awake [] σ4 fun v6 σ7 =>
castB v6 fun v8 =>
Q (.bool v8) σ7) (
Q (.bool false) σ4)
theorem ok_law01_BitsCrc {a0 σ Q} (h : σ.Live → F_law01_BitsCrc a0 σ Q) : ACalls PG n_law01_BitsCrc [.str a0] σ Q :=
  .of_sem [none, none] [(4, tI), (6, tI), (9, .b)] mixed (by kernel_rfl) (by kernel_rfl) h
/-! vitrine/vitrinelaw01.BitsAdler -/
def F_law01_BitsAdler (a0 : ByteArray) (σ : Mem) (Q : AV → Mem → Prop) : Prop :=
callW PG n_bits_Adler [.str a0] (σ.bump 10) fun v0 σ1 =>
castI .i64 v0 fun v2 =>
callW PG n_ref01_Adler [.str a0] σ1 fun v3 σ4 =>
castI .i64 v3 fun v5 =>
ifB (decide (v2 = v5)) (
callW PG n_law01_awake [] σ4 fun v6 σ7 =>
castB v6 fun v8 =>
Q (.bool v8) σ7) (
Q (.bool false) σ4)
theorem ok_law01_BitsAdler {a0 σ Q} (h : σ.Live → F_law01_BitsAdler a0 σ Q) : ACalls PG n_law01_BitsAdler [.str a0] σ Q :=
  .of_sem [none, none] [(4, tI), (6, tI), (9, .b)] mixed (by kernel_rfl) (by kernel_rfl) h
/-! vitrine/vitrinelaw01.BitsReads -/
def F_law01_BitsReads_j1 (Q : AV → Mem → Prop) (v0 : AV) (σ1 : Mem) (next4 : Int → Mem → Prop) (v5 : Int) (σ14 : Mem) : Prop :=
callW PG n_bits_Reader_Left [v0] (σ14.bump 5) fun v15 σ16 =>
castI .i64 v15 fun v17 =>
callW PG n_ref01_Reader_Left [.ptr (σ1.next + 4) 0] σ16 fun v18 σ19 =>
castI .i64 v18 fun v20 =>
ifB (decide (v17 ≠ v20)) (
Q (.bool false) (σ19.bump 1)) (
iW (v5 + 1) fun v21 =>
next4 v21 (σ19.bump 3))
def F_law01_BitsReads_l1 (a1 : AV) (Q : AV → Mem → Prop) (v0 : AV) (σ1 : Mem) (next4 : Int → Mem → Prop) (v5 : Int) (σ6 : Mem) : Prop :=
slenW a1 fun v7 =>
ifB (decide (v5 < v7)) (
ifB (decide (v5 < 300)) (
idxW 3 a1 v5 fun v8 =>
fldW 1 v8 fun v9 =>
ldI (σ6.bump 14) v9 fun v10 =>
idxW 3 a1 v5 fun v11 =>
fldW 0 v11 fun v12 =>
ldB (σ6.bump 19) v12 fun v13 =>
joinF [] (fun (k22 : Mem → Prop) =>
ifB v13 (
callW PG n_bits_Reader_Bytes [v0, .int .i64 v10] (σ6.bump 27) fun v23 σ24 =>
tpS v23 0 fun v25 =>
tpI v23 1 fun v26 =>
callW PG n_ref01_Reader_Bytes [.ptr (σ1.next + 4) 0, .int .i64 v10] (σ24.bump 8) fun v27 σ28 =>
tpS v27 0 fun v29 =>
tpI v27 1 fun v30 =>
ifB (decide (v25 ≠ v29)) (
Q (.bool false) (σ28.bump 9)) (
ifB (decide (v26 ≠ v30)) (
Q (.bool false) (σ28.bump 9)) (
k22 (σ28.bump 8)))) (
callW PG n_bits_Reader_Bits [v0, .int .i64 v10] (σ6.bump 27) fun v31 σ32 =>
tpI v31 0 fun v33 =>
tpI v31 1 fun v34 =>
callW PG n_ref01_Reader_Bits [.ptr (σ1.next + 4) 0, .int .i64 v10] (σ32.bump 8) fun v35 σ36 =>
tpI v35 0 fun v37 =>
tpI v35 1 fun v38 =>
ifB (decide (v33 ≠ v37)) (
Q (.bool false) (σ36.bump 9)) (
ifB (decide (v34 ≠ v38)) (
Q (.bool false) (σ36.bump 9)) (
k22 (σ36.bump 8))))) (F_law01_BitsReads_j1 Q v0 σ1 next4 v5)) (
callW PG n_law01_awake [] (σ6.bump 10) fun v39 σ40 =>
castB v39 fun v41 =>
Q (.bool v41) σ40)) (
callW PG n_law01_awake [] (σ6.bump 10) fun v42 σ43 =>
castB v42 fun v44 =>
Q (.bool v44) σ43)
def F_law01_BitsReads (a0 : ByteArray) (a1 : AV) (σ : Mem) (Q : AV → Mem → Prop) : Prop :=
callW PG n_bits_Read [.str a0] (σ.bump 4) fun v0 σ1 =>
eqW .ptr v0 .nilp fun v2 =>
ifB v2 (
Q (.bool false) (σ1.bump 3)) (
boxW (.agg [.str a0, .int .i64 0]) (
newW (σ1.bump 6) (σ1.next + 4) (.rw [.str a0, .int .i64 0]) fun σ3 =>
loopF [tI] (F_law01_BitsReads_l1 a1 Q v0 σ1) 0 (σ3.bump 1)))
theorem ok_law01_BitsReads {a0 a1 σ Q} (h : σ.Live → F_law01_BitsReads a0 a1 σ Q) : ACalls PG n_law01_BitsReads [.str a0, a1] σ Q :=
  .of_sem [none, none, none, none, none, none, none, none, some ([1, 5, 6], [7]), none, none, none, none, none, some ([1, 5, 6, 7], []), none, none, none, none, none, none, none, none, none, none, none, none, none, none, none] [(7, tI), (38, tI), (43, .b), (48, .s), (49, tI), (54, .s), (55, tI), (68, tI), (69, tI), (74, tI), (75, tI), (85, tI), (87, tI), (89, .b)] mixed (by kernel_rfl) (by kernel_rfl) h
/-! vitrine/vitrinelaw01.BitsWrites -/
def F_law01_BitsWrites_j1 (Q : AV → Mem → Prop) (v0 : AV) (σ1 : Mem) (next4 : Int → Mem → Prop) (v5 : Int) (σ11 : Mem) : Prop :=
callW PG n_bits_Writer_Text [v0] (σ11.bump 5) fun v12 σ13 =>
castS v12 fun v14 =>
callW PG n_ref01_Writer_Text [.ptr (σ1.next + 3) 0] σ13 fun v15 σ16 =>
castS v15 fun v17 =>
ifB (decide (v14 ≠ v17)) (
Q (.bool false) (σ16.bump 1)) (
iW (v5 + 1) fun v18 =>
next4 v18 (σ16.bump 3))
def F_law01_BitsWrites_l1 (a0 : AV) (Q : AV → Mem → Prop) (v0 : AV) (σ1 : Mem) (next4 : Int → Mem → Prop) (v5 : Int) (σ6 : Mem) : Prop :=
slenW a0 fun v7 =>
ifB (decide (v5 < v7)) (
ifB (decide (v5 < 300)) (
idxW 3 a0 v5 fun v8 =>
fldW 0 v8 fun v9 =>
ldB (σ6.bump 13) v9 fun v10 =>
joinF [] (fun (k19 : Mem → Prop) =>
ifB v10 (
idxW 3 a0 v5 fun v20 =>
ldnW 3 (σ6.bump 20) v20 fun v21 =>
callW PG n_law01_Op_text [v21] (σ6.bump 20) fun v22 σ23 =>
castS v22 fun v24 =>
callW PG n_bits_Writer_Bytes [v0, .str v24] σ23 fun v25 σ26 =>
idxW 3 a0 v5 fun v27 =>
ldnW 3 (σ26.bump 7) v27 fun v28 =>
callW PG n_law01_Op_text [v28] (σ26.bump 7) fun v29 σ30 =>
castS v29 fun v31 =>
callW PG n_ref01_Writer_Bytes [.ptr (σ1.next + 3) 0, .str v31] σ30 fun v32 σ33 =>
k19 σ33) (
idxW 3 a0 v5 fun v34 =>
fldW 2 v34 fun v35 =>
ldI (σ6.bump 25) v35 fun v36 =>
idxW 3 a0 v5 fun v37 =>
fldW 1 v37 fun v38 =>
ldI (σ6.bump 25) v38 fun v39 =>
callW PG n_bits_Writer_Bits [v0, .int .i64 v36, .int .i64 v39] (σ6.bump 25) fun v40 σ41 =>
idxW 3 a0 v5 fun v42 =>
fldW 2 v42 fun v43 =>
ldI (σ41.bump 12) v43 fun v44 =>
idxW 3 a0 v5 fun v45 =>
fldW 1 v45 fun v46 =>
ldI (σ41.bump 12) v46 fun v47 =>
callW PG n_ref01_Writer_Bits [.ptr (σ1.next + 3) 0, .int .i64 v44, .int .i64 v47] (σ41.bump 12) fun v48 σ49 =>
k19 σ49)) (F_law01_BitsWrites_j1 Q v0 σ1 next4 v5)) (
callW PG n_law01_awake [] (σ6.bump 10) fun v50 σ51 =>
castB v50 fun v52 =>
Q (.bool v52) σ51)) (
callW PG n_law01_awake [] (σ6.bump 10) fun v53 σ54 =>
castB v53 fun v55 =>
Q (.bool v55) σ54)
def F_law01_BitsWrites (a0 : AV) (σ : Mem) (Q : AV → Mem → Prop) : Prop :=
callW PG n_bits_New [] (σ.bump 3) fun v0 σ1 =>
eqW .ptr v0 .nilp fun v2 =>
ifB v2 (
Q (.bool false) (σ1.bump 3)) (
boxW (.agg [.nils, .int .i64 0]) (
newW (σ1.bump 5) (σ1.next + 3) (.rw [.nils, .int .i64 0]) fun σ3 =>
loopF [tI] (F_law01_BitsWrites_l1 a0 Q v0 σ1) 0 (σ3.bump 1)))
theorem ok_law01_BitsWrites {a0 σ Q} (h : σ.Live → F_law01_BitsWrites a0 σ Q) : ACalls PG n_law01_BitsWrites [a0] σ Q :=
  .of_sem [none, none, none, none, none, none, none, none, some ([0, 3, 4], [5]), none, none, none, none, some ([0, 3, 4, 5], []), none, none, none, none, none, none, none, none, none] [(5, tI), (25, .b), (31, .s), (38, .s), (45, tI), (50, tI), (57, tI), (62, tI), (65, .s), (67, .s), (69, .b)] mixed (by kernel_rfl) (by kernel_rfl) h
/-! vitrine/vitrinelaw01.BitsBack -/
def F_law01_BitsBack_j2 (Q : AV → Mem → Prop) (v6 : AV) (σ8 : Mem) : Prop :=
callW PG n_bits_Reader_Left [v6] (σ8.bump 3) fun v9 σ10 =>
castI .i64 v9 fun v11 =>
ifB (decide (v11 < 0)) (
Q (.bool false) (σ10.bump 7)) (
ifB (decide (7 < v11)) (
Q (.bool false) (σ10.bump 7)) (
callW PG n_bits_Reader_Bits [v6, .int .i64 v11] (σ10.bump 14) fun v12 σ13 =>
tpI v12 0 fun v14 =>
tpI v12 1 fun v15 =>
ifB (decide (v15 = 0)) (
ifB (decide (v14 = 0)) (
callW PG n_law01_awake [] (σ13.bump 10) fun v16 σ17 =>
castB v16 fun v18 =>
Q (.bool v18) σ17) (
Q (.bool false) (σ13.bump 10))) (
Q (.bool false) (σ13.bump 10))))
def F_law01_BitsBack_j3 (next20 : Int → Mem → Prop) (v21 : Int) (σ24 : Mem) : Prop :=
iW (v21 + 1) fun v25 =>
next20 v25 (σ24.bump 3)
def F_law01_BitsBack_l1 (a0 : AV) (Q : AV → Mem → Prop) (v6 : AV) (k19 : Mem → Prop) (next20 : Int → Mem → Prop) (v21 : Int) (σ22 : Mem) : Prop :=
slenW a0 fun v23 =>
ifB (decide (v21 < v23)) (
ifB (decide (v21 < 300)) (
joinF [] (fun (k26 : Mem → Prop) =>
idxW 3 a0 v21 fun v27 =>
fldW 1 v27 fun v28 =>
ldI (σ22.bump 14) v28 fun v29 =>
idxW 3 a0 v21 fun v30 =>
fldW 0 v30 fun v31 =>
ldB (σ22.bump 19) v31 fun v32 =>
ifB v32 (
idxW 3 a0 v21 fun v33 =>
ldnW 3 (σ22.bump 32) v33 fun v34 =>
callW PG n_law01_Op_text [v34] (σ22.bump 32) fun v35 σ36 =>
castS v35 fun v37 =>
callW PG n_bits_Reader_Bytes [v6, .int .i64 (v37.size : Int)] σ36 fun v38 σ39 =>
tpS v38 0 fun v40 =>
tpI v38 1 fun v41 =>
ifB (decide (v41 ≠ 0)) (
Q (.bool false) (σ39.bump 12)) (
idxW 3 a0 v21 fun v42 =>
ldnW 3 (σ39.bump 11) v42 fun v43 =>
callW PG n_law01_Op_text [v43] (σ39.bump 11) fun v44 σ45 =>
castS v44 fun v46 =>
ifB (decide (v40 ≠ v46)) (
Q (.bool false) (σ45.bump 1)) (
k26 σ45))) (
ifB (decide (v29 < 0)) (
k26 (σ22.bump 25)) (
ifB (decide (24 < v29)) (
k26 (σ22.bump 25)) (
callW PG n_bits_Reader_Bits [v6, .int .i64 v29] (σ22.bump 33) fun v47 σ48 =>
tpI v47 0 fun v49 =>
tpI v47 1 fun v50 =>
ifB (decide (v50 ≠ 0)) (
Q (.bool false) (σ48.bump 16)) (
idxW 3 a0 v21 fun v51 =>
fldW 2 v51 fun v52 =>
ldI (σ48.bump 15) v52 fun v53 =>
shlW .i64 1 v29 fun v54 =>
iW (v54 - 1) fun v55 =>
letW (bitsOp .and .i64 v53 v55) fun v56 =>
ifB (decide (v49 ≠ v56)) (
Q (.bool false) (σ48.bump 16)) (
k26 (σ48.bump 15))))))) (F_law01_BitsBack_j3 next20 v21)) (
k19 (σ22.bump 8))) (
k19 (σ22.bump 8))
def F_law01_BitsBack_j1 (a0 : AV) (Q : AV → Mem → Prop) (v0 : AV) (σ2 : Mem) : Prop :=
callW PG n_bits_Writer_Text [v0] (σ2.bump 4) fun v3 σ4 =>
castS v3 fun v5 =>
callW PG n_bits_Read [.str v5] σ4 fun v6 σ7 =>
joinF [] (fun (k19 : Mem → Prop) =>
loopF [tI] (F_law01_BitsBack_l1 a0 Q v6 k19) 0 (σ7.bump 1)) (F_law01_BitsBack_j2 Q v6)
def F_law01_BitsBack_j4 (next58 : Int → Mem → Prop) (v59 : Int) (σ65 : Mem) : Prop :=
iW (v59 + 1) fun v66 =>
next58 v66 (σ65.bump 3)
def F_law01_BitsBack_l2 (a0 : AV) (v0 : AV) (k57 : Mem → Prop) (next58 : Int → Mem → Prop) (v59 : Int) (σ60 : Mem) : Prop :=
slenW a0 fun v61 =>
ifB (decide (v59 < v61)) (
ifB (decide (v59 < 300)) (
idxW 3 a0 v59 fun v62 =>
fldW 0 v62 fun v63 =>
ldB (σ60.bump 13) v63 fun v64 =>
joinF [] (fun (k67 : Mem → Prop) =>
ifB v64 (
idxW 3 a0 v59 fun v68 =>
ldnW 3 (σ60.bump 20) v68 fun v69 =>
callW PG n_law01_Op_text [v69] (σ60.bump 20) fun v70 σ71 =>
castS v70 fun v72 =>
callW PG n_bits_Writer_Bytes [v0, .str v72] σ71 fun v73 σ74 =>
k67 σ74) (
idxW 3 a0 v59 fun v75 =>
fldW 2 v75 fun v76 =>
ldI (σ60.bump 25) v76 fun v77 =>
idxW 3 a0 v59 fun v78 =>
fldW 1 v78 fun v79 =>
ldI (σ60.bump 25) v79 fun v80 =>
callW PG n_bits_Writer_Bits [v0, .int .i64 v77, .int .i64 v80] (σ60.bump 25) fun v81 σ82 =>
k67 σ82)) (F_law01_BitsBack_j4 next58 v59)) (
k57 (σ60.bump 8))) (
k57 (σ60.bump 8))
def F_law01_BitsBack (a0 : AV) (σ : Mem) (Q : AV → Mem → Prop) : Prop :=
callW PG n_bits_New [] (σ.bump 3) fun v0 σ1 =>
joinF [] (fun (k57 : Mem → Prop) =>
loopF [tI] (F_law01_BitsBack_l2 a0 v0 k57) 0 (σ1.bump 1)) (F_law01_BitsBack_j1 a0 Q v0)
theorem ok_law01_BitsBack {a0 σ Q} (h : σ.Live → F_law01_BitsBack a0 σ Q) : ACalls PG n_law01_BitsBack [a0] σ Q :=
  .of_sem [none, none, none, some ([0, 3], []), some ([0, 3], [4]), none, none, none, none, some ([0, 3, 4], []), none, none, none, none, none, some ([5], []), some ([0, 5], [6]), none, none, some ([0, 5, 6], []), none, none, none, none, none, none, none, none, none, none, none, none, none, none, none, none, none, none, none, none] [(4, tI), (30, .b), (36, .s), (43, tI), (48, tI), (51, .s), (6, tI), (67, tI), (72, .b), (79, .s), (82, .s), (83, tI), (92, .s), (105, tI), (106, tI), (115, tI), (123, tI), (134, tI), (135, tI), (143, .b)] mixed (by kernel_rfl) (by kernel_rfl) h
/-! vitrine/vitrinelaw01.BitsTold -/
def F_law01_BitsTold (a0 : ByteArray) (a1 : Int) (a2 : Int) (σ : Mem) (Q : AV → Mem → Prop) : Prop :=
ifB (decide ((a0.size : Int) = 0)) (
callW PG n_law01_awake [] (σ.bump 10) fun v0 σ1 =>
castB v0 fun v2 =>
Q (.bool v2) σ1) (
ifB (decide (a2 = 0)) (
callW PG n_law01_awake [] (σ.bump 10) fun v3 σ4 =>
castB v3 fun v5 =>
Q (.bool v5) σ4) (
remW a1 (a0.size : Int) fun v6 =>
iW (v6 + (a0.size : Int)) fun v7 =>
remW v7 (a0.size : Int) fun v8 =>
sbytesW a0 (
newW (σ.bump 22) (σ.next + 20) (.rw (bytesOf a0)) fun σ9 =>
idxW 1 (.slice (σ.next + 20) 0 a0.size (.op 1)) v8 fun v10 =>
ldU (σ9.bump 10) v10 fun v11 =>
letW (bitsOp .xor .u8 v11 a2) fun v12 =>
idxW 1 (.slice (σ.next + 20) 0 a0.size (.op 1)) v8 fun v13 =>
stW 1 (σ9.bump 10) v13 (.int .u8 v12) fun σ14 =>
bstrW (σ14.bump 10) (.slice (σ.next + 20) 0 a0.size (.op 1)) fun v15 =>
callW PG n_bits_Crc [.str v15] (σ14.bump 10) fun v16 σ17 =>
castI .i64 v16 fun v18 =>
callW PG n_bits_Crc [.str a0] σ17 fun v19 σ20 =>
castI .i64 v19 fun v21 =>
ifB (decide (v18 ≠ v21)) (
callW PG n_law01_awake [] σ20 fun v22 σ23 =>
castB v22 fun v24 =>
Q (.bool v24) σ23) (
Q (.bool false) σ20))))
theorem ok_law01_BitsTold {a0 a1 a2 σ Q} (h : σ.Live → F_law01_BitsTold a0 a1 a2 σ Q) : ACalls PG n_law01_BitsTold [.str a0, .int .i64 a1, .int .u8 a2] σ Q :=
  .of_sem [none, none, none, none, none, none, none, none] [(16, .b), (34, tU), (40, tI), (42, tI), (45, .b)] mixed (by kernel_rfl) (by kernel_rfl) h
/-! vitrine/vitrinelaw01.BitsNil -/
def F_law01_BitsNil (a0 : Int) (σ : Mem) (Q : AV → Mem → Prop) : Prop :=
callW PG n_bits_Reader_Bits [.nilp, .int .i64 a0] (σ.bump 11) fun v0 σ1 =>
tpI v0 0 fun v2 =>
tpI v0 1 fun v3 =>
callW PG n_bits_Reader_Bytes [.nilp, .int .i64 a0] (σ1.bump 8) fun v4 σ5 =>
tpS v4 0 fun v6 =>
tpI v4 1 fun v7 =>
callW PG n_bits_Writer_Bits [.nilp, .int .i64 a0, .int .i64 8] (σ5.bump 3) fun v8 σ9 =>
callW PG n_bits_Writer_Bytes [.nilp, .str ⟨#[120]⟩] (σ9.bump 2) fun v10 σ11 =>
ifB (decide (v3 = 2)) (
ifB (decide (v7 = 2)) (
callW PG n_bits_Reader_Left [.nilp] (σ11.bump 20) fun v12 σ13 =>
castI .i64 v12 fun v14 =>
ifB (decide (v14 = 0)) (
callW PG n_bits_Writer_Text [.nilp] σ13 fun v15 σ16 =>
castS v15 fun v17 =>
ifB (decide (v17 = ⟨#[]⟩)) (
callW PG n_law01_awake [] σ16 fun v18 σ19 =>
castB v18 fun v20 =>
Q (.bool v20) σ19) (
Q (.bool false) σ16)) (
Q (.bool false) σ13)) (
Q (.bool false) (σ11.bump 20))) (
Q (.bool false) (σ11.bump 20))
theorem ok_law01_BitsNil {a0 σ Q} (h : σ.Live → F_law01_BitsNil a0 σ Q) : ACalls PG n_law01_BitsNil [.int .i64 a0] σ Q :=
  .of_sem [none, none, none, none, none, none, none, none] [(13, tI), (14, tI), (19, .s), (20, tI), (34, tI), (39, .s), (43, .b)] mixed (by kernel_rfl) (by kernel_rfl) h
/-! vitrine/vitrinelaw04.tokens -/
def F_law04_tokens_l1 (a0 : AV) (a1 : AV) (Q : AV → Mem → Prop) (next2 : Int → Mem → Prop) (v3 : Int) (σ4 : Mem) : Prop :=
slenW a0 fun v5 =>
ifB (decide (v3 < v5)) (
idxW 3 a0 v3 fun v6 =>
ldnW 3 (σ4.bump 13) v6 fun v7 =>
idxW 3 a1 v3 fun v8 =>
ldnW 3 (σ4.bump 13) v8 fun v9 =>
eqW (.flat [(0, 1), (1, 1), (2, 1)]) v7 v9 fun v10 =>
ifB (!v10) (
Q (.bool false) (σ4.bump 14)) (
iW (v3 + 1) fun v11 =>
next2 v11 (σ4.bump 16))) (
Q (.bool true) (σ4.bump 5))
def F_law04_tokens (a0 : AV) (a1 : AV) (σ : Mem) (Q : AV → Mem → Prop) : Prop :=
slenW a0 fun v0 =>
slenW a1 fun v1 =>
ifB (decide (v0 ≠ v1)) (
Q (.bool false) (σ.bump 7)) (
loopF [tI] (F_law04_tokens_l1 a0 a1 Q) 0 (σ.bump 7))
theorem ok_law04_tokens {a0 a1 σ Q} (h : σ.Live → F_law04_tokens a0 a1 σ Q) : ACalls PG n_law04_tokens [a0, a1] σ Q :=
  .of_sem [none, none, none, none, none, none, some ([0, 1], [5]), none, none, none, none, none, none, none, none] [(5, tI)] mixed (by kernel_rfl) (by kernel_rfl) h
/-! vitrine/lz.Tokens -/
def F_lz_Tokens_j1 (next4 : AV → Int → Mem → Prop) (v9 : AV) (v10 : Int) (σ11 : Mem) : Prop :=
next4 v9 v10 σ11
def F_lz_Tokens_j2 (σ : Mem) (σ0 : Mem) (v5 : AV) (v6 : Int) (k12 : AV → Int → Mem → Prop) (v15 : Int) (v16 : Int) (σ17 : Mem) : Prop :=
ifB (decide (v15 < 3)) (
ldS (σ17.bump 11) (.ptr σ.next 0) fun v18 =>
sidxW v18 v6 fun v19 =>
iW v19 fun v20 =>
cellOkW (.agg [.int .i64 v20, .int .i64 0, .int .i64 0]) 3 (
newW (σ17.bump 11) (σ17.next + 8) (.rw [.int .i64 v20, .int .i64 0, .int .i64 0]) fun σ21 =>
apW 3 24 (σ17.next + 9) σ21 v5 (.slice (σ17.next + 8) 0 1 (.ex 1)) fun v22 σ23 =>
callvW PG (.func n_lz_Tokens_1 [.ptr σ.next 0, .ptr (σ0.next + 2) 0]) [.int .i64 v6, .int .i64 1] (σ23.bump 3) fun v24 σ25 =>
iW (v6 + 1) fun v26 =>
k12 v22 v26 (σ25.bump 3))) (
cellOkW (.agg [.int .i64 0, .int .i64 v15, .int .i64 v16]) 3 (
newW (σ17.bump 9) (σ17.next + 6) (.rw [.int .i64 0, .int .i64 v15, .int .i64 v16]) fun σ27 =>
apW 3 24 (σ17.next + 7) σ27 v5 (.slice (σ17.next + 6) 0 1 (.ex 1)) fun v28 σ29 =>
callvW PG (.func n_lz_Tokens_1 [.ptr σ.next 0, .ptr (σ0.next + 2) 0]) [.int .i64 v6, .int .i64 v15] (σ29.bump 4) fun v30 σ31 =>
iW (v6 + v15) fun v32 =>
k12 v28 v32 (σ31.bump 4)))
def F_lz_Tokens_j3 (k33 : Int → Int → Mem → Prop) (v41 : Int) (v42 : Int) (σ43 : Mem) : Prop :=
k33 v41 v42 σ43
def F_lz_Tokens_j5 (k44 : Int → Int → Mem → Prop) (next45 : Int → Int → Int → Mem → Prop) (v48 : Int) (v55 : Int) (v56 : Int) (σ57 : Mem) : Prop :=
ifB (decide (v55 = 258)) (
k44 v55 v56 (σ57.bump 2)) (
iW (v48 - 1) fun v58 =>
next45 v55 v56 v58 (σ57.bump 5))
def F_lz_Tokens_j4 (v6 : Int) (v38 : AV) (k44 : Int → Int → Mem → Prop) (next45 : Int → Int → Int → Mem → Prop) (v46 : Int) (v47 : Int) (v48 : Int) (v53 : Int) (σ54 : Mem) : Prop :=
joinF [tI, tI] (fun (k59 : Int → Int → Mem → Prop) =>
ifB (decide (v46 < v53)) (
idxW 1 v38 v48 fun v60 =>
ldI (σ54.bump 12) v60 fun v61 =>
iW (v6 - v61) fun v62 =>
k59 v53 v62 (σ54.bump 12)) (
k59 v46 v47 (σ54.bump 3))) (F_lz_Tokens_j5 k44 next45 v48)
def F_lz_Tokens_l3 (σ : Mem) (v6 : Int) (v38 : AV) (v48 : Int) (k63 : Int → Mem → Prop) (next64 : Int → Mem → Prop) (v65 : Int) (σ66 : Mem) : Prop :=
ifB (decide (v65 < 258)) (
iW (v6 + v65) fun v67 =>
ldS (σ66.bump 26) (.ptr σ.next 0) fun v68 =>
ifB (decide (v67 < (v68.size : Int))) (
ldS (σ66.bump 26) (.ptr σ.next 0) fun v69 =>
iW (v6 + v65) fun v70 =>
sidxW v69 v70 fun v71 =>
ldS (σ66.bump 26) (.ptr σ.next 0) fun v72 =>
idxW 1 v38 v48 fun v73 =>
ldI (σ66.bump 26) v73 fun v74 =>
iW (v74 + v65) fun v75 =>
sidxW v72 v75 fun v76 =>
ifB (decide (v71 = v76)) (
iW (v65 + 1) fun v77 =>
next64 v77 (σ66.bump 29)) (
k63 v65 (σ66.bump 26))) (
k63 v65 (σ66.bump 26))) (
k63 v65 (σ66.bump 26))
def F_lz_Tokens_l2 (σ : Mem) (v6 : Int) (v38 : AV) (k44 : Int → Int → Mem → Prop) (next45 : Int → Int → Int → Mem → Prop) (v46 : Int) (v47 : Int) (v48 : Int) (σ49 : Mem) : Prop :=
ifB (decide (0 ≤ v48)) (
idxW 1 v38 v48 fun v50 =>
ldI (σ49.bump 11) v50 fun v51 =>
iW (v6 - v51) fun v52 =>
ifB (decide (v52 ≤ 512)) (
joinF [tI] (fun (k63 : Int → Mem → Prop) =>
loopF [tI] (F_lz_Tokens_l3 σ v6 v38 v48 k63) 3 (σ49.bump 12)) (F_lz_Tokens_j4 v6 v38 k44 next45 v46 v47 v48)) (
k44 v46 v47 (σ49.bump 11))) (
k44 v46 v47 (σ49.bump 11))
def F_lz_Tokens_l1 (Q : AV → Mem → Prop) (σ : Mem) (σ0 : Mem) (next4 : AV → Int → Mem → Prop) (v5 : AV) (v6 : Int) (σ7 : Mem) : Prop :=
ldS (σ7.bump 4) (.ptr σ.next 0) fun v8 =>
ifB (decide (v6 < (v8.size : Int))) (
joinF [.v, tI] (fun (k12 : AV → Int → Mem → Prop) =>
iW (v6 + 3) fun v13 =>
ldS (σ7.bump 11) (.ptr σ.next 0) fun v14 =>
joinF [tI, tI] (fun (k33 : Int → Int → Mem → Prop) =>
ifB (decide (v13 ≤ (v14.size : Int))) (
ldW (σ7.bump 19) (.ptr (σ0.next + 2) 0) fun v34 =>
ldS (σ7.bump 19) (.ptr σ.next 0) fun v35 =>
iW (v6 + 3) fun v36 =>
subW v35 v6 v36 fun v37 =>
lookW (σ7.bump 19) .nils false v34 (.str v37) fun v38 =>
slenW v38 fun v39 =>
iW (v39 - 1) fun v40 =>
joinF [tI, tI] (fun (k44 : Int → Int → Mem → Prop) =>
loopF [tI, tI, tI] (F_lz_Tokens_l2 σ v6 v38 k44) 0 0 v40 (σ7.bump 23)) (F_lz_Tokens_j3 k33)) (
k33 0 0 (σ7.bump 11))) (F_lz_Tokens_j2 σ σ0 v5 v6 k12)) (F_lz_Tokens_j1 next4)) (
Q v5 (σ7.bump 6))
def F_lz_Tokens (a0 : ByteArray) (σ : Mem) (Q : AV → Mem → Prop) : Prop :=
newW (σ.bump 2) σ.next (.rw [.str a0]) fun σ0 =>
newW (σ0.bump 4) (σ0.next + 1) (.map [] 0) fun σ1 =>
newW σ1 (σ0.next + 2) (.rw [.nilm]) fun σ2 =>
stW 1 σ2 (.ptr (σ0.next + 2) 0) (.map (σ0.next + 1)) fun σ3 =>
loopF [.v, tI] (F_lz_Tokens_l1 Q σ σ0) .nils 0 (σ3.bump 3)
theorem ok_lz_Tokens {a0 σ Q} (h : σ.Live → F_lz_Tokens a0 σ Q) : ACalls PG n_lz_Tokens [.str a0] σ Q :=
  .of_sem [none, none, none, none, none, none, some ([1, 4, 5], [3, 6]), none, none, some ([1, 4, 5], [3, 6]), none, none, some ([1, 3, 4, 5, 6], [7, 8]), none, none, some ([1, 3, 4, 5, 6], [7, 8]), some ([1, 3, 4, 5, 6, 9], [7, 8, 10]), none, none, none, none, some ([1, 3, 4, 5, 6, 7, 8, 9, 10], [11]), some ([1, 3, 4, 5, 6, 7, 8, 9, 10], [11]), none, none, none, none, none, some ([1, 3, 4, 5, 6, 9, 10], [7, 8]), none, none, none, none, none, none, none, none, none, none, none, none, none] [(6, tI), (15, .s), (7, tI), (8, tI), (20, .s), (24, .s), (10, tI), (40, tI), (11, tI), (52, .s), (57, .s), (62, .s), (66, tI), (82, tI), (89, .s)] mixed (by kernel_rfl) (by kernel_rfl) h
/-! vitrine/vitrineref04.Tokens -/
def F_ref04_Tokens_j2 (next0 : AV → Int → Mem → Prop) (v7 : AV) (v8 : Int) (σ9 : Mem) : Prop :=
next0 v7 v8 σ9
def F_ref04_Tokens_j1 (a0 : ByteArray) (next0 : AV → Int → Mem → Prop) (v1 : AV) (v2 : Int) (v4 : Int) (v5 : Int) (σ6 : Mem) : Prop :=
joinF [.v, tI] (fun (k10 : AV → Int → Mem → Prop) =>
ifB (decide (3 ≤ v4)) (
cellOkW (.agg [.int .i64 0, .int .i64 v4, .int .i64 v5]) 3 (
newW (σ6.bump 9) (σ6.next + 6) (.rw [.int .i64 0, .int .i64 v4, .int .i64 v5]) fun σ11 =>
apW 3 24 (σ6.next + 7) σ11 v1 (.slice (σ6.next + 6) 0 1 (.ex 1)) fun v12 σ13 =>
iW (v2 + v4) fun v14 =>
k10 v12 v14 (σ13.bump 4))) (
sidxW a0 v2 fun v15 =>
iW v15 fun v16 =>
cellOkW (.agg [.int .i64 v16, .int .i64 0, .int .i64 0]) 3 (
newW (σ6.bump 11) (σ6.next + 8) (.rw [.int .i64 v16, .int .i64 0, .int .i64 0]) fun σ17 =>
apW 3 24 (σ6.next + 9) σ17 v1 (.slice (σ6.next + 8) 0 1 (.ex 1)) fun v18 σ19 =>
iW (v2 + 1) fun v20 =>
k10 v18 v20 (σ19.bump 3)))) (F_ref04_Tokens_j2 next0)
def F_ref04_Tokens_j4 (next22 : Int → Int → Int → Mem → Prop) (v25 : Int) (v29 : Int) (v30 : Int) (σ31 : Mem) : Prop :=
iW (v25 + 1) fun v32 =>
next22 v29 v30 v32 (σ31.bump 3)
def F_ref04_Tokens_j3 (next22 : Int → Int → Int → Mem → Prop) (v23 : Int) (v24 : Int) (v25 : Int) (v27 : Int) (σ28 : Mem) : Prop :=
joinF [tI, tI] (fun (k33 : Int → Int → Mem → Prop) =>
ifB (decide (v23 < v27)) (
k33 v27 v25 (σ28.bump 7)) (
k33 v23 v24 (σ28.bump 3))) (F_ref04_Tokens_j4 next22 v25)
def F_ref04_Tokens_l3 (a0 : ByteArray) (v2 : Int) (v25 : Int) (k34 : Int → Mem → Prop) (next35 : Int → Mem → Prop) (v36 : Int) (σ37 : Mem) : Prop :=
ifB (decide (v36 < 258)) (
iW (v2 + v36) fun v38 =>
ifB (decide (v38 < (a0.size : Int))) (
iW (v2 + v36) fun v39 =>
sidxW a0 v39 fun v40 =>
iW (v2 + v36) fun v41 =>
iW (v41 - v25) fun v42 =>
sidxW a0 v42 fun v43 =>
ifB (decide (v40 = v43)) (
iW (v36 + 1) fun v44 =>
next35 v44 (σ37.bump 28)) (
k34 v36 (σ37.bump 25))) (
k34 v36 (σ37.bump 25))) (
k34 v36 (σ37.bump 25))
def F_ref04_Tokens_l2 (a0 : ByteArray) (v2 : Int) (k21 : Int → Int → Mem → Prop) (next22 : Int → Int → Int → Mem → Prop) (v23 : Int) (v24 : Int) (v25 : Int) (σ26 : Mem) : Prop :=
ifB (decide (v25 ≤ 512)) (
ifB (decide (v25 ≤ v2)) (
joinF [tI] (fun (k34 : Int → Mem → Prop) =>
loopF [tI] (F_ref04_Tokens_l3 a0 v2 v25 k34) 0 (σ26.bump 8)) (F_ref04_Tokens_j3 next22 v23 v24 v25)) (
k21 v23 v24 (σ26.bump 7))) (
k21 v23 v24 (σ26.bump 7))
def F_ref04_Tokens_l1 (a0 : ByteArray) (Q : AV → Mem → Prop) (next0 : AV → Int → Mem → Prop) (v1 : AV) (v2 : Int) (σ3 : Mem) : Prop :=
ifB (decide (v2 < (a0.size : Int))) (
joinF [tI, tI] (fun (k21 : Int → Int → Mem → Prop) =>
loopF [tI, tI, tI] (F_ref04_Tokens_l2 a0 v2 k21) 0 0 1 (σ3.bump 7)) (F_ref04_Tokens_j1 a0 next0 v1 v2)) (
Q v1 (σ3.bump 6))
def F_ref04_Tokens (a0 : ByteArray) (σ : Mem) (Q : AV → Mem → Prop) : Prop :=
loopF [.v, tI] (F_ref04_Tokens_l1 a0 Q) .nils 0 (σ.bump 3)
theorem ok_ref04_Tokens {a0 σ Q} (h : σ.Live → F_ref04_Tokens a0 σ Q) : ACalls PG n_ref04_Tokens [.str a0] σ Q :=
  .of_sem [none, none, none, none, some ([0], [3, 4]), none, none, none, none, none, none, some ([0, 3, 4], [5, 6]), some ([0, 3, 4], [5, 6, 7]), none, none, none, none, some ([0, 3, 4, 5, 6, 7], [8]), some ([0, 3, 4, 5, 6, 7], [8]), none, none, none, none, none, some ([0, 3, 4, 7], [5, 6]), none, none, none, none, some ([0], [3, 4]), none, none, none, none, none] [(4, tI), (5, tI), (6, tI), (7, tI), (8, tI)] mixed (by kernel_rfl) (by kernel_rfl) h
/-! vitrine/vitrinelaw04.awake -/
def F_law04_awake (σ : Mem) (Q : AV → Mem → Prop) : Prop :=
cellOkW (.agg [.int .i64 0, .int .i64 3, .int .i64 1]) 3 (
newW (σ.bump 9) (σ.next + 2) (.rw [.int .i64 0, .int .i64 3, .int .i64 1]) fun σ0 =>
callW PG n_lz_Expand [.slice (σ.next + 2) 0 1 (.ex 1)] σ0 fun v1 σ2 =>
tpS v1 0 fun v3 =>
tpI v1 1 fun v4 =>
cellOkW (.agg [.int .i64 0, .int .i64 2, .int .i64 1]) 3 (
newW (σ2.bump 8) (σ2.next + 1) (.rw [.int .i64 0, .int .i64 2, .int .i64 1]) fun σ5 =>
callW PG n_lz_Expand [.slice (σ2.next + 1) 0 1 (.ex 1)] σ5 fun v6 σ7 =>
tpS v6 0 fun v8 =>
tpI v6 1 fun v9 =>
callW PG n_lz_Tokens [.str ⟨#[97, 98, 99, 97, 98, 99, 97, 98]⟩] (σ7.bump 23) fun v10 σ11 =>
cellOkW (.agg [.int .i64 97, .int .i64 0, .int .i64 0]) 3 (
cellOkW (.agg [.int .i64 98, .int .i64 0, .int .i64 0]) 3 (
cellOkW (.agg [.int .i64 99, .int .i64 0, .int .i64 0]) 3 (
cellOkW (.agg [.int .i64 0, .int .i64 5, .int .i64 3]) 3 (
newW σ11 (σ7.next + 5) (.rw [.int .i64 97, .int .i64 0, .int .i64 0, .int .i64 98, .int .i64 0, .int .i64 0, .int .i64 99, .int .i64 0, .int .i64 0, .int .i64 0, .int .i64 5, .int .i64 3]) fun σ12 =>
callW PG n_law04_tokens [v10, .slice (σ7.next + 5) 0 4 (.ex 4)] σ12 fun v13 σ14 =>
castB v13 fun v15 =>
ifB v15 (
callW PG n_lz_Tokens [.str ⟨#[97, 97, 97, 97]⟩] σ14 fun v16 σ17 =>
cellOkW (.agg [.int .i64 97, .int .i64 0, .int .i64 0]) 3 (
cellOkW (.agg [.int .i64 0, .int .i64 3, .int .i64 1]) 3 (
newW σ17 (σ7.next + 11) (.rw [.int .i64 97, .int .i64 0, .int .i64 0, .int .i64 0, .int .i64 3, .int .i64 1]) fun σ18 =>
callW PG n_law04_tokens [v16, .slice (σ7.next + 11) 0 2 (.ex 2)] σ18 fun v19 σ20 =>
castB v19 fun v21 =>
ifB v21 (
ifB (decide (v4 = 15)) (
Q (.bool (decide (v9 = 1))) σ20) (
Q (.bool false) σ20)) (
Q (.bool false) σ20)))) (
Q (.bool false) σ14)))))))
theorem ok_law04_awake {σ Q} (h : σ.Live → F_law04_awake σ Q) : ACalls PG n_law04_awake [] σ Q :=
  .of_sem [none, none, none, none] [(9, .s), (10, tI), (15, .s), (16, tI), (23, .b), (29, .b)] mixed (by kernel_rfl) (by kernel_rfl) h
/-! vitrine/lz.Expand -/
def F_lz_Expand_j1 (next1 : AV → Int → Mem → Prop) (v3 : Int) (v17 : AV) (σ18 : Mem) : Prop :=
iW (v3 + 1) fun v19 =>
next1 v17 v19 (σ18.bump 2)
def F_lz_Expand_l2 (σ4 : Mem) (k20 : AV → Mem → Prop) (v41 : Int) (next42 : AV → Int → Mem → Prop) (v43 : AV) (v44 : Int) (σ45 : Mem) : Prop :=
ifB (decide (v44 < v41)) (
slenW v43 fun v46 =>
fldW 2 (.ptr (σ4.next + 3) 0) fun v47 =>
ldI (σ45.bump 13) v47 fun v48 =>
iW (v46 - v48) fun v49 =>
idxW 1 v43 v49 fun v50 =>
ldU (σ45.bump 13) v50 fun v51 =>
newW (σ45.bump 13) (σ45.next + 10) (.rw [.int .u8 v51]) fun σ52 =>
apW 1 1 (σ45.next + 11) σ52 v43 (.slice (σ45.next + 10) 0 1 (.ex 1)) fun v53 σ54 =>
iW (v44 + 1) fun v55 =>
next42 v53 v55 (σ54.bump 2)) (
k20 v43 (σ45.bump 1))
def F_lz_Expand_j2 (next1 : AV → Int → Mem → Prop) (v3 : Int) (v56 : AV) (σ57 : Mem) : Prop :=
iW (v3 + 1) fun v58 =>
next1 v56 v58 (σ57.bump 2)
def F_lz_Expand_l3 (σ4 : Mem) (k59 : AV → Mem → Prop) (v74 : Int) (next75 : AV → Int → Mem → Prop) (v76 : AV) (v77 : Int) (σ78 : Mem) : Prop :=
ifB (decide (v77 < v74)) (
slenW v76 fun v79 =>
fldW 2 (.ptr (σ4.next + 3) 0) fun v80 =>
ldI (σ78.bump 13) v80 fun v81 =>
iW (v79 - v81) fun v82 =>
idxW 1 v76 v82 fun v83 =>
ldU (σ78.bump 13) v83 fun v84 =>
newW (σ78.bump 13) (σ78.next + 10) (.rw [.int .u8 v84]) fun σ85 =>
apW 1 1 (σ78.next + 11) σ85 v76 (.slice (σ78.next + 10) 0 1 (.ex 1)) fun v86 σ87 =>
iW (v77 + 1) fun v88 =>
next75 v86 v88 (σ87.bump 2)) (
k59 v76 (σ78.bump 1))
def F_lz_Expand_j3 (next1 : AV → Int → Mem → Prop) (v3 : Int) (v89 : AV) (σ90 : Mem) : Prop :=
iW (v3 + 1) fun v91 =>
next1 v89 v91 (σ90.bump 2)
def F_lz_Expand_l4 (σ4 : Mem) (k92 : AV → Mem → Prop) (v107 : Int) (next108 : AV → Int → Mem → Prop) (v109 : AV) (v110 : Int) (σ111 : Mem) : Prop :=
ifB (decide (v110 < v107)) (
slenW v109 fun v112 =>
fldW 2 (.ptr (σ4.next + 3) 0) fun v113 =>
ldI (σ111.bump 13) v113 fun v114 =>
iW (v112 - v114) fun v115 =>
idxW 1 v109 v115 fun v116 =>
ldU (σ111.bump 13) v116 fun v117 =>
newW (σ111.bump 13) (σ111.next + 10) (.rw [.int .u8 v117]) fun σ118 =>
apW 1 1 (σ111.next + 11) σ118 v109 (.slice (σ111.next + 10) 0 1 (.ex 1)) fun v119 σ120 =>
iW (v110 + 1) fun v121 =>
next108 v119 v121 (σ120.bump 2)) (
k92 v109 (σ111.bump 1))
def F_lz_Expand_l1 (a0 : AV) (Q : AV → Mem → Prop) (v0 : Int) (next1 : AV → Int → Mem → Prop) (v2 : AV) (v3 : Int) (σ4 : Mem) : Prop :=
ifB (decide (v3 < v0)) (
idxW 3 a0 v3 fun v5 =>
ldnW 3 (σ4.bump 5) v5 fun v6 =>
newW (σ4.bump 5) (σ4.next + 3) (.rw [.int .i64 0, .int .i64 0, .int .i64 0]) fun σ7 =>
stW 3 σ7 (.ptr (σ4.next + 3) 0) v6 fun σ8 =>
ldnW 3 (σ8.bump 16) (.ptr (σ4.next + 3) 0) fun v9 =>
fldW 0 (.ptr (σ4.next + 3) 0) fun v10 =>
ldI (σ8.bump 16) v10 fun v11 =>
eqW (.flat [(0, 1), (1, 1), (2, 1)]) v9 (.agg [.int .i64 v11, .int .i64 0, .int .i64 0]) fun v12 =>
ifB v12 (
fldW 0 (.ptr (σ4.next + 3) 0) fun v13 =>
ldI (σ8.bump 16) v13 fun v14 =>
ifB (decide (0 ≤ v14)) (
fldW 0 (.ptr (σ4.next + 3) 0) fun v15 =>
ldI (σ8.bump 16) v15 fun v16 =>
joinF [.v] (fun (k20 : AV → Mem → Prop) =>
ifB (decide (v16 < 256)) (
fldW 0 (.ptr (σ4.next + 3) 0) fun v21 =>
ldI (σ8.bump 23) v21 fun v22 =>
wrW .u8 v22 fun v23 =>
newW (σ8.bump 23) (σ8.next + 20) (.rw [.int .u8 v23]) fun σ24 =>
apW 1 1 (σ8.next + 21) σ24 v2 (.slice (σ8.next + 20) 0 1 (.ex 1)) fun v25 σ26 =>
k20 v25 σ26) (
fldW 0 (.ptr (σ4.next + 3) 0) fun v27 =>
ldI (σ8.bump 40) v27 fun v28 =>
ifB (decide (v28 ≠ 0)) (
Q (.tup [.str ⟨#[]⟩, .int .i64 1]) (σ8.bump 42)) (
fldW 1 (.ptr (σ4.next + 3) 0) fun v29 =>
ldI (σ8.bump 40) v29 fun v30 =>
ifB (decide (v30 < 3)) (
Q (.tup [.str ⟨#[]⟩, .int .i64 1]) (σ8.bump 42)) (
fldW 1 (.ptr (σ4.next + 3) 0) fun v31 =>
ldI (σ8.bump 40) v31 fun v32 =>
ifB (decide (258 < v32)) (
Q (.tup [.str ⟨#[]⟩, .int .i64 1]) (σ8.bump 42)) (
fldW 2 (.ptr (σ4.next + 3) 0) fun v33 =>
ldI (σ8.bump 40) v33 fun v34 =>
ifB (decide (v34 < 1)) (
Q (.tup [.str ⟨#[]⟩, .int .i64 1]) (σ8.bump 42)) (
fldW 2 (.ptr (σ4.next + 3) 0) fun v35 =>
ldI (σ8.bump 40) v35 fun v36 =>
ifB (decide (32768 < v36)) (
Q (.tup [.str ⟨#[]⟩, .int .i64 1]) (σ8.bump 42)) (
fldW 2 (.ptr (σ4.next + 3) 0) fun v37 =>
ldI (σ8.bump 46) v37 fun v38 =>
slenW v2 fun v39 =>
ifB (decide (v39 < v38)) (
Q (.tup [.str ⟨#[]⟩, .int .i64 15]) (σ8.bump 48)) (
fldW 1 (.ptr (σ4.next + 3) 0) fun v40 =>
ldI (σ8.bump 49) v40 fun v41 =>
loopF [.v, tI] (F_lz_Expand_l2 σ4 k20 v41) v2 0 (σ8.bump 49))))))))) (F_lz_Expand_j1 next1 v3)) (
joinF [.v] (fun (k59 : AV → Mem → Prop) =>
fldW 0 (.ptr (σ4.next + 3) 0) fun v60 =>
ldI (σ8.bump 40) v60 fun v61 =>
ifB (decide (v61 ≠ 0)) (
Q (.tup [.str ⟨#[]⟩, .int .i64 1]) (σ8.bump 42)) (
fldW 1 (.ptr (σ4.next + 3) 0) fun v62 =>
ldI (σ8.bump 40) v62 fun v63 =>
ifB (decide (v63 < 3)) (
Q (.tup [.str ⟨#[]⟩, .int .i64 1]) (σ8.bump 42)) (
fldW 1 (.ptr (σ4.next + 3) 0) fun v64 =>
ldI (σ8.bump 40) v64 fun v65 =>
ifB (decide (258 < v65)) (
Q (.tup [.str ⟨#[]⟩, .int .i64 1]) (σ8.bump 42)) (
fldW 2 (.ptr (σ4.next + 3) 0) fun v66 =>
ldI (σ8.bump 40) v66 fun v67 =>
ifB (decide (v67 < 1)) (
Q (.tup [.str ⟨#[]⟩, .int .i64 1]) (σ8.bump 42)) (
fldW 2 (.ptr (σ4.next + 3) 0) fun v68 =>
ldI (σ8.bump 40) v68 fun v69 =>
ifB (decide (32768 < v69)) (
Q (.tup [.str ⟨#[]⟩, .int .i64 1]) (σ8.bump 42)) (
fldW 2 (.ptr (σ4.next + 3) 0) fun v70 =>
ldI (σ8.bump 46) v70 fun v71 =>
slenW v2 fun v72 =>
ifB (decide (v72 < v71)) (
Q (.tup [.str ⟨#[]⟩, .int .i64 15]) (σ8.bump 48)) (
fldW 1 (.ptr (σ4.next + 3) 0) fun v73 =>
ldI (σ8.bump 49) v73 fun v74 =>
loopF [.v, tI] (F_lz_Expand_l3 σ4 k59 v74) v2 0 (σ8.bump 49)))))))) (F_lz_Expand_j2 next1 v3))) (
joinF [.v] (fun (k92 : AV → Mem → Prop) =>
fldW 0 (.ptr (σ4.next + 3) 0) fun v93 =>
ldI (σ8.bump 40) v93 fun v94 =>
ifB (decide (v94 ≠ 0)) (
Q (.tup [.str ⟨#[]⟩, .int .i64 1]) (σ8.bump 42)) (
fldW 1 (.ptr (σ4.next + 3) 0) fun v95 =>
ldI (σ8.bump 40) v95 fun v96 =>
ifB (decide (v96 < 3)) (
Q (.tup [.str ⟨#[]⟩, .int .i64 1]) (σ8.bump 42)) (
fldW 1 (.ptr (σ4.next + 3) 0) fun v97 =>
ldI (σ8.bump 40) v97 fun v98 =>
ifB (decide (258 < v98)) (
Q (.tup [.str ⟨#[]⟩, .int .i64 1]) (σ8.bump 42)) (
fldW 2 (.ptr (σ4.next + 3) 0) fun v99 =>
ldI (σ8.bump 40) v99 fun v100 =>
ifB (decide (v100 < 1)) (
Q (.tup [.str ⟨#[]⟩, .int .i64 1]) (σ8.bump 42)) (
fldW 2 (.ptr (σ4.next + 3) 0) fun v101 =>
ldI (σ8.bump 40) v101 fun v102 =>
ifB (decide (32768 < v102)) (
Q (.tup [.str ⟨#[]⟩, .int .i64 1]) (σ8.bump 42)) (
fldW 2 (.ptr (σ4.next + 3) 0) fun v103 =>
ldI (σ8.bump 46) v103 fun v104 =>
slenW v2 fun v105 =>
ifB (decide (v105 < v104)) (
Q (.tup [.str ⟨#[]⟩, .int .i64 15]) (σ8.bump 48)) (
fldW 1 (.ptr (σ4.next + 3) 0) fun v106 =>
ldI (σ8.bump 49) v106 fun v107 =>
loopF [.v, tI] (F_lz_Expand_l4 σ4 k92 v107) v2 0 (σ8.bump 49)))))))) (F_lz_Expand_j3 next1 v3))) (
bstrW (σ4.bump 5) v2 fun v122 =>
Q (.tup [.str v122, .int .i64 0]) (σ4.bump 5))
def F_lz_Expand (a0 : AV) (σ : Mem) (Q : AV → Mem → Prop) : Prop :=
slenW a0 fun v0 =>
loopF [.v, tI] (F_lz_Expand_l1 a0 Q v0) .nils 0 (σ.bump 6)
theorem ok_lz_Expand {a0 σ Q} (h : σ.Live → F_lz_Expand a0 σ Q) : ACalls PG n_lz_Expand [a0] σ Q :=
  .of_sem [none, none, none, none, some ([7, 8], [4, 9]), none, none, none, none, none, none, some ([7, 8, 9], [4]), none, none, none, none, none, none, none, none, none, some ([6, 7, 8, 9, 14], [4, 15]), none, none, none, none, none, none, none] [(9, tI), (32, tI), (37, tI), (42, tI), (47, tI), (53, tI), (57, tI), (62, tI), (67, tI), (72, tI), (77, tI), (14, tI), (15, tI), (22, tI), (25, tU)] mixed (by kernel_rfl) (by kernel_rfl) h
/-! vitrine/vitrineref04.Expand -/
def F_ref04_Expand_j1 (next0 : AV → Int → Mem → Prop) (v2 : Int) (v5 : AV) (σ6 : Mem) : Prop :=
iW (v2 + 1) fun v7 =>
next0 v5 v7 (σ6.bump 3)
def F_ref04_Expand_l2 (σ3 : Mem) (k8 : AV → Mem → Prop) (next28 : AV → Int → Mem → Prop) (v29 : AV) (v30 : Int) (σ31 : Mem) : Prop :=
fldW 1 (.ptr (σ3.next + 8) 0) fun v32 =>
ldI (σ31.bump 4) v32 fun v33 =>
ifB (decide (v30 < v33)) (
slenW v29 fun v34 =>
fldW 2 (.ptr (σ3.next + 8) 0) fun v35 =>
ldI (σ31.bump 16) v35 fun v36 =>
iW (v34 - v36) fun v37 =>
idxW 1 v29 v37 fun v38 =>
ldU (σ31.bump 16) v38 fun v39 =>
newW (σ31.bump 16) (σ31.next + 13) (.rw [.int .u8 v39]) fun σ40 =>
apW 1 1 (σ31.next + 14) σ40 v29 (.slice (σ31.next + 13) 0 1 (.ex 1)) fun v41 σ42 =>
iW (v30 + 1) fun v43 =>
next28 v41 v43 (σ42.bump 3)) (
k8 v29 (σ31.bump 4))
def F_ref04_Expand_l1 (a0 : AV) (Q : AV → Mem → Prop) (next0 : AV → Int → Mem → Prop) (v1 : AV) (v2 : Int) (σ3 : Mem) : Prop :=
slenW a0 fun v4 =>
ifB (decide (v2 < v4)) (
joinF [.v] (fun (k8 : AV → Mem → Prop) =>
idxW 3 a0 v2 fun v9 =>
ldnW 3 (σ3.bump 10) v9 fun v10 =>
newW (σ3.bump 10) (σ3.next + 8) (.rw [.int .i64 0, .int .i64 0, .int .i64 0]) fun σ11 =>
stW 3 σ11 (.ptr (σ3.next + 8) 0) v10 fun σ12 =>
ldnW 3 (σ12.bump 3) (.ptr (σ3.next + 8) 0) fun v13 =>
callW PG n_ref04_Right [v13] (σ12.bump 3) fun v14 σ15 =>
castB v14 fun v16 =>
ifB (!v16) (
Q (.tup [.str ⟨#[]⟩, .int .i64 1]) (σ15.bump 2)) (
fldW 1 (.ptr (σ3.next + 8) 0) fun v17 =>
ldI (σ15.bump 3) v17 fun v18 =>
ifB (decide (v18 = 0)) (
fldW 0 (.ptr (σ3.next + 8) 0) fun v19 =>
ldI (σ15.bump 10) v19 fun v20 =>
wrW .u8 v20 fun v21 =>
newW (σ15.bump 10) (σ15.next + 7) (.rw [.int .u8 v21]) fun σ22 =>
apW 1 1 (σ15.next + 8) σ22 v1 (.slice (σ15.next + 7) 0 1 (.ex 1)) fun v23 σ24 =>
k8 v23 σ24) (
fldW 2 (.ptr (σ3.next + 8) 0) fun v25 =>
ldI (σ15.bump 8) v25 fun v26 =>
slenW v1 fun v27 =>
ifB (decide (v27 < v26)) (
Q (.tup [.str ⟨#[]⟩, .int .i64 15]) (σ15.bump 10)) (
loopF [.v, tI] (F_ref04_Expand_l2 σ3 k8) v1 0 (σ15.bump 9))))) (F_ref04_Expand_j1 next0 v2)) (
bstrW (σ3.bump 8) v1 fun v44 =>
Q (.tup [.str v44, .int .i64 0]) (σ3.bump 8))
def F_ref04_Expand (a0 : AV) (σ : Mem) (Q : AV → Mem → Prop) : Prop :=
loopF [.v, tI] (F_ref04_Expand_l1 a0 Q) .nils 0 (σ.bump 4)
theorem ok_ref04_Expand {a0 σ Q} (h : σ.Live → F_ref04_Expand a0 σ Q) : ACalls PG n_ref04_Expand [a0] σ Q :=
  .of_sem [none, none, none, none, some ([0], [4, 5]), none, none, some ([0, 5], [4]), none, none, none, none, none, none, none, none, none, none, none, none, some ([0, 5, 6], [4, 7]), none, none, none, none, none, none, none] [(5, tI), (19, .b), (22, tI), (26, tI), (31, tI), (7, tI), (37, tI), (46, tI), (49, tU)] mixed (by kernel_rfl) (by kernel_rfl) h
/-! vitrine/vitrineref04.Right -/
def F_ref04_Right (a0 : AV) (σ : Mem) (Q : AV → Mem → Prop) : Prop :=
boxW a0 (
newW (σ.bump 2) σ.next (.rw a0.cells) fun σ0 =>
fldW 1 (.ptr σ.next 0) fun v1 =>
ldI (σ0.bump 3) v1 fun v2 =>
ifB (decide (v2 = 0)) (
fldW 2 (.ptr σ.next 0) fun v3 =>
ldI (σ0.bump 17) v3 fun v4 =>
ifB (decide (v4 = 0)) (
fldW 0 (.ptr σ.next 0) fun v5 =>
ldI (σ0.bump 17) v5 fun v6 =>
ifB (decide (0 ≤ v6)) (
fldW 0 (.ptr σ.next 0) fun v7 =>
ldI (σ0.bump 17) v7 fun v8 =>
Q (.bool (decide (v8 ≤ 255))) (σ0.bump 17)) (
Q (.bool false) (σ0.bump 17))) (
Q (.bool false) (σ0.bump 17))) (
fldW 0 (.ptr σ.next 0) fun v9 =>
ldI (σ0.bump 27) v9 fun v10 =>
ifB (decide (v10 = 0)) (
fldW 1 (.ptr σ.next 0) fun v11 =>
ldI (σ0.bump 27) v11 fun v12 =>
ifB (decide (3 ≤ v12)) (
fldW 1 (.ptr σ.next 0) fun v13 =>
ldI (σ0.bump 27) v13 fun v14 =>
ifB (decide (v14 ≤ 258)) (
fldW 2 (.ptr σ.next 0) fun v15 =>
ldI (σ0.bump 27) v15 fun v16 =>
ifB (decide (1 ≤ v16)) (
fldW 2 (.ptr σ.next 0) fun v17 =>
ldI (σ0.bump 27) v17 fun v18 =>
Q (.bool (decide (v18 ≤ 32768))) (σ0.bump 27)) (
Q (.bool false) (σ0.bump 27))) (
Q (.bool false) (σ0.bump 27))) (
Q (.bool false) (σ0.bump 27))) (
Q (.bool false) (σ0.bump 27))))
theorem ok_ref04_Right {a0 σ Q} (h : σ.Live → F_ref04_Right a0 σ Q) : ACalls PG n_ref04_Right [a0] σ Q :=
  .of_sem [none, none, none, none, none] [(4, tI), (7, tI), (11, tI), (16, tI), (20, tI), (24, tI), (29, tI), (34, tI), (39, tI)] mixed (by kernel_rfl) (by kernel_rfl) h
/-! vitrine/bits.Crc -/
def F_bits_Crc_l2 (next0 : Int → Int → Mem → Prop) (v2 : Int) (next7 : Int → Int → Mem → Prop) (v8 : Int) (v9 : Int) (σ10 : Mem) : Prop :=
ifB (decide (v9 < 8)) (
letW (v8 / 2) fun v11 =>
letW (bitsOp .and .i64 v8 1) fun v12 =>
iW (3988292384 * v12) fun v13 =>
letW (bitsOp .xor .i64 v11 v13) fun v14 =>
iW (v9 + 1) fun v15 =>
next7 v14 v15 (σ10.bump 10)) (
iW (v2 + 1) fun v16 =>
next0 v8 v16 (σ10.bump 3))
def F_bits_Crc_l1 (a0 : ByteArray) (Q : AV → Mem → Prop) (next0 : Int → Int → Mem → Prop) (v1 : Int) (v2 : Int) (σ3 : Mem) : Prop :=
ifB (decide (v2 < (a0.size : Int))) (
sidxW a0 v2 fun v4 =>
iW v4 fun v5 =>
letW (bitsOp .xor .i64 v1 v5) fun v6 =>
loopF [tI, tI] (F_bits_Crc_l2 next0 v2) v6 0 (σ3.bump 11)) (
letW (bitsOp .xor .i64 v1 4294967295) fun v17 =>
Q (.int .i64 v17) (σ3.bump 4))
def F_bits_Crc (a0 : ByteArray) (σ : Mem) (Q : AV → Mem → Prop) : Prop :=
loopF [tI, tI] (F_bits_Crc_l1 a0 Q) 4294967295 0 (σ.bump 5)
theorem ok_bits_Crc {a0 σ Q} (h : σ.Live → F_bits_Crc a0 σ Q) : ACalls PG n_bits_Crc [.str a0] σ Q :=
  .of_sem [none, none, none, none, some ([0, 6], [3, 7]), none, none, none, none, none, none, none, some ([0, 6, 7], [3, 16]), none, none, none, none, none, none, none] [(3, tI), (7, tI), (16, tI)] mixed (by kernel_rfl) (by kernel_rfl) h
/-! vitrine/vitrineref01.Crc -/
def F_ref01_Crc_j1 (next7 : Int → Int → Mem → Prop) (v9 : Int) (v13 : Int) (σ14 : Mem) : Prop :=
iW (v9 + 1) fun v15 =>
next7 v13 v15 (σ14.bump 3)
def F_ref01_Crc_l2 (next0 : Int → Int → Mem → Prop) (v2 : Int) (next7 : Int → Int → Mem → Prop) (v8 : Int) (v9 : Int) (σ10 : Mem) : Prop :=
ifB (decide (v9 < 8)) (
remW v8 2 fun v11 =>
quoW .i64 v8 2 fun v12 =>
joinF [tI] (fun (k16 : Int → Mem → Prop) =>
ifB (decide (v11 = 1)) (
letW (bitsOp .xor .i64 v12 3988292384) fun v17 =>
k16 v17 (σ10.bump 13)) (
k16 v12 (σ10.bump 10))) (F_ref01_Crc_j1 next7 v9)) (
iW (v2 + 1) fun v18 =>
next0 v8 v18 (σ10.bump 5))
def F_ref01_Crc_l1 (a0 : ByteArray) (Q : AV → Mem → Prop) (next0 : Int → Int → Mem → Prop) (v1 : Int) (v2 : Int) (σ3 : Mem) : Prop :=
ifB (decide (v2 < (a0.size : Int))) (
sidxW a0 v2 fun v4 =>
iW v4 fun v5 =>
letW (bitsOp .xor .i64 v1 v5) fun v6 =>
loopF [tI, tI] (F_ref01_Crc_l2 next0 v2) v6 0 (σ3.bump 12)) (
letW (bitsOp .xor .i64 v1 4294967295) fun v19 =>
Q (.int .i64 v19) (σ3.bump 7))
def F_ref01_Crc (a0 : ByteArray) (σ : Mem) (Q : AV → Mem → Prop) : Prop :=
loopF [tI, tI] (F_ref01_Crc_l1 a0 Q) 4294967295 0 (σ.bump 3)
theorem ok_ref01_Crc {a0 σ Q} (h : σ.Live → F_ref01_Crc a0 σ Q) : ACalls PG n_ref01_Crc [.str a0] σ Q :=
  .of_sem [none, none, none, none, some ([0], [3, 4]), none, none, none, none, none, none, some ([0, 4], [3, 5]), none, none, none, none, none, none, some ([0, 4, 5], [3]), none, none, none, none] [(3, tI), (4, tI), (5, tI)] mixed (by kernel_rfl) (by kernel_rfl) h
/-! vitrine/vitrinelaw01.awake -/
def F_law01_awake (σ : Mem) (Q : AV → Mem → Prop) : Prop :=
callW PG n_bits_Read [.str ⟨#[181, 1]⟩] (σ.bump 3) fun v0 σ1 =>
callW PG n_bits_New [] (σ1.bump 2) fun v2 σ3 =>
callW PG n_bits_Reader_Bits [v0, .int .i64 3] (σ3.bump 7) fun v4 σ5 =>
tpI v4 0 fun v6 =>
tpI v4 1 fun v7 =>
callW PG n_bits_Reader_Bits [v0, .int .i64 4] (σ5.bump 7) fun v8 σ9 =>
tpI v8 0 fun v10 =>
tpI v8 1 fun v11 =>
callW PG n_bits_Reader_Bits [v0, .int .i64 0] (σ9.bump 7) fun v12 σ13 =>
tpI v12 0 fun v14 =>
tpI v12 1 fun v15 =>
callW PG n_bits_Reader_Bytes [v0, .int .i64 1] (σ13.bump 7) fun v16 σ17 =>
tpS v16 0 fun v18 =>
tpI v16 1 fun v19 =>
callW PG n_bits_Writer_Bits [v2, .int .i64 5, .int .i64 3] (σ17.bump 2) fun v20 σ21 =>
callW PG n_bits_Writer_Bits [v2, .int .i64 6, .int .i64 4] (σ21.bump 2) fun v22 σ23 =>
callW PG n_bits_Writer_Bytes [v2, .str ⟨#[120]⟩] (σ23.bump 2) fun v24 σ25 =>
callW PG n_bits_Crc [.str ⟨#[49, 50, 51, 52, 53, 54, 55, 56, 57]⟩] (σ25.bump 44) fun v26 σ27 =>
castI .i64 v26 fun v28 =>
ifB (decide (v28 = 3421780262)) (
callW PG n_bits_Adler [.str ⟨#[87, 105, 107, 105, 112, 101, 100, 105, 97]⟩] σ27 fun v29 σ30 =>
castI .i64 v29 fun v31 =>
ifB (decide (v31 = 300286872)) (
ifB (decide (v6 = 5)) (
ifB (decide (v10 = 6)) (
ifB (decide (v14 = 0)) (
ifB (decide (v18 = ⟨#[1]⟩)) (
ifB (decide (v7 = 0)) (
ifB (decide (v11 = 0)) (
ifB (decide (v15 = 0)) (
ifB (decide (v19 = 0)) (
callW PG n_bits_Writer_Text [v2] σ30 fun v32 σ33 =>
castS v32 fun v34 =>
Q (.bool (decide (v34 = ⟨#[53, 120]⟩))) σ33) (
Q (.bool false) σ30)) (
Q (.bool false) σ30)) (
Q (.bool false) σ30)) (
Q (.bool false) σ30)) (
Q (.bool false) σ30)) (
Q (.bool false) σ30)) (
Q (.bool false) σ30)) (
Q (.bool false) σ30)) (
Q (.bool false) σ30)) (
Q (.bool false) σ27)
theorem ok_law01_awake {σ Q} (h : σ.Live → F_law01_awake σ Q) : ACalls PG n_law01_awake [] σ Q :=
  .of_sem [none, none, none, none, none, none, none, none, none, none, none] [(16, tI), (17, tI), (21, tI), (22, tI), (26, tI), (27, tI), (31, .s), (32, tI), (39, tI), (42, tI), (79, .s)] mixed (by kernel_rfl) (by kernel_rfl) h
/-! vitrine/bits.Adler -/
def F_bits_Adler_l1 (a0 : ByteArray) (Q : AV → Mem → Prop) (next0 : Int → Int → Int → Mem → Prop) (v1 : Int) (v2 : Int) (v3 : Int) (σ4 : Mem) : Prop :=
ifB (decide (v3 < (a0.size : Int))) (
sidxW a0 v3 fun v5 =>
iW v5 fun v6 =>
iW (v1 + v6) fun v7 =>
remW v7 65521 fun v8 =>
iW (v2 + v8) fun v9 =>
remW v9 65521 fun v10 =>
iW (v3 + 1) fun v11 =>
next0 v8 v10 v11 (σ4.bump 18)) (
iW (v2 * 65536) fun v12 =>
letW (bitsOp .or .i64 v12 v1) fun v13 =>
Q (.int .i64 v13) (σ4.bump 6))
def F_bits_Adler (a0 : ByteArray) (σ : Mem) (Q : AV → Mem → Prop) : Prop :=
loopF [tI, tI, tI] (F_bits_Adler_l1 a0 Q) 1 0 0 (σ.bump 6)
theorem ok_bits_Adler {a0 σ Q} (h : σ.Live → F_bits_Adler a0 σ Q) : ACalls PG n_bits_Adler [.str a0] σ Q :=
  .of_sem [none, none, none, none, some ([0, 7], [3, 4, 8]), none, none, none, none, none, none, none, none] [(3, tI), (4, tI), (8, tI)] mixed (by kernel_rfl) (by kernel_rfl) h
/-! vitrine/vitrineref01.Adler -/
def F_ref01_Adler_l1 (a0 : ByteArray) (Q : AV → Mem → Prop) (next0 : Int → Int → Int → Mem → Prop) (v1 : Int) (v2 : Int) (v3 : Int) (σ4 : Mem) : Prop :=
ifB (decide (v3 < (a0.size : Int))) (
sidxW a0 v3 fun v5 =>
iW v5 fun v6 =>
iW (v1 + v6) fun v7 =>
remW v7 65521 fun v8 =>
iW (v2 + v8) fun v9 =>
remW v9 65521 fun v10 =>
iW (v3 + 1) fun v11 =>
next0 v8 v10 v11 (σ4.bump 20)) (
iW (65536 * v2) fun v12 =>
iW (v12 + v1) fun v13 =>
Q (.int .i64 v13) (σ4.bump 9))
def F_ref01_Adler (a0 : ByteArray) (σ : Mem) (Q : AV → Mem → Prop) : Prop :=
loopF [tI, tI, tI] (F_ref01_Adler_l1 a0 Q) 1 0 0 (σ.bump 4)
theorem ok_ref01_Adler {a0 σ Q} (h : σ.Live → F_ref01_Adler a0 σ Q) : ACalls PG n_ref01_Adler [.str a0] σ Q :=
  .of_sem [none, none, none, none, none, some ([0], [3, 4, 5]), none, none, none, none, none, none, none] [(3, tI), (4, tI), (5, tI)] mixed (by kernel_rfl) (by kernel_rfl) h
/-! vitrine/bits.Read -/
def F_bits_Read (a0 : ByteArray) (σ : Mem) (Q : AV → Mem → Prop) : Prop :=
boxW (.agg [.str a0, .int .i64 0, .int .i64 0]) (
newW (σ.bump 5) (σ.next + 3) (.rw [.str a0, .int .i64 0, .int .i64 0]) fun σ0 =>
Q (.ptr (σ.next + 3) 0) σ0)
theorem ok_bits_Read {a0 σ Q} (h : σ.Live → F_bits_Read a0 σ Q) : ACalls PG n_bits_Read [.str a0] σ Q :=
  .of_sem [none, none] [] mixed (by kernel_rfl) (by kernel_rfl) h
/-! (*vitrine/bits.Reader).Bytes -/
def F_bits_Reader_Bytes (a0 : AV) (a1 : Int) (σ : Mem) (Q : AV → Mem → Prop) : Prop :=
eqW .ptr a0 .nilp fun v0 =>
ifB v0 (
Q (.tup [.str ⟨#[]⟩, .int .i64 2]) (σ.bump 7)) (
ifB (decide (a1 < 0)) (
Q (.tup [.str ⟨#[]⟩, .int .i64 1]) (σ.bump 10)) (
nfW 1 a0 fun v1 =>
stW 1 (σ.bump 16) v1 (.int .i64 0) fun σ2 =>
nfW 2 a0 fun v3 =>
stW 1 σ2 v3 (.int .i64 0) fun σ4 =>
lfS 0 (σ4.bump 7) a0 fun v5 =>
ifB (decide ((v5.size : Int) < a1)) (
Q (.tup [.str ⟨#[]⟩, .int .i64 3]) (σ4.bump 9)) (
lfS 0 (σ4.bump 14) a0 fun v6 =>
subW v6 0 a1 fun v7 =>
lfS 0 (σ4.bump 24) a0 fun v8 =>
subW v8 a1 v8.size fun v9 =>
nfW 0 a0 fun v10 =>
stW 1 (σ4.bump 24) v10 (.str v9) fun σ11 =>
Q (.tup [.str v7, .int .i64 0]) (σ11.bump 3))))
theorem ok_bits_Reader_Bytes {a0 a1 σ Q} (h : σ.Live → F_bits_Reader_Bytes a0 a1 σ Q) : ACalls PG n_bits_Reader_Bytes [a0, .int .i64 a1] σ Q :=
  .of_sem [none, none, none, none, none, none, none, none, none, none, none, none, none, none, none] [(23, .s), (29, .s), (36, .s)] mixed (by kernel_rfl) (by kernel_rfl) h
/-! (*vitrine/vitrineref01.Reader).Bytes -/
def F_ref01_Reader_Bytes (a0 : AV) (a1 : Int) (σ : Mem) (Q : AV → Mem → Prop) : Prop :=
ifB (decide (a1 < 0)) (
Q (.tup [.str ⟨#[]⟩, .int .i64 1]) (σ.bump 6)) (
lfI 1 (σ.bump 15) a0 fun v0 =>
iW (v0 + 7) fun v1 =>
quoW .i64 v1 8 fun v2 =>
iW (v2 * 8) fun v3 =>
nfW 1 a0 fun v4 =>
stW 1 (σ.bump 15) v4 (.int .i64 v3) fun σ5 =>
callW PG n_ref01_Reader_Left [a0] (σ5.bump 5) fun v6 σ7 =>
castI .i64 v6 fun v8 =>
quoW .i64 v8 8 fun v9 =>
ifB (decide (v9 < a1)) (
Q (.tup [.str ⟨#[]⟩, .int .i64 3]) (σ7.bump 2)) (
lfS 0 (σ7.bump 18) a0 fun v10 =>
lfI 1 (σ7.bump 18) a0 fun v11 =>
quoW .i64 v11 8 fun v12 =>
lfI 1 (σ7.bump 18) a0 fun v13 =>
quoW .i64 v13 8 fun v14 =>
iW (v14 + a1) fun v15 =>
subW v10 v12 v15 fun v16 =>
lfI 1 (σ7.bump 29) a0 fun v17 =>
iW (8 * a1) fun v18 =>
iW (v17 + v18) fun v19 =>
nfW 1 a0 fun v20 =>
stW 1 (σ7.bump 29) v20 (.int .i64 v19) fun σ21 =>
Q (.tup [.str v16, .int .i64 0]) (σ21.bump 3)))
theorem ok_ref01_Reader_Bytes {a0 a1 σ Q} (h : σ.Live → F_ref01_Reader_Bytes a0 a1 σ Q) : ACalls PG n_ref01_Reader_Bytes [a0, .int .i64 a1] σ Q :=
  .of_sem [none, none, none, none, none, none, none, none, none, none, none] [(13, tI), (21, tI), (27, .s), (31, tI), (36, tI), (45, tI)] mixed (by kernel_rfl) (by kernel_rfl) h
/-! (*vitrine/bits.Reader).Bits -/
def F_bits_Reader_Bits_l1 (a0 : AV) (a1 : Int) (Q : AV → Mem → Prop) (next4 : Mem → Prop) (σ5 : Mem) : Prop :=
lfI 2 (σ5.bump 6) a0 fun v6 =>
ifB (decide (v6 < a1)) (
lfI 1 (σ5.bump 25) a0 fun v7 =>
lfS 0 (σ5.bump 25) a0 fun v8 =>
sidxW v8 0 fun v9 =>
iW v9 fun v10 =>
lfI 2 (σ5.bump 25) a0 fun v11 =>
shlW .i64 v10 v11 fun v12 =>
letW (bitsOp .or .i64 v7 v12) fun v13 =>
nfW 1 a0 fun v14 =>
stW 1 (σ5.bump 25) v14 (.int .i64 v13) fun σ15 =>
lfI 2 (σ15.bump 8) a0 fun v16 =>
iW (v16 + 8) fun v17 =>
nfW 2 a0 fun v18 =>
stW 1 (σ15.bump 8) v18 (.int .i64 v17) fun σ19 =>
lfS 0 (σ19.bump 9) a0 fun v20 =>
subW v20 1 v20.size fun v21 =>
nfW 0 a0 fun v22 =>
stW 1 (σ19.bump 9) v22 (.str v21) fun σ23 =>
next4 σ23) (
lfI 1 (σ5.bump 15) a0 fun v24 =>
shlW .i64 1 a1 fun v25 =>
iW (v25 - 1) fun v26 =>
letW (bitsOp .and .i64 v24 v26) fun v27 =>
lfI 1 (σ5.bump 24) a0 fun v28 =>
shrW .i64 v28 a1 fun v29 =>
nfW 1 a0 fun v30 =>
stW 1 (σ5.bump 24) v30 (.int .i64 v29) fun σ31 =>
lfI 2 (σ31.bump 9) a0 fun v32 =>
iW (v32 - a1) fun v33 =>
nfW 2 a0 fun v34 =>
stW 1 (σ31.bump 9) v34 (.int .i64 v33) fun σ35 =>
Q (.tup [.int .i64 v27, .int .i64 0]) (σ35.bump 3))
def F_bits_Reader_Bits (a0 : AV) (a1 : Int) (σ : Mem) (Q : AV → Mem → Prop) : Prop :=
eqW .ptr a0 .nilp fun v0 =>
ifB v0 (
Q (.tup [.int .i64 0, .int .i64 2]) (σ.bump 7)) (
ifB (decide (a1 < 0)) (
Q (.tup [.int .i64 0, .int .i64 1]) (σ.bump 14)) (
ifB (decide (24 < a1)) (
Q (.tup [.int .i64 0, .int .i64 1]) (σ.bump 14)) (
callW PG n_bits_Reader_Left [a0] (σ.bump 17) fun v1 σ2 =>
castI .i64 v1 fun v3 =>
ifB (decide (v3 < a1)) (
Q (.tup [.int .i64 0, .int .i64 3]) (σ2.bump 2)) (
loopF [] (F_bits_Reader_Bits_l1 a0 a1 Q) σ2))))
theorem ok_bits_Reader_Bits {a0 a1 σ Q} (h : σ.Live → F_bits_Reader_Bits a0 a1 σ Q) : ACalls PG n_bits_Reader_Bits [a0, .int .i64 a1] σ Q :=
  .of_sem [none, none, none, none, none, none, none, none, none, none, none, none, some ([0, 1], []), none, none, none, none, none, none, none, none, none, none] [(20, tI), (25, tI), (31, tI), (35, .s), (41, tI), (49, tI), (57, .s), (64, tI), (72, tI), (80, tI)] mixed (by kernel_rfl) (by kernel_rfl) h
/-! (*vitrine/vitrineref01.Reader).Bits -/
def F_ref01_Reader_Bits_l1 (a0 : AV) (a1 : Int) (Q : AV → Mem → Prop) (next3 : Int → Int → Mem → Prop) (v4 : Int) (v5 : Int) (σ6 : Mem) : Prop :=
ifB (decide (v5 < a1)) (
lfS 0 (σ6.bump 30) a0 fun v7 =>
lfI 1 (σ6.bump 30) a0 fun v8 =>
iW (v8 + v5) fun v9 =>
quoW .i64 v9 8 fun v10 =>
sidxW v7 v10 fun v11 =>
lfI 1 (σ6.bump 30) a0 fun v12 =>
iW (v12 + v5) fun v13 =>
remW v13 8 fun v14 =>
shrW .u8 v11 v14 fun v15 =>
letW (bitsOp .and .u8 v15 1) fun v16 =>
iW v16 fun v17 =>
shlW .i64 v17 v5 fun v18 =>
letW (bitsOp .or .i64 v4 v18) fun v19 =>
iW (v5 + 1) fun v20 =>
next3 v19 v20 (σ6.bump 33)) (
lfI 1 (σ6.bump 13) a0 fun v21 =>
iW (v21 + a1) fun v22 =>
nfW 1 a0 fun v23 =>
stW 1 (σ6.bump 13) v23 (.int .i64 v22) fun σ24 =>
Q (.tup [.int .i64 v4, .int .i64 0]) (σ24.bump 3))
def F_ref01_Reader_Bits (a0 : AV) (a1 : Int) (σ : Mem) (Q : AV → Mem → Prop) : Prop :=
ifB (decide (a1 < 0)) (
Q (.tup [.int .i64 0, .int .i64 1]) (σ.bump 10)) (
ifB (decide (24 < a1)) (
Q (.tup [.int .i64 0, .int .i64 1]) (σ.bump 10)) (
callW PG n_ref01_Reader_Left [a0] (σ.bump 12) fun v0 σ1 =>
castI .i64 v0 fun v2 =>
ifB (decide (v2 < a1)) (
Q (.tup [.int .i64 0, .int .i64 3]) (σ1.bump 2)) (
loopF [tI, tI] (F_ref01_Reader_Bits_l1 a0 a1 Q) 0 0 (σ1.bump 2))))
theorem ok_ref01_Reader_Bits {a0 a1 σ Q} (h : σ.Live → F_ref01_Reader_Bits a0 a1 σ Q) : ACalls PG n_ref01_Reader_Bits [a0, .int .i64 a1] σ Q :=
  .of_sem [none, none, none, none, none, none, none, none, none, none, some ([0, 1], [6, 7]), none, none, none, none, none, none, none] [(16, tI), (6, tI), (7, tI), (27, .s), (31, tI), (39, tI), (53, tI)] mixed (by kernel_rfl) (by kernel_rfl) h
/-! (*vitrine/bits.Reader).Left -/
def F_bits_Reader_Left (a0 : AV) (σ : Mem) (Q : AV → Mem → Prop) : Prop :=
eqW .ptr a0 .nilp fun v0 =>
ifB v0 (
Q (.int .i64 0) (σ.bump 4)) (
lfS 0 (σ.bump 15) a0 fun v1 =>
iW (8 * (v1.size : Int)) fun v2 =>
lfI 2 (σ.bump 15) a0 fun v3 =>
iW (v2 + v3) fun v4 =>
Q (.int .i64 v4) (σ.bump 15))
theorem ok_bits_Reader_Left {a0 σ Q} (h : σ.Live → F_bits_Reader_Left a0 σ Q) : ACalls PG n_bits_Reader_Left [a0] σ Q :=
  .of_sem [none, none, none, none, none] [(8, .s), (14, tI)] mixed (by kernel_rfl) (by kernel_rfl) h
/-! (*vitrine/vitrineref01.Reader).Left -/
def F_ref01_Reader_Left (a0 : AV) (σ : Mem) (Q : AV → Mem → Prop) : Prop :=
lfS 0 (σ.bump 13) a0 fun v0 =>
iW (8 * (v0.size : Int)) fun v1 =>
lfI 1 (σ.bump 13) a0 fun v2 =>
iW (v1 - v2) fun v3 =>
Q (.int .i64 v3) (σ.bump 13)
theorem ok_ref01_Reader_Left {a0 σ Q} (h : σ.Live → F_ref01_Reader_Left a0 σ Q) : ACalls PG n_ref01_Reader_Left [a0] σ Q :=
  .of_sem [none, none] [(6, .s), (12, tI)] mixed (by kernel_rfl) (by kernel_rfl) h
/-! vitrine/bits.New -/
def F_bits_New (σ : Mem) (Q : AV → Mem → Prop) : Prop :=
boxW (.agg [.nils, .int .i64 0, .int .i64 0]) (
newW (σ.bump 4) (σ.next + 2) (.rw [.nils, .int .i64 0, .int .i64 0]) fun σ0 =>
Q (.ptr (σ.next + 2) 0) σ0)
theorem ok_bits_New {σ Q} (h : σ.Live → F_bits_New σ Q) : ACalls PG n_bits_New [] σ Q :=
  .of_sem [none, none] [] mixed (by kernel_rfl) (by kernel_rfl) h
/-! (*vitrine/bits.Writer).Bytes -/
def F_bits_Writer_Bytes (a0 : AV) (a1 : ByteArray) (σ : Mem) (Q : AV → Mem → Prop) : Prop :=
eqW .ptr a0 .nilp fun v0 =>
ifB v0 (
Q (.tup []) (σ.bump 2)) (
lfI 2 (σ.bump 10) a0 fun v1 =>
iW (8 - v1) fun v2 =>
remW v2 8 fun v3 =>
callW PG n_bits_Writer_Bits [a0, .int .i64 0, .int .i64 v3] (σ.bump 10) fun v4 σ5 =>
lfW 0 (σ5.bump 10) a0 fun v6 =>
apW 1 1 (σ5.next + 6) (σ5.bump 10) v6 (.str a1) fun v7 σ8 =>
nfW 0 a0 fun v9 =>
stW 1 σ8 v9 v7 fun σ10 =>
Q (.tup []) σ10)
theorem ok_bits_Writer_Bytes {a0 a1 σ Q} (h : σ.Live → F_bits_Writer_Bytes a0 a1 σ Q) : ACalls PG n_bits_Writer_Bytes [a0, .str a1] σ Q :=
  .of_sem [none, none, none, none] [(10, tI)] mixed (by kernel_rfl) (by kernel_rfl) h
/-! (vitrine/vitrinelaw01.Op).text -/
def F_law01_Op_text_l1 (Q : AV → Mem → Prop) (σ : Mem) (σ0 : Mem) (v4 : Int) (next6 : Int → Mem → Prop) (v7 : Int) (σ8 : Mem) : Prop :=
slenW (.slice (σ0.next + 4) 0 (Int.toNat v4) (.ex (Int.toNat v4))) fun v9 =>
ifB (decide (v7 < v9)) (
fldW 2 (.ptr σ.next 0) fun v10 =>
ldI (σ8.bump 13) v10 fun v11 =>
iW (v11 + v7) fun v12 =>
wrW .u8 v12 fun v13 =>
idxW 1 (.slice (σ0.next + 4) 0 (Int.toNat v4) (.ex (Int.toNat v4))) v7 fun v14 =>
stW 1 (σ8.bump 13) v14 (.int .u8 v13) fun σ15 =>
iW (v7 + 1) fun v16 =>
next6 v16 (σ15.bump 3)) (
bstrW (σ8.bump 7) (.slice (σ0.next + 4) 0 (Int.toNat v4) (.ex (Int.toNat v4))) fun v17 =>
Q (.str v17) (σ8.bump 7))
def F_law01_Op_text (a0 : AV) (σ : Mem) (Q : AV → Mem → Prop) : Prop :=
boxW a0 (
newW (σ.bump 2) σ.next (.rw a0.cells) fun σ0 =>
fldW 1 (.ptr σ.next 0) fun v1 =>
ldI (σ0.bump 6) v1 fun v2 =>
letW (imax v2 0) fun v3 =>
letW (imin v3 50) fun v4 =>
makeW 1 v4 v4 (
newW (σ0.bump 6) (σ0.next + 4) (.rw (repl (Int.toNat v4) [.int .u8 0])) fun σ5 =>
loopF [tI] (F_law01_Op_text_l1 Q σ σ0 v4) 0 (σ5.bump 1)))
theorem ok_law01_Op_text {a0 σ Q} (h : σ.Live → F_law01_Op_text a0 σ Q) : ACalls PG n_law01_Op_text [a0] σ Q :=
  .of_sem [none, none, none, none, some ([1, 3], [4]), none, none, none, none, none, none] [(6, tI), (4, tI), (19, tI)] mixed (by kernel_rfl) (by kernel_rfl) h
/-! (*vitrine/vitrineref01.Writer).Bytes -/
def F_ref01_Writer_Bytes (a0 : AV) (a1 : ByteArray) (σ : Mem) (Q : AV → Mem → Prop) : Prop :=
lfW 0 (σ.bump 10) a0 fun v0 =>
apW 1 1 (σ.next + 6) (σ.bump 10) v0 (.str a1) fun v1 σ2 =>
nfW 0 a0 fun v3 =>
stW 1 σ2 v3 v1 fun σ4 =>
lfW 0 (σ4.bump 10) a0 fun v5 =>
slenW v5 fun v6 =>
iW (8 * v6) fun v7 =>
nfW 1 a0 fun v8 =>
stW 1 (σ4.bump 10) v8 (.int .i64 v7) fun σ9 =>
Q (.tup []) σ9
theorem ok_ref01_Writer_Bytes {a0 a1 σ Q} (h : σ.Live → F_ref01_Writer_Bytes a0 a1 σ Q) : ACalls PG n_ref01_Writer_Bytes [a0, .str a1] σ Q :=
  .of_sem [none, none] [] mixed (by kernel_rfl) (by kernel_rfl) h
/-! (*vitrine/bits.Writer).Bits -/
def F_bits_Writer_Bits_l1 (a0 : AV) (Q : AV → Mem → Prop) (next14 : Mem → Prop) (σ15 : Mem) : Prop :=
lfI 2 (σ15.bump 5) a0 fun v16 =>
ifB (decide (8 ≤ v16)) (
lfW 0 (σ15.bump 20) a0 fun v17 =>
lfI 1 (σ15.bump 20) a0 fun v18 =>
wrW .u8 v18 fun v19 =>
newW (σ15.bump 20) (σ15.next + 15) (.rw [.int .u8 v19]) fun σ20 =>
apW 1 1 (σ15.next + 16) σ20 v17 (.slice (σ15.next + 15) 0 1 (.ex 1)) fun v21 σ22 =>
nfW 0 a0 fun v23 =>
stW 1 σ22 v23 v21 fun σ24 =>
lfI 1 (σ24.bump 8) a0 fun v25 =>
letW (v25 / 256) fun v26 =>
nfW 1 a0 fun v27 =>
stW 1 (σ24.bump 8) v27 (.int .i64 v26) fun σ28 =>
lfI 2 (σ28.bump 8) a0 fun v29 =>
iW (v29 - 8) fun v30 =>
nfW 2 a0 fun v31 =>
stW 1 (σ28.bump 8) v31 (.int .i64 v30) fun σ32 =>
next14 σ32) (
Q (.tup []) (σ15.bump 5))
def F_bits_Writer_Bits (a0 : AV) (a1 : Int) (a2 : Int) (σ : Mem) (Q : AV → Mem → Prop) : Prop :=
eqW .ptr a0 .nilp fun v0 =>
ifB v0 (
Q (.tup []) (σ.bump 10)) (
ifB (decide (a2 < 0)) (
Q (.tup []) (σ.bump 10)) (
ifB (decide (24 < a2)) (
Q (.tup []) (σ.bump 10)) (
lfI 1 (σ.bump 28) a0 fun v1 =>
shlW .i64 1 a2 fun v2 =>
iW (v2 - 1) fun v3 =>
letW (bitsOp .and .i64 a1 v3) fun v4 =>
lfI 2 (σ.bump 28) a0 fun v5 =>
shlW .i64 v4 v5 fun v6 =>
letW (bitsOp .or .i64 v1 v6) fun v7 =>
nfW 1 a0 fun v8 =>
stW 1 (σ.bump 28) v8 (.int .i64 v7) fun σ9 =>
lfI 2 (σ9.bump 9) a0 fun v10 =>
iW (v10 + a2) fun v11 =>
nfW 2 a0 fun v12 =>
stW 1 (σ9.bump 9) v12 (.int .i64 v11) fun σ13 =>
loopF [] (F_bits_Writer_Bits_l1 a0 Q) σ13)))
theorem ok_bits_Writer_Bits {a0 a1 a2 σ Q} (h : σ.Live → F_bits_Writer_Bits a0 a1 a2 σ Q) : ACalls PG n_bits_Writer_Bits [a0, .int .i64 a1, .int .i64 a2] σ Q :=
  .of_sem [none, none, none, none, none, some ([0], []), none, none, none, none, none, none] [(19, tI), (28, tI), (36, tI), (44, tI), (61, tI), (70, tI), (49, tI)] mixed (by kernel_rfl) (by kernel_rfl) h
/-! (*vitrine/vitrineref01.Writer).Bits -/
def F_ref01_Writer_Bits_j1 (a0 : AV) (a1 : Int) (next0 : Int → Mem → Prop) (v1 : Int) (σ5 : Mem) : Prop :=
lfW 0 (σ5.bump 34) a0 fun v6 =>
lfI 1 (σ5.bump 34) a0 fun v7 =>
quoW .i64 v7 8 fun v8 =>
lfW 0 (σ5.bump 34) a0 fun v9 =>
lfI 1 (σ5.bump 34) a0 fun v10 =>
quoW .i64 v10 8 fun v11 =>
idxW 1 v9 v11 fun v12 =>
ldU (σ5.bump 34) v12 fun v13 =>
shrW .i64 a1 v1 fun v14 =>
letW (bitsOp .and .i64 v14 1) fun v15 =>
wrW .u8 v15 fun v16 =>
lfI 1 (σ5.bump 34) a0 fun v17 =>
remW v17 8 fun v18 =>
shlW .u8 v16 v18 fun v19 =>
letW (bitsOp .or .u8 v13 v19) fun v20 =>
idxW 1 v6 v8 fun v21 =>
stW 1 (σ5.bump 34) v21 (.int .u8 v20) fun σ22 =>
lfI 1 (σ22.bump 9) a0 fun v23 =>
iW (v23 + 1) fun v24 =>
nfW 1 a0 fun v25 =>
stW 1 (σ22.bump 9) v25 (.int .i64 v24) fun σ26 =>
iW (v1 + 1) fun v27 =>
next0 v27 (σ26.bump 3)
def F_ref01_Writer_Bits_l1 (a0 : AV) (a1 : Int) (a2 : Int) (Q : AV → Mem → Prop) (next0 : Int → Mem → Prop) (v1 : Int) (σ2 : Mem) : Prop :=
ifB (decide (v1 < a2)) (
lfI 1 (σ2.bump 9) a0 fun v3 =>
remW v3 8 fun v4 =>
joinF [] (fun (k28 : Mem → Prop) =>
ifB (decide (v4 = 0)) (
lfW 0 (σ2.bump 19) a0 fun v29 =>
newW (σ2.bump 19) (σ2.next + 14) (.rw [.int .u8 0]) fun σ30 =>
apW 1 1 (σ2.next + 15) σ30 v29 (.slice (σ2.next + 14) 0 1 (.ex 1)) fun v31 σ32 =>
nfW 0 a0 fun v33 =>
stW 1 σ32 v33 v31 fun σ34 =>
k28 σ34) (
k28 (σ2.bump 9))) (F_ref01_Writer_Bits_j1 a0 a1 next0 v1)) (
Q (.tup []) (σ2.bump 3))
def F_ref01_Writer_Bits (a0 : AV) (a1 : Int) (a2 : Int) (σ : Mem) (Q : AV → Mem → Prop) : Prop :=
ifB (decide (a2 < 0)) (
Q (.tup []) (σ.bump 6)) (
ifB (decide (24 < a2)) (
Q (.tup []) (σ.bump 6)) (
loopF [tI] (F_ref01_Writer_Bits_l1 a0 a1 a2 Q) 0 (σ.bump 7)))
theorem ok_ref01_Writer_Bits {a0 a1 a2 σ Q} (h : σ.Live → F_ref01_Writer_Bits a0 a1 a2 σ Q) : ACalls PG n_ref01_Writer_Bits [a0, .int .i64 a1, .int .i64 a2] σ Q :=
  .of_sem [none, none, none, none, some ([0, 1, 2], [6]), none, none, none, none, some ([0, 1, 2, 6], []), none, none, none, none] [(6, tI), (21, tI), (40, tI), (49, tI), (52, tU), (61, tI), (70, tI)] mixed (by kernel_rfl) (by kernel_rfl) h
/-! (*vitrine/bits.Writer).Text -/
def F_bits_Writer_Text_j1 (Q : AV → Mem → Prop) (v4 : ByteArray) (σ5 : Mem) : Prop :=
Q (.str v4) (σ5.bump 2)
def F_bits_Writer_Text (a0 : AV) (σ : Mem) (Q : AV → Mem → Prop) : Prop :=
eqW .ptr a0 .nilp fun v0 =>
ifB v0 (
Q (.str ⟨#[]⟩) (σ.bump 4)) (
lfW 0 (σ.bump 9) a0 fun v1 =>
bstrW (σ.bump 9) v1 fun v2 =>
lfI 2 (σ.bump 14) a0 fun v3 =>
joinF [.s] (fun (k6 : ByteArray → Mem → Prop) =>
ifB (decide (0 < v3)) (
lfI 1 (σ.bump 24) a0 fun v7 =>
wrW .u8 v7 fun v8 =>
newW (σ.bump 24) (σ.next + 20) (.rw [.int .u8 v8]) fun σ9 =>
bstrW σ9 (.slice (σ.next + 20) 0 1 (.ex 1)) fun v10 =>
catW v2 v10 fun v11 =>
k6 v11 σ9) (
k6 v2 (σ.bump 14))) (F_bits_Writer_Text_j1 Q))
theorem ok_bits_Writer_Text {a0 σ Q} (h : σ.Live → F_bits_Writer_Text a0 σ Q) : ACalls PG n_bits_Writer_Text [a0] σ Q :=
  .of_sem [none, none, none, none, none, none, some ([], [3]), none, none] [(3, .s), (14, tI), (20, tI)] mixed (by kernel_rfl) (by kernel_rfl) h
/-! (*vitrine/vitrineref01.Writer).Text -/
def F_ref01_Writer_Text (a0 : AV) (σ : Mem) (Q : AV → Mem → Prop) : Prop :=
lfW 0 (σ.bump 7) a0 fun v0 =>
bstrW (σ.bump 7) v0 fun v1 =>
Q (.str v1) (σ.bump 7)
theorem ok_ref01_Writer_Text {a0 σ Q} (h : σ.Live → F_ref01_Writer_Text a0 σ Q) : ACalls PG n_ref01_Writer_Text [a0] σ Q :=
  .of_sem [none, none] [] mixed (by kernel_rfl) (by kernel_rfl) h
/-! vitrine/lz.Tokens$1 -/
def F_lz_Tokens_1_j1 (Q : AV → Mem → Prop) (σ0 : Mem) : Prop :=
Q (.tup []) σ0
def F_lz_Tokens_1_l1 (a0 : Int) (a1 : Int) (a2 : AV) (a3 : AV) (k1 : Mem → Prop) (next2 : Int → Mem → Prop) (v3 : Int) (σ4 : Mem) : Prop :=
iW (a0 + a1) fun v5 =>
ifB (decide (v3 < v5)) (
iW (v3 + 3) fun v6 =>
ldS (σ4.bump 12) a2 fun v7 =>
ifB (decide (v6 ≤ (v7.size : Int))) (
ldS (σ4.bump 18) a2 fun v8 =>
iW (v3 + 3) fun v9 =>
subW v8 v3 v9 fun v10 =>
ldW (σ4.bump 27) a3 fun v11 =>
ldW (σ4.bump 27) a3 fun v12 =>
lookW (σ4.bump 27) .nils false v12 (.str v10) fun v13 =>
newW (σ4.bump 27) (σ4.next + 24) (.rw [.int .i64 v3]) fun σ14 =>
apW 1 8 (σ4.next + 25) σ14 v13 (.slice (σ4.next + 24) 0 1 (.ex 1)) fun v15 σ16 =>
fltS.sameW σ14 σ16 a3 (
mupW σ16 v11 (.str v10) v15 fun σ17 =>
iW (v3 + 1) fun v18 =>
next2 v18 (σ17.bump 3))) (
k1 (σ4.bump 12))) (
k1 (σ4.bump 12))
def F_lz_Tokens_1 (a0 : Int) (a1 : Int) (a2 : AV) (a3 : AV) (σ : Mem) (Q : AV → Mem → Prop) : Prop :=
joinF [] (fun (k1 : Mem → Prop) =>
loopF [tI] (F_lz_Tokens_1_l1 a0 a1 a2 a3 k1) a0 (σ.bump 2)) (F_lz_Tokens_1_j1 Q)
theorem ok_lz_Tokens_1 {a0 a1 a2 a3 σ Q} (h : σ.Live → F_lz_Tokens_1 a0 a1 a2 a3 σ Q) : ACalls PG n_lz_Tokens_1 [.int .i64 a0, .int .i64 a1, a2, a3] σ Q :=
  .of_sem [none, some ([], []), some ([0, 1, 2, 3], [6]), none, none, none, none, none, none] [(6, tI), (17, .s), (23, .s)] mixed (by kernel_rfl) (by kernel_rfl) h
end Go.Vit
