/- The functions, as printed conditions. -/
import Derived.Test.YtloeboiajgfigaaVm2
import Derived.Test.YtloeboiajgfigaaChecked
import Derived.KernelRfl
set_option linter.unusedVariables false
set_option linter.unusedSimpArgs false
set_option linter.unusedVariables false
set_option maxRecDepth 100000
namespace Go.Vit
open Go.Proofs
noncomputable abbrev PG:Program:=Try.prog
theorem mixed:PG.follows .mixedOrders=true:=by kernel_rfl
abbrev n_law06_ZlibTold:Nat:=4
abbrev n_law06_awake:Nat:=6
abbrev n_zlib_Wrap:Nat:=7
abbrev n_zlib_Unwrap:Nat:=8
abbrev n_deflate_Deflate:Nat:=9
abbrev n_zlib_sum:Nat:=10
abbrev n_zlib_right:Nat:=11
abbrev n_inflate_Inflate:Nat:=12
abbrev n_deflate_Stored:Nat:=13
abbrev n_deflate_Fixed:Nat:=14
abbrev n_deflate_Dynamic:Nat:=15
abbrev n_bits_Adler:Nat:=16
abbrev n_bits_Read:Nat:=17
abbrev n_inflate_stream_several:Nat:=18
abbrev n_inflate_stream_stored:Nat:=19
abbrev n_inflate_fixed:Nat:=20
abbrev n_inflate_stream_dynamic:Nat:=21
abbrev n_huff_Make:Nat:=22
abbrev n_huff_Table_Next:Nat:=23
abbrev n_inflate_stream_room:Nat:=24
abbrev n_inflate_stream_match:Nat:=25
abbrev n_bits_Reader_Left:Nat:=26
abbrev n_bits_New:Nat:=27
abbrev n_bits_Writer_Bits:Nat:=28
abbrev n_bits_Writer_Bytes:Nat:=29
abbrev n_bits_Writer_Text:Nat:=30
abbrev n_slices_Concat___int_int_:Nat:=31
abbrev n_slices_Repeat___int_int_:Nat:=32
abbrev n_deflate_symbols:Nat:=33
abbrev n_lz_Tokens:Nat:=34
abbrev n_deflate_lengths:Nat:=35
abbrev n_deflate_Runs:Nat:=36
abbrev n_huff_Limit:Nat:=37
abbrev n_deflate_told:Nat:=38
abbrev n_huff_Table_Lay:Nat:=39
abbrev n_bits_Reader_Bits:Nat:=40
abbrev n_inflate_stream_pair:Nat:=41
abbrev n_bits_Reader_Bytes:Nat:=42
abbrev n_inflate_stream_small:Nat:=43
abbrev n_inflate_stream_run:Nat:=44
abbrev n_huff_Codes:Nat:=45
abbrev n_slices_Clone___int_int_:Nat:=46
abbrev n_huff_counted:Nat:=47
abbrev n_slices_SortStableFunc___int_int_:Nat:=48
abbrev n_huff_Make_1:Nat:=49
abbrev n_cmp_Compare_int_:Nat:=50
abbrev n_inflate_stream_length:Nat:=51
abbrev n_inflate_stream_distance:Nat:=52
abbrev n_slices_Grow___int_int_:Nat:=53
abbrev n_math_bits_Mul:Nat:=54
abbrev n_deflate_symbols_1:Nat:=55
abbrev n_deflate_length:Nat:=56
abbrev n_deflate_distance:Nat:=57
abbrev n_lz_Tokens_1:Nat:=58
abbrev n_slices_ContainsFunc___int_int_:Nat:=59
abbrev n_huff_Limit_1:Nat:=60
abbrev n_slices_SortStableFunc___huff_item_huff_item_:Nat:=61
abbrev n_huff_byCount:Nat:=62
abbrev n_slices_Clone___huff_item_huff_item_:Nat:=63
abbrev n_slices_Chunk___huff_item_huff_item_:Nat:=64
abbrev n_huff_spend:Nat:=65
abbrev n_huff_Check:Nat:=66
abbrev n_huff_first:Nat:=67
abbrev n_slices_stableCmpFunc_int_:Nat:=68
abbrev n_cmp_isNaN_int_:Nat:=69
abbrev n_math_bits_Mul64:Nat:=71
abbrev n_slices_IndexFunc___int_int_:Nat:=72
abbrev n_slices_stableCmpFunc_huff_item_:Nat:=73
abbrev n_slices_Chunk___huff_item_huff_item__1:Nat:=74
abbrev n_huff_Check_1:Nat:=75
abbrev n_slices_insertionSortCmpFunc_int_:Nat:=76
abbrev n_slices_symMergeCmpFunc_int_:Nat:=77
abbrev n_slices_insertionSortCmpFunc_huff_item_:Nat:=78
abbrev n_slices_symMergeCmpFunc_huff_item_:Nat:=79
abbrev n_slices_rotateCmpFunc_int_:Nat:=80
abbrev n_slices_rotateCmpFunc_huff_item_:Nat:=81
abbrev n_slices_swapRangeCmpFunc_int_:Nat:=82
abbrev n_slices_swapRangeCmpFunc_huff_item_:Nat:=83
/-! vitrine/vitrinelaw06.ZlibBack -/
/-! vitrine/vitrinelaw06.ZlibTold -/
def F_law06_ZlibTold (a0:ByteArray) (a1:Int) (a2:Int) (σ:Mem) (Q:AV->Mem->Prop):Prop:=
ifB (decide (10000<(a0.size:Int))) (
callW PG n_law06_awake [] (σ.bump 10) fun v0 σ1=>
castB v0 fun v2=>
Q (.bool v2) σ1) (
ifB (decide (a2=0)) (
callW PG n_law06_awake [] (σ.bump 10) fun v3 σ4=>
castB v3 fun v5=>
Q (.bool v5) σ4) (
callW PG n_zlib_Wrap [.str a0] (σ.bump 12) fun v6 σ7=>
castS v6 fun v8=>
sbytesW v8 (
newW σ7 (σ.next+10) (.rw (bytesOf v8)) fun σ9=>
slenW (.slice (σ.next+10) 0 v8.size (.op 1)) fun v10=>
ifB (decide (v10<8)) (
Q (.bool false) (σ9.bump 4)) (
slenW (.slice (σ.next+10) 0 v8.size (.op 1)) fun v11=>
iW (v11-1) fun v12=>
remW a1 4 fun v13=>
iW (v13+4) fun v14=>
remW v14 4 fun v15=>
iW (v12-v15) fun v16=>
idxW 1 (.slice (σ.next+10) 0 v8.size (.op 1)) v16 fun v17=>
ldU (σ9.bump 22) v17 fun v18=>
letW (bitsOp .xor .u8 v18 a2) fun v19=>
idxW 1 (.slice (σ.next+10) 0 v8.size (.op 1)) v16 fun v20=>
stW 1 (σ9.bump 22) v20 (.int .u8 v19) fun σ21=>
bstrW (σ21.bump 10) (.slice (σ.next+10) 0 v8.size (.op 1)) fun v22=>
callW PG n_zlib_Unwrap [.str v22,.int .i64 (a0.size:Int)] (σ21.bump 10) fun v23 σ24=>
tpS v23 0 fun v25=>
tpI v23 1 fun v26=>
ifB (decide (v26=17)) (
callW PG n_law06_awake [] (σ24.bump 6) fun v27 σ28=>
castB v27 fun v29=>
Q (.bool v29) σ28) (
Q (.bool false) (σ24.bump 6))))))
theorem ok_law06_ZlibTold {a0 a1 a2 σ Q} (h:σ.Live->F_law06_ZlibTold a0 a1 a2 σ Q):ACalls PG n_law06_ZlibTold [.str a0,.int .i64 a1,.int .u8 a2] σ Q:=
 .of_sem [none,none,none,none,none,none,none,none,none,none,none,none] [(18,.b),(20,.s),(38,tU),(48,.s),(49,tI),(53,.b)] mixed (by kernel_rfl) (by kernel_rfl) h
/-! vitrine/vitrinelaw06.ZlibHeads -/
/-! vitrine/vitrinelaw06.awake -/
def F_law06_awake (σ:Mem) (Q:AV->Mem->Prop):Prop:=
callW PG n_zlib_Unwrap [.str ⟨#[120,1]⟩,.int .i64 9] (σ.bump 7) fun v0 σ1=>
tpS v0 0 fun v2=>
tpI v0 1 fun v3=>
callW PG n_zlib_Unwrap [.str ⟨#[120,2]⟩,.int .i64 9] (σ1.bump 6) fun v4 σ5=>
tpS v4 0 fun v6=>
tpI v4 1 fun v7=>
callW PG n_zlib_Unwrap [.str ⟨#[120,1,3,0,0,0,0,2]⟩,.int .i64 9] (σ5.bump 6) fun v8 σ9=>
tpS v8 0 fun v10=>
tpI v8 1 fun v11=>
callW PG n_zlib_Wrap [.str ⟨#[]⟩] (σ9.bump 15) fun v12 σ13=>
castS v12 fun v14=>
ifB (decide (v14=⟨#[120,1,3,0,0,0,0,1]⟩)) (
ifB (decide (v3=3)) (
ifB (decide (v7=16)) (
Q (.bool (decide (v11=17))) σ13) (
Q (.bool false) σ13)) (
Q (.bool false) σ13)) (
Q (.bool false) σ13)
theorem ok_law06_awake {σ Q} (h:σ.Live->F_law06_awake σ Q):ACalls PG n_law06_awake [] σ Q:=
 .of_sem [none,none,none,none,none] [(9,.s),(10,tI),(13,.s),(14,tI),(17,.s),(18,tI),(19,.s)] mixed (by kernel_rfl) (by kernel_rfl) h
/-! vitrine/zlib.Wrap -/
def F_zlib_Wrap (a0:ByteArray) (σ:Mem) (Q:AV->Mem->Prop):Prop:=
callW PG n_deflate_Deflate [.str a0] (σ.bump 8) fun v0 σ1=>
castS v0 fun v2=>
catW ⟨#[120,1]⟩ v2 fun v3=>
callW PG n_zlib_sum [.str a0] σ1 fun v4 σ5=>
castS v4 fun v6=>
catW v3 v6 fun v7=>
Q (.str v7) σ5
theorem ok_zlib_Wrap {a0 σ Q} (h:σ.Live->F_zlib_Wrap a0 σ Q):ACalls PG n_zlib_Wrap [.str a0] σ Q:=
 .of_sem [none,none] [(4,.s),(7,.s)] mixed (by kernel_rfl) (by kernel_rfl) h
/-! vitrine/zlib.Unwrap -/
def F_zlib_Unwrap (a0:ByteArray) (a1:Int) (σ:Mem) (Q:AV->Mem->Prop):Prop:=
ifB (decide ((a0.size:Int)<2)) (
Q (.tup [.str ⟨#[]⟩,.int .i64 3]) (σ.bump 8)) (
sidxW a0 0 fun v0=>
iW v0 fun v1=>
sidxW a0 1 fun v2=>
iW v2 fun v3=>
callW PG n_zlib_right [.int .i64 v1,.int .i64 v3] (σ.bump 15) fun v4 σ5=>
castB v4 fun v6=>
ifB (!v6) (
Q (.tup [.str ⟨#[]⟩,.int .i64 16]) (σ5.bump 2)) (
subW a0 2 a0.size fun v7=>
callW PG n_inflate_Inflate [.str v7,.int .i64 a1] (σ5.bump 11) fun v8 σ9=>
tpS v8 0 fun v10=>
tpI v8 1 fun v11=>
tpI v8 2 fun v12=>
ifB (decide (v12≠0)) (
Q (.tup [.str ⟨#[]⟩,.int .i64 v12]) (σ9.bump 5)) (
iW (2+v11) fun v13=>
subW a0 v13 a0.size fun v14=>
ifB (decide ((v14.size:Int)<4)) (
Q (.tup [.str ⟨#[]⟩,.int .i64 3]) (σ9.bump 13)) (
subW v14 0 4 fun v15=>
callW PG n_zlib_sum [.str v10] (σ9.bump 17) fun v16 σ17=>
castS v16 fun v18=>
ifB (decide (v15≠v18)) (
Q (.tup [.str ⟨#[]⟩,.int .i64 17]) (σ17.bump 2)) (
ifB (decide (4<(v14.size:Int))) (
Q (.tup [.str ⟨#[]⟩,.int .i64 4]) (σ17.bump 6)) (
Q (.tup [.str v10,.int .i64 0]) (σ17.bump 7)))))))
theorem ok_zlib_Unwrap {a0 a1 σ Q} (h:σ.Live->F_zlib_Unwrap a0 a1 σ Q):ACalls PG n_zlib_Unwrap [.str a0,.int .i64 a1] σ Q:=
 .of_sem [none,none,none,none,none,none,none,none,none,none,none,none,none,none,none,none,none,none,none,none,none,none,none,none] [(21,.b),(28,.s),(29,tI),(30,tI),(46,.s)] mixed (by kernel_rfl) (by kernel_rfl) h
/-! vitrine/zlib.sum -/
def F_zlib_sum (a0:ByteArray) (σ:Mem) (Q:AV->Mem->Prop):Prop:=
callW PG n_bits_Adler [.str a0] (σ.bump 4) fun v0 σ1=>
castI .i64 v0 fun v2=>
letW (v2 / 16777216) fun v3=>
wrW .u8 v3 fun v4=>
letW (v2 / 65536) fun v5=>
wrW .u8 v5 fun v6=>
letW (v2 / 256) fun v7=>
wrW .u8 v7 fun v8=>
wrW .u8 v2 fun v9=>
newW (σ1.bump 14) (σ1.next+11) (.rw [.int .u8 v4,.int .u8 v6,.int .u8 v8,.int .u8 v9]) fun σ10=>
bstrW σ10 (.slice (σ1.next+11) 0 4 (.ex 4)) fun v11=>
Q (.str v11) σ10
theorem ok_zlib_sum {a0 σ Q} (h:σ.Live->F_zlib_sum a0 σ Q):ACalls PG n_zlib_sum [.str a0] σ Q:=
 .of_sem [none,none,none] [(5,tI)] mixed (by kernel_rfl) (by kernel_rfl) h
/-! vitrine/zlib.right -/
def F_zlib_right (a0:Int) (a1:Int) (σ:Mem) (Q:AV->Mem->Prop):Prop:=
letW (bitsOp .and .i64 a0 15) fun v0=>
ifB (decide (v0=8)) (
letW (a0 / 16) fun v1=>
ifB (decide (v1<=7)) (
iW (a0*256) fun v2=>
letW (bitsOp .or .i64 v2 a1) fun v3=>
remW v3 31 fun v4=>
ifB (decide (v4=0)) (
letW (bitsOp .and .i64 a1 32) fun v5=>
Q (.bool (decide (v5=0))) (σ.bump 23)) (
Q (.bool false) (σ.bump 23))) (
Q (.bool false) (σ.bump 23))) (
Q (.bool false) (σ.bump 23))
theorem ok_zlib_right {a0 a1 σ Q} (h:σ.Live->F_zlib_right a0 a1 σ Q):ACalls PG n_zlib_right [.int .i64 a0,.int .i64 a1] σ Q:=
 .of_sem [none,none] [] mixed (by kernel_rfl) (by kernel_rfl) h
/-! vitrine/bits.Adler -/
def F_bits_Adler_l1 (a0:ByteArray) (Q:AV->Mem->Prop) (next0:Int->Int->Int->Mem->Prop) (v1:Int) (v2:Int) (v3:Int) (σ4:Mem):Prop:=
ifB (decide (v3<(a0.size:Int))) (
sidxW a0 v3 fun v5=>
iW v5 fun v6=>
iW (v1+v6) fun v7=>
remW v7 65521 fun v8=>
iW (v2+v8) fun v9=>
remW v9 65521 fun v10=>
iW (v3+1) fun v11=>
next0 v8 v10 v11 (σ4.bump 18)) (
iW (v2*65536) fun v12=>
letW (bitsOp .or .i64 v12 v1) fun v13=>
Q (.int .i64 v13) (σ4.bump 6))
def F_bits_Adler (a0:ByteArray) (σ:Mem) (Q:AV->Mem->Prop):Prop:=
loopF [tI,tI,tI] (F_bits_Adler_l1 a0 Q) 1 0 0 (σ.bump 6)
theorem ok_bits_Adler {a0 σ Q} (h:σ.Live->F_bits_Adler a0 σ Q):ACalls PG n_bits_Adler [.str a0] σ Q:=
 .of_sem [none,none,none,none,some ([0,7],[3,4,8]),none,none,none,none,none,none,none,none] [(3,tI),(4,tI),(8,tI)] mixed (by kernel_rfl) (by kernel_rfl) h
/-! vitrine/deflate.Runs -/
def F_deflate_Runs_j3 (next0:AV->Int->Mem->Prop) (v1:AV) (v2:Int) (σ8:Mem) (v15:Int) (σ16:Mem):Prop:=
ldnW 2 (σ16.bump 5) (.ptr (σ8.next+5) 0) fun v17=>
cellOkW v17 2 (
newW (σ16.bump 5) (σ16.next+2) (.rw (setAt [.int .i64 0,.int .i64 0] 0 v17.cells)) fun σ18=>
apW 2 16 (σ16.next+3) σ18 v1 (.slice (σ16.next+2) 0 1 (.ex 1)) fun v19 σ20=>
iW (v2+v15) fun v21=>
next0 v19 v21 (σ20.bump 4))
def F_deflate_Runs_j4 (k22:Int->Mem->Prop) (v28:Int) (σ29:Mem):Prop:=
k22 v28 σ29
def F_deflate_Runs_j5 (k30:Int->Mem->Prop) (v35:Int) (σ36:Mem):Prop:=
k30 v35 σ36
def F_deflate_Runs_j6 (k30:Int->Mem->Prop) (v41:Int) (σ42:Mem):Prop:=
k30 v41 σ42
def F_deflate_Runs_j7 (k30:Int->Mem->Prop) (v44:Int) (σ45:Mem):Prop:=
k30 v44 σ45
def F_deflate_Runs_j8 (k22:Int->Mem->Prop) (v47:Int) (σ48:Mem):Prop:=
k22 v47 σ48
def F_deflate_Runs_j9 (k49:Int->Mem->Prop) (v52:Int) (σ53:Mem):Prop:=
k49 v52 σ53
def F_deflate_Runs_j10 (k49:Int->Mem->Prop) (v58:Int) (σ59:Mem):Prop:=
k49 v58 σ59
def F_deflate_Runs_j11 (k49:Int->Mem->Prop) (v61:Int) (σ62:Mem):Prop:=
k49 v61 σ62
def F_deflate_Runs_j12 (next0:AV->Int->Mem->Prop) (v1:AV) (v2:Int) (σ8:Mem) (v64:Int) (σ65:Mem):Prop:=
ldnW 2 (σ65.bump 5) (.ptr (σ8.next+5) 0) fun v66=>
cellOkW v66 2 (
newW (σ65.bump 5) (σ65.next+2) (.rw (setAt [.int .i64 0,.int .i64 0] 0 v66.cells)) fun σ67=>
apW 2 16 (σ65.next+3) σ67 v1 (.slice (σ65.next+2) 0 1 (.ex 1)) fun v68 σ69=>
iW (v2+v64) fun v70=>
next0 v68 v70 (σ69.bump 4))
def F_deflate_Runs_j13 (k71:Int->Mem->Prop) (v74:Int) (σ75:Mem):Prop:=
k71 v74 σ75
def F_deflate_Runs_j14 (k76:Int->Mem->Prop) (v81:Int) (σ82:Mem):Prop:=
k76 v81 σ82
def F_deflate_Runs_j15 (k76:Int->Mem->Prop) (v87:Int) (σ88:Mem):Prop:=
k76 v87 σ88
def F_deflate_Runs_j16 (k76:Int->Mem->Prop) (v90:Int) (σ91:Mem):Prop:=
k76 v90 σ91
def F_deflate_Runs_j17 (k71:Int->Mem->Prop) (v93:Int) (σ94:Mem):Prop:=
k71 v93 σ94
def F_deflate_Runs_j18 (k95:Int->Mem->Prop) (v98:Int) (σ99:Mem):Prop:=
k95 v98 σ99
def F_deflate_Runs_j19 (k95:Int->Mem->Prop) (v104:Int) (σ105:Mem):Prop:=
k95 v104 σ105
def F_deflate_Runs_j20 (k95:Int->Mem->Prop) (v107:Int) (σ108:Mem):Prop:=
k95 v107 σ108
def F_deflate_Runs_j2 (a0:AV) (next0:AV->Int->Mem->Prop) (v1:AV) (v2:Int) (v5:Int) (v7:Bool) (σ8:Mem):Prop:=
idxW 1 a0 v2 fun v9=>
ldI (σ8.bump 7) v9 fun v10=>
newW (σ8.bump 7) (σ8.next+5) (.rw [.int .i64 0,.int .i64 0]) fun σ11=>
stW 2 σ11 (.ptr (σ8.next+5) 0) (.agg [.int .i64 v10,.int .i64 0]) fun σ12=>
idxW 1 a0 v2 fun v13=>
ldI (σ12.bump 10) v13 fun v14=>
ifB (decide (v14=0)) (
joinF [tI] (fun (k22:Int->Mem->Prop)=>
ifB (decide (10<v5)) (
letW (imin v5 138) fun v23=>
iW (v23-11) fun v24=>
stW 2 (σ12.bump 17) (.ptr (σ8.next+5) 0) (.agg [.int .i64 18,.int .i64 v24]) fun σ25=>
k22 v23 σ25) (
idxW 1 a0 v2 fun v26=>
ldI (σ12.bump 20) v26 fun v27=>
ifB (decide (v27=0)) (
joinF [tI] (fun (k30:Int->Mem->Prop)=>
ifB (decide (2<v5)) (
iW (v5-3) fun v31=>
stW 2 (σ12.bump 24) (.ptr (σ8.next+5) 0) (.agg [.int .i64 17,.int .i64 v31]) fun σ32=>
k30 v5 σ32) (
idxW 1 a0 v2 fun v33=>
ldI (σ12.bump 33) v33 fun v34=>
ifB (decide (v34≠0)) (
ifB v7 (
joinF [tI] (fun (k37:Int->Mem->Prop)=>
ifB (decide (2<v5)) (
letW (imin v5 6) fun v38=>
iW (v38-3) fun v39=>
stW 2 (σ12.bump 40) (.ptr (σ8.next+5) 0) (.agg [.int .i64 16,.int .i64 v39]) fun σ40=>
k37 v38 σ40) (
k37 1 (σ12.bump 34))) (F_deflate_Runs_j5 k30)) (
joinF [tI] (fun (k43:Int->Mem->Prop)=>
k43 1 (σ12.bump 34)) (F_deflate_Runs_j6 k30))) (
joinF [tI] (fun (k46:Int->Mem->Prop)=>
k46 1 (σ12.bump 34)) (F_deflate_Runs_j7 k30)))) (F_deflate_Runs_j4 k22)) (
joinF [tI] (fun (k49:Int->Mem->Prop)=>
idxW 1 a0 v2 fun v50=>
ldI (σ12.bump 33) v50 fun v51=>
ifB (decide (v51≠0)) (
ifB v7 (
joinF [tI] (fun (k54:Int->Mem->Prop)=>
ifB (decide (2<v5)) (
letW (imin v5 6) fun v55=>
iW (v55-3) fun v56=>
stW 2 (σ12.bump 40) (.ptr (σ8.next+5) 0) (.agg [.int .i64 16,.int .i64 v56]) fun σ57=>
k54 v55 σ57) (
k54 1 (σ12.bump 34))) (F_deflate_Runs_j9 k49)) (
joinF [tI] (fun (k60:Int->Mem->Prop)=>
k60 1 (σ12.bump 34)) (F_deflate_Runs_j10 k49))) (
joinF [tI] (fun (k63:Int->Mem->Prop)=>
k63 1 (σ12.bump 34)) (F_deflate_Runs_j11 k49))) (F_deflate_Runs_j8 k22)))) (F_deflate_Runs_j3 next0 v1 v2 σ8)) (
joinF [tI] (fun (k71:Int->Mem->Prop)=>
idxW 1 a0 v2 fun v72=>
ldI (σ12.bump 20) v72 fun v73=>
ifB (decide (v73=0)) (
joinF [tI] (fun (k76:Int->Mem->Prop)=>
ifB (decide (2<v5)) (
iW (v5-3) fun v77=>
stW 2 (σ12.bump 24) (.ptr (σ8.next+5) 0) (.agg [.int .i64 17,.int .i64 v77]) fun σ78=>
k76 v5 σ78) (
idxW 1 a0 v2 fun v79=>
ldI (σ12.bump 33) v79 fun v80=>
ifB (decide (v80≠0)) (
ifB v7 (
joinF [tI] (fun (k83:Int->Mem->Prop)=>
ifB (decide (2<v5)) (
letW (imin v5 6) fun v84=>
iW (v84-3) fun v85=>
stW 2 (σ12.bump 40) (.ptr (σ8.next+5) 0) (.agg [.int .i64 16,.int .i64 v85]) fun σ86=>
k83 v84 σ86) (
k83 1 (σ12.bump 34))) (F_deflate_Runs_j14 k76)) (
joinF [tI] (fun (k89:Int->Mem->Prop)=>
k89 1 (σ12.bump 34)) (F_deflate_Runs_j15 k76))) (
joinF [tI] (fun (k92:Int->Mem->Prop)=>
k92 1 (σ12.bump 34)) (F_deflate_Runs_j16 k76)))) (F_deflate_Runs_j13 k71)) (
joinF [tI] (fun (k95:Int->Mem->Prop)=>
idxW 1 a0 v2 fun v96=>
ldI (σ12.bump 33) v96 fun v97=>
ifB (decide (v97≠0)) (
ifB v7 (
joinF [tI] (fun (k100:Int->Mem->Prop)=>
ifB (decide (2<v5)) (
letW (imin v5 6) fun v101=>
iW (v101-3) fun v102=>
stW 2 (σ12.bump 40) (.ptr (σ8.next+5) 0) (.agg [.int .i64 16,.int .i64 v102]) fun σ103=>
k100 v101 σ103) (
k100 1 (σ12.bump 34))) (F_deflate_Runs_j18 k95)) (
joinF [tI] (fun (k106:Int->Mem->Prop)=>
k106 1 (σ12.bump 34)) (F_deflate_Runs_j19 k95))) (
joinF [tI] (fun (k109:Int->Mem->Prop)=>
k109 1 (σ12.bump 34)) (F_deflate_Runs_j20 k95))) (F_deflate_Runs_j17 k71))) (F_deflate_Runs_j12 next0 v1 v2 σ8))
def F_deflate_Runs_j1 (a0:AV) (next0:AV->Int->Mem->Prop) (v1:AV) (v2:Int) (v5:Int) (σ6:Mem):Prop:=
joinF [.b] (fun (k110:Bool->Mem->Prop)=>
ifB (decide (0<v2)) (
iW (v2-1) fun v111=>
idxW 1 a0 v111 fun v112=>
ldI (σ6.bump 15) v112 fun v113=>
idxW 1 a0 v2 fun v114=>
ldI (σ6.bump 15) v114 fun v115=>
k110 (decide (v113=v115)) (σ6.bump 15)) (
k110 false (σ6.bump 15))) (F_deflate_Runs_j2 a0 next0 v1 v2 v5)
def F_deflate_Runs_l2 (a0:AV) (v2:Int) (k116:Int->Mem->Prop) (next117:Int->Mem->Prop) (v118:Int) (σ119:Mem):Prop:=
iW (v2+v118) fun v120=>
slenW a0 fun v121=>
ifB (decide (v120<v121)) (
iW (v2+v118) fun v122=>
idxW 1 a0 v122 fun v123=>
ldI (σ119.bump 19) v123 fun v124=>
idxW 1 a0 v2 fun v125=>
ldI (σ119.bump 19) v125 fun v126=>
ifB (decide (v124=v126)) (
iW (v118+1) fun v127=>
next117 v127 (σ119.bump 22)) (
k116 v118 (σ119.bump 19))) (
k116 v118 (σ119.bump 19))
def F_deflate_Runs_l1 (a0:AV) (Q:AV->Mem->Prop) (next0:AV->Int->Mem->Prop) (v1:AV) (v2:Int) (σ3:Mem):Prop:=
slenW a0 fun v4=>
ifB (decide (v2<v4)) (
joinF [tI] (fun (k116:Int->Mem->Prop)=>
loopF [tI] (F_deflate_Runs_l2 a0 v2 k116) 1 (σ3.bump 5)) (F_deflate_Runs_j1 a0 next0 v1 v2)) (
Q v1 (σ3.bump 6))
def F_deflate_Runs (a0:AV) (σ:Mem) (Q:AV->Mem->Prop):Prop:=
loopF [.v,tI] (F_deflate_Runs_l1 a0 Q) .nils 0 (σ.bump 3)
theorem ok_deflate_Runs {a0 σ Q} (h:σ.Live->F_deflate_Runs a0 σ Q):ACalls PG n_deflate_Runs [a0] σ Q:=
 .of_sem [none,none,none,none,some ([0],[3,4]),none,none,none,none,some ([0,3,4],[5]),some ([0,3,4],[5]),none,none,none,none,some ([0,3,4,5],[6]),none,none,none,some ([0,3,4,7],[5]),none,none,none,some ([0,3,4,7],[5]),none,none,some ([0,3,4,7],[5]),none,none,none,none,none,none] [(4,tI),(5,tI),(24,tI),(28,tI),(40,tI),(44,tI),(6,.b),(50,tI),(56,tI),(71,tI),(84,tI)] mixed (by kernel_rfl) (by kernel_rfl) h
/-! vitrine/deflate.Stored -/
def F_deflate_Stored_j1 (v0:AV) (next2:ByteArray->Bool->Mem->Prop) (v3:ByteArray) (v6:Int) (v7:Int) (σ8:Mem):Prop:=
callW PG n_bits_Writer_Bits [v0,.int .i64 v7,.int .i64 3] (σ8.bump 3) fun v9 σ10=>
wrW .u8 v6 fun v11=>
letW (v6 / 256) fun v12=>
wrW .u8 v12 fun v13=>
letW (bitsOp .xor .i64 (-1) v6) fun v14=>
wrW .u8 v14 fun v15=>
letW (bitsOp .xor .i64 (-1) v6) fun v16=>
letW (v16 / 256) fun v17=>
wrW .u8 v17 fun v18=>
newW (σ10.bump 16) (σ10.next+13) (.rw [.int .u8 v11,.int .u8 v13,.int .u8 v15,.int .u8 v18]) fun σ19=>
bstrW σ19 (.slice (σ10.next+13) 0 4 (.ex 4)) fun v20=>
callW PG n_bits_Writer_Bytes [v0,.str v20] σ19 fun v21 σ22=>
subW v3 0 v6 fun v23=>
callW PG n_bits_Writer_Bytes [v0,.str v23] (σ22.bump 5) fun v24 σ25=>
subW v3 v6 v3.size fun v26=>
next2 v26 (decide (v6<(v3.size:Int))) (σ25.bump 4)
def F_deflate_Stored_l1 (Q:AV->Mem->Prop) (v0:AV) (next2:ByteArray->Bool->Mem->Prop) (v3:ByteArray) (v4:Bool) (σ5:Mem):Prop:=
ifB v4 (
letW (imin (v3.size:Int) 65535) fun v6=>
joinF [tI] (fun (k27:Int->Mem->Prop)=>
ifB (decide (v6<(v3.size:Int))) (
k27 0 (σ5.bump 13)) (
k27 1 (σ5.bump 12))) (F_deflate_Stored_j1 v0 next2 v3 v6)) (
callW PG n_bits_Writer_Text [v0] (σ5.bump 4) fun v28 σ29=>
castS v28 fun v30=>
Q (.str v30) σ29)
def F_deflate_Stored (a0:ByteArray) (σ:Mem) (Q:AV->Mem->Prop):Prop:=
callW PG n_bits_New [] (σ.bump 3) fun v0 σ1=>
loopF [.s,.b] (F_deflate_Stored_l1 Q v0) a0 true (σ1.bump 1)
theorem ok_deflate_Stored {a0 σ Q} (h:σ.Live->F_deflate_Stored a0 σ Q):ACalls PG n_deflate_Stored [.str a0] σ Q:=
 .of_sem [none,none,none,none,some ([3],[0,4]),none,none,none,none,none,none,none,some ([0,3,4,5],[6]),none,none,none,none,none,none] [(0,.s),(4,.b),(6,tI),(45,.s)] mixed (by kernel_rfl) (by kernel_rfl) h
/-! vitrine/deflate.Fixed -/
def F_deflate_Fixed (a0:ByteArray) (σ:Mem) (Q:AV->Mem->Prop):Prop:=
newW (σ.bump 12) (σ.next+1) (.rw [.int .i64 8]) fun σ0=>
callW PG n_slices_Repeat___int_int_ [.slice (σ.next+1) 0 1 (.ex 1),.int .i64 144] σ0 fun v1 σ2=>
newW σ2 (σ.next+3) (.rw [.int .i64 9]) fun σ3=>
callW PG n_slices_Repeat___int_int_ [.slice (σ.next+3) 0 1 (.ex 1),.int .i64 112] σ3 fun v4 σ5=>
newW σ5 (σ.next+5) (.rw [.int .i64 7]) fun σ6=>
callW PG n_slices_Repeat___int_int_ [.slice (σ.next+5) 0 1 (.ex 1),.int .i64 24] σ6 fun v7 σ8=>
newW σ8 (σ.next+7) (.rw [.int .i64 8]) fun σ9=>
callW PG n_slices_Repeat___int_int_ [.slice (σ.next+7) 0 1 (.ex 1),.int .i64 8] σ9 fun v10 σ11=>
cellOkW v1 1 (
cellOkW v4 1 (
cellOkW v7 1 (
cellOkW v10 1 (
newW σ11 (σ.next+9) (.rw (setAt (setAt (setAt (setAt [.nils,.nils,.nils,.nils] 0 v1.cells) 1 v4.cells) 2 v7.cells) 3 v10.cells)) fun σ12=>
callW PG n_slices_Concat___int_int_ [.slice (σ.next+9) 0 4 (.ex 4)] σ12 fun v13 σ14=>
callW PG n_huff_Make [v13] (σ14.bump 7) fun v15 σ16=>
tupW v15 0 fun v17=>
tpI v15 1 fun v18=>
newW (σ16.bump 8) σ16.next (.rw [.int .i64 5]) fun σ19=>
callW PG n_slices_Repeat___int_int_ [.slice σ16.next 0 1 (.ex 1),.int .i64 32] σ19 fun v20 σ21=>
callW PG n_huff_Make [v20] σ21 fun v22 σ23=>
tupW v22 0 fun v24=>
tpI v22 1 fun v25=>
callW PG n_bits_New [] (σ23.bump 2) fun v26 σ27=>
callW PG n_bits_Writer_Bits [v26,.int .i64 3,.int .i64 3] (σ27.bump 2) fun v28 σ29=>
callW PG n_lz_Tokens [.str a0] (σ29.bump 6) fun v30 σ31=>
callW PG n_deflate_symbols [v26,v30,v17,v24] σ31 fun v32 σ33=>
callW PG n_bits_Writer_Text [v26] (σ33.bump 3) fun v34 σ35=>
castS v34 fun v36=>
Q (.str v36) σ35))))
theorem ok_deflate_Fixed {a0 σ Q} (h:σ.Live->F_deflate_Fixed a0 σ Q):ACalls PG n_deflate_Fixed [.str a0] σ Q:=
 .of_sem [none,none,none,none,none,none,none,none] [(23,tI),(29,tI),(40,.s)] mixed (by kernel_rfl) (by kernel_rfl) h
/-! vitrine/deflate.Deflate -/
def F_deflate_Deflate_j1 (next11:ByteArray->Int->Mem->Prop) (v13:Int) (v17:ByteArray) (σ18:Mem):Prop:=
iW (v13+1) fun v19=>
next11 v17 v19 (σ18.bump 2)
def F_deflate_Deflate_l1 (Q:AV->Mem->Prop) (σ1:Mem) (v10:Int) (next11:ByteArray->Int->Mem->Prop) (v12:ByteArray) (v13:Int) (σ14:Mem):Prop:=
ifB (decide (v13<v10)) (
idxW 1 (.slice (σ1.next+4) 0 2 (.ex 2)) v13 fun v15=>
ldS (σ14.bump 4) v15 fun v16=>
joinF [.s] (fun (k20:ByteArray->Mem->Prop)=>
ifB (decide ((v16.size:Int)<(v12.size:Int))) (
k20 v16 (σ14.bump 11)) (
k20 v12 (σ14.bump 9))) (F_deflate_Deflate_j1 next11 v13)) (
Q (.str v12) (σ14.bump 3))
def F_deflate_Deflate (a0:ByteArray) (σ:Mem) (Q:AV->Mem->Prop):Prop:=
callW PG n_deflate_Stored [.str a0] (σ.bump 4) fun v0 σ1=>
castS v0 fun v2=>
callW PG n_deflate_Fixed [.str a0] (σ1.bump 7) fun v3 σ4=>
castS v3 fun v5=>
callW PG n_deflate_Dynamic [.str a0] σ4 fun v6 σ7=>
castS v6 fun v8=>
newW σ7 (σ1.next+4) (.rw [.str v5,.str v8]) fun σ9=>
slenW (.slice (σ1.next+4) 0 2 (.ex 2)) fun v10=>
loopF [.s,tI] (F_deflate_Deflate_l1 Q σ1 v10) v2 0 σ9
theorem ok_deflate_Deflate {a0 σ Q} (h:σ.Live->F_deflate_Deflate a0 σ Q):ACalls PG n_deflate_Deflate [.str a0] σ Q:=
 .of_sem [none,none,none,none,some ([12,13],[3,14]),none,none,none,none,none,some ([12,13,14],[3]),none,none,none] [(7,.s),(3,.s),(9,.s),(11,.s),(14,tI),(17,.s)] mixed (by kernel_rfl) (by kernel_rfl) h
/-! vitrine/bits.New -/
def F_bits_New (σ:Mem) (Q:AV->Mem->Prop):Prop:=
boxW (.agg [.nils,.int .i64 0,.int .i64 0]) (
newW (σ.bump 4) (σ.next+2) (.rw [.nils,.int .i64 0,.int .i64 0]) fun σ0=>
Q (.ptr (σ.next+2) 0) σ0)
theorem ok_bits_New {σ Q} (h:σ.Live->F_bits_New σ Q):ACalls PG n_bits_New [] σ Q:=
 .of_sem [none,none] [] mixed (by kernel_rfl) (by kernel_rfl) h
/-! (*vitrine/bits.Writer).Bits -/
def F_bits_Writer_Bits_l1 (a0:AV) (Q:AV->Mem->Prop) (next14:Mem->Prop) (σ15:Mem):Prop:=
lfI 2 (σ15.bump 5) a0 fun v16=>
ifB (decide (8<=v16)) (
lfW 0 (σ15.bump 20) a0 fun v17=>
lfI 1 (σ15.bump 20) a0 fun v18=>
wrW .u8 v18 fun v19=>
newW (σ15.bump 20) (σ15.next+15) (.rw [.int .u8 v19]) fun σ20=>
apW 1 1 (σ15.next+16) σ20 v17 (.slice (σ15.next+15) 0 1 (.ex 1)) fun v21 σ22=>
nfW 0 a0 fun v23=>
stW 1 σ22 v23 v21 fun σ24=>
lfI 1 (σ24.bump 8) a0 fun v25=>
letW (v25 / 256) fun v26=>
nfW 1 a0 fun v27=>
stW 1 (σ24.bump 8) v27 (.int .i64 v26) fun σ28=>
lfI 2 (σ28.bump 8) a0 fun v29=>
iW (v29-8) fun v30=>
nfW 2 a0 fun v31=>
stW 1 (σ28.bump 8) v31 (.int .i64 v30) fun σ32=>
next14 σ32) (
Q (.tup []) (σ15.bump 5))
def F_bits_Writer_Bits (a0:AV) (a1:Int) (a2:Int) (σ:Mem) (Q:AV->Mem->Prop):Prop:=
eqW .ptr a0 .nilp fun v0=>
ifB v0 (
Q (.tup []) (σ.bump 10)) (
ifB (decide (a2<0)) (
Q (.tup []) (σ.bump 10)) (
ifB (decide (24<a2)) (
Q (.tup []) (σ.bump 10)) (
lfI 1 (σ.bump 28) a0 fun v1=>
shlW .i64 1 a2 fun v2=>
iW (v2-1) fun v3=>
letW (bitsOp .and .i64 a1 v3) fun v4=>
lfI 2 (σ.bump 28) a0 fun v5=>
shlW .i64 v4 v5 fun v6=>
letW (bitsOp .or .i64 v1 v6) fun v7=>
nfW 1 a0 fun v8=>
stW 1 (σ.bump 28) v8 (.int .i64 v7) fun σ9=>
lfI 2 (σ9.bump 9) a0 fun v10=>
iW (v10+a2) fun v11=>
nfW 2 a0 fun v12=>
stW 1 (σ9.bump 9) v12 (.int .i64 v11) fun σ13=>
loopF [] (F_bits_Writer_Bits_l1 a0 Q) σ13)))
theorem ok_bits_Writer_Bits {a0 a1 a2 σ Q} (h:σ.Live->F_bits_Writer_Bits a0 a1 a2 σ Q):ACalls PG n_bits_Writer_Bits [a0,.int .i64 a1,.int .i64 a2] σ Q:=
 .of_sem [none,none,none,none,none,some ([0],[]),none,none,none,none,none,none] [(19,tI),(28,tI),(36,tI),(44,tI),(61,tI),(70,tI),(49,tI)] mixed (by kernel_rfl) (by kernel_rfl) h
/-! (*vitrine/bits.Writer).Bytes -/
def F_bits_Writer_Bytes (a0:AV) (a1:ByteArray) (σ:Mem) (Q:AV->Mem->Prop):Prop:=
eqW .ptr a0 .nilp fun v0=>
ifB v0 (
Q (.tup []) (σ.bump 2)) (
lfI 2 (σ.bump 10) a0 fun v1=>
iW (8-v1) fun v2=>
remW v2 8 fun v3=>
callW PG n_bits_Writer_Bits [a0,.int .i64 0,.int .i64 v3] (σ.bump 10) fun v4 σ5=>
lfW 0 (σ5.bump 10) a0 fun v6=>
apW 1 1 (σ5.next+6) (σ5.bump 10) v6 (.str a1) fun v7 σ8=>
nfW 0 a0 fun v9=>
stW 1 σ8 v9 v7 fun σ10=>
Q (.tup []) σ10)
theorem ok_bits_Writer_Bytes {a0 a1 σ Q} (h:σ.Live->F_bits_Writer_Bytes a0 a1 σ Q):ACalls PG n_bits_Writer_Bytes [a0,.str a1] σ Q:=
 .of_sem [none,none,none,none] [(10,tI)] mixed (by kernel_rfl) (by kernel_rfl) h
/-! (*vitrine/bits.Writer).Text -/
def F_bits_Writer_Text_j1 (Q:AV->Mem->Prop) (v4:ByteArray) (σ5:Mem):Prop:=
Q (.str v4) (σ5.bump 2)
def F_bits_Writer_Text (a0:AV) (σ:Mem) (Q:AV->Mem->Prop):Prop:=
eqW .ptr a0 .nilp fun v0=>
ifB v0 (
Q (.str ⟨#[]⟩) (σ.bump 4)) (
lfW 0 (σ.bump 9) a0 fun v1=>
bstrW (σ.bump 9) v1 fun v2=>
lfI 2 (σ.bump 14) a0 fun v3=>
joinF [.s] (fun (k6:ByteArray->Mem->Prop)=>
ifB (decide (0<v3)) (
lfI 1 (σ.bump 24) a0 fun v7=>
wrW .u8 v7 fun v8=>
newW (σ.bump 24) (σ.next+20) (.rw [.int .u8 v8]) fun σ9=>
bstrW σ9 (.slice (σ.next+20) 0 1 (.ex 1)) fun v10=>
catW v2 v10 fun v11=>
k6 v11 σ9) (
k6 v2 (σ.bump 14))) (F_bits_Writer_Text_j1 Q))
theorem ok_bits_Writer_Text {a0 σ Q} (h:σ.Live->F_bits_Writer_Text a0 σ Q):ACalls PG n_bits_Writer_Text [a0] σ Q:=
 .of_sem [none,none,none,none,none,none,some ([],[3]),none,none] [(3,.s),(14,tI),(20,tI)] mixed (by kernel_rfl) (by kernel_rfl) h
/-! slices.Concat[[]int,int] -/
def F_slices_Concat___int_int__j1 (next1:Int->Int->Mem->Prop) (v3:Int) (v8:Int) (σ9:Mem):Prop:=
iW (v3+1) fun v10=>
next1 v8 v10 (σ9.bump 2)
def F_slices_Concat___int_int__l2 (a0:AV) (Q:AV->Mem->Prop) (v14:Int) (next15:AV->Int->Mem->Prop) (v16:AV) (v17:Int) (σ18:Mem):Prop:=
ifB (decide (v17<v14)) (
idxW 1 a0 v17 fun v19=>
ldW (σ18.bump 4) v19 fun v20=>
apW 1 8 (σ18.next+6) (σ18.bump 8) v16 v20 fun v21 σ22=>
iW (v17+1) fun v23=>
next15 v21 v23 (σ22.bump 2)) (
Q v16 (σ18.bump 3))
def F_slices_Concat___int_int__l1 (a0:AV) (Q:AV->Mem->Prop) (v0:Int) (next1:Int->Int->Mem->Prop) (v2:Int) (v3:Int) (σ4:Mem):Prop:=
ifB (decide (v3<v0)) (
idxW 1 a0 v3 fun v5=>
ldW (σ4.bump 4) v5 fun v6=>
slenW v6 fun v7=>
iW (v2+v7) fun v8=>
joinF [] (fun (k11:Mem->Prop)=>
ifB (decide (v8<0)) (
False) (
k11 (σ4.bump 11))) (F_slices_Concat___int_int__j1 next1 v3 v8)) (
callW PG n_slices_Grow___int_int_ [.nils,.int .i64 v2] (σ4.bump 4) fun v12 σ13=>
slenW a0 fun v14=>
loopF [.v,tI] (F_slices_Concat___int_int__l2 a0 Q v14) v12 0 (σ13.bump 3))
def F_slices_Concat___int_int_ (a0:AV) (σ:Mem) (Q:AV->Mem->Prop):Prop:=
slenW a0 fun v0=>
loopF [tI,tI] (F_slices_Concat___int_int__l1 a0 Q v0) 0 0 (σ.bump 5)
theorem ok_slices_Concat___int_int_ {a0 σ Q} (h:σ.Live->F_slices_Concat___int_int_ a0 σ Q):ACalls PG n_slices_Concat___int_int_ [a0] σ Q:=
 .of_sem [none,none,none,none,some ([0,9,10],[3,11]),none,none,none,none,none,none,some ([0,3,9,10,11],[]),none,none,none,none,none,some ([25,26],[6,27]),none,none,none,none,none,none,none] [(3,tI),(11,tI),(27,tI)] mixed (by kernel_rfl) (by kernel_rfl) h
/-! slices.Repeat[[]int,int] -/
def F_slices_Repeat___int_int__l1 (Q:AV->Mem->Prop) (σ8:Mem) (v9:Int) (next13:Int->Mem->Prop) (v14:Int) (σ15:Mem):Prop:=
slenW (.slice (σ8.next+2) 0 (Int.toNat v9) (.ex (Int.toNat v9))) fun v16=>
ifB (decide (v14<v16)) (
slcW 1 (.slice (σ8.next+2) 0 (Int.toNat v9) (.ex (Int.toNat v9))) (some v14) none fun v17=>
slcW 1 (.slice (σ8.next+2) 0 (Int.toNat v9) (.ex (Int.toNat v9))) none (some v14) fun v18=>
cpW 1 (σ15.bump 14) v17 v18 fun v19 σ20=>
iW (v14+v19) fun v21=>
next13 v21 σ20) (
Q (.slice (σ8.next+2) 0 (Int.toNat v9) (.ex (Int.toNat v9))) (σ15.bump 6))
def F_slices_Repeat___int_int__j2 (a0:AV) (Q:AV->Mem->Prop) (v7:Int) (σ8:Mem):Prop:=
iW v7 fun v9=>
makeW 8 v9 v9 (
newW (σ8.bump 4) (σ8.next+2) (.rw (repl (Int.toNat v9) [.int .i64 0])) fun σ10=>
cpW 1 (σ10.bump 4) (.slice (σ8.next+2) 0 (Int.toNat v9) (.ex (Int.toNat v9))) a0 fun v11 σ12=>
loopF [tI] (F_slices_Repeat___int_int__l1 Q σ8 v9) v11 σ12)
def F_slices_Repeat___int_int__l2 (Q:AV->Mem->Prop) (σ23:Mem) (v24:Int) (next28:Int->Mem->Prop) (v29:Int) (σ30:Mem):Prop:=
slenW (.slice (σ23.next+2) 0 (Int.toNat v24) (.ex (Int.toNat v24))) fun v31=>
ifB (decide (v29<v31)) (
slcW 1 (.slice (σ23.next+2) 0 (Int.toNat v24) (.ex (Int.toNat v24))) (some v29) none fun v32=>
slcW 1 (.slice (σ23.next+2) 0 (Int.toNat v24) (.ex (Int.toNat v24))) none (some v29) fun v33=>
cpW 1 (σ30.bump 14) v32 v33 fun v34 σ35=>
iW (v29+v34) fun v36=>
next28 v36 σ35) (
Q (.slice (σ23.next+2) 0 (Int.toNat v24) (.ex (Int.toNat v24))) (σ30.bump 6))
def F_slices_Repeat___int_int__j3 (a0:AV) (Q:AV->Mem->Prop) (v7:Int) (σ23:Mem):Prop:=
iW v7 fun v24=>
makeW 8 v24 v24 (
newW (σ23.bump 4) (σ23.next+2) (.rw (repl (Int.toNat v24) [.int .i64 0])) fun σ25=>
cpW 1 (σ25.bump 4) (.slice (σ23.next+2) 0 (Int.toNat v24) (.ex (Int.toNat v24))) a0 fun v26 σ27=>
loopF [tI] (F_slices_Repeat___int_int__l2 Q σ23 v24) v26 σ27)
def F_slices_Repeat___int_int__j1 (a0:AV) (a1:Int) (Q:AV->Mem->Prop) (σ0:Mem):Prop:=
slenW a0 fun v1=>
wrW .u64 v1 fun v2=>
wrW .u64 a1 fun v3=>
callW PG n_math_bits_Mul [.int .u64 v2,.int .u64 v3] (σ0.bump 11) fun v4 σ5=>
tupW v4 0 fun a=>castI .u64 a fun v6=>
tupW v4 1 fun a=>castI .u64 a fun v7=>
ifB (decide (0<v6)) (
joinF [] (fun (k22:Mem->Prop)=>
False) (F_slices_Repeat___int_int__j2 a0 Q v7)) (
joinF [] (fun (k37:Mem->Prop)=>
ifB (decide (9223372036854775807<v7)) (
False) (
k37 (σ5.bump 6))) (F_slices_Repeat___int_int__j3 a0 Q v7))
def F_slices_Repeat___int_int_ (a0:AV) (a1:Int) (σ:Mem) (Q:AV->Mem->Prop):Prop:=
joinF [] (fun (k38:Mem->Prop)=>
ifB (decide (a1<0)) (
False) (
k38 (σ.bump 3))) (F_slices_Repeat___int_int__j1 a0 a1 Q)
theorem ok_slices_Repeat___int_int_ {a0 a1 σ Q} (h:σ.Live->F_slices_Repeat___int_int_ a0 a1 σ Q):ACalls PG n_slices_Repeat___int_int_ [a0,.int .i64 a1] σ Q:=
 .of_sem [none,none,some ([0,1],[]),none,none,none,some ([0,6],[]),none,none,none,none,some ([7],[8]),none,none,none,none,none] [(19,(.i .u64)),(20,(.i .u64)),(8,tI)] mixed (by kernel_rfl) (by kernel_rfl) h
/-! vitrine/huff.Make -/
def F_huff_Make_j1 (next15:Int->Mem->Prop) (v16:Int) (σ20:Mem):Prop:=
iW (v16+1) fun v21=>
next15 v21 (σ20.bump 2)
def F_huff_Make_j2 (Q:AV->Mem->Prop) (σ3:Mem) (σ34:Mem):Prop:=
Q (.tup [.ptr (σ3.next+8) 0,.int .i64 0]) (σ34.bump 3)
def F_huff_Make_l1 (Q:AV->Mem->Prop) (σ:Mem) (σ3:Mem) (v13:AV) (v14:Int) (next15:Int->Mem->Prop) (v16:Int) (σ17:Mem):Prop:=
ifB (decide (v16<v14)) (
idxW 1 v13 v16 fun v18=>
ldI (σ17.bump 6) v18 fun v19=>
joinF [] (fun (k22:Mem->Prop)=>
ifB (decide (0<v19)) (
lfW 18 (σ17.bump 19) (.ptr (σ3.next+8) 0) fun v23=>
newW (σ17.bump 19) (σ17.next+14) (.rw [.int .i64 v16]) fun σ24=>
apW 1 8 (σ17.next+15) σ24 v23 (.slice (σ17.next+14) 0 1 (.ex 1)) fun v25 σ26=>
nfW 18 (.ptr (σ3.next+8) 0) fun v27=>
stW 1 σ26 v27 v25 fun σ28=>
k22 σ28) (
k22 (σ17.bump 8))) (F_huff_Make_j1 next15 v16)) (
lfW 18 (σ17.bump 7) (.ptr (σ3.next+8) 0) fun v29=>
callW PG n_slices_SortStableFunc___int_int_ [v29,.func n_huff_Make_1 [.ptr σ.next 0]] (σ17.bump 7) fun v30 σ31=>
lfW 18 (σ31.bump 6) (.ptr (σ3.next+8) 0) fun v32=>
slenW v32 fun v33=>
joinF [] (fun (k35:Mem->Prop)=>
ifB (decide (v33<2)) (
lfW 18 (σ31.bump 15) (.ptr (σ3.next+8) 0) fun v36=>
slenW v36 fun v37=>
nfW 19 (.ptr (σ3.next+8) 0) fun v38=>
stW 1 (σ31.bump 15) v38 (.int .i64 v37) fun σ39=>
k35 σ39) (
k35 (σ31.bump 6))) (F_huff_Make_j2 Q σ3))
def F_huff_Make (a0:AV) (σ:Mem) (Q:AV->Mem->Prop):Prop:=
boxW a0 (
newW (σ.bump 3) σ.next (.rw a0.cells) fun σ0=>
ldW (σ0.bump 7) (.ptr σ.next 0) fun v1=>
callW PG n_huff_Codes [v1] (σ0.bump 7) fun v2 σ3=>
tupW v2 0 fun v4=>
tpI v2 1 fun v5=>
ifB (decide (v5≠0)) (
Q (.tup [.nilp,.int .i64 v5]) (σ3.bump 5)) (
ldW (σ3.bump 10) (.ptr σ.next 0) fun v6=>
ldW (σ3.bump 10) (.ptr σ.next 0) fun v7=>
callW PG n_slices_Clone___int_int_ [v6] (σ3.bump 10) fun v8 σ9=>
fltS.sameW (σ3.bump 10) σ9 (.ptr σ.next 0) (
callW PG n_huff_counted [v7] σ9 fun v10 σ11=>
cellOkW v8 1 (
cellOkW v4 1 (
cellOkW v10 16 (
boxW (.agg (setAt (setAt (setAt (setAt ([.nils,.nils]++List.replicate 16 (.int .i64 0)++[.nils]++[.int .i64 0]) 0 v8.cells) 1 v4.cells) 2 v10.cells) 19 [.int .i64 15])) (
newW σ11 (σ3.next+8) (.rw (setAt (setAt (setAt (setAt ([.nils,.nils]++List.replicate 16 (.int .i64 0)++[.nils]++[.int .i64 0]) 0 v8.cells) 1 v4.cells) 2 v10.cells) 19 [.int .i64 15])) fun σ12=>
ldW (σ12.bump 3) (.ptr σ.next 0) fun v13=>
slenW v13 fun v14=>
loopF [tI] (F_huff_Make_l1 Q σ σ3 v13 v14) 0 (σ12.bump 3))))))))
theorem ok_huff_Make {a0 σ Q} (h:σ.Live->F_huff_Make a0 σ Q):ACalls PG n_huff_Make [a0] σ Q:=
 .of_sem [none,none,none,none,none,none,none,none,some ([1,6,24,25],[26]),none,none,none,none,none,some ([1,6,24,25,26],[]),none,none,none,none,some ([6],[]),none,none] [(13,tI),(26,tI),(30,tI)] mixed (by kernel_rfl) (by kernel_rfl) h
/-! vitrine/deflate.symbols -/
def F_deflate_symbols_j1 (next2:Int->Mem->Prop) (v3:Int) (σ5:Mem):Prop:=
iW (v3+1) fun v6=>
next2 v6 (σ5.bump 2)
def F_deflate_symbols_l1 (a1:AV) (a2:AV) (a3:AV) (Q:AV->Mem->Prop) (σ:Mem) (v1:Int) (next2:Int->Mem->Prop) (v3:Int) (σ4:Mem):Prop:=
ifB (decide (v3<v1)) (
joinF [] (fun (k7:Mem->Prop)=>
idxW 3 a1 v3 fun v8=>
ldnW 3 (σ4.bump 5) v8 fun v9=>
newW (σ4.bump 5) (σ4.next+3) (.rw [.int .i64 0,.int .i64 0,.int .i64 0]) fun σ10=>
stW 3 σ10 (.ptr (σ4.next+3) 0) v9 fun σ11=>
fldW 1 (.ptr (σ4.next+3) 0) fun v12=>
ldI (σ11.bump 3) v12 fun v13=>
ifB (decide (v13=0)) (
fldW 0 (.ptr (σ4.next+3) 0) fun v14=>
ldI (σ11.bump 9) v14 fun v15=>
callvW PG (.func n_deflate_symbols_1 [.ptr σ.next 0]) [a2,.agg [.int .i64 v15,.int .i64 0,.int .i64 0]] (σ11.bump 9) fun v16 σ17=>
k7 σ17) (
fldW 1 (.ptr (σ4.next+3) 0) fun v18=>
ldI (σ11.bump 9) v18 fun v19=>
callW PG n_deflate_length [.int .i64 v19] (σ11.bump 9) fun v20 σ21=>
callvW PG (.func n_deflate_symbols_1 [.ptr σ.next 0]) [a2,v20] σ21 fun v22 σ23=>
fldW 2 (.ptr (σ4.next+3) 0) fun v24=>
ldI (σ23.bump 6) v24 fun v25=>
callW PG n_deflate_distance [.int .i64 v25] (σ23.bump 6) fun v26 σ27=>
callvW PG (.func n_deflate_symbols_1 [.ptr σ.next 0]) [a3,v26] σ27 fun v28 σ29=>
k7 σ29)) (F_deflate_symbols_j1 next2 v3)) (
callvW PG (.func n_deflate_symbols_1 [.ptr σ.next 0]) [a2,.agg [.int .i64 256,.int .i64 0,.int .i64 0]] (σ4.bump 5) fun v30 σ31=>
Q (.tup []) σ31)
def F_deflate_symbols (a0:AV) (a1:AV) (a2:AV) (a3:AV) (σ:Mem) (Q:AV->Mem->Prop):Prop:=
boxW a0 (
newW (σ.bump 1) σ.next (.rw a0.cells) fun σ0=>
slenW a1 fun v1=>
loopF [tI] (F_deflate_symbols_l1 a1 a2 a3 Q σ v1) 0 (σ0.bump 5))
theorem ok_deflate_symbols {a0 a1 a2 a3 σ Q} (h:σ.Live->F_deflate_symbols a0 a1 a2 a3 σ Q):ACalls PG n_deflate_symbols [a0,a1,a2,a3] σ Q:=
 .of_sem [none,none,none,none,some ([2,3,8,12,13],[14]),none,none,some ([2,3,8,12,13,14],[]),none,none,none,none,none,none,none,none] [(14,tI),(19,tI),(24,tI),(30,tI),(36,tI)] mixed (by kernel_rfl) (by kernel_rfl) h
/-! vitrine/lz.Tokens -/
def F_lz_Tokens_j1 (next4:AV->Int->Mem->Prop) (v9:AV) (v10:Int) (σ11:Mem):Prop:=
next4 v9 v10 σ11
def F_lz_Tokens_j2 (σ:Mem) (σ0:Mem) (v5:AV) (v6:Int) (k12:AV->Int->Mem->Prop) (v15:Int) (v16:Int) (σ17:Mem):Prop:=
ifB (decide (v15<3)) (
ldS (σ17.bump 11) (.ptr σ.next 0) fun v18=>
sidxW v18 v6 fun v19=>
iW v19 fun v20=>
cellOkW (.agg [.int .i64 v20,.int .i64 0,.int .i64 0]) 3 (
newW (σ17.bump 11) (σ17.next+8) (.rw [.int .i64 v20,.int .i64 0,.int .i64 0]) fun σ21=>
apW 3 24 (σ17.next+9) σ21 v5 (.slice (σ17.next+8) 0 1 (.ex 1)) fun v22 σ23=>
callvW PG (.func n_lz_Tokens_1 [.ptr σ.next 0,.ptr (σ0.next+2) 0]) [.int .i64 v6,.int .i64 1] (σ23.bump 3) fun v24 σ25=>
iW (v6+1) fun v26=>
k12 v22 v26 (σ25.bump 3))) (
cellOkW (.agg [.int .i64 0,.int .i64 v15,.int .i64 v16]) 3 (
newW (σ17.bump 9) (σ17.next+6) (.rw [.int .i64 0,.int .i64 v15,.int .i64 v16]) fun σ27=>
apW 3 24 (σ17.next+7) σ27 v5 (.slice (σ17.next+6) 0 1 (.ex 1)) fun v28 σ29=>
callvW PG (.func n_lz_Tokens_1 [.ptr σ.next 0,.ptr (σ0.next+2) 0]) [.int .i64 v6,.int .i64 v15] (σ29.bump 4) fun v30 σ31=>
iW (v6+v15) fun v32=>
k12 v28 v32 (σ31.bump 4)))
def F_lz_Tokens_j3 (k33:Int->Int->Mem->Prop) (v41:Int) (v42:Int) (σ43:Mem):Prop:=
k33 v41 v42 σ43
def F_lz_Tokens_j5 (k44:Int->Int->Mem->Prop) (next45:Int->Int->Int->Mem->Prop) (v48:Int) (v55:Int) (v56:Int) (σ57:Mem):Prop:=
ifB (decide (v55=258)) (
k44 v55 v56 (σ57.bump 2)) (
iW (v48-1) fun v58=>
next45 v55 v56 v58 (σ57.bump 5))
def F_lz_Tokens_j4 (v6:Int) (v38:AV) (k44:Int->Int->Mem->Prop) (next45:Int->Int->Int->Mem->Prop) (v46:Int) (v47:Int) (v48:Int) (v53:Int) (σ54:Mem):Prop:=
joinF [tI,tI] (fun (k59:Int->Int->Mem->Prop)=>
ifB (decide (v46<v53)) (
idxW 1 v38 v48 fun v60=>
ldI (σ54.bump 12) v60 fun v61=>
iW (v6-v61) fun v62=>
k59 v53 v62 (σ54.bump 12)) (
k59 v46 v47 (σ54.bump 3))) (F_lz_Tokens_j5 k44 next45 v48)
def F_lz_Tokens_l3 (σ:Mem) (v6:Int) (v38:AV) (v48:Int) (k63:Int->Mem->Prop) (next64:Int->Mem->Prop) (v65:Int) (σ66:Mem):Prop:=
ifB (decide (v65<258)) (
iW (v6+v65) fun v67=>
ldS (σ66.bump 26) (.ptr σ.next 0) fun v68=>
ifB (decide (v67<(v68.size:Int))) (
ldS (σ66.bump 26) (.ptr σ.next 0) fun v69=>
iW (v6+v65) fun v70=>
sidxW v69 v70 fun v71=>
ldS (σ66.bump 26) (.ptr σ.next 0) fun v72=>
idxW 1 v38 v48 fun v73=>
ldI (σ66.bump 26) v73 fun v74=>
iW (v74+v65) fun v75=>
sidxW v72 v75 fun v76=>
ifB (decide (v71=v76)) (
iW (v65+1) fun v77=>
next64 v77 (σ66.bump 29)) (
k63 v65 (σ66.bump 26))) (
k63 v65 (σ66.bump 26))) (
k63 v65 (σ66.bump 26))
def F_lz_Tokens_l2 (σ:Mem) (v6:Int) (v38:AV) (k44:Int->Int->Mem->Prop) (next45:Int->Int->Int->Mem->Prop) (v46:Int) (v47:Int) (v48:Int) (σ49:Mem):Prop:=
ifB (decide (0<=v48)) (
idxW 1 v38 v48 fun v50=>
ldI (σ49.bump 11) v50 fun v51=>
iW (v6-v51) fun v52=>
ifB (decide (v52<=512)) (
joinF [tI] (fun (k63:Int->Mem->Prop)=>
loopF [tI] (F_lz_Tokens_l3 σ v6 v38 v48 k63) 3 (σ49.bump 12)) (F_lz_Tokens_j4 v6 v38 k44 next45 v46 v47 v48)) (
k44 v46 v47 (σ49.bump 11))) (
k44 v46 v47 (σ49.bump 11))
def F_lz_Tokens_l1 (Q:AV->Mem->Prop) (σ:Mem) (σ0:Mem) (next4:AV->Int->Mem->Prop) (v5:AV) (v6:Int) (σ7:Mem):Prop:=
ldS (σ7.bump 4) (.ptr σ.next 0) fun v8=>
ifB (decide (v6<(v8.size:Int))) (
joinF [.v,tI] (fun (k12:AV->Int->Mem->Prop)=>
iW (v6+3) fun v13=>
ldS (σ7.bump 11) (.ptr σ.next 0) fun v14=>
joinF [tI,tI] (fun (k33:Int->Int->Mem->Prop)=>
ifB (decide (v13<=(v14.size:Int))) (
ldW (σ7.bump 19) (.ptr (σ0.next+2) 0) fun v34=>
ldS (σ7.bump 19) (.ptr σ.next 0) fun v35=>
iW (v6+3) fun v36=>
subW v35 v6 v36 fun v37=>
lookW (σ7.bump 19) .nils false v34 (.str v37) fun v38=>
slenW v38 fun v39=>
iW (v39-1) fun v40=>
joinF [tI,tI] (fun (k44:Int->Int->Mem->Prop)=>
loopF [tI,tI,tI] (F_lz_Tokens_l2 σ v6 v38 k44) 0 0 v40 (σ7.bump 23)) (F_lz_Tokens_j3 k33)) (
k33 0 0 (σ7.bump 11))) (F_lz_Tokens_j2 σ σ0 v5 v6 k12)) (F_lz_Tokens_j1 next4)) (
Q v5 (σ7.bump 6))
def F_lz_Tokens (a0:ByteArray) (σ:Mem) (Q:AV->Mem->Prop):Prop:=
newW (σ.bump 2) σ.next (.rw [.str a0]) fun σ0=>
newW (σ0.bump 4) (σ0.next+1) (.map [] 0) fun σ1=>
newW σ1 (σ0.next+2) (.rw [.nilm]) fun σ2=>
stW 1 σ2 (.ptr (σ0.next+2) 0) (.map (σ0.next+1)) fun σ3=>
loopF [.v,tI] (F_lz_Tokens_l1 Q σ σ0) .nils 0 (σ3.bump 3)
theorem ok_lz_Tokens {a0 σ Q} (h:σ.Live->F_lz_Tokens a0 σ Q):ACalls PG n_lz_Tokens [.str a0] σ Q:=
 .of_sem [none,none,none,none,none,none,some ([1,4,5],[3,6]),none,none,some ([1,4,5],[3,6]),none,none,some ([1,3,4,5,6],[7,8]),none,none,some ([1,3,4,5,6],[7,8]),some ([1,3,4,5,6,9],[7,8,10]),none,none,none,none,some ([1,3,4,5,6,7,8,9,10],[11]),some ([1,3,4,5,6,7,8,9,10],[11]),none,none,none,none,none,some ([1,3,4,5,6,9,10],[7,8]),none,none,none,none,none,none,none,none,none,none,none,none,none] [(6,tI),(15,.s),(7,tI),(8,tI),(20,.s),(24,.s),(10,tI),(40,tI),(11,tI),(52,.s),(57,.s),(62,.s),(66,tI),(82,tI),(89,.s)] mixed (by kernel_rfl) (by kernel_rfl) h
/-! vitrine/deflate.lengths -/
def F_deflate_lengths_j1 (next5:Int->Mem->Prop) (v6:Int) (σ14:Mem):Prop:=
iW (v6+1) fun v15=>
next5 v15 (σ14.bump 2)
def F_deflate_lengths_l1 (a0:AV) (Q:AV->Mem->Prop) (σ:Mem) (σ0:Mem) (v4:Int) (next5:Int->Mem->Prop) (v6:Int) (σ7:Mem):Prop:=
ifB (decide (v6<v4)) (
idxW 3 a0 v6 fun v8=>
ldnW 3 (σ7.bump 5) v8 fun v9=>
newW (σ7.bump 5) (σ7.next+3) (.rw [.int .i64 0,.int .i64 0,.int .i64 0]) fun σ10=>
stW 3 σ10 (.ptr (σ7.next+3) 0) v9 fun σ11=>
fldW 1 (.ptr (σ7.next+3) 0) fun v12=>
ldI (σ11.bump 3) v12 fun v13=>
joinF [] (fun (k16:Mem->Prop)=>
ifB (decide (v13=0)) (
fldW 0 (.ptr (σ7.next+3) 0) fun v17=>
ldI (σ11.bump 10) v17 fun v18=>
idxAW 286 1 (.ptr (σ.next+2) 0) v18 fun v19=>
ldI (σ11.bump 10) v19 fun v20=>
iW (v20+1) fun v21=>
idxAW 286 1 (.ptr (σ.next+2) 0) v18 fun v22=>
stW 1 (σ11.bump 10) v22 (.int .i64 v21) fun σ23=>
k16 σ23) (
fldW 1 (.ptr (σ7.next+3) 0) fun v24=>
ldI (σ11.bump 12) v24 fun v25=>
callW PG n_deflate_length [.int .i64 v25] (σ11.bump 12) fun v26 σ27=>
aggW 0 none v26 fun a=>castI .i64 a fun v28=>
idxAW 286 1 (.ptr (σ.next+2) 0) v28 fun v29=>
ldI σ27 v29 fun v30=>
iW (v30+1) fun v31=>
idxAW 286 1 (.ptr (σ.next+2) 0) v28 fun v32=>
stW 1 σ27 v32 (.int .i64 v31) fun σ33=>
fldW 2 (.ptr (σ7.next+3) 0) fun v34=>
ldI (σ33.bump 9) v34 fun v35=>
callW PG n_deflate_distance [.int .i64 v35] (σ33.bump 9) fun v36 σ37=>
aggW 0 none v36 fun a=>castI .i64 a fun v38=>
idxAW 30 1 (.ptr σ0.next 0) v38 fun v39=>
ldI σ37 v39 fun v40=>
iW (v40+1) fun v41=>
idxAW 30 1 (.ptr σ0.next 0) v38 fun v42=>
stW 1 σ37 v42 (.int .i64 v41) fun σ43=>
k16 σ43)) (F_deflate_lengths_j1 next5 v6)) (
slaW 286 1 (.ptr (σ.next+2) 0) none none fun v44=>
callW PG n_huff_Limit [.int .i64 15,v44] (σ7.bump 8) fun v45 σ46=>
tupW v45 0 fun v47=>
tpI v45 1 fun v48=>
slaW 30 1 (.ptr σ0.next 0) none none fun v49=>
callW PG n_huff_Limit [.int .i64 15,v49] (σ46.bump 7) fun v50 σ51=>
tupW v50 0 fun v52=>
tpI v50 1 fun v53=>
callW PG n_deflate_told [v47,.int .i64 257] (σ51.bump 6) fun v54 σ55=>
callW PG n_deflate_told [v52,.int .i64 1] σ55 fun v56 σ57=>
Q (.tup [v54,v56]) σ57)
def F_deflate_lengths (a0:AV) (σ:Mem) (Q:AV->Mem->Prop):Prop:=
newW (σ.bump 3) (σ.next+2) (.rw (List.replicate 286 (.int .i64 0))) fun σ0=>
newW (σ0.bump 1) σ0.next (.rw (List.replicate 30 (.int .i64 0))) fun σ1=>
idxAW 286 1 (.ptr (σ.next+2) 0) 256 fun v2=>
stW 1 (σ1.bump 2) v2 (.int .i64 1) fun σ3=>
slenW a0 fun v4=>
loopF [tI] (F_deflate_lengths_l1 a0 Q σ σ0 v4) 0 (σ3.bump 3)
theorem ok_deflate_lengths {a0 σ Q} (h:σ.Live->F_deflate_lengths a0 σ Q):ACalls PG n_deflate_lengths [a0] σ Q:=
 .of_sem [none,none,none,none,none,none,some ([4,5,13,14],[15]),none,none,none,none,none,some ([4,5,13,14,15],[]),none,none,none,none,none,none,none] [(15,tI),(20,tI),(23,tI),(25,tI),(29,tI),(31,tI),(33,tI),(37,tI),(39,tI),(41,tI),(49,tI),(54,tI)] mixed (by kernel_rfl) (by kernel_rfl) h
/-! (*vitrine/huff.Table).Lay -/
def F_huff_Table_Lay_l1 (a0:AV) (a1:AV) (a2:Int) (Q:AV->Mem->Prop) (next15:Int->Mem->Prop) (v16:Int) (σ17:Mem):Prop:=
ifB (decide (0<=v16)) (
lfW 1 (σ17.bump 13) a0 fun v18=>
idxW 1 v18 a2 fun v19=>
ldI (σ17.bump 13) v19 fun v20=>
shrW .i64 v20 v16 fun v21=>
callW PG n_bits_Writer_Bits [a1,.int .i64 v21,.int .i64 1] (σ17.bump 13) fun v22 σ23=>
iW (v16-1) fun v24=>
next15 v24 (σ23.bump 3)) (
Q (.int .i64 0) (σ17.bump 3))
def F_huff_Table_Lay (a0:AV) (a1:AV) (a2:Int) (σ:Mem) (Q:AV->Mem->Prop):Prop:=
eqW .ptr a0 .nilp fun v0=>
ifB v0 (
Q (.int .i64 2) (σ.bump 9)) (
eqW .ptr a1 .nilp fun v1=>
ifB v1 (
Q (.int .i64 2) (σ.bump 9)) (
ifB (decide (a2<0)) (
Q (.int .i64 1) (σ.bump 31)) (
nchkW a0 fun v2=>
fldW 0 v2 fun v3=>
ldW (σ.bump 30) v3 fun v4=>
slenW v4 fun v5=>
ifB (decide (v5<=a2)) (
Q (.int .i64 1) (σ.bump 31)) (
nchkW a0 fun v6=>
fldW 0 v6 fun v7=>
ldW (σ.bump 30) v7 fun v8=>
idxW 1 v8 a2 fun v9=>
ldI (σ.bump 30) v9 fun v10=>
ifB (decide (v10=0)) (
Q (.int .i64 1) (σ.bump 31)) (
lfW 0 (σ.bump 39) a0 fun v11=>
idxW 1 v11 a2 fun v12=>
ldI (σ.bump 39) v12 fun v13=>
iW (v13-1) fun v14=>
loopF [tI] (F_huff_Table_Lay_l1 a0 a1 a2 Q) v14 (σ.bump 39))))))
theorem ok_huff_Table_Lay {a0 a1 a2 σ Q} (h:σ.Live->F_huff_Table_Lay a0 a1 a2 σ Q):ACalls PG n_huff_Table_Lay [a0,a1,.int .i64 a2] σ Q:=
 .of_sem [none,none,none,none,none,none,none,none,none,none,some ([0,1,2],[7]),none,none,none,none,none,none] [(34,tI),(43,tI),(7,tI),(56,tI)] mixed (by kernel_rfl) (by kernel_rfl) h
/-! vitrine/bits.Read -/
def F_bits_Read (a0:ByteArray) (σ:Mem) (Q:AV->Mem->Prop):Prop:=
boxW (.agg [.str a0,.int .i64 0,.int .i64 0]) (
newW (σ.bump 5) (σ.next+3) (.rw [.str a0,.int .i64 0,.int .i64 0]) fun σ0=>
Q (.ptr (σ.next+3) 0) σ0)
theorem ok_bits_Read {a0 σ Q} (h:σ.Live->F_bits_Read a0 σ Q):ACalls PG n_bits_Read [.str a0] σ Q:=
 .of_sem [none,none] [] mixed (by kernel_rfl) (by kernel_rfl) h
/-! (*vitrine/huff.Table).Next -/
def F_huff_Table_Next_l1 (a0:AV) (a1:AV) (Q:AV->Mem->Prop) (next2:Int->Int->Int->Int->Mem->Prop) (v3:Int) (v4:Int) (v5:Int) (v6:Int) (σ7:Mem):Prop:=
lfI 19 (σ7.bump 6) a0 fun v8=>
ifB (decide (v6<=v8)) (
callW PG n_bits_Reader_Bits [a1,.int .i64 1] (σ7.bump 13) fun v9 σ10=>
tpI v9 0 fun v11=>
tpI v9 1 fun v12=>
ifB (decide (v12≠0)) (
Q (.tup [.int .i64 0,.int .i64 v12]) (σ10.bump 5)) (
iW (v3*2) fun v13=>
letW (bitsOp .or .i64 v13 v11) fun v14=>
iW (v4*2) fun v15=>
iW (v14-v15) fun v16=>
nfW 2 a0 fun v17=>
idxAW 16 1 v17 v6 fun v18=>
ldI (σ10.bump 22) v18 fun v19=>
ifB (decide (v16<v19)) (
lfW 18 (σ10.bump 33) a0 fun v20=>
iW (v5+v16) fun v21=>
idxW 1 v20 v21 fun v22=>
ldI (σ10.bump 33) v22 fun v23=>
Q (.tup [.int .i64 v23,.int .i64 0]) (σ10.bump 33)) (
nfW 2 a0 fun v24=>
idxAW 16 1 v24 v6 fun v25=>
ldI (σ10.bump 31) v25 fun v26=>
iW (v15+v26) fun v27=>
nfW 2 a0 fun v28=>
idxAW 16 1 v28 v6 fun v29=>
ldI (σ10.bump 40) v29 fun v30=>
iW (v5+v30) fun v31=>
iW (v6+1) fun v32=>
next2 v14 v27 v31 v32 (σ10.bump 43)))) (
Q (.tup [.int .i64 0,.int .i64 12]) (σ7.bump 8))
def F_huff_Table_Next (a0:AV) (a1:AV) (σ:Mem) (Q:AV->Mem->Prop):Prop:=
eqW .ptr a0 .nilp fun v0=>
ifB v0 (
Q (.tup [.int .i64 0,.int .i64 2]) (σ.bump 10)) (
eqW .ptr a1 .nilp fun v1=>
ifB v1 (
Q (.tup [.int .i64 0,.int .i64 2]) (σ.bump 10)) (
loopF [tI,tI,tI,tI] (F_huff_Table_Next_l1 a0 a1 Q) 0 0 0 1 (σ.bump 12)))
theorem ok_huff_Table_Next {a0 a1 σ Q} (h:σ.Live->F_huff_Table_Next a0 a1 σ Q):ACalls PG n_huff_Table_Next [a0,a1] σ Q:=
 .of_sem [none,none,none,none,none,none,none,some ([0,1],[6,7,8,9]),none,none,none,none,none,none,none,none,none,none,none,none,none,none,none,none,none] [(6,tI),(7,tI),(8,tI),(9,tI),(23,tI),(30,tI),(31,tI),(50,tI),(60,tI),(67,tI),(75,tI)] mixed (by kernel_rfl) (by kernel_rfl) h
/-! (*vitrine/bits.Reader).Left -/
def F_bits_Reader_Left (a0:AV) (σ:Mem) (Q:AV->Mem->Prop):Prop:=
eqW .ptr a0 .nilp fun v0=>
ifB v0 (
Q (.int .i64 0) (σ.bump 4)) (
lfS 0 (σ.bump 15) a0 fun v1=>
iW (8*(v1.size:Int)) fun v2=>
lfI 2 (σ.bump 15) a0 fun v3=>
iW (v2+v3) fun v4=>
Q (.int .i64 v4) (σ.bump 15))
theorem ok_bits_Reader_Left {a0 σ Q} (h:σ.Live->F_bits_Reader_Left a0 σ Q):ACalls PG n_bits_Reader_Left [a0] σ Q:=
 .of_sem [none,none,none,none,none] [(8,.s),(14,tI)] mixed (by kernel_rfl) (by kernel_rfl) h
/-! math/bits.Mul -/
def F_math_bits_Mul (a0:Int) (a1:Int) (σ:Mem) (Q:AV->Mem->Prop):Prop:=
callW PG n_math_bits_Mul64 [.int .u64 a0,.int .u64 a1] (σ.bump 10) fun v0 σ1=>
tupW v0 0 fun a=>castI .u64 a fun v2=>
tupW v0 1 fun a=>castI .u64 a fun v3=>
Q (.tup [.int .u64 v2,.int .u64 v3]) (σ1.bump 4)
theorem ok_math_bits_Mul {a0 a1 σ Q} (h:σ.Live->F_math_bits_Mul a0 a1 σ Q):ACalls PG n_math_bits_Mul [.int .u64 a0,.int .u64 a1] σ Q:=
 .of_sem [none,none,none,none,none,none] [(16,(.i .u32)),(17,(.i .u32)),(26,(.i .u64)),(27,(.i .u64))] mixed (by kernel_rfl) (by kernel_rfl) h
/-! vitrine/huff.Codes -/
def F_huff_Codes_j1 (next12:Int->Mem->Prop) (v13:Int) (σ17:Mem):Prop:=
iW (v13+1) fun v18=>
next12 v18 (σ17.bump 2)
def F_huff_Codes_l1 (a0:AV) (Q:AV->Mem->Prop) (σ1:Mem) (σ8:Mem) (v9:Int) (v11:Int) (next12:Int->Mem->Prop) (v13:Int) (σ14:Mem):Prop:=
ifB (decide (v13<v11)) (
idxW 1 a0 v13 fun v15=>
ldI (σ14.bump 6) v15 fun v16=>
joinF [] (fun (k19:Mem->Prop)=>
ifB (decide (0<v16)) (
idxAW 16 1 (.ptr (σ1.next+5) 0) v16 fun v20=>
ldI (σ14.bump 15) v20 fun v21=>
idxW 1 (.slice (σ8.next+2) 0 (Int.toNat v9) (.ex (Int.toNat v9))) v13 fun v22=>
stW 1 (σ14.bump 15) v22 (.int .i64 v21) fun σ23=>
idxAW 16 1 (.ptr (σ1.next+5) 0) v16 fun v24=>
ldI (σ23.bump 6) v24 fun v25=>
iW (v25+1) fun v26=>
idxAW 16 1 (.ptr (σ1.next+5) 0) v16 fun v27=>
stW 1 (σ23.bump 6) v27 (.int .i64 v26) fun σ28=>
k19 σ28) (
k19 (σ14.bump 8))) (F_huff_Codes_j1 next12 v13)) (
Q (.tup [.slice (σ8.next+2) 0 (Int.toNat v9) (.ex (Int.toNat v9)),.int .i64 0]) (σ14.bump 4))
def F_huff_Codes (a0:AV) (σ:Mem) (Q:AV->Mem->Prop):Prop:=
callW PG n_huff_Check [a0] (σ.bump 5) fun v0 σ1=>
castI .i64 v0 fun v2=>
ifB (decide (v2≠0)) (
Q (.tup [.nils,.int .i64 v2]) (σ1.bump 5)) (
callW PG n_huff_counted [a0] (σ1.bump 7) fun v3 σ4=>
callW PG n_huff_first [v3] σ4 fun v5 σ6=>
newW σ6 (σ1.next+5) (.rw (List.replicate 16 (.int .i64 0))) fun σ7=>
stW 16 σ7 (.ptr (σ1.next+5) 0) v5 fun σ8=>
slenW a0 fun v9=>
makeW 8 v9 v9 (
newW (σ8.bump 4) (σ8.next+2) (.rw (repl (Int.toNat v9) [.int .i64 0])) fun σ10=>
slenW a0 fun v11=>
loopF [tI] (F_huff_Codes_l1 a0 Q σ1 σ8 v9 v11) 0 (σ10.bump 3)))
theorem ok_huff_Codes {a0 σ Q} (h:σ.Live->F_huff_Codes a0 σ Q):ACalls PG n_huff_Codes [a0] σ Q:=
 .of_sem [none,none,none,none,none,none,none,none,none,some ([5,6,20,21],[22]),none,none,none,none,none,some ([5,6,20,21,22],[]),none,none,none,none] [(10,tI),(22,tI),(26,tI),(33,tI),(37,tI)] mixed (by kernel_rfl) (by kernel_rfl) h
/-! slices.Clone[[]int,int] -/
def F_slices_Clone___int_int_ (a0:AV) (σ:Mem) (Q:AV->Mem->Prop):Prop:=
eqW .sl a0 .nils fun v0=>
ifB v0 (
Q .nils (σ.bump 4)) (
newW (σ.bump 7) (σ.next+3) (.rw []) fun σ1=>
apW 1 8 (σ.next+5) σ1 (.slice (σ.next+3) 0 0 (.ex 0)) a0 fun v2 σ3=>
Q v2 σ3)
theorem ok_slices_Clone___int_int_ {a0 σ Q} (h:σ.Live->F_slices_Clone___int_int_ a0 σ Q):ACalls PG n_slices_Clone___int_int_ [a0] σ Q:=
 .of_sem [none,none,none,none,none] [] mixed (by kernel_rfl) (by kernel_rfl) h
/-! vitrine/huff.counted -/
def F_huff_counted_j1 (next3:Int->Mem->Prop) (v4:Int) (σ8:Mem):Prop:=
iW (v4+1) fun v9=>
next3 v9 (σ8.bump 2)
def F_huff_counted_l1 (a0:AV) (Q:AV->Mem->Prop) (σ:Mem) (σ0:Mem) (v2:Int) (next3:Int->Mem->Prop) (v4:Int) (σ5:Mem):Prop:=
ifB (decide (v4<v2)) (
idxW 1 a0 v4 fun v6=>
ldI (σ5.bump 4) v6 fun v7=>
joinF [] (fun (k10:Mem->Prop)=>
ifB (decide (0<v7)) (
idxAW 16 1 (.ptr σ0.next 0) v7 fun v11=>
ldI (σ5.bump 12) v11 fun v12=>
iW (v12+1) fun v13=>
idxAW 16 1 (.ptr σ0.next 0) v7 fun v14=>
stW 1 (σ5.bump 12) v14 (.int .i64 v13) fun σ15=>
k10 σ15) (
k10 (σ5.bump 6))) (F_huff_counted_j1 next3 v4)) (
ldnW 16 (σ5.bump 3) (.ptr σ0.next 0) fun v16=>
stW 16 (σ5.bump 3) (.ptr σ.next 0) v16 fun σ17=>
ldnW 16 σ17 (.ptr σ.next 0) fun v18=>
Q v18 σ17)
def F_huff_counted (a0:AV) (σ:Mem) (Q:AV->Mem->Prop):Prop:=
newW (σ.bump 1) σ.next (.rw (List.replicate 16 (.int .i64 0))) fun σ0=>
newW (σ0.bump 1) σ0.next (.rw (List.replicate 16 (.int .i64 0))) fun σ1=>
slenW a0 fun v2=>
loopF [tI] (F_huff_counted_l1 a0 Q σ σ0 v2) 0 (σ1.bump 3)
theorem ok_huff_counted {a0 σ Q} (h:σ.Live->F_huff_counted a0 σ Q):ACalls PG n_huff_counted [a0] σ Q:=
 .of_sem [none,none,none,none,some ([2,3,6,7],[8]),none,none,none,none,none,some ([2,3,6,7,8],[]),none,none,none] [(8,tI),(11,tI),(16,tI)] mixed (by kernel_rfl) (by kernel_rfl) h
/-! slices.SortStableFunc[[]int,int] -/
def F_slices_SortStableFunc___int_int_ (a0:AV) (a1:AV) (σ:Mem) (Q:AV->Mem->Prop):Prop:=
slenW a0 fun v0=>
callW PG n_slices_stableCmpFunc_int_ [a0,.int .i64 v0,a1] (σ.bump 5) fun v1 σ2=>
Q (.tup []) σ2
theorem ok_slices_SortStableFunc___int_int_ {a0 a1 σ Q} (h:σ.Live->F_slices_SortStableFunc___int_int_ a0 a1 σ Q):ACalls PG n_slices_SortStableFunc___int_int_ [a0,a1] σ Q:=
 .of_sem [none] [] mixed (by kernel_rfl) (by kernel_rfl) h
/-! vitrine/huff.Make$1 -/
def F_huff_Make_1 (a0:Int) (a1:Int) (a2:AV) (σ:Mem) (Q:AV->Mem->Prop):Prop:=
ldW (σ.bump 11) a2 fun v0=>
idxW 1 v0 a0 fun v1=>
ldI (σ.bump 11) v1 fun v2=>
ldW (σ.bump 11) a2 fun v3=>
idxW 1 v3 a1 fun v4=>
ldI (σ.bump 11) v4 fun v5=>
callW PG n_cmp_Compare_int_ [.int .i64 v2,.int .i64 v5] (σ.bump 11) fun v6 σ7=>
castI .i64 v6 fun v8=>
Q (.int .i64 v8) σ7
theorem ok_huff_Make_1 {a0 a1 a2 σ Q} (h:σ.Live->F_huff_Make_1 a0 a1 a2 σ Q):ACalls PG n_huff_Make_1 [.int .i64 a0,.int .i64 a1,a2] σ Q:=
 .of_sem [none,none] [(9,tI),(13,tI),(14,tI)] mixed (by kernel_rfl) (by kernel_rfl) h
/-! cmp.Compare[int] -/
def F_cmp_Compare_int_ (a0:Int) (a1:Int) (σ:Mem) (Q:AV->Mem->Prop):Prop:=
callW PG n_cmp_isNaN_int_ [.int .i64 a0] (σ.bump 4) fun v0 σ1=>
castB v0 fun v2=>
callW PG n_cmp_isNaN_int_ [.int .i64 a1] (σ1.bump 3) fun v3 σ4=>
castB v3 fun v5=>
ifB v2 (
ifB v5 (
Q (.int .i64 0) (σ4.bump 3)) (
Q (.int .i64 (-1)) (σ4.bump 3))) (
ifB v5 (
Q (.int .i64 1) (σ4.bump 3)) (
ifB (decide (a0<a1)) (
Q (.int .i64 (-1)) (σ4.bump 6)) (
ifB (decide (a1<a0)) (
Q (.int .i64 1) (σ4.bump 9)) (
Q (.int .i64 0) (σ4.bump 9)))))
theorem ok_cmp_Compare_int_ {a0 a1 σ Q} (h:σ.Live->F_cmp_Compare_int_ a0 a1 σ Q):ACalls PG n_cmp_Compare_int_ [.int .i64 a0,.int .i64 a1] σ Q:=
 .of_sem [none,none,none,none,none,none,none,none,none,none,none,none,none,none,none,none,none,none,none] [(8,.b),(10,.b)] mixed (by kernel_rfl) (by kernel_rfl) h
/-! vitrine/deflate.symbols$1 -/
def F_deflate_symbols_1 (a0:AV) (a1:AV) (a2:AV) (σ:Mem) (Q:AV->Mem->Prop):Prop:=
boxW a1 (
newW (σ.bump 1) σ.next (.rw a1.cells) fun σ0=>
ldW (σ0.bump 5) a2 fun v1=>
fldW 0 (.ptr σ.next 0) fun v2=>
ldI (σ0.bump 5) v2 fun v3=>
callW PG n_huff_Table_Lay [a0,v1,.int .i64 v3] (σ0.bump 5) fun v4 σ5=>
castI .i64 v4 fun v6=>
ldW (σ5.bump 6) a2 fun v7=>
fldW 1 (.ptr σ.next 0) fun v8=>
ldI (σ5.bump 6) v8 fun v9=>
fldW 2 (.ptr σ.next 0) fun v10=>
ldI (σ5.bump 6) v10 fun v11=>
callW PG n_bits_Writer_Bits [v7,.int .i64 v9,.int .i64 v11] (σ5.bump 6) fun v12 σ13=>
Q (.tup []) σ13)
theorem ok_deflate_symbols_1 {a0 a1 a2 σ Q} (h:σ.Live->F_deflate_symbols_1 a0 a1 a2 σ Q):ACalls PG n_deflate_symbols_1 [a0,a1,a2] σ Q:=
 .of_sem [none,none,none] [(8,tI),(9,tI),(12,tI),(14,tI)] mixed (by kernel_rfl) (by kernel_rfl) h
/-! vitrine/deflate.length -/
def F_deflate_length_l1 (Q:AV->Mem->Prop) (σ:Mem) (v7:Int) (next8:Int->Mem->Prop) (v9:Int) (σ10:Mem):Prop:=
shrW .i64 v7 v9 fun v11=>
ifB (decide (8<=v11)) (
iW (v9+1) fun v12=>
next8 v12 (σ10.bump 7)) (
iW (4*v9) fun v13=>
iW (257+v13) fun v14=>
shrW .i64 v7 v9 fun v15=>
iW (v14+v15) fun v16=>
shlW .i64 1 v9 fun v17=>
iW (v17-1) fun v18=>
letW (bitsOp .and .i64 v7 v18) fun v19=>
stW 3 (σ10.bump 19) (.ptr σ.next 0) (.agg [.int .i64 v16,.int .i64 v19,.int .i64 v9]) fun σ20=>
ldnW 3 σ20 (.ptr σ.next 0) fun v21=>
Q v21 σ20)
def F_deflate_length (a0:Int) (σ:Mem) (Q:AV->Mem->Prop):Prop:=
newW (σ.bump 1) σ.next (.rw [.int .i64 0,.int .i64 0,.int .i64 0]) fun σ0=>
ifB (decide (a0=258)) (
stW 3 (σ0.bump 5) (.ptr σ.next 0) (.agg [.int .i64 285,.int .i64 0,.int .i64 0]) fun σ1=>
ldnW 3 σ1 (.ptr σ.next 0) fun v2=>
Q v2 σ1) (
ifB (decide (a0<11)) (
iW (257+a0) fun v3=>
iW (v3-3) fun v4=>
stW 3 (σ0.bump 11) (.ptr σ.next 0) (.agg [.int .i64 v4,.int .i64 0,.int .i64 0]) fun σ5=>
ldnW 3 σ5 (.ptr σ.next 0) fun v6=>
Q v6 σ5) (
iW (a0-3) fun v7=>
loopF [tI] (F_deflate_length_l1 Q σ v7) 0 (σ0.bump 10)))
theorem ok_deflate_length {a0 σ Q} (h:σ.Live->F_deflate_length a0 σ Q):ACalls PG n_deflate_length [.int .i64 a0] σ Q:=
 .of_sem [none,none,none,none,none,none,none,none,none,none,none,some ([0,2],[3]),none,none,none,none,none] [(3,tI)] mixed (by kernel_rfl) (by kernel_rfl) h
/-! vitrine/deflate.distance -/
def F_deflate_distance_l1 (Q:AV->Mem->Prop) (σ:Mem) (v1:Int) (next4:Int->Mem->Prop) (v5:Int) (σ6:Mem):Prop:=
shrW .i64 v1 v5 fun v7=>
ifB (decide (4<=v7)) (
iW (v5+1) fun v8=>
next4 v8 (σ6.bump 7)) (
iW (2*v5) fun v9=>
shrW .i64 v1 v5 fun v10=>
iW (v9+v10) fun v11=>
shlW .i64 1 v5 fun v12=>
iW (v12-1) fun v13=>
letW (bitsOp .and .i64 v1 v13) fun v14=>
stW 3 (σ6.bump 18) (.ptr σ.next 0) (.agg [.int .i64 v11,.int .i64 v14,.int .i64 v5]) fun σ15=>
ldnW 3 σ15 (.ptr σ.next 0) fun v16=>
Q v16 σ15)
def F_deflate_distance (a0:Int) (σ:Mem) (Q:AV->Mem->Prop):Prop:=
newW (σ.bump 1) σ.next (.rw [.int .i64 0,.int .i64 0,.int .i64 0]) fun σ0=>
iW (a0-1) fun v1=>
ifB (decide (v1<4)) (
stW 3 (σ0.bump 8) (.ptr σ.next 0) (.agg [.int .i64 v1,.int .i64 0,.int .i64 0]) fun σ2=>
ldnW 3 σ2 (.ptr σ.next 0) fun v3=>
Q v3 σ2) (
loopF [tI] (F_deflate_distance_l1 Q σ v1) 0 (σ0.bump 6))
theorem ok_deflate_distance {a0 σ Q} (h:σ.Live->F_deflate_distance a0 σ Q):ACalls PG n_deflate_distance [.int .i64 a0] σ Q:=
 .of_sem [none,none,none,none,none,none,none,some ([0,2],[3]),none,none,none,none,none] [(3,tI)] mixed (by kernel_rfl) (by kernel_rfl) h
/-! vitrine/lz.Tokens$1 -/
def F_lz_Tokens_1_j1 (Q:AV->Mem->Prop) (σ0:Mem):Prop:=
Q (.tup []) σ0
def F_lz_Tokens_1_l1 (a0:Int) (a1:Int) (a2:AV) (a3:AV) (k1:Mem->Prop) (next2:Int->Mem->Prop) (v3:Int) (σ4:Mem):Prop:=
iW (a0+a1) fun v5=>
ifB (decide (v3<v5)) (
iW (v3+3) fun v6=>
ldS (σ4.bump 12) a2 fun v7=>
ifB (decide (v6<=(v7.size:Int))) (
ldS (σ4.bump 18) a2 fun v8=>
iW (v3+3) fun v9=>
subW v8 v3 v9 fun v10=>
ldW (σ4.bump 27) a3 fun v11=>
ldW (σ4.bump 27) a3 fun v12=>
lookW (σ4.bump 27) .nils false v12 (.str v10) fun v13=>
newW (σ4.bump 27) (σ4.next+24) (.rw [.int .i64 v3]) fun σ14=>
apW 1 8 (σ4.next+25) σ14 v13 (.slice (σ4.next+24) 0 1 (.ex 1)) fun v15 σ16=>
fltS.sameW σ14 σ16 a3 (
mupW σ16 v11 (.str v10) v15 fun σ17=>
iW (v3+1) fun v18=>
next2 v18 (σ17.bump 3))) (
k1 (σ4.bump 12))) (
k1 (σ4.bump 12))
def F_lz_Tokens_1 (a0:Int) (a1:Int) (a2:AV) (a3:AV) (σ:Mem) (Q:AV->Mem->Prop):Prop:=
joinF [] (fun (k1:Mem->Prop)=>
loopF [tI] (F_lz_Tokens_1_l1 a0 a1 a2 a3 k1) a0 (σ.bump 2)) (F_lz_Tokens_1_j1 Q)
theorem ok_lz_Tokens_1 {a0 a1 a2 a3 σ Q} (h:σ.Live->F_lz_Tokens_1 a0 a1 a2 a3 σ Q):ACalls PG n_lz_Tokens_1 [.int .i64 a0,.int .i64 a1,a2,a3] σ Q:=
 .of_sem [none,some ([],[]),some ([0,1,2,3],[6]),none,none,none,none,none,none] [(6,tI),(17,.s),(23,.s)] mixed (by kernel_rfl) (by kernel_rfl) h
/-! slices.ContainsFunc[[]int,int] -/
def F_slices_ContainsFunc___int_int_ (a0:AV) (a1:AV) (σ:Mem) (Q:AV->Mem->Prop):Prop:=
callW PG n_slices_IndexFunc___int_int_ [a0,a1] (σ.bump 6) fun v0 σ1=>
castI .i64 v0 fun v2=>
Q (.bool (decide (0<=v2))) σ1
theorem ok_slices_ContainsFunc___int_int_ {a0 a1 σ Q} (h:σ.Live->F_slices_ContainsFunc___int_int_ a0 a1 σ Q):ACalls PG n_slices_ContainsFunc___int_int_ [a0,a1] σ Q:=
 .of_sem [none,none] [(7,tI)] mixed (by kernel_rfl) (by kernel_rfl) h
/-! vitrine/huff.Limit$1 -/
def F_huff_Limit_1 (a0:Int) (σ:Mem) (Q:AV->Mem->Prop):Prop:=
ifB (decide (a0<0)) (
Q (.bool true) (σ.bump 8)) (
Q (.bool (decide (1000000000<a0))) (σ.bump 8))
theorem ok_huff_Limit_1 {a0 σ Q} (h:σ.Live->F_huff_Limit_1 a0 σ Q):ACalls PG n_huff_Limit_1 [.int .i64 a0] σ Q:=
 .of_sem [none,none] [] mixed (by kernel_rfl) (by kernel_rfl) h
/-! (*vitrine/bits.Reader).Bits -/
def F_bits_Reader_Bits_l1 (a0:AV) (a1:Int) (Q:AV->Mem->Prop) (next4:Mem->Prop) (σ5:Mem):Prop:=
lfI 2 (σ5.bump 6) a0 fun v6=>
ifB (decide (v6<a1)) (
lfI 1 (σ5.bump 25) a0 fun v7=>
lfS 0 (σ5.bump 25) a0 fun v8=>
sidxW v8 0 fun v9=>
iW v9 fun v10=>
lfI 2 (σ5.bump 25) a0 fun v11=>
shlW .i64 v10 v11 fun v12=>
letW (bitsOp .or .i64 v7 v12) fun v13=>
nfW 1 a0 fun v14=>
stW 1 (σ5.bump 25) v14 (.int .i64 v13) fun σ15=>
lfI 2 (σ15.bump 8) a0 fun v16=>
iW (v16+8) fun v17=>
nfW 2 a0 fun v18=>
stW 1 (σ15.bump 8) v18 (.int .i64 v17) fun σ19=>
lfS 0 (σ19.bump 9) a0 fun v20=>
subW v20 1 v20.size fun v21=>
nfW 0 a0 fun v22=>
stW 1 (σ19.bump 9) v22 (.str v21) fun σ23=>
next4 σ23) (
lfI 1 (σ5.bump 15) a0 fun v24=>
shlW .i64 1 a1 fun v25=>
iW (v25-1) fun v26=>
letW (bitsOp .and .i64 v24 v26) fun v27=>
lfI 1 (σ5.bump 24) a0 fun v28=>
shrW .i64 v28 a1 fun v29=>
nfW 1 a0 fun v30=>
stW 1 (σ5.bump 24) v30 (.int .i64 v29) fun σ31=>
lfI 2 (σ31.bump 9) a0 fun v32=>
iW (v32-a1) fun v33=>
nfW 2 a0 fun v34=>
stW 1 (σ31.bump 9) v34 (.int .i64 v33) fun σ35=>
Q (.tup [.int .i64 v27,.int .i64 0]) (σ35.bump 3))
def F_bits_Reader_Bits (a0:AV) (a1:Int) (σ:Mem) (Q:AV->Mem->Prop):Prop:=
eqW .ptr a0 .nilp fun v0=>
ifB v0 (
Q (.tup [.int .i64 0,.int .i64 2]) (σ.bump 7)) (
ifB (decide (a1<0)) (
Q (.tup [.int .i64 0,.int .i64 1]) (σ.bump 14)) (
ifB (decide (24<a1)) (
Q (.tup [.int .i64 0,.int .i64 1]) (σ.bump 14)) (
callW PG n_bits_Reader_Left [a0] (σ.bump 17) fun v1 σ2=>
castI .i64 v1 fun v3=>
ifB (decide (v3<a1)) (
Q (.tup [.int .i64 0,.int .i64 3]) (σ2.bump 2)) (
loopF [] (F_bits_Reader_Bits_l1 a0 a1 Q) σ2))))
theorem ok_bits_Reader_Bits {a0 a1 σ Q} (h:σ.Live->F_bits_Reader_Bits a0 a1 σ Q):ACalls PG n_bits_Reader_Bits [a0,.int .i64 a1] σ Q:=
 .of_sem [none,none,none,none,none,none,none,none,none,none,none,none,some ([0,1],[]),none,none,none,none,none,none,none,none,none,none] [(20,tI),(25,tI),(31,tI),(35,.s),(41,tI),(49,tI),(57,.s),(64,tI),(72,tI),(80,tI)] mixed (by kernel_rfl) (by kernel_rfl) h
/-! (*vitrine/inflate.stream).pair -/
def F_inflate_stream_pair (a0:AV) (σ:Mem) (Q:AV->Mem->Prop):Prop:=
lfW 0 (σ.bump 12) a0 fun v0=>
callW PG n_bits_Reader_Bytes [v0,.int .i64 2] (σ.bump 12) fun v1 σ2=>
tpS v1 0 fun v3=>
tpI v1 1 fun v4=>
ifB (decide (v4≠0)) (
Q (.tup [.int .i64 0,.int .i64 v4]) (σ2.bump 5)) (
sidxW v3 0 fun v5=>
iW v5 fun v6=>
sidxW v3 1 fun v7=>
iW v7 fun v8=>
iW (v8*256) fun v9=>
letW (bitsOp .or .i64 v6 v9) fun v10=>
Q (.tup [.int .i64 v10,.int .i64 0]) (σ2.bump 12))
theorem ok_inflate_stream_pair {a0 σ Q} (h:σ.Live->F_inflate_stream_pair a0 σ Q):ACalls PG n_inflate_stream_pair [a0] σ Q:=
 .of_sem [none,none,none,none,none,none] [(12,.s),(13,tI)] mixed (by kernel_rfl) (by kernel_rfl) h
/-! (*vitrine/bits.Reader).Bytes -/
def F_bits_Reader_Bytes (a0:AV) (a1:Int) (σ:Mem) (Q:AV->Mem->Prop):Prop:=
eqW .ptr a0 .nilp fun v0=>
ifB v0 (
Q (.tup [.str ⟨#[]⟩,.int .i64 2]) (σ.bump 7)) (
ifB (decide (a1<0)) (
Q (.tup [.str ⟨#[]⟩,.int .i64 1]) (σ.bump 10)) (
nfW 1 a0 fun v1=>
stW 1 (σ.bump 16) v1 (.int .i64 0) fun σ2=>
nfW 2 a0 fun v3=>
stW 1 σ2 v3 (.int .i64 0) fun σ4=>
lfS 0 (σ4.bump 7) a0 fun v5=>
ifB (decide ((v5.size:Int)<a1)) (
Q (.tup [.str ⟨#[]⟩,.int .i64 3]) (σ4.bump 9)) (
lfS 0 (σ4.bump 14) a0 fun v6=>
subW v6 0 a1 fun v7=>
lfS 0 (σ4.bump 24) a0 fun v8=>
subW v8 a1 v8.size fun v9=>
nfW 0 a0 fun v10=>
stW 1 (σ4.bump 24) v10 (.str v9) fun σ11=>
Q (.tup [.str v7,.int .i64 0]) (σ11.bump 3))))
theorem ok_bits_Reader_Bytes {a0 a1 σ Q} (h:σ.Live->F_bits_Reader_Bytes a0 a1 σ Q):ACalls PG n_bits_Reader_Bytes [a0,.int .i64 a1] σ Q:=
 .of_sem [none,none,none,none,none,none,none,none,none,none,none,none,none,none,none] [(23,.s),(29,.s),(36,.s)] mixed (by kernel_rfl) (by kernel_rfl) h
/-! (*vitrine/inflate.stream).small -/
def F_inflate_stream_small_l1 (a0:AV) (Q:AV->Mem->Prop) (σ:Mem) (v2:AV) (v3:Int) (next4:Int->Mem->Prop) (v5:Int) (σ6:Mem):Prop:=
ifB (decide (v5<v3)) (
idxW 1 v2 v5 fun v7=>
ldI (σ6.bump 4) v7 fun v8=>
lfW 0 (σ6.bump 14) a0 fun v9=>
callW PG n_bits_Reader_Bits [v9,.int .i64 3] (σ6.bump 14) fun v10 σ11=>
tpI v10 0 fun v12=>
tpI v10 1 fun v13=>
ifB (decide (v13≠0)) (
Q (.tup [.nilp,.int .i64 v13]) (σ11.bump 5)) (
idxAW 19 1 (.ptr (σ.next+2) 0) v8 fun v14=>
stW 1 (σ11.bump 6) v14 (.int .i64 v12) fun σ15=>
iW (v5+1) fun v16=>
next4 v16 (σ15.bump 2))) (
slaW 19 1 (.ptr (σ.next+2) 0) none none fun v17=>
callW PG n_huff_Make [v17] (σ6.bump 7) fun v18 σ19=>
tupW v18 0 fun v20=>
tpI v18 1 fun v21=>
Q (.tup [v20,.int .i64 v21]) σ19)
def F_inflate_stream_small (a0:AV) (a1:Int) (σ:Mem) (Q:AV->Mem->Prop):Prop:=
newW (σ.bump 3) (σ.next+2) (.rw (List.replicate 19 (.int .i64 0))) fun σ0=>
newW (σ0.bump 5) σ0.next (.rw [.int .i64 16,.int .i64 17,.int .i64 18,.int .i64 0,.int .i64 8,.int .i64 7,.int .i64 9,.int .i64 6,.int .i64 10,.int .i64 5,.int .i64 11,.int .i64 4,.int .i64 12,.int .i64 3,.int .i64 13,.int .i64 2,.int .i64 14,.int .i64 1,.int .i64 15]) fun σ1=>
slcW 1 (.slice σ0.next 0 19 (.ex 19)) none (some a1) fun v2=>
slenW v2 fun v3=>
loopF [tI] (F_inflate_stream_small_l1 a0 Q σ v2 v3) 0 σ1
theorem ok_inflate_stream_small {a0 a1 σ Q} (h:σ.Live->F_inflate_stream_small a0 a1 σ Q):ACalls PG n_inflate_stream_small [a0,.int .i64 a1] σ Q:=
 .of_sem [none,none,none,none,some ([0,6,13,14],[15]),none,none,none,none,none,none,none,none,none,none,none] [(15,tI),(18,tI),(25,tI),(26,tI),(37,tI)] mixed (by kernel_rfl) (by kernel_rfl) h
/-! (*vitrine/inflate.stream).run -/
def F_inflate_stream_run (a0:AV) (a1:AV) (a2:AV) (σ:Mem) (Q:AV->Mem->Prop):Prop:=
lfW 0 (σ.bump 14) a0 fun v0=>
callW PG n_huff_Table_Next [a1,v0] (σ.bump 14) fun v1 σ2=>
tpI v1 0 fun v3=>
tpI v1 1 fun v4=>
ifB (decide (v4≠0)) (
Q (.tup [.int .i64 v3,.int .i64 1,.int .i64 v4]) (σ2.bump 11)) (
ifB (decide (v3<16)) (
Q (.tup [.int .i64 v3,.int .i64 1,.int .i64 v4]) (σ2.bump 11)) (
ifB (decide (v3=16)) (
slenW a2 fun v5=>
ifB (decide (v5=0)) (
Q (.tup [.int .i64 0,.int .i64 0,.int .i64 12]) (σ2.bump 16)) (
iW (v3-16) fun v6=>
aidxW 3 1 none (.agg [.int .i64 2,.int .i64 3,.int .i64 7]) v6 fun a=>castI .i64 a fun v7=>
lfW 0 (σ2.bump 29) a0 fun v8=>
callW PG n_bits_Reader_Bits [v8,.int .i64 v7] (σ2.bump 29) fun v9 σ10=>
tpI v9 0 fun v11=>
tpI v9 1 fun v12=>
iW (v3-16) fun v13=>
aidxW 3 1 none (.agg [.int .i64 3,.int .i64 3,.int .i64 11]) v13 fun a=>castI .i64 a fun v14=>
iW (v11+v14) fun v15=>
ifB (decide (v3=16)) (
slenW a2 fun v16=>
iW (v16-1) fun v17=>
idxW 1 a2 v17 fun v18=>
ldI (σ10.bump 20) v18 fun v19=>
Q (.tup [.int .i64 v19,.int .i64 v15,.int .i64 v12]) (σ10.bump 20)) (
Q (.tup [.int .i64 0,.int .i64 v15,.int .i64 v12]) (σ10.bump 14)))) (
iW (v3-16) fun v20=>
aidxW 3 1 none (.agg [.int .i64 2,.int .i64 3,.int .i64 7]) v20 fun a=>castI .i64 a fun v21=>
lfW 0 (σ2.bump 29) a0 fun v22=>
callW PG n_bits_Reader_Bits [v22,.int .i64 v21] (σ2.bump 29) fun v23 σ24=>
tpI v23 0 fun v25=>
tpI v23 1 fun v26=>
iW (v3-16) fun v27=>
aidxW 3 1 none (.agg [.int .i64 3,.int .i64 3,.int .i64 11]) v27 fun a=>castI .i64 a fun v28=>
iW (v25+v28) fun v29=>
ifB (decide (v3=16)) (
slenW a2 fun v30=>
iW (v30-1) fun v31=>
idxW 1 a2 v31 fun v32=>
ldI (σ24.bump 20) v32 fun v33=>
Q (.tup [.int .i64 v33,.int .i64 v29,.int .i64 v26]) (σ24.bump 20)) (
Q (.tup [.int .i64 0,.int .i64 v29,.int .i64 v26]) (σ24.bump 14)))))
theorem ok_inflate_stream_run {a0 a1 a2 σ Q} (h:σ.Live->F_inflate_stream_run a0 a1 a2 σ Q):ACalls PG n_inflate_stream_run [a0,a1,a2] σ Q:=
 .of_sem [none,none,none,none,none,none,none,none,none,none,none,none,none,none,none] [(21,tI),(22,tI),(41,tI),(49,tI),(50,tI),(55,tI),(64,tI)] mixed (by kernel_rfl) (by kernel_rfl) h
/-! (*vitrine/inflate.stream).length -/
def F_inflate_stream_length (a0:AV) (a1:Int) (σ:Mem) (Q:AV->Mem->Prop):Prop:=
iW (a1-257) fun v0=>
ifB (decide (285<a1)) (
Q (.tup [.int .i64 0,.int .i64 12]) (σ.bump 10)) (
ifB (decide (a1=285)) (
Q (.tup [.int .i64 258,.int .i64 0]) (σ.bump 13)) (
ifB (decide (v0<8)) (
iW (v0+3) fun v1=>
Q (.tup [.int .i64 v1,.int .i64 0]) (σ.bump 18)) (
quoW .i64 v0 4 fun v2=>
iW (v2-1) fun v3=>
lfW 0 (σ.bump 29) a0 fun v4=>
callW PG n_bits_Reader_Bits [v4,.int .i64 v3] (σ.bump 29) fun v5 σ6=>
tpI v5 0 fun v7=>
tpI v5 1 fun v8=>
remW v0 4 fun v9=>
iW (4+v9) fun v10=>
shlW .i64 v10 v3 fun v11=>
iW (v11+3) fun v12=>
iW (v12+v7) fun v13=>
Q (.tup [.int .i64 v13,.int .i64 v8]) (σ6.bump 11))))
theorem ok_inflate_stream_length {a0 a1 σ Q} (h:σ.Live->F_inflate_stream_length a0 a1 σ Q):ACalls PG n_inflate_stream_length [a0,.int .i64 a1] σ Q:=
 .of_sem [none,none,none,none,none,none,none,none,none,none,none,none,none,none,none] [(33,tI),(34,tI)] mixed (by kernel_rfl) (by kernel_rfl) h
/-! (*vitrine/inflate.stream).distance -/
def F_inflate_stream_distance (a0:AV) (a1:Int) (σ:Mem) (Q:AV->Mem->Prop):Prop:=
ifB (decide (29<a1)) (
Q (.tup [.int .i64 0,.int .i64 12]) (σ.bump 7)) (
ifB (decide (a1<4)) (
iW (a1+1) fun v0=>
Q (.tup [.int .i64 v0,.int .i64 0]) (σ.bump 12)) (
quoW .i64 a1 2 fun v1=>
iW (v1-1) fun v2=>
lfW 0 (σ.bump 23) a0 fun v3=>
callW PG n_bits_Reader_Bits [v3,.int .i64 v2] (σ.bump 23) fun v4 σ5=>
tpI v4 0 fun v6=>
tpI v4 1 fun v7=>
remW a1 2 fun v8=>
iW (2+v8) fun v9=>
shlW .i64 v9 v2 fun v10=>
iW (v10+1) fun v11=>
iW (v11+v6) fun v12=>
Q (.tup [.int .i64 v12,.int .i64 v7]) (σ5.bump 11)))
theorem ok_inflate_stream_distance {a0 a1 σ Q} (h:σ.Live->F_inflate_stream_distance a0 a1 σ Q):ACalls PG n_inflate_stream_distance [a0,.int .i64 a1] σ Q:=
 .of_sem [none,none,none,none,none,none,none,none,none,none,none] [(27,tI),(28,tI)] mixed (by kernel_rfl) (by kernel_rfl) h
/-! math/bits.Mul32 -/
/-! math/bits.Mul64 -/
def F_math_bits_Mul64 (a0:Int) (a1:Int) (σ:Mem) (Q:AV->Mem->Prop):Prop:=
letW (bitsOp .and .u64 a0 4294967295) fun v0=>
letW (a0 / 4294967296) fun v1=>
letW (bitsOp .and .u64 a1 4294967295) fun v2=>
letW (a1 / 4294967296) fun v3=>
wrW .u64 (v0*v2) fun v4=>
wrW .u64 (v1*v2) fun v5=>
letW (v4 / 4294967296) fun v6=>
wrW .u64 (v5+v6) fun v7=>
letW (bitsOp .and .u64 v7 4294967295) fun v8=>
letW (v7 / 4294967296) fun v9=>
wrW .u64 (v0*v3) fun v10=>
wrW .u64 (v8+v10) fun v11=>
wrW .u64 (v1*v3) fun v12=>
wrW .u64 (v12+v9) fun v13=>
letW (v11 / 4294967296) fun v14=>
wrW .u64 (v13+v14) fun v15=>
wrW .u64 (a0*a1) fun v16=>
Q (.tup [.int .u64 v15,.int .u64 v16]) (σ.bump 50)
theorem ok_math_bits_Mul64 {a0 a1 σ Q} (h:σ.Live->F_math_bits_Mul64 a0 a1 σ Q):ACalls PG n_math_bits_Mul64 [.int .u64 a0,.int .u64 a1] σ Q:=
 .of_sem [none,none,none,none,none,none,none,none,none,none,none,none] [] mixed (by kernel_rfl) (by kernel_rfl) h
/-! vitrine/huff.Check -/
def F_huff_Check_l1 (Q:AV->Mem->Prop) (σ2:Mem) (v8:AV) (next9:Int->Int->Int->Mem->Prop) (v10:Int) (v11:Int) (v12:Int) (σ13:Mem):Prop:=
ifB (decide (v12<16)) (
aidxW 16 1 none v8 v12 fun a=>castI .i64 a fun v14=>
iW (15-v12) fun v15=>
shlW .i64 v14 v15 fun v16=>
iW (v10+v16) fun v17=>
iW (v11+v14) fun v18=>
iW (v12+1) fun v19=>
next9 v17 v18 v19 (σ13.bump 18)) (
ifB (decide (32768<v10)) (
Q (.int .i64 10) (σ13.bump 5)) (
ifB (decide (v10<32768)) (
ifB (decide (0<v11)) (
ifB (decide (1<v11)) (
Q (.int .i64 11) (σ13.bump 21)) (
idxAW 16 1 (.ptr (σ2.next+2) 0) 1 fun v20=>
ldI (σ13.bump 20) v20 fun v21=>
ifB (decide (v21=0)) (
Q (.int .i64 11) (σ13.bump 21)) (
Q (.int .i64 0) (σ13.bump 21)))) (
Q (.int .i64 0) (σ13.bump 21))) (
Q (.int .i64 0) (σ13.bump 21))))
def F_huff_Check (a0:AV) (σ:Mem) (Q:AV->Mem->Prop):Prop:=
slenW a0 fun v0=>
ifB (decide (288<v0)) (
Q (.int .i64 1) (σ.bump 9)) (
callW PG n_slices_ContainsFunc___int_int_ [a0,.func 75 []] (σ.bump 8) fun v1 σ2=>
castB v1 fun v3=>
ifB v3 (
Q (.int .i64 1) (σ2.bump 1)) (
callW PG n_huff_counted [a0] (σ2.bump 4) fun v4 σ5=>
newW σ5 (σ2.next+2) (.rw (List.replicate 16 (.int .i64 0))) fun σ6=>
stW 16 σ6 (.ptr (σ2.next+2) 0) v4 fun σ7=>
ldnW 16 (σ7.bump 4) (.ptr (σ2.next+2) 0) fun v8=>
loopF [tI,tI,tI] (F_huff_Check_l1 Q σ2 v8) 0 0 0 (σ7.bump 4)))
theorem ok_huff_Check {a0 σ Q} (h:σ.Live->F_huff_Check a0 σ Q):ACalls PG n_huff_Check [a0] σ Q:=
 .of_sem [none,none,none,none,none,none,none,none,some ([3,17],[4,5,18]),none,none,none,none,none,none,none,none,none,none,none,none,none,none,none] [(13,.b),(4,tI),(5,tI),(18,tI),(21,tI),(47,tI)] mixed (by kernel_rfl) (by kernel_rfl) h
/-! vitrine/huff.first -/
def F_huff_first_l1 (Q:AV->Mem->Prop) (σ:Mem) (σ1:Mem) (next3:Int->Mem->Prop) (v4:Int) (σ5:Mem):Prop:=
ifB (decide (v4<=15)) (
iW (v4-1) fun v6=>
idxAW 16 1 (.ptr σ1.next 0) v6 fun v7=>
ldI (σ5.bump 15) v7 fun v8=>
iW (v4-1) fun v9=>
idxAW 16 1 (.ptr σ.next 0) v9 fun v10=>
ldI (σ5.bump 15) v10 fun v11=>
iW (v8+v11) fun v12=>
iW (v12*2) fun v13=>
idxAW 16 1 (.ptr σ1.next 0) v4 fun v14=>
stW 1 (σ5.bump 15) v14 (.int .i64 v13) fun σ15=>
iW (v4+1) fun v16=>
next3 v16 (σ15.bump 3)) (
ldnW 16 (σ5.bump 4) (.ptr σ1.next 0) fun v17=>
stW 16 (σ5.bump 4) (.ptr (σ.next+1) 0) v17 fun σ18=>
ldnW 16 σ18 (.ptr (σ.next+1) 0) fun v19=>
Q v19 σ18)
def F_huff_first (a0:AV) (σ:Mem) (Q:AV->Mem->Prop):Prop:=
boxW a0 (
newW (σ.bump 2) σ.next (.rw a0.cells) fun σ0=>
newW σ0 (σ.next+1) (.rw (List.replicate 16 (.int .i64 0))) fun σ1=>
newW (σ1.bump 1) σ1.next (.rw (List.replicate 16 (.int .i64 0))) fun σ2=>
loopF [tI] (F_huff_first_l1 Q σ σ1) 2 (σ2.bump 1))
theorem ok_huff_first {a0 σ Q} (h:σ.Live->F_huff_first a0 σ Q):ACalls PG n_huff_first [a0] σ Q:=
 .of_sem [none,none,none,none,some ([1,2,3],[4]),none,none,none,none,none,none] [(4,tI),(13,tI),(17,tI)] mixed (by kernel_rfl) (by kernel_rfl) h
/-! slices.stableCmpFunc[int] -/
def F_slices_stableCmpFunc_int__j1 (next9:Int->Mem->Prop) (v10:Int) (σ23:Mem):Prop:=
iW (v10*2) fun v24=>
next9 v24 (σ23.bump 3)
def F_slices_stableCmpFunc_int__l3 (a0:AV) (a1:Int) (a2:AV) (next9:Int->Mem->Prop) (v10:Int) (next13:Int->Int->Mem->Prop) (v14:Int) (v15:Int) (σ16:Mem):Prop:=
ifB (decide (v15<=a1)) (
iW (v14+v10) fun v17=>
callW PG n_slices_symMergeCmpFunc_int_ [a0,.int .i64 v14,.int .i64 v17,.int .i64 v15,a2] (σ16.bump 11) fun v18 σ19=>
iW (2*v10) fun v20=>
iW (v15+v20) fun v21=>
next13 v15 v21 (σ19.bump 7)) (
iW (v14+v10) fun v22=>
joinF [] (fun (k25:Mem->Prop)=>
ifB (decide (v22<a1)) (
callW PG n_slices_symMergeCmpFunc_int_ [a0,.int .i64 v14,.int .i64 v22,.int .i64 a1,a2] (σ16.bump 16) fun v26 σ27=>
k25 σ27) (
k25 (σ16.bump 10))) (F_slices_stableCmpFunc_int__j1 next9 v10))
def F_slices_stableCmpFunc_int__l2 (a0:AV) (a1:Int) (a2:AV) (Q:AV->Mem->Prop) (next9:Int->Mem->Prop) (v10:Int) (σ11:Mem):Prop:=
ifB (decide (v10<a1)) (
iW (2*v10) fun v12=>
loopF [tI,tI] (F_slices_stableCmpFunc_int__l3 a0 a1 a2 next9 v10) 0 v12 (σ11.bump 7)) (
Q (.tup []) (σ11.bump 3))
def F_slices_stableCmpFunc_int__l1 (a0:AV) (a1:Int) (a2:AV) (Q:AV->Mem->Prop) (next0:Int->Int->Mem->Prop) (v1:Int) (v2:Int) (σ3:Mem):Prop:=
ifB (decide (v2<=a1)) (
callW PG n_slices_insertionSortCmpFunc_int_ [a0,.int .i64 v1,.int .i64 v2,a2] (σ3.bump 8) fun v4 σ5=>
iW (v2+20) fun v6=>
next0 v2 v6 (σ5.bump 6)) (
callW PG n_slices_insertionSortCmpFunc_int_ [a0,.int .i64 v1,.int .i64 a1,a2] (σ3.bump 8) fun v7 σ8=>
loopF [tI] (F_slices_stableCmpFunc_int__l2 a0 a1 a2 Q) 20 σ8)
def F_slices_stableCmpFunc_int_ (a0:AV) (a1:Int) (a2:AV) (σ:Mem) (Q:AV->Mem->Prop):Prop:=
loopF [tI,tI] (F_slices_stableCmpFunc_int__l1 a0 a1 a2 Q) 0 20 (σ.bump 4)
theorem ok_slices_stableCmpFunc_int_ {a0 a1 a2 σ Q} (h:σ.Live->F_slices_stableCmpFunc_int_ a0 a1 a2 σ Q):ACalls PG n_slices_stableCmpFunc_int_ [a0,.int .i64 a1,a2] σ Q:=
 .of_sem [none,none,none,some ([0,1,2,6],[7,8]),none,none,none,none,none,none,none,none,some ([0,1,2],[6]),none,none,none,none,none,some ([0,1,2,6],[7,8]),none,none,none,none,none,none,none,none,some ([0,1,2,6],[]),none,none] [(6,tI),(7,tI),(8,tI)] mixed (by kernel_rfl) (by kernel_rfl) h
/-! cmp.isNaN[int] -/
def F_cmp_isNaN_int_ (a0:Int) (σ:Mem) (Q:AV->Mem->Prop):Prop:=
Q (.bool (decide (a0≠a0))) (σ.bump 5)
theorem ok_cmp_isNaN_int_ {a0 σ Q} (h:σ.Live->F_cmp_isNaN_int_ a0 σ Q):ACalls PG n_cmp_isNaN_int_ [.int .i64 a0] σ Q:=
 .of_sem [none,none] [] mixed (by kernel_rfl) (by kernel_rfl) h
/-! slices.IndexFunc[[]int,int] -/
def F_slices_IndexFunc___int_int__l1 (a0:AV) (a1:AV) (Q:AV->Mem->Prop) (v0:Int) (next1:Int->Mem->Prop) (v2:Int) (σ3:Mem):Prop:=
ifB (decide (v2<v0)) (
idxW 1 a0 v2 fun v4=>
ldI (σ3.bump 9) v4 fun v5=>
callvW PG a1 [.int .i64 v5] (σ3.bump 9) fun v6 σ7=>
castB v6 fun v8=>
ifB v8 (
Q (.int .i64 v2) (σ7.bump 2)) (
iW (v2+1) fun v9=>
next1 v9 (σ7.bump 2))) (
Q (.int .i64 (-1)) (σ3.bump 2))
def F_slices_IndexFunc___int_int_ (a0:AV) (a1:AV) (σ:Mem) (Q:AV->Mem->Prop):Prop:=
slenW a0 fun v0=>
loopF [tI] (F_slices_IndexFunc___int_int__l1 a0 a1 Q v0) 0 (σ.bump 4)
theorem ok_slices_IndexFunc___int_int_ {a0 a1 σ Q} (h:σ.Live->F_slices_IndexFunc___int_int_ a0 a1 σ Q):ACalls PG n_slices_IndexFunc___int_int_ [a0,a1] σ Q:=
 .of_sem [none,none,none,some ([0,1,7],[8]),none,none,none,none,none,none,none,none,none] [(8,tI),(15,tI),(16,.b)] mixed (by kernel_rfl) (by kernel_rfl) h
/-! slices.stableCmpFunc[vitrine/huff.item] -/
def F_slices_stableCmpFunc_huff_item__j1 (next9:Int->Mem->Prop) (v10:Int) (σ23:Mem):Prop:=
iW (v10*2) fun v24=>
next9 v24 (σ23.bump 3)
def F_slices_stableCmpFunc_huff_item__l3 (a0:AV) (a1:Int) (a2:AV) (next9:Int->Mem->Prop) (v10:Int) (next13:Int->Int->Mem->Prop) (v14:Int) (v15:Int) (σ16:Mem):Prop:=
ifB (decide (v15<=a1)) (
iW (v14+v10) fun v17=>
callW PG n_slices_symMergeCmpFunc_huff_item_ [a0,.int .i64 v14,.int .i64 v17,.int .i64 v15,a2] (σ16.bump 11) fun v18 σ19=>
iW (2*v10) fun v20=>
iW (v15+v20) fun v21=>
next13 v15 v21 (σ19.bump 7)) (
iW (v14+v10) fun v22=>
joinF [] (fun (k25:Mem->Prop)=>
ifB (decide (v22<a1)) (
callW PG n_slices_symMergeCmpFunc_huff_item_ [a0,.int .i64 v14,.int .i64 v22,.int .i64 a1,a2] (σ16.bump 16) fun v26 σ27=>
k25 σ27) (
k25 (σ16.bump 10))) (F_slices_stableCmpFunc_huff_item__j1 next9 v10))
def F_slices_stableCmpFunc_huff_item__l2 (a0:AV) (a1:Int) (a2:AV) (Q:AV->Mem->Prop) (next9:Int->Mem->Prop) (v10:Int) (σ11:Mem):Prop:=
ifB (decide (v10<a1)) (
iW (2*v10) fun v12=>
loopF [tI,tI] (F_slices_stableCmpFunc_huff_item__l3 a0 a1 a2 next9 v10) 0 v12 (σ11.bump 7)) (
Q (.tup []) (σ11.bump 3))
def F_slices_stableCmpFunc_huff_item__l1 (a0:AV) (a1:Int) (a2:AV) (Q:AV->Mem->Prop) (next0:Int->Int->Mem->Prop) (v1:Int) (v2:Int) (σ3:Mem):Prop:=
ifB (decide (v2<=a1)) (
callW PG n_slices_insertionSortCmpFunc_huff_item_ [a0,.int .i64 v1,.int .i64 v2,a2] (σ3.bump 8) fun v4 σ5=>
iW (v2+20) fun v6=>
next0 v2 v6 (σ5.bump 6)) (
callW PG n_slices_insertionSortCmpFunc_huff_item_ [a0,.int .i64 v1,.int .i64 a1,a2] (σ3.bump 8) fun v7 σ8=>
loopF [tI] (F_slices_stableCmpFunc_huff_item__l2 a0 a1 a2 Q) 20 σ8)
def F_slices_stableCmpFunc_huff_item_ (a0:AV) (a1:Int) (a2:AV) (σ:Mem) (Q:AV->Mem->Prop):Prop:=
loopF [tI,tI] (F_slices_stableCmpFunc_huff_item__l1 a0 a1 a2 Q) 0 20 (σ.bump 4)
theorem ok_slices_stableCmpFunc_huff_item_ {a0 a1 a2 σ Q} (h:σ.Live->F_slices_stableCmpFunc_huff_item_ a0 a1 a2 σ Q):ACalls PG n_slices_stableCmpFunc_huff_item_ [a0,.int .i64 a1,a2] σ Q:=
 .of_sem [none,none,none,some ([0,1,2,6],[7,8]),none,none,none,none,none,none,none,none,some ([0,1,2],[6]),none,none,none,none,none,some ([0,1,2,6],[7,8]),none,none,none,none,none,none,none,none,some ([0,1,2,6],[]),none,none] [(6,tI),(7,tI),(8,tI)] mixed (by kernel_rfl) (by kernel_rfl) h
/-! vitrine/huff.Check$1 -/
def F_huff_Check_1 (a0:Int) (σ:Mem) (Q:AV->Mem->Prop):Prop:=
ifB (decide (a0<0)) (
Q (.bool true) (σ.bump 8)) (
Q (.bool (decide (15<a0))) (σ.bump 8))
theorem ok_huff_Check_1 {a0 σ Q} (h:σ.Live->F_huff_Check_1 a0 σ Q):ACalls PG n_huff_Check_1 [.int .i64 a0] σ Q:=
 .of_sem [none,none] [] mixed (by kernel_rfl) (by kernel_rfl) h
/-! slices.insertionSortCmpFunc[int] -/
def F_slices_insertionSortCmpFunc_int__j1 (next1:Int->Mem->Prop) (v2:Int) (σ4:Mem):Prop:=
iW (v2+1) fun v5=>
next1 v5 (σ4.bump 3)
def F_slices_insertionSortCmpFunc_int__l2 (a0:AV) (a1:Int) (a3:AV) (k6:Mem->Prop) (next7:Int->Mem->Prop) (v8:Int) (σ9:Mem):Prop:=
ifB (decide (a1<v8)) (
idxW 1 a0 v8 fun v10=>
ldI (σ9.bump 17) v10 fun v11=>
iW (v8-1) fun v12=>
idxW 1 a0 v12 fun v13=>
ldI (σ9.bump 17) v13 fun v14=>
callvW PG a3 [.int .i64 v11,.int .i64 v14] (σ9.bump 17) fun v15 σ16=>
castI .i64 v15 fun v17=>
ifB (decide (v17<0)) (
iW (v8-1) fun v18=>
iW (v8-1) fun v19=>
idxW 1 a0 v19 fun v20=>
ldI (σ16.bump 18) v20 fun v21=>
idxW 1 a0 v8 fun v22=>
ldI (σ16.bump 18) v22 fun v23=>
idxW 1 a0 v8 fun v24=>
stW 1 (σ16.bump 18) v24 (.int .i64 v21) fun σ25=>
idxW 1 a0 v18 fun v26=>
stW 1 σ25 v26 (.int .i64 v23) fun σ27=>
iW (v8-1) fun v28=>
next7 v28 (σ27.bump 3)) (
k6 σ16)) (
k6 (σ9.bump 17))
def F_slices_insertionSortCmpFunc_int__l1 (a0:AV) (a1:Int) (a2:Int) (a3:AV) (Q:AV->Mem->Prop) (next1:Int->Mem->Prop) (v2:Int) (σ3:Mem):Prop:=
ifB (decide (v2<a2)) (
joinF [] (fun (k6:Mem->Prop)=>
loopF [tI] (F_slices_insertionSortCmpFunc_int__l2 a0 a1 a3 k6) v2 (σ3.bump 5)) (F_slices_insertionSortCmpFunc_int__j1 next1 v2)) (
Q (.tup []) (σ3.bump 3))
def F_slices_insertionSortCmpFunc_int_ (a0:AV) (a1:Int) (a2:Int) (a3:AV) (σ:Mem) (Q:AV->Mem->Prop):Prop:=
iW (a1+1) fun v0=>
loopF [tI] (F_slices_insertionSortCmpFunc_int__l1 a0 a1 a2 a3 Q) v0 (σ.bump 3)
theorem ok_slices_insertionSortCmpFunc_int_ {a0 a1 a2 a3 σ Q} (h:σ.Live->F_slices_insertionSortCmpFunc_int_ a0 a1 a2 a3 σ Q):ACalls PG n_slices_insertionSortCmpFunc_int_ [a0,.int .i64 a1,.int .i64 a2,a3] σ Q:=
 .of_sem [none,none,some ([0,1,2,3],[8]),none,none,none,none,some ([0,1,2,3,8],[]),some ([0,1,2,3,8],[9]),none,none,none,none,none,none] [(8,tI),(9,tI),(26,tI),(31,tI),(32,tI),(46,tI),(50,tI)] mixed (by kernel_rfl) (by kernel_rfl) h
/-! slices.symMergeCmpFunc[int] -/
def F_slices_symMergeCmpFunc_int__j1 (next1:Int->Int->Mem->Prop) (v16:Int) (v17:Int) (σ18:Mem):Prop:=
next1 v16 v17 σ18
def F_slices_symMergeCmpFunc_int__l2 (a0:AV) (Q:AV->Mem->Prop) (v2:Int) (next21:Int->Mem->Prop) (v22:Int) (σ23:Mem):Prop:=
iW (v2-1) fun v24=>
ifB (decide (v22<v24)) (
iW (v22+1) fun v25=>
iW (v22+1) fun v26=>
idxW 1 a0 v26 fun v27=>
ldI (σ23.bump 22) v27 fun v28=>
idxW 1 a0 v22 fun v29=>
ldI (σ23.bump 22) v29 fun v30=>
idxW 1 a0 v22 fun v31=>
stW 1 (σ23.bump 22) v31 (.int .i64 v28) fun σ32=>
idxW 1 a0 v25 fun v33=>
stW 1 σ32 v33 (.int .i64 v30) fun σ34=>
iW (v22+1) fun v35=>
next21 v35 (σ34.bump 3)) (
Q (.tup []) (σ23.bump 4))
def F_slices_symMergeCmpFunc_int__l1 (a0:AV) (a1:Int) (a4:AV) (Q:AV->Mem->Prop) (next1:Int->Int->Mem->Prop) (v2:Int) (v3:Int) (σ4:Mem):Prop:=
ifB (decide (v2<v3)) (
iW (v2+v3) fun v5=>
wrW .u64 v5 fun v6=>
letW (v6 / 2) fun v7=>
iW v7 fun v8=>
idxW 1 a0 v8 fun v9=>
ldI (σ4.bump 21) v9 fun v10=>
idxW 1 a0 a1 fun v11=>
ldI (σ4.bump 21) v11 fun v12=>
callvW PG a4 [.int .i64 v10,.int .i64 v12] (σ4.bump 21) fun v13 σ14=>
castI .i64 v13 fun v15=>
joinF [tI,tI] (fun (k19:Int->Int->Mem->Prop)=>
ifB (decide (v15<0)) (
iW (v8+1) fun v20=>
k19 v20 v3 (σ14.bump 3)) (
k19 v2 v8 (σ14.bump 2))) (F_slices_symMergeCmpFunc_int__j1 next1)) (
loopF [tI] (F_slices_symMergeCmpFunc_int__l2 a0 Q v2) a1 (σ4.bump 5))
def F_slices_symMergeCmpFunc_int__j2 (next37:Int->Int->Mem->Prop) (v52:Int) (v53:Int) (σ54:Mem):Prop:=
next37 v52 v53 σ54
def F_slices_symMergeCmpFunc_int__l4 (a0:AV) (Q:AV->Mem->Prop) (v38:Int) (next57:Int->Mem->Prop) (v58:Int) (σ59:Mem):Prop:=
ifB (decide (v38<v58)) (
iW (v58-1) fun v60=>
iW (v58-1) fun v61=>
idxW 1 a0 v61 fun v62=>
ldI (σ59.bump 21) v62 fun v63=>
idxW 1 a0 v58 fun v64=>
ldI (σ59.bump 21) v64 fun v65=>
idxW 1 a0 v58 fun v66=>
stW 1 (σ59.bump 21) v66 (.int .i64 v63) fun σ67=>
idxW 1 a0 v60 fun v68=>
stW 1 σ67 v68 (.int .i64 v65) fun σ69=>
iW (v58-1) fun v70=>
next57 v70 (σ69.bump 3)) (
Q (.tup []) (σ59.bump 3))
def F_slices_symMergeCmpFunc_int__l3 (a0:AV) (a2:Int) (a4:AV) (Q:AV->Mem->Prop) (next37:Int->Int->Mem->Prop) (v38:Int) (v39:Int) (σ40:Mem):Prop:=
ifB (decide (v38<v39)) (
iW (v38+v39) fun v41=>
wrW .u64 v41 fun v42=>
letW (v42 / 2) fun v43=>
iW v43 fun v44=>
idxW 1 a0 a2 fun v45=>
ldI (σ40.bump 22) v45 fun v46=>
idxW 1 a0 v44 fun v47=>
ldI (σ40.bump 22) v47 fun v48=>
callvW PG a4 [.int .i64 v46,.int .i64 v48] (σ40.bump 22) fun v49 σ50=>
castI .i64 v49 fun v51=>
joinF [tI,tI] (fun (k55:Int->Int->Mem->Prop)=>
ifB (!(decide (v51<0))) (
iW (v44+1) fun v56=>
k55 v56 v39 (σ50.bump 3)) (
k55 v38 v44 (σ50.bump 2))) (F_slices_symMergeCmpFunc_int__j2 next37)) (
loopF [tI] (F_slices_symMergeCmpFunc_int__l4 a0 Q v38) a2 (σ40.bump 5))
def F_slices_symMergeCmpFunc_int__j4 (next80:Int->Int->Mem->Prop) (v96:Int) (v97:Int) (σ98:Mem):Prop:=
next80 v96 v97 σ98
def F_slices_symMergeCmpFunc_int__j7 (Q:AV->Mem->Prop) (σ104:Mem):Prop:=
Q (.tup []) σ104
def F_slices_symMergeCmpFunc_int__j8 (Q:AV->Mem->Prop) (σ108:Mem):Prop:=
Q (.tup []) σ108
def F_slices_symMergeCmpFunc_int__j6 (a0:AV) (a3:Int) (a4:AV) (Q:AV->Mem->Prop) (v74:Int) (v101:Int) (σ103:Mem):Prop:=
ifB (decide (v74<v101)) (
joinF [] (fun (k105:Mem->Prop)=>
ifB (decide (v101<a3)) (
callW PG n_slices_symMergeCmpFunc_int_ [a0,.int .i64 v74,.int .i64 v101,.int .i64 a3,a4] (σ103.bump 14) fun v106 σ107=>
k105 σ107) (
k105 (σ103.bump 8))) (F_slices_symMergeCmpFunc_int__j7 Q)) (
joinF [] (fun (k109:Mem->Prop)=>
k109 (σ103.bump 8)) (F_slices_symMergeCmpFunc_int__j8 Q))
def F_slices_symMergeCmpFunc_int__j10 (Q:AV->Mem->Prop) (σ114:Mem):Prop:=
Q (.tup []) σ114
def F_slices_symMergeCmpFunc_int__j11 (Q:AV->Mem->Prop) (σ118:Mem):Prop:=
Q (.tup []) σ118
def F_slices_symMergeCmpFunc_int__j9 (a0:AV) (a3:Int) (a4:AV) (Q:AV->Mem->Prop) (v74:Int) (v101:Int) (σ113:Mem):Prop:=
ifB (decide (v74<v101)) (
joinF [] (fun (k115:Mem->Prop)=>
ifB (decide (v101<a3)) (
callW PG n_slices_symMergeCmpFunc_int_ [a0,.int .i64 v74,.int .i64 v101,.int .i64 a3,a4] (σ113.bump 14) fun v116 σ117=>
k115 σ117) (
k115 (σ113.bump 8))) (F_slices_symMergeCmpFunc_int__j10 Q)) (
joinF [] (fun (k119:Mem->Prop)=>
k119 (σ113.bump 8)) (F_slices_symMergeCmpFunc_int__j11 Q))
def F_slices_symMergeCmpFunc_int__j5 (a0:AV) (a1:Int) (a3:Int) (a4:AV) (Q:AV->Mem->Prop) (v74:Int) (v81:Int) (v101:Int) (σ102:Mem):Prop:=
ifB (decide (a1<v81)) (
joinF [] (fun (k110:Mem->Prop)=>
ifB (decide (v81<v74)) (
callW PG n_slices_symMergeCmpFunc_int_ [a0,.int .i64 a1,.int .i64 v81,.int .i64 v74,a4] (σ102.bump 14) fun v111 σ112=>
k110 σ112) (
k110 (σ102.bump 8))) (F_slices_symMergeCmpFunc_int__j6 a0 a3 a4 Q v74 v101)) (
joinF [] (fun (k120:Mem->Prop)=>
k120 (σ102.bump 8)) (F_slices_symMergeCmpFunc_int__j9 a0 a3 a4 Q v74 v101))
def F_slices_symMergeCmpFunc_int__j14 (Q:AV->Mem->Prop) (σ126:Mem):Prop:=
Q (.tup []) σ126
def F_slices_symMergeCmpFunc_int__j15 (Q:AV->Mem->Prop) (σ130:Mem):Prop:=
Q (.tup []) σ130
def F_slices_symMergeCmpFunc_int__j13 (a0:AV) (a3:Int) (a4:AV) (Q:AV->Mem->Prop) (v74:Int) (v101:Int) (σ125:Mem):Prop:=
ifB (decide (v74<v101)) (
joinF [] (fun (k127:Mem->Prop)=>
ifB (decide (v101<a3)) (
callW PG n_slices_symMergeCmpFunc_int_ [a0,.int .i64 v74,.int .i64 v101,.int .i64 a3,a4] (σ125.bump 14) fun v128 σ129=>
k127 σ129) (
k127 (σ125.bump 8))) (F_slices_symMergeCmpFunc_int__j14 Q)) (
joinF [] (fun (k131:Mem->Prop)=>
k131 (σ125.bump 8)) (F_slices_symMergeCmpFunc_int__j15 Q))
def F_slices_symMergeCmpFunc_int__j17 (Q:AV->Mem->Prop) (σ136:Mem):Prop:=
Q (.tup []) σ136
def F_slices_symMergeCmpFunc_int__j18 (Q:AV->Mem->Prop) (σ140:Mem):Prop:=
Q (.tup []) σ140
def F_slices_symMergeCmpFunc_int__j16 (a0:AV) (a3:Int) (a4:AV) (Q:AV->Mem->Prop) (v74:Int) (v101:Int) (σ135:Mem):Prop:=
ifB (decide (v74<v101)) (
joinF [] (fun (k137:Mem->Prop)=>
ifB (decide (v101<a3)) (
callW PG n_slices_symMergeCmpFunc_int_ [a0,.int .i64 v74,.int .i64 v101,.int .i64 a3,a4] (σ135.bump 14) fun v138 σ139=>
k137 σ139) (
k137 (σ135.bump 8))) (F_slices_symMergeCmpFunc_int__j17 Q)) (
joinF [] (fun (k141:Mem->Prop)=>
k141 (σ135.bump 8)) (F_slices_symMergeCmpFunc_int__j18 Q))
def F_slices_symMergeCmpFunc_int__j12 (a0:AV) (a1:Int) (a3:Int) (a4:AV) (Q:AV->Mem->Prop) (v74:Int) (v81:Int) (v101:Int) (σ124:Mem):Prop:=
ifB (decide (a1<v81)) (
joinF [] (fun (k132:Mem->Prop)=>
ifB (decide (v81<v74)) (
callW PG n_slices_symMergeCmpFunc_int_ [a0,.int .i64 a1,.int .i64 v81,.int .i64 v74,a4] (σ124.bump 14) fun v133 σ134=>
k132 σ134) (
k132 (σ124.bump 8))) (F_slices_symMergeCmpFunc_int__j13 a0 a3 a4 Q v74 v101)) (
joinF [] (fun (k142:Mem->Prop)=>
k142 (σ124.bump 8)) (F_slices_symMergeCmpFunc_int__j16 a0 a3 a4 Q v74 v101))
def F_slices_symMergeCmpFunc_int__l5 (a0:AV) (a1:Int) (a2:Int) (a3:Int) (a4:AV) (Q:AV->Mem->Prop) (v74:Int) (v75:Int) (v79:Int) (next80:Int->Int->Mem->Prop) (v81:Int) (v82:Int) (σ83:Mem):Prop:=
ifB (decide (v81<v82)) (
iW (v81+v82) fun v84=>
wrW .u64 v84 fun v85=>
letW (v85 / 2) fun v86=>
iW v86 fun v87=>
iW (v79-v87) fun v88=>
idxW 1 a0 v88 fun v89=>
ldI (σ83.bump 24) v89 fun v90=>
idxW 1 a0 v87 fun v91=>
ldI (σ83.bump 24) v91 fun v92=>
callvW PG a4 [.int .i64 v90,.int .i64 v92] (σ83.bump 24) fun v93 σ94=>
castI .i64 v93 fun v95=>
joinF [tI,tI] (fun (k99:Int->Int->Mem->Prop)=>
ifB (!(decide (v95<0))) (
iW (v87+1) fun v100=>
k99 v100 v82 (σ94.bump 3)) (
k99 v81 v87 (σ94.bump 2))) (F_slices_symMergeCmpFunc_int__j4 next80)) (
iW (v75-v81) fun v101=>
ifB (decide (v81<a2)) (
joinF [] (fun (k121:Mem->Prop)=>
ifB (decide (a2<v101)) (
callW PG n_slices_rotateCmpFunc_int_ [a0,.int .i64 v81,.int .i64 a2,.int .i64 v101,a4] (σ83.bump 21) fun v122 σ123=>
k121 σ123) (
k121 (σ83.bump 15))) (F_slices_symMergeCmpFunc_int__j5 a0 a1 a3 a4 Q v74 v81 v101)) (
joinF [] (fun (k143:Mem->Prop)=>
k143 (σ83.bump 15)) (F_slices_symMergeCmpFunc_int__j12 a0 a1 a3 a4 Q v74 v81 v101)))
def F_slices_symMergeCmpFunc_int__j3 (a0:AV) (a1:Int) (a2:Int) (a3:Int) (a4:AV) (Q:AV->Mem->Prop) (v74:Int) (v75:Int) (v76:Int) (v77:Int) (σ78:Mem):Prop:=
iW (v75-1) fun v79=>
loopF [tI,tI] (F_slices_symMergeCmpFunc_int__l5 a0 a1 a2 a3 a4 Q v74 v75 v79) v76 v77 (σ78.bump 3)
def F_slices_symMergeCmpFunc_int_ (a0:AV) (a1:Int) (a2:Int) (a3:Int) (a4:AV) (σ:Mem) (Q:AV->Mem->Prop):Prop:=
iW (a2-a1) fun v0=>
ifB (decide (v0=1)) (
loopF [tI,tI] (F_slices_symMergeCmpFunc_int__l1 a0 a1 a4 Q) a2 a3 (σ.bump 8)) (
iW (a3-a2) fun v36=>
ifB (decide (v36=1)) (
loopF [tI,tI] (F_slices_symMergeCmpFunc_int__l3 a0 a2 a4 Q) a1 a2 (σ.bump 12)) (
iW (a1+a3) fun v71=>
wrW .u64 v71 fun v72=>
letW (v72 / 2) fun v73=>
iW v73 fun v74=>
iW (v74+a2) fun v75=>
joinF [tI,tI] (fun (k144:Int->Int->Mem->Prop)=>
ifB (decide (v74<a2)) (
iW (v75-a3) fun v145=>
k144 v145 v74 (σ.bump 30)) (
k144 a1 a2 (σ.bump 28))) (F_slices_symMergeCmpFunc_int__j3 a0 a1 a2 a3 a4 Q v74 v75)))
theorem ok_slices_symMergeCmpFunc_int_ {a0 a1 a2 a3 a4 σ Q} (h:σ.Live->F_slices_symMergeCmpFunc_int_ a0 a1 a2 a3 a4 σ Q):ACalls PG n_slices_symMergeCmpFunc_int_ [a0,.int .i64 a1,.int .i64 a2,.int .i64 a3,a4] σ Q:=
 .of_sem [none,none,none,none,none,some ([0,1,4],[10,11]),none,none,none,none,none,some ([0,1,4],[10,11]),none,none,none,none,some ([0,10],[13]),none,none,none,none,none,none,none,none,none,none,some ([0,2,4],[14,15]),none,none,none,none,none,some ([0,2,4],[14,15]),none,none,none,none,some ([0,14],[17]),none,none,none,none,none,none,none,none,none,some ([0,1,2,3,4,18,19],[20,21]),none,none,none,none,none,none,some ([0,1,2,3,4,18,19,22],[20,21]),none,none,none,none,none,some ([0,1,2,3,4,18,19,22],[20,21]),none,none,none,none,some ([0,1,3,4,18,20,24],[]),none,none,some ([0,3,4,18,24],[]),none,none,some ([],[]),none] [(10,tI),(11,tI),(44,tI),(48,tI),(49,tI),(13,tI),(70,tI),(74,tI),(14,tI),(15,tI),(96,tI),(100,tI),(101,tI),(17,tI),(122,tI),(126,tI),(20,tI),(21,tI),(164,tI),(168,tI),(169,tI)] mixed (by kernel_rfl) (by kernel_rfl) h
/-! slices.insertionSortCmpFunc[vitrine/huff.item] -/
def F_slices_insertionSortCmpFunc_huff_item__j1 (next1:Int->Mem->Prop) (v2:Int) (σ4:Mem):Prop:=
iW (v2+1) fun v5=>
next1 v5 (σ4.bump 3)
def F_slices_insertionSortCmpFunc_huff_item__l2 (a0:AV) (a1:Int) (a3:AV) (k6:Mem->Prop) (next7:Int->Mem->Prop) (v8:Int) (σ9:Mem):Prop:=
ifB (decide (a1<v8)) (
idxW 3 a0 v8 fun v10=>
ldnW 3 (σ9.bump 17) v10 fun v11=>
iW (v8-1) fun v12=>
idxW 3 a0 v12 fun v13=>
ldnW 3 (σ9.bump 17) v13 fun v14=>
callvW PG a3 [v11,v14] (σ9.bump 17) fun v15 σ16=>
castI .i64 v15 fun v17=>
ifB (decide (v17<0)) (
iW (v8-1) fun v18=>
iW (v8-1) fun v19=>
idxW 3 a0 v19 fun v20=>
ldnW 3 (σ16.bump 18) v20 fun v21=>
idxW 3 a0 v8 fun v22=>
ldnW 3 (σ16.bump 18) v22 fun v23=>
idxW 3 a0 v8 fun v24=>
stW 3 (σ16.bump 18) v24 v21 fun σ25=>
idxW 3 a0 v18 fun v26=>
stW 3 σ25 v26 v23 fun σ27=>
iW (v8-1) fun v28=>
next7 v28 (σ27.bump 3)) (
k6 σ16)) (
k6 (σ9.bump 17))
def F_slices_insertionSortCmpFunc_huff_item__l1 (a0:AV) (a1:Int) (a2:Int) (a3:AV) (Q:AV->Mem->Prop) (next1:Int->Mem->Prop) (v2:Int) (σ3:Mem):Prop:=
ifB (decide (v2<a2)) (
joinF [] (fun (k6:Mem->Prop)=>
loopF [tI] (F_slices_insertionSortCmpFunc_huff_item__l2 a0 a1 a3 k6) v2 (σ3.bump 5)) (F_slices_insertionSortCmpFunc_huff_item__j1 next1 v2)) (
Q (.tup []) (σ3.bump 3))
def F_slices_insertionSortCmpFunc_huff_item_ (a0:AV) (a1:Int) (a2:Int) (a3:AV) (σ:Mem) (Q:AV->Mem->Prop):Prop:=
iW (a1+1) fun v0=>
loopF [tI] (F_slices_insertionSortCmpFunc_huff_item__l1 a0 a1 a2 a3 Q) v0 (σ.bump 3)
theorem ok_slices_insertionSortCmpFunc_huff_item_ {a0 a1 a2 a3 σ Q} (h:σ.Live->F_slices_insertionSortCmpFunc_huff_item_ a0 a1 a2 a3 σ Q):ACalls PG n_slices_insertionSortCmpFunc_huff_item_ [a0,.int .i64 a1,.int .i64 a2,a3] σ Q:=
 .of_sem [none,none,some ([0,1,2,3],[8]),none,none,none,none,some ([0,1,2,3,8],[]),some ([0,1,2,3,8],[9]),none,none,none,none,none,none] [(8,tI),(9,tI),(32,tI)] mixed (by kernel_rfl) (by kernel_rfl) h
/-! slices.symMergeCmpFunc[vitrine/huff.item] -/
def F_slices_symMergeCmpFunc_huff_item__j1 (next1:Int->Int->Mem->Prop) (v16:Int) (v17:Int) (σ18:Mem):Prop:=
next1 v16 v17 σ18
def F_slices_symMergeCmpFunc_huff_item__l2 (a0:AV) (Q:AV->Mem->Prop) (v2:Int) (next21:Int->Mem->Prop) (v22:Int) (σ23:Mem):Prop:=
iW (v2-1) fun v24=>
ifB (decide (v22<v24)) (
iW (v22+1) fun v25=>
iW (v22+1) fun v26=>
idxW 3 a0 v26 fun v27=>
ldnW 3 (σ23.bump 22) v27 fun v28=>
idxW 3 a0 v22 fun v29=>
ldnW 3 (σ23.bump 22) v29 fun v30=>
idxW 3 a0 v22 fun v31=>
stW 3 (σ23.bump 22) v31 v28 fun σ32=>
idxW 3 a0 v25 fun v33=>
stW 3 σ32 v33 v30 fun σ34=>
iW (v22+1) fun v35=>
next21 v35 (σ34.bump 3)) (
Q (.tup []) (σ23.bump 4))
def F_slices_symMergeCmpFunc_huff_item__l1 (a0:AV) (a1:Int) (a4:AV) (Q:AV->Mem->Prop) (next1:Int->Int->Mem->Prop) (v2:Int) (v3:Int) (σ4:Mem):Prop:=
ifB (decide (v2<v3)) (
iW (v2+v3) fun v5=>
wrW .u64 v5 fun v6=>
letW (v6 / 2) fun v7=>
iW v7 fun v8=>
idxW 3 a0 v8 fun v9=>
ldnW 3 (σ4.bump 21) v9 fun v10=>
idxW 3 a0 a1 fun v11=>
ldnW 3 (σ4.bump 21) v11 fun v12=>
callvW PG a4 [v10,v12] (σ4.bump 21) fun v13 σ14=>
castI .i64 v13 fun v15=>
joinF [tI,tI] (fun (k19:Int->Int->Mem->Prop)=>
ifB (decide (v15<0)) (
iW (v8+1) fun v20=>
k19 v20 v3 (σ14.bump 3)) (
k19 v2 v8 (σ14.bump 2))) (F_slices_symMergeCmpFunc_huff_item__j1 next1)) (
loopF [tI] (F_slices_symMergeCmpFunc_huff_item__l2 a0 Q v2) a1 (σ4.bump 5))
def F_slices_symMergeCmpFunc_huff_item__j2 (next37:Int->Int->Mem->Prop) (v52:Int) (v53:Int) (σ54:Mem):Prop:=
next37 v52 v53 σ54
def F_slices_symMergeCmpFunc_huff_item__l4 (a0:AV) (Q:AV->Mem->Prop) (v38:Int) (next57:Int->Mem->Prop) (v58:Int) (σ59:Mem):Prop:=
ifB (decide (v38<v58)) (
iW (v58-1) fun v60=>
iW (v58-1) fun v61=>
idxW 3 a0 v61 fun v62=>
ldnW 3 (σ59.bump 21) v62 fun v63=>
idxW 3 a0 v58 fun v64=>
ldnW 3 (σ59.bump 21) v64 fun v65=>
idxW 3 a0 v58 fun v66=>
stW 3 (σ59.bump 21) v66 v63 fun σ67=>
idxW 3 a0 v60 fun v68=>
stW 3 σ67 v68 v65 fun σ69=>
iW (v58-1) fun v70=>
next57 v70 (σ69.bump 3)) (
Q (.tup []) (σ59.bump 3))
def F_slices_symMergeCmpFunc_huff_item__l3 (a0:AV) (a2:Int) (a4:AV) (Q:AV->Mem->Prop) (next37:Int->Int->Mem->Prop) (v38:Int) (v39:Int) (σ40:Mem):Prop:=
ifB (decide (v38<v39)) (
iW (v38+v39) fun v41=>
wrW .u64 v41 fun v42=>
letW (v42 / 2) fun v43=>
iW v43 fun v44=>
idxW 3 a0 a2 fun v45=>
ldnW 3 (σ40.bump 22) v45 fun v46=>
idxW 3 a0 v44 fun v47=>
ldnW 3 (σ40.bump 22) v47 fun v48=>
callvW PG a4 [v46,v48] (σ40.bump 22) fun v49 σ50=>
castI .i64 v49 fun v51=>
joinF [tI,tI] (fun (k55:Int->Int->Mem->Prop)=>
ifB (!(decide (v51<0))) (
iW (v44+1) fun v56=>
k55 v56 v39 (σ50.bump 3)) (
k55 v38 v44 (σ50.bump 2))) (F_slices_symMergeCmpFunc_huff_item__j2 next37)) (
loopF [tI] (F_slices_symMergeCmpFunc_huff_item__l4 a0 Q v38) a2 (σ40.bump 5))
def F_slices_symMergeCmpFunc_huff_item__j4 (next80:Int->Int->Mem->Prop) (v96:Int) (v97:Int) (σ98:Mem):Prop:=
next80 v96 v97 σ98
def F_slices_symMergeCmpFunc_huff_item__j7 (Q:AV->Mem->Prop) (σ104:Mem):Prop:=
Q (.tup []) σ104
def F_slices_symMergeCmpFunc_huff_item__j8 (Q:AV->Mem->Prop) (σ108:Mem):Prop:=
Q (.tup []) σ108
def F_slices_symMergeCmpFunc_huff_item__j6 (a0:AV) (a3:Int) (a4:AV) (Q:AV->Mem->Prop) (v74:Int) (v101:Int) (σ103:Mem):Prop:=
ifB (decide (v74<v101)) (
joinF [] (fun (k105:Mem->Prop)=>
ifB (decide (v101<a3)) (
callW PG n_slices_symMergeCmpFunc_huff_item_ [a0,.int .i64 v74,.int .i64 v101,.int .i64 a3,a4] (σ103.bump 14) fun v106 σ107=>
k105 σ107) (
k105 (σ103.bump 8))) (F_slices_symMergeCmpFunc_huff_item__j7 Q)) (
joinF [] (fun (k109:Mem->Prop)=>
k109 (σ103.bump 8)) (F_slices_symMergeCmpFunc_huff_item__j8 Q))
def F_slices_symMergeCmpFunc_huff_item__j10 (Q:AV->Mem->Prop) (σ114:Mem):Prop:=
Q (.tup []) σ114
def F_slices_symMergeCmpFunc_huff_item__j11 (Q:AV->Mem->Prop) (σ118:Mem):Prop:=
Q (.tup []) σ118
def F_slices_symMergeCmpFunc_huff_item__j9 (a0:AV) (a3:Int) (a4:AV) (Q:AV->Mem->Prop) (v74:Int) (v101:Int) (σ113:Mem):Prop:=
ifB (decide (v74<v101)) (
joinF [] (fun (k115:Mem->Prop)=>
ifB (decide (v101<a3)) (
callW PG n_slices_symMergeCmpFunc_huff_item_ [a0,.int .i64 v74,.int .i64 v101,.int .i64 a3,a4] (σ113.bump 14) fun v116 σ117=>
k115 σ117) (
k115 (σ113.bump 8))) (F_slices_symMergeCmpFunc_huff_item__j10 Q)) (
joinF [] (fun (k119:Mem->Prop)=>
k119 (σ113.bump 8)) (F_slices_symMergeCmpFunc_huff_item__j11 Q))
def F_slices_symMergeCmpFunc_huff_item__j5 (a0:AV) (a1:Int) (a3:Int) (a4:AV) (Q:AV->Mem->Prop) (v74:Int) (v81:Int) (v101:Int) (σ102:Mem):Prop:=
ifB (decide (a1<v81)) (
joinF [] (fun (k110:Mem->Prop)=>
ifB (decide (v81<v74)) (
callW PG n_slices_symMergeCmpFunc_huff_item_ [a0,.int .i64 a1,.int .i64 v81,.int .i64 v74,a4] (σ102.bump 14) fun v111 σ112=>
k110 σ112) (
k110 (σ102.bump 8))) (F_slices_symMergeCmpFunc_huff_item__j6 a0 a3 a4 Q v74 v101)) (
joinF [] (fun (k120:Mem->Prop)=>
k120 (σ102.bump 8)) (F_slices_symMergeCmpFunc_huff_item__j9 a0 a3 a4 Q v74 v101))
def F_slices_symMergeCmpFunc_huff_item__j14 (Q:AV->Mem->Prop) (σ126:Mem):Prop:=
Q (.tup []) σ126
def F_slices_symMergeCmpFunc_huff_item__j15 (Q:AV->Mem->Prop) (σ130:Mem):Prop:=
Q (.tup []) σ130
def F_slices_symMergeCmpFunc_huff_item__j13 (a0:AV) (a3:Int) (a4:AV) (Q:AV->Mem->Prop) (v74:Int) (v101:Int) (σ125:Mem):Prop:=
ifB (decide (v74<v101)) (
joinF [] (fun (k127:Mem->Prop)=>
ifB (decide (v101<a3)) (
callW PG n_slices_symMergeCmpFunc_huff_item_ [a0,.int .i64 v74,.int .i64 v101,.int .i64 a3,a4] (σ125.bump 14) fun v128 σ129=>
k127 σ129) (
k127 (σ125.bump 8))) (F_slices_symMergeCmpFunc_huff_item__j14 Q)) (
joinF [] (fun (k131:Mem->Prop)=>
k131 (σ125.bump 8)) (F_slices_symMergeCmpFunc_huff_item__j15 Q))
def F_slices_symMergeCmpFunc_huff_item__j17 (Q:AV->Mem->Prop) (σ136:Mem):Prop:=
Q (.tup []) σ136
def F_slices_symMergeCmpFunc_huff_item__j18 (Q:AV->Mem->Prop) (σ140:Mem):Prop:=
Q (.tup []) σ140
def F_slices_symMergeCmpFunc_huff_item__j16 (a0:AV) (a3:Int) (a4:AV) (Q:AV->Mem->Prop) (v74:Int) (v101:Int) (σ135:Mem):Prop:=
ifB (decide (v74<v101)) (
joinF [] (fun (k137:Mem->Prop)=>
ifB (decide (v101<a3)) (
callW PG n_slices_symMergeCmpFunc_huff_item_ [a0,.int .i64 v74,.int .i64 v101,.int .i64 a3,a4] (σ135.bump 14) fun v138 σ139=>
k137 σ139) (
k137 (σ135.bump 8))) (F_slices_symMergeCmpFunc_huff_item__j17 Q)) (
joinF [] (fun (k141:Mem->Prop)=>
k141 (σ135.bump 8)) (F_slices_symMergeCmpFunc_huff_item__j18 Q))
def F_slices_symMergeCmpFunc_huff_item__j12 (a0:AV) (a1:Int) (a3:Int) (a4:AV) (Q:AV->Mem->Prop) (v74:Int) (v81:Int) (v101:Int) (σ124:Mem):Prop:=
ifB (decide (a1<v81)) (
joinF [] (fun (k132:Mem->Prop)=>
ifB (decide (v81<v74)) (
callW PG n_slices_symMergeCmpFunc_huff_item_ [a0,.int .i64 a1,.int .i64 v81,.int .i64 v74,a4] (σ124.bump 14) fun v133 σ134=>
k132 σ134) (
k132 (σ124.bump 8))) (F_slices_symMergeCmpFunc_huff_item__j13 a0 a3 a4 Q v74 v101)) (
joinF [] (fun (k142:Mem->Prop)=>
k142 (σ124.bump 8)) (F_slices_symMergeCmpFunc_huff_item__j16 a0 a3 a4 Q v74 v101))
def F_slices_symMergeCmpFunc_huff_item__l5 (a0:AV) (a1:Int) (a2:Int) (a3:Int) (a4:AV) (Q:AV->Mem->Prop) (v74:Int) (v75:Int) (v79:Int) (next80:Int->Int->Mem->Prop) (v81:Int) (v82:Int) (σ83:Mem):Prop:=
ifB (decide (v81<v82)) (
iW (v81+v82) fun v84=>
wrW .u64 v84 fun v85=>
letW (v85 / 2) fun v86=>
iW v86 fun v87=>
iW (v79-v87) fun v88=>
idxW 3 a0 v88 fun v89=>
ldnW 3 (σ83.bump 24) v89 fun v90=>
idxW 3 a0 v87 fun v91=>
ldnW 3 (σ83.bump 24) v91 fun v92=>
callvW PG a4 [v90,v92] (σ83.bump 24) fun v93 σ94=>
castI .i64 v93 fun v95=>
joinF [tI,tI] (fun (k99:Int->Int->Mem->Prop)=>
ifB (!(decide (v95<0))) (
iW (v87+1) fun v100=>
k99 v100 v82 (σ94.bump 3)) (
k99 v81 v87 (σ94.bump 2))) (F_slices_symMergeCmpFunc_huff_item__j4 next80)) (
iW (v75-v81) fun v101=>
ifB (decide (v81<a2)) (
joinF [] (fun (k121:Mem->Prop)=>
ifB (decide (a2<v101)) (
callW PG n_slices_rotateCmpFunc_huff_item_ [a0,.int .i64 v81,.int .i64 a2,.int .i64 v101,a4] (σ83.bump 21) fun v122 σ123=>
k121 σ123) (
k121 (σ83.bump 15))) (F_slices_symMergeCmpFunc_huff_item__j5 a0 a1 a3 a4 Q v74 v81 v101)) (
joinF [] (fun (k143:Mem->Prop)=>
k143 (σ83.bump 15)) (F_slices_symMergeCmpFunc_huff_item__j12 a0 a1 a3 a4 Q v74 v81 v101)))
def F_slices_symMergeCmpFunc_huff_item__j3 (a0:AV) (a1:Int) (a2:Int) (a3:Int) (a4:AV) (Q:AV->Mem->Prop) (v74:Int) (v75:Int) (v76:Int) (v77:Int) (σ78:Mem):Prop:=
iW (v75-1) fun v79=>
loopF [tI,tI] (F_slices_symMergeCmpFunc_huff_item__l5 a0 a1 a2 a3 a4 Q v74 v75 v79) v76 v77 (σ78.bump 3)
def F_slices_symMergeCmpFunc_huff_item_ (a0:AV) (a1:Int) (a2:Int) (a3:Int) (a4:AV) (σ:Mem) (Q:AV->Mem->Prop):Prop:=
iW (a2-a1) fun v0=>
ifB (decide (v0=1)) (
loopF [tI,tI] (F_slices_symMergeCmpFunc_huff_item__l1 a0 a1 a4 Q) a2 a3 (σ.bump 8)) (
iW (a3-a2) fun v36=>
ifB (decide (v36=1)) (
loopF [tI,tI] (F_slices_symMergeCmpFunc_huff_item__l3 a0 a2 a4 Q) a1 a2 (σ.bump 12)) (
iW (a1+a3) fun v71=>
wrW .u64 v71 fun v72=>
letW (v72 / 2) fun v73=>
iW v73 fun v74=>
iW (v74+a2) fun v75=>
joinF [tI,tI] (fun (k144:Int->Int->Mem->Prop)=>
ifB (decide (v74<a2)) (
iW (v75-a3) fun v145=>
k144 v145 v74 (σ.bump 30)) (
k144 a1 a2 (σ.bump 28))) (F_slices_symMergeCmpFunc_huff_item__j3 a0 a1 a2 a3 a4 Q v74 v75)))
theorem ok_slices_symMergeCmpFunc_huff_item_ {a0 a1 a2 a3 a4 σ Q} (h:σ.Live->F_slices_symMergeCmpFunc_huff_item_ a0 a1 a2 a3 a4 σ Q):ACalls PG n_slices_symMergeCmpFunc_huff_item_ [a0,.int .i64 a1,.int .i64 a2,.int .i64 a3,a4] σ Q:=
 .of_sem [none,none,none,none,none,some ([0,1,4],[10,11]),none,none,none,none,none,some ([0,1,4],[10,11]),none,none,none,none,some ([0,10],[13]),none,none,none,none,none,none,none,none,none,none,some ([0,2,4],[14,15]),none,none,none,none,none,some ([0,2,4],[14,15]),none,none,none,none,some ([0,14],[17]),none,none,none,none,none,none,none,none,none,some ([0,1,2,3,4,18,19],[20,21]),none,none,none,none,none,none,some ([0,1,2,3,4,18,19,22],[20,21]),none,none,none,none,none,some ([0,1,2,3,4,18,19,22],[20,21]),none,none,none,none,some ([0,1,3,4,18,20,24],[]),none,none,some ([0,3,4,18,24],[]),none,none,some ([],[]),none] [(10,tI),(11,tI),(49,tI),(13,tI),(14,tI),(15,tI),(101,tI),(17,tI),(20,tI),(21,tI),(169,tI)] mixed (by kernel_rfl) (by kernel_rfl) h
/-! slices.rotateCmpFunc[int] -/
def F_slices_rotateCmpFunc_int__j1 (next2:Int->Int->Mem->Prop) (v6:Int) (v7:Int) (σ8:Mem):Prop:=
next2 v6 v7 σ8
def F_slices_rotateCmpFunc_int__l1 (a0:AV) (a2:Int) (a4:AV) (Q:AV->Mem->Prop) (next2:Int->Int->Mem->Prop) (v3:Int) (v4:Int) (σ5:Mem):Prop:=
ifB (decide (v3≠v4)) (
joinF [tI,tI] (fun (k9:Int->Int->Mem->Prop)=>
ifB (decide (v4<v3)) (
iW (a2-v3) fun v10=>
callW PG n_slices_swapRangeCmpFunc_int_ [a0,.int .i64 v10,.int .i64 a2,.int .i64 v4,a4] (σ5.bump 14) fun v11 σ12=>
iW (v3-v4) fun v13=>
k9 v13 v4 (σ12.bump 4)) (
iW (a2-v3) fun v14=>
iW (a2+v4) fun v15=>
iW (v15-v3) fun v16=>
callW PG n_slices_swapRangeCmpFunc_int_ [a0,.int .i64 v14,.int .i64 v16,.int .i64 v3,a4] (σ5.bump 18) fun v17 σ18=>
iW (v4-v3) fun v19=>
k9 v3 v19 (σ18.bump 4))) (F_slices_rotateCmpFunc_int__j1 next2)) (
iW (a2-v3) fun v20=>
callW PG n_slices_swapRangeCmpFunc_int_ [a0,.int .i64 v20,.int .i64 a2,.int .i64 v3,a4] (σ5.bump 11) fun v21 σ22=>
Q (.tup []) σ22)
def F_slices_rotateCmpFunc_int_ (a0:AV) (a1:Int) (a2:Int) (a3:Int) (a4:AV) (σ:Mem) (Q:AV->Mem->Prop):Prop:=
iW (a2-a1) fun v0=>
iW (a3-a2) fun v1=>
loopF [tI,tI] (F_slices_rotateCmpFunc_int__l1 a0 a2 a4 Q) v0 v1 (σ.bump 8)
theorem ok_slices_rotateCmpFunc_int_ {a0 a1 a2 a3 a4 σ Q} (h:σ.Live->F_slices_rotateCmpFunc_int_ a0 a1 a2 a3 a4 σ Q):ACalls PG n_slices_rotateCmpFunc_int_ [a0,.int .i64 a1,.int .i64 a2,.int .i64 a3,a4] σ Q:=
 .of_sem [none,none,none,some ([0,2,4],[10,11]),none,none,none,none,some ([0,2,4],[10,11]),none,none,none,none,none] [(10,tI),(11,tI)] mixed (by kernel_rfl) (by kernel_rfl) h
/-! slices.rotateCmpFunc[vitrine/huff.item] -/
def F_slices_rotateCmpFunc_huff_item__j1 (next2:Int->Int->Mem->Prop) (v6:Int) (v7:Int) (σ8:Mem):Prop:=
next2 v6 v7 σ8
def F_slices_rotateCmpFunc_huff_item__l1 (a0:AV) (a2:Int) (a4:AV) (Q:AV->Mem->Prop) (next2:Int->Int->Mem->Prop) (v3:Int) (v4:Int) (σ5:Mem):Prop:=
ifB (decide (v3≠v4)) (
joinF [tI,tI] (fun (k9:Int->Int->Mem->Prop)=>
ifB (decide (v4<v3)) (
iW (a2-v3) fun v10=>
callW PG n_slices_swapRangeCmpFunc_huff_item_ [a0,.int .i64 v10,.int .i64 a2,.int .i64 v4,a4] (σ5.bump 14) fun v11 σ12=>
iW (v3-v4) fun v13=>
k9 v13 v4 (σ12.bump 4)) (
iW (a2-v3) fun v14=>
iW (a2+v4) fun v15=>
iW (v15-v3) fun v16=>
callW PG n_slices_swapRangeCmpFunc_huff_item_ [a0,.int .i64 v14,.int .i64 v16,.int .i64 v3,a4] (σ5.bump 18) fun v17 σ18=>
iW (v4-v3) fun v19=>
k9 v3 v19 (σ18.bump 4))) (F_slices_rotateCmpFunc_huff_item__j1 next2)) (
iW (a2-v3) fun v20=>
callW PG n_slices_swapRangeCmpFunc_huff_item_ [a0,.int .i64 v20,.int .i64 a2,.int .i64 v3,a4] (σ5.bump 11) fun v21 σ22=>
Q (.tup []) σ22)
def F_slices_rotateCmpFunc_huff_item_ (a0:AV) (a1:Int) (a2:Int) (a3:Int) (a4:AV) (σ:Mem) (Q:AV->Mem->Prop):Prop:=
iW (a2-a1) fun v0=>
iW (a3-a2) fun v1=>
loopF [tI,tI] (F_slices_rotateCmpFunc_huff_item__l1 a0 a2 a4 Q) v0 v1 (σ.bump 8)
theorem ok_slices_rotateCmpFunc_huff_item_ {a0 a1 a2 a3 a4 σ Q} (h:σ.Live->F_slices_rotateCmpFunc_huff_item_ a0 a1 a2 a3 a4 σ Q):ACalls PG n_slices_rotateCmpFunc_huff_item_ [a0,.int .i64 a1,.int .i64 a2,.int .i64 a3,a4] σ Q:=
 .of_sem [none,none,none,some ([0,2,4],[10,11]),none,none,none,none,some ([0,2,4],[10,11]),none,none,none,none,none] [(10,tI),(11,tI)] mixed (by kernel_rfl) (by kernel_rfl) h
/-! slices.swapRangeCmpFunc[int] -/
def F_slices_swapRangeCmpFunc_int__l1 (a0:AV) (a1:Int) (a2:Int) (a3:Int) (Q:AV->Mem->Prop) (next0:Int->Mem->Prop) (v1:Int) (σ2:Mem):Prop:=
ifB (decide (v1<a3)) (
iW (a1+v1) fun v3=>
iW (a2+v1) fun v4=>
iW (a2+v1) fun v5=>
idxW 1 a0 v5 fun v6=>
ldI (σ2.bump 27) v6 fun v7=>
iW (a1+v1) fun v8=>
idxW 1 a0 v8 fun v9=>
ldI (σ2.bump 27) v9 fun v10=>
idxW 1 a0 v3 fun v11=>
stW 1 (σ2.bump 27) v11 (.int .i64 v7) fun σ12=>
idxW 1 a0 v4 fun v13=>
stW 1 σ12 v13 (.int .i64 v10) fun σ14=>
iW (v1+1) fun v15=>
next0 v15 (σ14.bump 3)) (
Q (.tup []) (σ2.bump 3))
def F_slices_swapRangeCmpFunc_int_ (a0:AV) (a1:Int) (a2:Int) (a3:Int) (a4:AV) (σ:Mem) (Q:AV->Mem->Prop):Prop:=
loopF [tI] (F_slices_swapRangeCmpFunc_int__l1 a0 a1 a2 a3 Q) 0 (σ.bump 1)
theorem ok_slices_swapRangeCmpFunc_int_ {a0 a1 a2 a3 a4 σ Q} (h:σ.Live->F_slices_swapRangeCmpFunc_int_ a0 a1 a2 a3 a4 σ Q):ACalls PG n_slices_swapRangeCmpFunc_int_ [a0,.int .i64 a1,.int .i64 a2,.int .i64 a3,a4] σ Q:=
 .of_sem [none,none,some ([0,1,2,3],[10]),none,none,none,none,none] [(10,tI),(29,tI),(35,tI)] mixed (by kernel_rfl) (by kernel_rfl) h
/-! slices.swapRangeCmpFunc[vitrine/huff.item] -/
def F_slices_swapRangeCmpFunc_huff_item__l1 (a0:AV) (a1:Int) (a2:Int) (a3:Int) (Q:AV->Mem->Prop) (next0:Int->Mem->Prop) (v1:Int) (σ2:Mem):Prop:=
ifB (decide (v1<a3)) (
iW (a1+v1) fun v3=>
iW (a2+v1) fun v4=>
iW (a2+v1) fun v5=>
idxW 3 a0 v5 fun v6=>
ldnW 3 (σ2.bump 27) v6 fun v7=>
iW (a1+v1) fun v8=>
idxW 3 a0 v8 fun v9=>
ldnW 3 (σ2.bump 27) v9 fun v10=>
idxW 3 a0 v3 fun v11=>
stW 3 (σ2.bump 27) v11 v7 fun σ12=>
idxW 3 a0 v4 fun v13=>
stW 3 σ12 v13 v10 fun σ14=>
iW (v1+1) fun v15=>
next0 v15 (σ14.bump 3)) (
Q (.tup []) (σ2.bump 3))
def F_slices_swapRangeCmpFunc_huff_item_ (a0:AV) (a1:Int) (a2:Int) (a3:Int) (a4:AV) (σ:Mem) (Q:AV->Mem->Prop):Prop:=
loopF [tI] (F_slices_swapRangeCmpFunc_huff_item__l1 a0 a1 a2 a3 Q) 0 (σ.bump 1)
theorem ok_slices_swapRangeCmpFunc_huff_item_ {a0 a1 a2 a3 a4 σ Q} (h:σ.Live->F_slices_swapRangeCmpFunc_huff_item_ a0 a1 a2 a3 a4 σ Q):ACalls PG n_slices_swapRangeCmpFunc_huff_item_ [a0,.int .i64 a1,.int .i64 a2,.int .i64 a3,a4] σ Q:=
 .of_sem [none,none,some ([0,1,2,3],[10]),none,none,none,none,none] [(10,tI)] mixed (by kernel_rfl) (by kernel_rfl) h
end Go.Vit
