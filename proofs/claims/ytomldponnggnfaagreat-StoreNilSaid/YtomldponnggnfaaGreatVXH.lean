/- More functions, as printed conditions. -/
import Derived.Test.YtomldponnggnfaaGreatVXC
set_option linter.unusedVariables false
set_option linter.unusedSimpArgs false
set_option linter.unusedVariables false
set_option maxRecDepth 100000
namespace Go.Vit
open Go.Proofs
/-! vitrine/sha.Sum -/
def F_sha_Sum_l4 (Q : AV → Mem → Prop) (v41 : AV) (next42 : AV → Int → Mem → Prop) (v43 : AV) (v44 : Int) (σ45 : Mem) : Prop :=
ifB (decide (v44 < 8)) (
aidxW 8 1 none v41 v44 fun a => castI .u32 a fun v46 =>
letW (v46 / 16777216) fun v47 =>
wrW .u8 v47 fun v48 =>
letW (v46 / 65536) fun v49 =>
wrW .u8 v49 fun v50 =>
letW (v46 / 256) fun v51 =>
wrW .u8 v51 fun v52 =>
wrW .u8 v46 fun v53 =>
newW (σ45.bump 18) (σ45.next + 15) (.rw [.int .u8 v48, .int .u8 v50, .int .u8 v52, .int .u8 v53]) fun σ54 =>
apW 1 1 (σ45.next + 16) σ54 v43 (.slice (σ45.next + 15) 0 4 (.ex 4)) fun v55 σ56 =>
iW (v44 + 1) fun v57 =>
next42 v55 v57 (σ56.bump 2)) (
bstrW (σ45.bump 4) v43 fun v58 =>
Q (.str v58) (σ45.bump 4))
def F_sha_Sum_l3 (Q : AV → Mem → Prop) (σ15 : Mem) (v31 : ByteArray) (next32 : Int → Mem → Prop) (v33 : Int) (σ34 : Mem) : Prop :=
ifB (decide (v33 < (v31.size : Int))) (
iW (v33 + 64) fun v35 =>
subW v31 v33 v35 fun v36 =>
ldnW 64 (σ34.bump 11) (.ptr (σ15.next + 5) 0) fun v37 =>
callW PG n_sha_state_block [.ptr (σ15.next + 4) 0, .str v36, v37] (σ34.bump 11) fun v38 σ39 =>
iW (v33 + 64) fun v40 =>
next32 v40 (σ39.bump 3)) (
ldnW 8 (σ34.bump 7) (.ptr (σ15.next + 4) 0) fun v41 =>
loopF [.v, tI] (F_sha_Sum_l4 Q v41) .nils 0 (σ34.bump 7))
def F_sha_Sum_l2 (a0 : ByteArray) (Q : AV → Mem → Prop) (v1 : Int) (next12 : AV → Int → Mem → Prop) (v13 : AV) (v14 : Int) (σ15 : Mem) : Prop :=
ifB (decide (0 ≤ v14)) (
shrW .u64 v1 v14 fun v16 =>
wrW .u8 v16 fun v17 =>
newW (σ15.bump 10) (σ15.next + 7) (.rw [.int .u8 v17]) fun σ18 =>
apW 1 1 (σ15.next + 8) σ18 v13 (.slice (σ15.next + 7) 0 1 (.ex 1)) fun v19 σ20 =>
iW (v14 - 8) fun v21 =>
next12 v19 v21 (σ20.bump 3)) (
callW PG n_sha_begin [] (σ15.bump 8) fun v22 σ23 =>
callW PG n_sha_constants [] σ23 fun v24 σ25 =>
newW σ25 (σ15.next + 4) (.rw [.int .u32 0, .int .u32 0, .int .u32 0, .int .u32 0, .int .u32 0, .int .u32 0, .int .u32 0, .int .u32 0]) fun σ26 =>
newW σ26 (σ15.next + 5) (.rw (List.replicate 64 (.int .u32 0))) fun σ27 =>
stW 8 σ27 (.ptr (σ15.next + 4) 0) v22 fun σ28 =>
stW 64 σ28 (.ptr (σ15.next + 5) 0) v24 fun σ29 =>
bstrW (σ29.bump 5) v13 fun v30 =>
catW a0 v30 fun v31 =>
loopF [tI] (F_sha_Sum_l3 Q σ15 v31) 0 (σ29.bump 6))
def F_sha_Sum_l1 (a0 : ByteArray) (Q : AV → Mem → Prop) (v1 : Int) (next3 : AV → Mem → Prop) (v4 : AV) (σ5 : Mem) : Prop :=
slenW v4 fun v6 =>
iW ((a0.size : Int) + v6) fun v7 =>
remW v7 64 fun v8 =>
ifB (decide (v8 ≠ 56)) (
newW (σ5.bump 11) (σ5.next + 8) (.rw [.int .u8 0]) fun σ9 =>
apW 1 1 (σ5.next + 9) σ9 v4 (.slice (σ5.next + 8) 0 1 (.ex 1)) fun v10 σ11 =>
next3 v10 σ11) (
loopF [.v, tI] (F_sha_Sum_l2 a0 Q v1) v4 56 (σ5.bump 8))
def F_sha_Sum (a0 : ByteArray) (σ : Mem) (Q : AV → Mem → Prop) : Prop :=
wrW .u64 (a0.size : Int) fun v0 =>
wrW .u64 (v0 * 8) fun v1 =>
newW (σ.bump 8) (σ.next + 6) (.rw [.int .u8 128]) fun σ2 =>
loopF [.v] (F_sha_Sum_l1 a0 Q v1) (.slice (σ.next + 6) 0 1 (.ex 1)) σ2
theorem ok_sha_Sum {a0 σ Q} (h : σ.Live → F_sha_Sum a0 σ Q) : ACalls PG n_sha_Sum [.str a0] σ Q :=
  .of_sem [none, none, none, none, some ([0, 3], [4]), none, none, none, none, none, none, some ([0, 3], [4, 5]), none, none, none, none, none, none, none, none, none, some ([6, 7, 8], [9]), none, none, none, none, none, none, none, none, some ([58], [10, 59]), none, none, none, none, none, none, none] [(5, tI), (9, tI), (59, tI), (61, (.i .u32))] mixed (by kernel_rfl) (by kernel_rfl) h
/-! vitrine/sha.begin -/
def F_sha_begin (σ : Mem) (Q : AV → Mem → Prop) : Prop :=
newW (σ.bump 1) σ.next (.rw [.int .u32 0, .int .u32 0, .int .u32 0, .int .u32 0, .int .u32 0, .int .u32 0, .int .u32 0, .int .u32 0]) fun σ0 =>
stW 8 (σ0.bump 2) (.ptr σ.next 0) (.agg [.int .u32 1779033703, .int .u32 3144134277, .int .u32 1013904242, .int .u32 2773480762, .int .u32 1359893119, .int .u32 2600822924, .int .u32 528734635, .int .u32 1541459225]) fun σ1 =>
ldnW 8 σ1 (.ptr σ.next 0) fun v2 =>
Q v2 σ1
theorem ok_sha_begin {σ Q} (h : σ.Live → F_sha_begin σ Q) : ACalls PG n_sha_begin [] σ Q :=
  .of_sem [none, none] [] mixed (by kernel_rfl) (by kernel_rfl) h
/-! vitrine/sha.constants -/
def F_sha_constants (σ : Mem) (Q : AV → Mem → Prop) : Prop :=
newW (σ.bump 1) σ.next (.rw (List.replicate 64 (.int .u32 0))) fun σ0 =>
stW 64 (σ0.bump 2) (.ptr σ.next 0) (.agg [.int .u32 1116352408, .int .u32 1899447441, .int .u32 3049323471, .int .u32 3921009573, .int .u32 961987163, .int .u32 1508970993, .int .u32 2453635748, .int .u32 2870763221, .int .u32 3624381080, .int .u32 310598401, .int .u32 607225278, .int .u32 1426881987, .int .u32 1925078388, .int .u32 2162078206, .int .u32 2614888103, .int .u32 3248222580, .int .u32 3835390401, .int .u32 4022224774, .int .u32 264347078, .int .u32 604807628, .int .u32 770255983, .int .u32 1249150122, .int .u32 1555081692, .int .u32 1996064986, .int .u32 2554220882, .int .u32 2821834349, .int .u32 2952996808, .int .u32 3210313671, .int .u32 3336571891, .int .u32 3584528711, .int .u32 113926993, .int .u32 338241895, .int .u32 666307205, .int .u32 773529912, .int .u32 1294757372, .int .u32 1396182291, .int .u32 1695183700, .int .u32 1986661051, .int .u32 2177026350, .int .u32 2456956037, .int .u32 2730485921, .int .u32 2820302411, .int .u32 3259730800, .int .u32 3345764771, .int .u32 3516065817, .int .u32 3600352804, .int .u32 4094571909, .int .u32 275423344, .int .u32 430227734, .int .u32 506948616, .int .u32 659060556, .int .u32 883997877, .int .u32 958139571, .int .u32 1322822218, .int .u32 1537002063, .int .u32 1747873779, .int .u32 1955562222, .int .u32 2024104815, .int .u32 2227730452, .int .u32 2361852424, .int .u32 2428436474, .int .u32 2756734187, .int .u32 3204031479, .int .u32 3329325298]) fun σ1 =>
ldnW 64 σ1 (.ptr σ.next 0) fun v2 =>
Q v2 σ1
theorem ok_sha_constants {σ Q} (h : σ.Live → F_sha_constants σ Q) : ACalls PG n_sha_constants [] σ Q :=
  .of_sem [none, none] [] mixed (by kernel_rfl) (by kernel_rfl) h
/-! (*vitrine/sha.state).block -/
def F_sha_state_block_l2 (a0 : AV) (Q : AV → Mem → Prop) (σ4 : Mem) (next82 : Int → Mem → Prop) (v83 : Int) (σ84 : Mem) : Prop :=
ifB (decide (v83 < 8)) (
nchkW a0 fun v85 =>
idxAW 8 1 v85 v83 fun v86 =>
ldW (σ84.bump 15) v86 fun a => castI .u32 a fun v87 =>
idxAW 8 1 (.ptr (σ4.next + 3) 0) v83 fun v88 =>
ldW (σ84.bump 15) v88 fun a => castI .u32 a fun v89 =>
wrW .u32 (v87 + v89) fun v90 =>
nchkW a0 fun v91 =>
idxAW 8 1 v91 v83 fun v92 =>
stW 1 (σ84.bump 15) v92 (.int .u32 v90) fun σ93 =>
iW (v83 + 1) fun v94 =>
next82 v94 (σ93.bump 2)) (
Q (.tup []) (σ84.bump 1))
def F_sha_state_block_l1 (a0 : AV) (Q : AV → Mem → Prop) (σ : Mem) (σ0 : Mem) (σ4 : Mem) (next9 : Int → Mem → Prop) (v10 : Int) (σ11 : Mem) : Prop :=
ifB (decide (v10 < 64)) (
idxAW 8 1 (.ptr (σ4.next + 3) 0) 0 fun v12 =>
ldW (σ11.bump 9) v12 fun a => castI .u32 a fun v13 =>
idxAW 8 1 (.ptr (σ4.next + 3) 0) 4 fun v14 =>
ldW (σ11.bump 9) v14 fun a => castI .u32 a fun v15 =>
idxAW 8 1 (.ptr (σ4.next + 3) 0) 7 fun v16 =>
ldW (σ11.bump 39) v16 fun a => castI .u32 a fun v17 =>
idxAW 8 1 (.ptr (σ4.next + 3) 0) 5 fun v18 =>
ldW (σ11.bump 39) v18 fun a => castI .u32 a fun v19 =>
letW (bitsOp .and .u32 v15 v19) fun v20 =>
idxAW 8 1 (.ptr (σ4.next + 3) 0) 6 fun v21 =>
ldW (σ11.bump 39) v21 fun a => castI .u32 a fun v22 =>
letW (bitsOp .andNot .u32 v22 v15) fun v23 =>
letW (bitsOp .xor .u32 v20 v23) fun v24 =>
idxAW 64 1 (.ptr σ.next 0) v10 fun v25 =>
ldW (σ11.bump 39) v25 fun a => castI .u32 a fun v26 =>
idxAW 64 1 (.ptr (σ0.next + 2) 0) v10 fun v27 =>
ldW (σ11.bump 39) v27 fun a => castI .u32 a fun v28 =>
callW PG n_sha_turn [.int .u32 v15, .int .i64 6] (σ11.bump 39) fun v29 σ30 =>
fltS.sameW (σ11.bump 39) σ30 v16 (
fltS.sameW (σ11.bump 39) σ30 v18 (
fltS.sameW (σ11.bump 39) σ30 v21 (
fltS.sameW (σ11.bump 39) σ30 v25 (
fltS.sameW (σ11.bump 39) σ30 v27 (
castI .u32 v29 fun v31 =>
callW PG n_sha_turn [.int .u32 v15, .int .i64 11] σ30 fun v32 σ33 =>
fltS.sameW σ30 σ33 v16 (
fltS.sameW σ30 σ33 v18 (
fltS.sameW σ30 σ33 v21 (
fltS.sameW σ30 σ33 v25 (
fltS.sameW σ30 σ33 v27 (
castI .u32 v32 fun v34 =>
letW (bitsOp .xor .u32 v31 v34) fun v35 =>
callW PG n_sha_turn [.int .u32 v15, .int .i64 25] σ33 fun v36 σ37 =>
fltS.sameW σ33 σ37 v16 (
fltS.sameW σ33 σ37 v18 (
fltS.sameW σ33 σ37 v21 (
fltS.sameW σ33 σ37 v25 (
fltS.sameW σ33 σ37 v27 (
castI .u32 v36 fun v38 =>
letW (bitsOp .xor .u32 v35 v38) fun v39 =>
wrW .u32 (v17 + v39) fun v40 =>
wrW .u32 (v40 + v24) fun v41 =>
wrW .u32 (v41 + v26) fun v42 =>
wrW .u32 (v42 + v28) fun v43 =>
idxAW 8 1 (.ptr (σ4.next + 3) 0) 1 fun v44 =>
ldW (σ37.bump 25) v44 fun a => castI .u32 a fun v45 =>
letW (bitsOp .and .u32 v13 v45) fun v46 =>
idxAW 8 1 (.ptr (σ4.next + 3) 0) 2 fun v47 =>
ldW (σ37.bump 25) v47 fun a => castI .u32 a fun v48 =>
letW (bitsOp .and .u32 v13 v48) fun v49 =>
letW (bitsOp .xor .u32 v46 v49) fun v50 =>
idxAW 8 1 (.ptr (σ4.next + 3) 0) 1 fun v51 =>
ldW (σ37.bump 25) v51 fun a => castI .u32 a fun v52 =>
idxAW 8 1 (.ptr (σ4.next + 3) 0) 2 fun v53 =>
ldW (σ37.bump 25) v53 fun a => castI .u32 a fun v54 =>
letW (bitsOp .and .u32 v52 v54) fun v55 =>
letW (bitsOp .xor .u32 v50 v55) fun v56 =>
callW PG n_sha_turn [.int .u32 v13, .int .i64 2] (σ37.bump 25) fun v57 σ58 =>
fltS.sameW (σ37.bump 25) σ58 v44 (
fltS.sameW (σ37.bump 25) σ58 v47 (
fltS.sameW (σ37.bump 25) σ58 v51 (
fltS.sameW (σ37.bump 25) σ58 v53 (
castI .u32 v57 fun v59 =>
callW PG n_sha_turn [.int .u32 v13, .int .i64 13] σ58 fun v60 σ61 =>
fltS.sameW σ58 σ61 v44 (
fltS.sameW σ58 σ61 v47 (
fltS.sameW σ58 σ61 v51 (
fltS.sameW σ58 σ61 v53 (
castI .u32 v60 fun v62 =>
letW (bitsOp .xor .u32 v59 v62) fun v63 =>
callW PG n_sha_turn [.int .u32 v13, .int .i64 22] σ61 fun v64 σ65 =>
fltS.sameW σ61 σ65 v44 (
fltS.sameW σ61 σ65 v47 (
fltS.sameW σ61 σ65 v51 (
fltS.sameW σ61 σ65 v53 (
castI .u32 v64 fun v66 =>
letW (bitsOp .xor .u32 v63 v66) fun v67 =>
wrW .u32 (v67 + v56) fun v68 =>
slaW 8 1 (.ptr (σ4.next + 3) 0) (some 1) none fun v69 =>
slaW 8 1 (.ptr (σ4.next + 3) 0) none (some 7) fun v70 =>
cpW 1 (σ65.bump 3) v69 v70 fun v71 σ72 =>
wrW .u32 (v43 + v68) fun v73 =>
idxAW 8 1 (.ptr (σ4.next + 3) 0) 0 fun v74 =>
stW 1 (σ72.bump 5) v74 (.int .u32 v73) fun σ75 =>
idxAW 8 1 (.ptr (σ4.next + 3) 0) 4 fun v76 =>
ldW (σ75.bump 6) v76 fun a => castI .u32 a fun v77 =>
wrW .u32 (v77 + v43) fun v78 =>
idxAW 8 1 (.ptr (σ4.next + 3) 0) 4 fun v79 =>
stW 1 (σ75.bump 6) v79 (.int .u32 v78) fun σ80 =>
iW (v10 + 1) fun v81 =>
next9 v81 (σ80.bump 2))))))))))))))))))))))))))))) (
loopF [tI] (F_sha_state_block_l2 a0 Q σ4) 0 (σ11.bump 2))
def F_sha_state_block (a0 : AV) (a1 : ByteArray) (a2 : AV) (σ : Mem) (Q : AV → Mem → Prop) : Prop :=
boxW a2 (
newW (σ.bump 1) σ.next (.rw a2.cells) fun σ0 =>
callW PG n_sha_schedule [.str a1] (σ0.bump 4) fun v1 σ2 =>
newW σ2 (σ0.next + 2) (.rw (List.replicate 64 (.int .u32 0))) fun σ3 =>
stW 64 σ3 (.ptr (σ0.next + 2) 0) v1 fun σ4 =>
nchkW a0 fun v5 =>
ldnW 8 (σ4.bump 5) v5 fun v6 =>
newW (σ4.bump 5) (σ4.next + 3) (.rw [.int .u32 0, .int .u32 0, .int .u32 0, .int .u32 0, .int .u32 0, .int .u32 0, .int .u32 0, .int .u32 0]) fun σ7 =>
stW 8 σ7 (.ptr (σ4.next + 3) 0) v6 fun σ8 =>
loopF [tI] (F_sha_state_block_l1 a0 Q σ σ0 σ4) 0 (σ8.bump 1))
theorem ok_sha_state_block {a0 a1 a2 σ Q} (h : σ.Live → F_sha_state_block a0 a1 a2 σ Q) : ACalls PG n_sha_state_block [a0, .str a1, a2] σ Q :=
  .of_sem [none, none, none, none, none, some ([0, 5, 6, 7], [19]), none, none, none, none, none, none, none, none, none, none, none, none, none, some ([0, 7], [92]), none, none, none, none, none, none] [(19, tI), (23, (.i .u32)), (25, (.i .u32)), (27, (.i .u32)), (29, (.i .u32)), (31, (.i .u32)), (34, (.i .u32)), (39, (.i .u32)), (42, (.i .u32)), (49, (.i .u32)), (53, (.i .u32)), (56, (.i .u32)), (58, (.i .u32)), (61, (.i .u32)), (65, (.i .u32)), (69, (.i .u32)), (73, (.i .u32)), (75, (.i .u32)), (87, (.i .u32)), (92, tI), (99, (.i .u32)), (102, (.i .u32))] mixed (by kernel_rfl) (by kernel_rfl) h
/-! vitrine/sha.schedule -/
def F_sha_schedule_l2 (Q : AV → Mem → Prop) (σ : Mem) (σ0 : Mem) (next29 : Int → Mem → Prop) (v30 : Int) (σ31 : Mem) : Prop :=
ifB (decide (v30 < 64)) (
iW (v30 - 15) fun v32 =>
idxAW 64 1 (.ptr σ0.next 0) v32 fun v33 =>
ldW (σ31.bump 12) v33 fun a => castI .u32 a fun v34 =>
iW (v30 - 2) fun v35 =>
idxAW 64 1 (.ptr σ0.next 0) v35 fun v36 =>
ldW (σ31.bump 12) v36 fun a => castI .u32 a fun v37 =>
iW (v30 - 16) fun v38 =>
idxAW 64 1 (.ptr σ0.next 0) v38 fun v39 =>
ldW (σ31.bump 42) v39 fun a => castI .u32 a fun v40 =>
letW (v34 / 8) fun v41 =>
iW (v30 - 7) fun v42 =>
idxAW 64 1 (.ptr σ0.next 0) v42 fun v43 =>
ldW (σ31.bump 42) v43 fun a => castI .u32 a fun v44 =>
letW (v37 / 1024) fun v45 =>
callW PG n_sha_turn [.int .u32 v34, .int .i64 7] (σ31.bump 42) fun v46 σ47 =>
fltS.sameW (σ31.bump 42) σ47 v39 (
fltS.sameW (σ31.bump 42) σ47 v43 (
castI .u32 v46 fun v48 =>
callW PG n_sha_turn [.int .u32 v34, .int .i64 18] σ47 fun v49 σ50 =>
fltS.sameW σ47 σ50 v39 (
fltS.sameW σ47 σ50 v43 (
castI .u32 v49 fun v51 =>
letW (bitsOp .xor .u32 v48 v51) fun v52 =>
letW (bitsOp .xor .u32 v52 v41) fun v53 =>
wrW .u32 (v40 + v53) fun v54 =>
wrW .u32 (v54 + v44) fun v55 =>
callW PG n_sha_turn [.int .u32 v37, .int .i64 17] σ50 fun v56 σ57 =>
fltS.sameW σ50 σ57 v39 (
fltS.sameW σ50 σ57 v43 (
castI .u32 v56 fun v58 =>
callW PG n_sha_turn [.int .u32 v37, .int .i64 19] σ57 fun v59 σ60 =>
fltS.sameW σ57 σ60 v39 (
fltS.sameW σ57 σ60 v43 (
castI .u32 v59 fun v61 =>
letW (bitsOp .xor .u32 v58 v61) fun v62 =>
letW (bitsOp .xor .u32 v62 v45) fun v63 =>
wrW .u32 (v55 + v63) fun v64 =>
idxAW 64 1 (.ptr σ0.next 0) v30 fun v65 =>
stW 1 σ60 v65 (.int .u32 v64) fun σ66 =>
iW (v30 + 1) fun v67 =>
next29 v67 (σ66.bump 3)))))))))) (
ldnW 64 (σ31.bump 4) (.ptr σ0.next 0) fun v68 =>
stW 64 (σ31.bump 4) (.ptr σ.next 0) v68 fun σ69 =>
ldnW 64 σ69 (.ptr σ.next 0) fun v70 =>
Q v70 σ69)
def F_sha_schedule_l1 (a0 : ByteArray) (Q : AV → Mem → Prop) (σ : Mem) (σ0 : Mem) (next2 : Int → Mem → Prop) (v3 : Int) (σ4 : Mem) : Prop :=
ifB (decide (v3 < 16)) (
iW (4 * v3) fun v5 =>
sidxW a0 v5 fun v6 =>
wrW .u32 v6 fun v7 =>
wrW .u32 (v7 * 16777216) fun v8 =>
iW (4 * v3) fun v9 =>
iW (v9 + 1) fun v10 =>
sidxW a0 v10 fun v11 =>
wrW .u32 v11 fun v12 =>
wrW .u32 (v12 * 65536) fun v13 =>
letW (bitsOp .or .u32 v8 v13) fun v14 =>
iW (4 * v3) fun v15 =>
iW (v15 + 2) fun v16 =>
sidxW a0 v16 fun v17 =>
wrW .u32 v17 fun v18 =>
wrW .u32 (v18 * 256) fun v19 =>
letW (bitsOp .or .u32 v14 v19) fun v20 =>
iW (4 * v3) fun v21 =>
iW (v21 + 3) fun v22 =>
sidxW a0 v22 fun v23 =>
wrW .u32 v23 fun v24 =>
letW (bitsOp .or .u32 v20 v24) fun v25 =>
idxAW 64 1 (.ptr σ0.next 0) v3 fun v26 =>
stW 1 (σ4.bump 35) v26 (.int .u32 v25) fun σ27 =>
iW (v3 + 1) fun v28 =>
next2 v28 (σ27.bump 2)) (
loopF [tI] (F_sha_schedule_l2 Q σ σ0) 16 (σ4.bump 2))
def F_sha_schedule (a0 : ByteArray) (σ : Mem) (Q : AV → Mem → Prop) : Prop :=
newW (σ.bump 1) σ.next (.rw (List.replicate 64 (.int .u32 0))) fun σ0 =>
newW (σ0.bump 1) σ0.next (.rw (List.replicate 64 (.int .u32 0))) fun σ1 =>
loopF [tI] (F_sha_schedule_l1 a0 Q σ σ0) 0 (σ1.bump 1)
theorem ok_sha_schedule {a0 σ Q} (h : σ.Live → F_sha_schedule a0 σ Q) : ACalls PG n_sha_schedule [.str a0] σ Q :=
  .of_sem [none, none, none, none, some ([0, 2, 3], [8]), none, none, none, none, none, none, none, none, some ([2, 3], [5]), none, none, none, none, none, none, none] [(8, tI), (5, tI), (50, (.i .u32)), (54, (.i .u32)), (59, (.i .u32)), (61, (.i .u32)), (63, (.i .u32)), (72, (.i .u32)), (75, (.i .u32)), (77, (.i .u32))] mixed (by kernel_rfl) (by kernel_rfl) h
/-! vitrine/sha.turn -/
def F_sha_turn (a0 : Int) (a1 : Int) (σ : Mem) (Q : AV → Mem → Prop) : Prop :=
shrW .u32 a0 a1 fun v0 =>
iW (32 - a1) fun v1 =>
shlW .u32 a0 v1 fun v2 =>
letW (bitsOp .or .u32 v0 v2) fun v3 =>
Q (.int .u32 v3) (σ.bump 10)
theorem ok_sha_turn {a0 a1 σ Q} (h : σ.Live → F_sha_turn a0 a1 σ Q) : ACalls PG n_sha_turn [.int .u32 a0, .int .i64 a1] σ Q :=
  .of_sem [none, none] [] mixed (by kernel_rfl) (by kernel_rfl) h
/-! vitrine/bits.Crc -/
def F_bits_Crc_l2 (next0 : Int → Int → Mem → Prop) (v2 : Int) (next7 : Int → Int → Mem → Prop) (v8 : Int) (v9 : Int) (σ10 : Mem) : Prop :=
ifB (decide (v9 < 8)) (
letW (v8 / 2) fun v11 =>
letW (bitsOp .and .i64 v8 1) fun v12 =>
iW (3988292384 * v12) fun v13 =>
letW (bitsOp .xor .i64 v11 v13) fun v14 =>
iW (v9 + 1) fun v15 =>
next7 v14 v15 (σ10.bump 10)) (
iW (v2 + 1) fun v16 =>
next0 v8 v16 (σ10.bump 3))
def F_bits_Crc_l1 (a0 : ByteArray) (Q : AV → Mem → Prop) (next0 : Int → Int → Mem → Prop) (v1 : Int) (v2 : Int) (σ3 : Mem) : Prop :=
ifB (decide (v2 < (a0.size : Int))) (
sidxW a0 v2 fun v4 =>
iW v4 fun v5 =>
letW (bitsOp .xor .i64 v1 v5) fun v6 =>
loopF [tI, tI] (F_bits_Crc_l2 next0 v2) v6 0 (σ3.bump 11)) (
letW (bitsOp .xor .i64 v1 4294967295) fun v17 =>
Q (.int .i64 v17) (σ3.bump 4))
def F_bits_Crc (a0 : ByteArray) (σ : Mem) (Q : AV → Mem → Prop) : Prop :=
loopF [tI, tI] (F_bits_Crc_l1 a0 Q) 4294967295 0 (σ.bump 5)
theorem ok_bits_Crc {a0 σ Q} (h : σ.Live → F_bits_Crc a0 σ Q) : ACalls PG n_bits_Crc [.str a0] σ Q :=
  .of_sem [none, none, none, none, some ([0, 6], [3, 7]), none, none, none, none, none, none, none, some ([0, 6, 7], [3, 16]), none, none, none, none, none, none, none] [(3, tI), (7, tI), (16, tI)] mixed (by kernel_rfl) (by kernel_rfl) h
/-! vitrine/vitrinelaw18.Small -/
/-! vitrine/vitrinelaw23.small -/
/-! vitrine/bands.Manifest -/
/-! vitrine/bands.Cut -/
end Go.Vit
