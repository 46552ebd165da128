import Derived.Test.YtloeboiajgfigaaV6L
set_option linter.unusedVariables false
set_option linter.unusedSimpArgs false
set_option linter.unusedVariables false
set_option maxRecDepth 100000
namespace Go.Vit
open Go.Proofs
/-! vitrine/inflate.Inflate -/
def F_inflate_Inflate_j1 (next3:Bool->Mem->Prop) (v6:Bool) (σ7:Mem):Prop:=
next3 v6 σ7
def F_inflate_Inflate_j3 (Q:AV->Mem->Prop) (next32:Mem->Prop) (v39:Int) (σ40:Mem):Prop:=
ifB (decide (v39≠0)) (
Q (.tup [.str ⟨#[]⟩,.int .i64 0,.int .i64 v39]) (σ40.bump 6)) (
next32 (σ40.bump 2))
def F_inflate_Inflate_j4 (k41:Int->Mem->Prop) (v42:Int) (σ43:Mem):Prop:=
k41 v42 σ43
def F_inflate_Inflate_j5 (k44:Int->Mem->Prop) (v47:Int) (σ48:Mem):Prop:=
k44 v47 σ48
def F_inflate_Inflate_l2 (Q:AV->Mem->Prop) (σ:Mem) (k8:Bool->Mem->Prop) (v15:Int) (v26:AV) (v30:AV) (next32:Mem->Prop) (σ33:Mem):Prop:=
lfW 0 (σ33.bump 11) (.ptr (σ.next+7) 0) fun v34=>
callW PG n_huff_Table_Next [v26,v34] (σ33.bump 11) fun v35 σ36=>
tpI v35 0 fun v37=>
tpI v35 1 fun v38=>
joinF [tI] (fun (k41:Int->Mem->Prop)=>
ifB (decide (v38≠0)) (
k41 v38 (σ36.bump 3)) (
joinF [tI] (fun (k44:Int->Mem->Prop)=>
ifB (decide (v37<256)) (
callW PG n_inflate_stream_room [.ptr (σ.next+7) 0,.int .i64 1] (σ36.bump 9) fun v45 σ46=>
castI .i64 v45 fun v47=>
joinF [] (fun (k49:Mem->Prop)=>
ifB (decide (v47=0)) (
lfW 1 (σ46.bump 14) (.ptr (σ.next+7) 0) fun v50=>
wrW .u8 v37 fun v51=>
newW (σ46.bump 14) (σ46.next+9) (.rw [.int .u8 v51]) fun σ52=>
apW 1 1 (σ46.next+10) σ52 v50 (.slice (σ46.next+9) 0 1 (.ex 1)) fun v53 σ54=>
nfW 1 (.ptr (σ.next+7) 0) fun v55=>
stW 1 σ54 v55 v53 fun σ56=>
k49 σ56) (
k49 (σ46.bump 2))) (F_inflate_Inflate_j5 k44 v47)) (
ifB (decide (v37=256)) (
k8 (decide (v15=1)) (σ36.bump 9)) (
callW PG n_inflate_stream_match [.ptr (σ.next+7) 0,.int .i64 v37,v30] (σ36.bump 14) fun v57 σ58=>
castI .i64 v57 fun v59=>
k44 v59 σ58))) (F_inflate_Inflate_j4 k41))) (F_inflate_Inflate_j3 Q next32)
def F_inflate_Inflate_j2 (Q:AV->Mem->Prop) (σ:Mem) (k8:Bool->Mem->Prop) (v15:Int) (v21:AV) (v22:AV) (σ23:Mem):Prop:=
callW PG n_huff_Make [v21] (σ23.bump 7) fun v24 σ25=>
tupW v24 0 fun v26=>
tpI v24 1 fun v27=>
ifB (decide (v27≠0)) (
Q (.tup [.str ⟨#[]⟩,.int .i64 0,.int .i64 v27]) (σ25.bump 6)) (
callW PG n_huff_Make [v22] (σ25.bump 9) fun v28 σ29=>
tupW v28 0 fun v30=>
tpI v28 1 fun v31=>
ifB (decide (v31≠0)) (
Q (.tup [.str ⟨#[]⟩,.int .i64 0,.int .i64 v31]) (σ29.bump 6)) (
loopF [] (F_inflate_Inflate_l2 Q σ k8 v15 v26 v30) (σ29.bump 2)))
def F_inflate_Inflate_l1 (a0:ByteArray) (Q:AV->Mem->Prop) (σ:Mem) (next3:Bool->Mem->Prop) (v4:Bool) (σ5:Mem):Prop:=
ifB (!v4) (
joinF [.b] (fun (k8:Bool->Mem->Prop)=>
newW (σ5.bump 10) (σ5.next+3) (.rw [.int .i64 1,.int .i64 2]) fun σ9=>
callW PG n_inflate_stream_several [.ptr (σ.next+7) 0,.slice (σ5.next+3) 0 2 (.ex 2)] σ9 fun v10 σ11=>
tupW v10 0 fun v12=>
tpI v10 1 fun v13=>
ifB (decide (v13≠0)) (
Q (.tup [.str ⟨#[]⟩,.int .i64 0,.int .i64 v13]) (σ11.bump 6)) (
idxW 1 v12 0 fun v14=>
ldI (σ11.bump 7) v14 fun v15=>
idxW 1 v12 1 fun v16=>
ldI (σ11.bump 12) v16 fun v17=>
ifB (decide (v17=0)) (
callW PG n_inflate_stream_stored [.ptr (σ.next+7) 0] (σ11.bump 17) fun v18 σ19=>
castI .i64 v18 fun v20=>
ifB (decide (v20≠0)) (
Q (.tup [.str ⟨#[]⟩,.int .i64 0,.int .i64 v20]) (σ19.bump 6)) (
k8 (decide (v15=1)) (σ19.bump 2))) (
joinF [.v,.v] (fun (k60:AV->AV->Mem->Prop)=>
ifB (decide (v17=1)) (
callW PG n_inflate_fixed [] (σ11.bump 22) fun v61 σ62=>
tupW v61 0 fun v63=>
tupW v61 1 fun v64=>
k60 v63 v64 σ62) (
ifB (decide (v17=2)) (
callW PG n_inflate_stream_dynamic [.ptr (σ.next+7) 0] (σ11.bump 27) fun v65 σ66=>
tupW v65 0 fun v67=>
tupW v65 1 fun v68=>
tpI v65 2 fun v69=>
ifB (decide (v69≠0)) (
Q (.tup [.str ⟨#[]⟩,.int .i64 0,.int .i64 v69]) (σ66.bump 6)) (
k60 v67 v68 (σ66.bump 2))) (
Q (.tup [.str ⟨#[]⟩,.int .i64 0,.int .i64 13]) (σ11.bump 21)))) (F_inflate_Inflate_j2 Q σ k8 v15)))) (F_inflate_Inflate_j1 next3)) (
nfW 1 (.ptr (σ.next+7) 0) fun v70=>
ldW (σ5.bump 19) v70 fun v71=>
bstrW (σ5.bump 19) v71 fun v72=>
lfW 0 (σ5.bump 19) (.ptr (σ.next+7) 0) fun v73=>
callW PG n_bits_Reader_Left [v73] (σ5.bump 19) fun v74 σ75=>
fltS.sameW (σ5.bump 19) σ75 v70 (
fltS.sameW (σ5.bump 19) σ75 v71 (
castI .i64 v74 fun v76=>
quoW .i64 v76 8 fun v77=>
iW ((a0.size:Int)-v77) fun v78=>
Q (.tup [.str v72,.int .i64 v78,.int .i64 0]) σ75)))
def F_inflate_Inflate (a0:ByteArray) (a1:Int) (σ:Mem) (Q:AV->Mem->Prop):Prop:=
callW PG n_bits_Read [.str a0] (σ.bump 9) fun v0 σ1=>
cellOkW v0 1 (
boxW (.agg (setAt (setAt [.nilp,.nils,.int .i64 0] 0 v0.cells) 2 [.int .i64 a1])) (
newW σ1 (σ.next+7) (.rw (setAt (setAt [.nilp,.nils,.int .i64 0] 0 v0.cells) 2 [.int .i64 a1])) fun σ2=>
loopF [.b] (F_inflate_Inflate_l1 a0 Q σ) false (σ2.bump 1)))
theorem ok_inflate_Inflate {a0 a1 σ Q} (h:σ.Live->F_inflate_Inflate a0 a1 σ Q):ACalls PG n_inflate_Inflate [.str a0,.int .i64 a1] σ Q:=
 .of_sem [none,none,none,none,some ([0,7],[8]),none,none,some ([0,7],[8]),none,none,none,none,none,none,none,none,none,none,none,none,none,none,none,some ([0,7,8],[11,12]),none,none,none,none,none,none,none,none,none,none,none,none,none,none,none,none,none,some ([0,7,8,14,15],[]),none,none,none,none,some ([0,7,8,14,15],[17]),none,some ([0,7,8,14,15],[17]),none,none,some ([0,7,8,14,15,17],[]),none,none,none,none,none,none,none,none] [(8,.b),(30,tI),(36,tI),(40,tI),(44,tI),(61,tI),(69,tI),(77,tI),(88,tI),(89,tI),(17,tI),(101,tI),(93,tI),(132,tI)] mixed (by kernel_rfl) (by kernel_rfl) h
/-! (*vitrine/inflate.stream).several -/
def F_inflate_stream_several_l1 (a0:AV) (a1:AV) (Q:AV->Mem->Prop) (v0:Int) (next1:AV->Int->Mem->Prop) (v2:AV) (v3:Int) (σ4:Mem):Prop:=
ifB (decide (v3<v0)) (
idxW 1 a1 v3 fun v5=>
ldI (σ4.bump 4) v5 fun v6=>
lfW 0 (σ4.bump 15) a0 fun v7=>
callW PG n_bits_Reader_Bits [v7,.int .i64 v6] (σ4.bump 15) fun v8 σ9=>
tpI v8 0 fun v10=>
tpI v8 1 fun v11=>
ifB (decide (v11≠0)) (
Q (.tup [.nils,.int .i64 v11]) (σ9.bump 5)) (
newW (σ9.bump 7) (σ9.next+4) (.rw [.int .i64 v10]) fun σ12=>
apW 1 8 (σ9.next+5) σ12 v2 (.slice (σ9.next+4) 0 1 (.ex 1)) fun v13 σ14=>
iW (v3+1) fun v15=>
next1 v13 v15 (σ14.bump 2))) (
Q (.tup [v2,.int .i64 0]) (σ4.bump 4))
def F_inflate_stream_several (a0:AV) (a1:AV) (σ:Mem) (Q:AV->Mem->Prop):Prop:=
slenW a1 fun v0=>
loopF [.v,tI] (F_inflate_stream_several_l1 a0 a1 Q v0) .nils 0 (σ.bump 6)
theorem ok_inflate_stream_several {a0 a1 σ Q} (h:σ.Live->F_inflate_stream_several a0 a1 σ Q):ACalls PG n_inflate_stream_several [a0,a1] σ Q:=
 .of_sem [none,none,none,none,some ([0,11,12],[6,13]),none,none,none,none,none,none,none,none,none,none,none] [(13,tI),(16,tI),(24,tI),(25,tI)] mixed (by kernel_rfl) (by kernel_rfl) h
/-! (*vitrine/inflate.stream).stored -/
def F_inflate_stream_stored (a0:AV) (σ:Mem) (Q:AV->Mem->Prop):Prop:=
callW PG n_inflate_stream_pair [a0] (σ.bump 8) fun v0 σ1=>
tpI v0 0 fun v2=>
tpI v0 1 fun v3=>
ifB (decide (v3≠0)) (
Q (.int .i64 v3) (σ1.bump 4)) (
callW PG n_inflate_stream_pair [a0] (σ1.bump 9) fun v4 σ5=>
tpI v4 0 fun v6=>
tpI v4 1 fun v7=>
ifB (decide (v7≠0)) (
Q (.int .i64 v7) (σ5.bump 4)) (
letW (bitsOp .xor .i64 v2 v6) fun v8=>
ifB (decide (v8≠65535)) (
Q (.int .i64 14) (σ5.bump 7)) (
lfW 0 (σ5.bump 17) a0 fun v9=>
callW PG n_bits_Reader_Bytes [v9,.int .i64 v2] (σ5.bump 17) fun v10 σ11=>
tpS v10 0 fun v12=>
tpI v10 1 fun v13=>
ifB (decide (v13≠0)) (
Q (.int .i64 v13) (σ11.bump 4)) (
callW PG n_inflate_stream_room [a0,.int .i64 v2] (σ11.bump 6) fun v14 σ15=>
castI .i64 v14 fun v16=>
ifB (decide (v16≠0)) (
Q (.int .i64 v16) (σ15.bump 4)) (
lfW 1 (σ15.bump 12) a0 fun v17=>
apW 1 1 (σ15.next+8) (σ15.bump 12) v17 (.str v12) fun v18 σ19=>
nfW 1 a0 fun v20=>
stW 1 σ19 v20 v18 fun σ21=>
Q (.int .i64 0) (σ21.bump 1))))))
theorem ok_inflate_stream_stored {a0 σ Q} (h:σ.Live->F_inflate_stream_stored a0 σ Q):ACalls PG n_inflate_stream_stored [a0] σ Q:=
 .of_sem [none,none,none,none,none,none,none,none,none,none,none,none,none,none,none,none,none,none,none,none,none,none] [(11,tI),(12,tI),(19,tI),(20,tI),(35,.s),(36,tI),(42,tI)] mixed (by kernel_rfl) (by kernel_rfl) h
/-! vitrine/inflate.fixed -/
def F_inflate_fixed_j1 (next3:Int->Mem->Prop) (v4:Int) (σ6:Mem):Prop:=
iW (v4+1) fun v7=>
next3 v7 (σ6.bump 2)
def F_inflate_fixed_j2 (next3:Int->Mem->Prop) (v4:Int) (σ11:Mem):Prop:=
iW (v4+1) fun v12=>
next3 v12 (σ11.bump 2)
def F_inflate_fixed_j3 (k13:Mem->Prop) (σ16:Mem):Prop:=
k13 σ16
def F_inflate_fixed_l2 (Q:AV->Mem->Prop) (σ:Mem) (v22:Int) (next23:Int->Mem->Prop) (v24:Int) (σ25:Mem):Prop:=
ifB (decide (v24<v22)) (
idxW 1 (.slice (σ.next+3) 0 (Int.toNat 32) (.ex (Int.toNat 32))) v24 fun v26=>
stW 1 (σ25.bump 7) v26 (.int .i64 5) fun σ27=>
iW (v24+1) fun v28=>
next23 v28 (σ27.bump 2)) (
Q (.tup [.slice (σ.next+2) 0 (Int.toNat 288) (.ex (Int.toNat 288)),.slice (σ.next+3) 0 (Int.toNat 32) (.ex (Int.toNat 32))]) (σ25.bump 5))
def F_inflate_fixed_l1 (Q:AV->Mem->Prop) (σ:Mem) (v2:Int) (next3:Int->Mem->Prop) (v4:Int) (σ5:Mem):Prop:=
ifB (decide (v4<v2)) (
ifB (decide (280<=v4)) (
joinF [] (fun (k8:Mem->Prop)=>
idxW 1 (.slice (σ.next+2) 0 (Int.toNat 288) (.ex (Int.toNat 288))) v4 fun v9=>
stW 1 (σ5.bump 14) v9 (.int .i64 8) fun σ10=>
k8 σ10) (F_inflate_fixed_j1 next3 v4)) (
joinF [] (fun (k13:Mem->Prop)=>
ifB (decide (v4<144)) (
idxW 1 (.slice (σ.next+2) 0 (Int.toNat 288) (.ex (Int.toNat 288))) v4 fun v14=>
stW 1 (σ5.bump 14) v14 (.int .i64 8) fun σ15=>
k13 σ15) (
joinF [] (fun (k17:Mem->Prop)=>
ifB (decide (v4<256)) (
idxW 1 (.slice (σ.next+2) 0 (Int.toNat 288) (.ex (Int.toNat 288))) v4 fun v18=>
stW 1 (σ5.bump 17) v18 (.int .i64 9) fun σ19=>
k17 σ19) (
idxW 1 (.slice (σ.next+2) 0 (Int.toNat 288) (.ex (Int.toNat 288))) v4 fun v20=>
stW 1 (σ5.bump 17) v20 (.int .i64 7) fun σ21=>
k17 σ21)) (F_inflate_fixed_j3 k13))) (F_inflate_fixed_j2 next3 v4))) (
slenW (.slice (σ.next+3) 0 (Int.toNat 32) (.ex (Int.toNat 32))) fun v22=>
loopF [tI] (F_inflate_fixed_l2 Q σ v22) 0 (σ5.bump 4))
def F_inflate_fixed (σ:Mem) (Q:AV->Mem->Prop):Prop:=
makeW 8 288 288 (
newW (σ.bump 6) (σ.next+2) (.rw (repl (Int.toNat 288) [.int .i64 0])) fun σ0=>
makeW 8 32 32 (
newW σ0 (σ.next+3) (.rw (repl (Int.toNat 32) [.int .i64 0])) fun σ1=>
slenW (.slice (σ.next+2) 0 (Int.toNat 288) (.ex (Int.toNat 288))) fun v2=>
loopF [tI] (F_inflate_fixed_l1 Q σ v2) 0 (σ1.bump 3)))
theorem ok_inflate_fixed {σ Q} (h:σ.Live->F_inflate_fixed σ Q):ACalls PG n_inflate_fixed [] σ Q:=
 .of_sem [none,none,none,none,some ([2,3,9],[10]),none,none,none,none,none,none,some ([2,3,9,10],[]),none,none,some ([2,3,9,10],[]),none,none,none,none,none,some ([2,3,34],[35]),none,none,none,none,none,none,none] [(10,tI),(35,tI)] mixed (by kernel_rfl) (by kernel_rfl) h
/-! (*vitrine/inflate.stream).dynamic -/
def F_inflate_stream_dynamic_l2 (next22:AV->Mem->Prop) (v28:Int) (v29:Int) (next35:AV->Int->Mem->Prop) (v36:AV) (v37:Int) (σ38:Mem):Prop:=
ifB (decide (v37<v29)) (
newW (σ38.bump 6) (σ38.next+3) (.rw [.int .i64 v28]) fun σ39=>
apW 1 8 (σ38.next+4) σ39 v36 (.slice (σ38.next+3) 0 1 (.ex 1)) fun v40 σ41=>
iW (v37+1) fun v42=>
next35 v40 v42 (σ41.bump 2)) (
next22 v36 (σ38.bump 1))
def F_inflate_stream_dynamic_j1 (Q:AV->Mem->Prop) (next22:AV->Mem->Prop) (v23:AV) (v28:Int) (v29:Int) (v33:Int) (σ34:Mem):Prop:=
ifB (decide (v33≠0)) (
Q (.tup [.nils,.nils,.int .i64 v33]) (σ34.bump 6)) (
loopF [.v,tI] (F_inflate_stream_dynamic_l2 next22 v28 v29) v23 0 (σ34.bump 4))
def F_inflate_stream_dynamic_l3 (next22:AV->Mem->Prop) (v28:Int) (v29:Int) (next46:AV->Int->Mem->Prop) (v47:AV) (v48:Int) (σ49:Mem):Prop:=
ifB (decide (v48<v29)) (
newW (σ49.bump 6) (σ49.next+3) (.rw [.int .i64 v28]) fun σ50=>
apW 1 8 (σ49.next+4) σ50 v47 (.slice (σ49.next+3) 0 1 (.ex 1)) fun v51 σ52=>
iW (v48+1) fun v53=>
next46 v51 v53 (σ52.bump 2)) (
next22 v47 (σ49.bump 1))
def F_inflate_stream_dynamic_j2 (Q:AV->Mem->Prop) (next22:AV->Mem->Prop) (v23:AV) (v28:Int) (v29:Int) (v44:Int) (σ45:Mem):Prop:=
ifB (decide (v44≠0)) (
Q (.tup [.nils,.nils,.int .i64 v44]) (σ45.bump 6)) (
loopF [.v,tI] (F_inflate_stream_dynamic_l3 next22 v28 v29) v23 0 (σ45.bump 4))
def F_inflate_stream_dynamic_l1 (a0:AV) (Q:AV->Mem->Prop) (v7:Int) (v14:Int) (v20:AV) (next22:AV->Mem->Prop) (v23:AV) (σ24:Mem):Prop:=
slenW v23 fun v25=>
ifB (decide (v25<v14)) (
callW PG n_inflate_stream_run [a0,v20,v23] (σ24.bump 15) fun v26 σ27=>
tpI v26 0 fun v28=>
tpI v26 1 fun v29=>
tpI v26 2 fun v30=>
ifB (decide (v30=0)) (
slenW v23 fun v31=>
iW (v31+v29) fun v32=>
joinF [tI] (fun (k43:Int->Mem->Prop)=>
ifB (decide (v14<v32)) (
k43 12 (σ27.bump 11)) (
k43 v30 (σ27.bump 10))) (F_inflate_stream_dynamic_j1 Q next22 v23 v28 v29)) (
joinF [tI] (fun (k54:Int->Mem->Prop)=>
k54 v30 (σ27.bump 10)) (F_inflate_stream_dynamic_j2 Q next22 v23 v28 v29))) (
slcW 1 v23 none (some v7) fun v55=>
slcW 1 v23 (some v7) none fun v56=>
Q (.tup [v55,v56,.int .i64 0]) (σ24.bump 13))
def F_inflate_stream_dynamic (a0:AV) (σ:Mem) (Q:AV->Mem->Prop):Prop:=
newW (σ.bump 11) (σ.next+4) (.rw [.int .i64 5,.int .i64 5,.int .i64 4]) fun σ0=>
callW PG n_inflate_stream_several [a0,.slice (σ.next+4) 0 3 (.ex 3)] σ0 fun v1 σ2=>
tupW v1 0 fun v3=>
tpI v1 1 fun v4=>
ifB (decide (v4≠0)) (
Q (.tup [.nils,.nils,.int .i64 v4]) (σ2.bump 6)) (
idxW 1 v3 0 fun v5=>
ldI (σ2.bump 17) v5 fun v6=>
iW (v6+257) fun v7=>
idxW 1 v3 0 fun v8=>
ldI (σ2.bump 17) v8 fun v9=>
iW (v9+257) fun v10=>
idxW 1 v3 1 fun v11=>
ldI (σ2.bump 17) v11 fun v12=>
iW (v10+v12) fun v13=>
iW (v13+1) fun v14=>
idxW 1 v3 2 fun v15=>
ldI (σ2.bump 28) v15 fun v16=>
iW (v16+4) fun v17=>
callW PG n_inflate_stream_small [a0,.int .i64 v17] (σ2.bump 28) fun v18 σ19=>
tupW v18 0 fun v20=>
tpI v18 1 fun v21=>
ifB (decide (v21≠0)) (
Q (.tup [.nils,.nils,.int .i64 v21]) (σ19.bump 6)) (
loopF [.v] (F_inflate_stream_dynamic_l1 a0 Q v7 v14 v20) .nils (σ19.bump 3)))
theorem ok_inflate_stream_dynamic {a0 σ Q} (h:σ.Live->F_inflate_stream_dynamic a0 σ Q):ACalls PG n_inflate_stream_dynamic [a0] σ Q:=
 .of_sem [none,none,none,none,none,none,none,none,none,none,none,none,some ([0,7,8,9],[10]),none,none,none,none,none,some ([0,7,8,9,10,11,12],[13]),none,none,none,none,none,none,some ([0,7,8,9,11,73],[10,74]),none,none,none,none,none,none] [(19,tI),(25,tI),(29,tI),(33,tI),(40,tI),(44,tI),(57,tI),(58,tI),(59,tI),(13,tI),(74,tI)] mixed (by kernel_rfl) (by kernel_rfl) h
/-! (*vitrine/inflate.stream).room -/
def F_inflate_stream_room (a0:AV) (a1:Int) (σ:Mem) (Q:AV->Mem->Prop):Prop:=
lfI 2 (σ.bump 13) a0 fun v0=>
lfW 1 (σ.bump 13) a0 fun v1=>
slenW v1 fun v2=>
iW (v0-v2) fun v3=>
ifB (decide (v3<a1)) (
Q (.int .i64 5) (σ.bump 14)) (
Q (.int .i64 0) (σ.bump 14))
theorem ok_inflate_stream_room {a0 a1 σ Q} (h:σ.Live->F_inflate_stream_room a0 a1 σ Q):ACalls PG n_inflate_stream_room [a0,.int .i64 a1] σ Q:=
 .of_sem [none,none,none,none,none] [(9,tI)] mixed (by kernel_rfl) (by kernel_rfl) h
/-! (*vitrine/inflate.stream).match -/
def F_inflate_stream_match_l1 (a0:AV) (Q:AV->Mem->Prop) (v2:Int) (v11:Int) (next18:Int->Mem->Prop) (v19:Int) (σ20:Mem):Prop:=
ifB (decide (v19<v2)) (
lfW 1 (σ20.bump 24) a0 fun v21=>
lfW 1 (σ20.bump 24) a0 fun v22=>
lfW 1 (σ20.bump 24) a0 fun v23=>
slenW v23 fun v24=>
iW (v24-v11) fun v25=>
idxW 1 v22 v25 fun v26=>
ldU (σ20.bump 24) v26 fun v27=>
newW (σ20.bump 24) (σ20.next+19) (.rw [.int .u8 v27]) fun σ28=>
apW 1 1 (σ20.next+20) σ28 v21 (.slice (σ20.next+19) 0 1 (.ex 1)) fun v29 σ30=>
nfW 1 a0 fun v31=>
stW 1 σ30 v31 v29 fun σ32=>
iW (v19+1) fun v33=>
next18 v33 (σ32.bump 2)) (
Q (.int .i64 0) (σ20.bump 2))
def F_inflate_stream_match (a0:AV) (a1:Int) (a2:AV) (σ:Mem) (Q:AV->Mem->Prop):Prop:=
callW PG n_inflate_stream_length [a0,.int .i64 a1] (σ.bump 9) fun v0 σ1=>
tpI v0 0 fun v2=>
tpI v0 1 fun v3=>
ifB (decide (v3≠0)) (
Q (.int .i64 v3) (σ1.bump 4)) (
lfW 0 (σ1.bump 13) a0 fun v4=>
callW PG n_huff_Table_Next [a2,v4] (σ1.bump 13) fun v5 σ6=>
tpI v5 0 fun v7=>
tpI v5 1 fun v8=>
ifB (decide (v8≠0)) (
Q (.int .i64 v8) (σ6.bump 4)) (
callW PG n_inflate_stream_distance [a0,.int .i64 v7] (σ6.bump 10) fun v9 σ10=>
tpI v9 0 fun v11=>
tpI v9 1 fun v12=>
ifB (decide (v12≠0)) (
Q (.int .i64 v12) (σ10.bump 5)) (
lfW 1 (σ10.bump 11) a0 fun v13=>
slenW v13 fun v14=>
ifB (decide (v14<v11)) (
Q (.int .i64 15) (σ10.bump 12)) (
callW PG n_inflate_stream_room [a0,.int .i64 v2] (σ10.bump 15) fun v15 σ16=>
castI .i64 v15 fun v17=>
ifB (decide (v17≠0)) (
Q (.int .i64 v17) (σ16.bump 4)) (
loopF [tI] (F_inflate_stream_match_l1 a0 Q v2 v11) 0 (σ16.bump 4))))))
theorem ok_inflate_stream_match {a0 a1 a2 σ Q} (h:σ.Live->F_inflate_stream_match a0 a1 a2 σ Q):ACalls PG n_inflate_stream_match [a0,.int .i64 a1,a2] σ Q:=
 .of_sem [none,none,none,none,none,none,none,none,none,none,none,none,none,none,none,none,none,none,none,none,none,none,none,some ([0,10,57],[58]),none,none,none,none,none,none] [(16,tI),(17,tI),(28,tI),(29,tI),(37,tI),(38,tI),(53,tI),(58,tI),(77,tU)] mixed (by kernel_rfl) (by kernel_rfl) h
end Go.Vit
