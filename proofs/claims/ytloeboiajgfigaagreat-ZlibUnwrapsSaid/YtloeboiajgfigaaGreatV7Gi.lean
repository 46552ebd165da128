import Derived.Test.YtloeboiajgfigaaGreatV7L
set_option linter.unusedVariables false
set_option linter.unusedSimpArgs false
set_option maxRecDepth 100000
namespace Go.Vit
open Go.Proofs
/-! vitrine/inflate.Inflate -/
def z3c (next3:Bool->Mem->Prop) (v6:Bool) (σ7:Mem):Prop:=
next3 v6 σ7
def z0a (Q:AV->Mem->Prop) (next32:Mem->Prop) (v39:Int) (σ40:Mem):Prop:=
ifB (decide (v39≠0)) (
Q (.tup [.str ⟨#[]⟩,.int .i64 0,.int .i64 v39]) (σ40.bump 6)) (
next32 (σ40.bump 2))
def z0P (k41:Int->Mem->Prop) (v42:Int) (σ43:Mem):Prop:=
k41 v42 σ43
def z38 (k44:Int->Mem->Prop) (v47:Int) (σ48:Mem):Prop:=
k44 v47 σ48
def z3h (Q:AV->Mem->Prop) (σ:Mem) (k8:Bool->Mem->Prop) (v15:Int) (v26:AV) (v30:AV) (next32:Mem->Prop) (σ33:Mem):Prop:=
lfW 0 (σ33.bump 11) (.ptr (σ.next+7) 0) λv34=>
z5 PG z11 [v26,v34] (σ33.bump 11) λv35 σ36=>
tpI v35 0 λv37=>
tpI v35 1 λv38=>
zd [tI] (λ(k41:Int->Mem->Prop)=>
ifB (decide (v38≠0)) (
k41 v38 (σ36.bump 3)) (
zd [tI] (λ(k44:Int->Mem->Prop)=>
ifB (decide (v37<256)) (
z5 PG z0q [.ptr (σ.next+7) 0,.int .i64 1] (σ36.bump 9) λv45 σ46=>
zq .i64 v45 λv47=>
zd [] (λ(k49:Mem->Prop)=>
ifB (decide (v47=0)) (
lfW 1 (σ46.bump 14) (.ptr (σ.next+7) 0) λv50=>
wrW .u8 v37 λv51=>
z15 (σ46.bump 14) (σ46.next+9) (.rw [.int .u8 v51]) λσ52=>
apW 1 1 (σ46.next+10) σ52 v50 (.slice (σ46.next+9) 0 1 (.ex 1)) λv53 σ54=>
nfW 1 (.ptr (σ.next+7) 0) λv55=>
stW 1 σ54 v55 v53 λσ56=>
k49 σ56) (
k49 (σ46.bump 2))) (z38 k44 v47)) (
ifB (decide (v37=256)) (
k8 (decide (v15=1)) (σ36.bump 9)) (
z5 PG z2i [.ptr (σ.next+7) 0,.int .i64 v37,v30] (σ36.bump 14) λv57 σ58=>
zq .i64 v57 λv59=>
k44 v59 σ58))) (z0P k41))) (z0a Q next32)
def z3g (Q:AV->Mem->Prop) (σ:Mem) (k8:Bool->Mem->Prop) (v15:Int) (v21:AV) (v22:AV) (σ23:Mem):Prop:=
z5 PG z1s [v21] (σ23.bump 7) λv24 σ25=>
z6T v24 0 λv26=>
tpI v24 1 λv27=>
ifB (decide (v27≠0)) (
Q (.tup [.str ⟨#[]⟩,.int .i64 0,.int .i64 v27]) (σ25.bump 6)) (
z5 PG z1s [v22] (σ25.bump 9) λv28 σ29=>
z6T v28 0 λv30=>
tpI v28 1 λv31=>
ifB (decide (v31≠0)) (
Q (.tup [.str ⟨#[]⟩,.int .i64 0,.int .i64 v31]) (σ29.bump 6)) (
zj [] (z3h Q σ k8 v15 v26 v30) (σ29.bump 2)))
def z5q (a0:ByteArray) (Q:AV->Mem->Prop) (σ:Mem) (next3:Bool->Mem->Prop) (v4:Bool) (σ5:Mem):Prop:=
ifB (!v4) (
zd [.b] (λ(k8:Bool->Mem->Prop)=>
z15 (σ5.bump 10) (σ5.next+3) (.rw [.int .i64 1,.int .i64 2]) λσ9=>
z5 PG z0J [.ptr (σ.next+7) 0,.slice (σ5.next+3) 0 2 (.ex 2)] σ9 λv10 σ11=>
z6T v10 0 λv12=>
tpI v10 1 λv13=>
ifB (decide (v13≠0)) (
Q (.tup [.str ⟨#[]⟩,.int .i64 0,.int .i64 v13]) (σ11.bump 6)) (
zz 1 v12 0 λv14=>
ldI (σ11.bump 7) v14 λv15=>
zz 1 v12 1 λv16=>
ldI (σ11.bump 12) v16 λv17=>
ifB (decide (v17=0)) (
z5 PG z21 [.ptr (σ.next+7) 0] (σ11.bump 17) λv18 σ19=>
zq .i64 v18 λv20=>
ifB (decide (v20≠0)) (
Q (.tup [.str ⟨#[]⟩,.int .i64 0,.int .i64 v20]) (σ19.bump 6)) (
k8 (decide (v15=1)) (σ19.bump 2))) (
zd [.v,.v] (λ(k60:AV->AV->Mem->Prop)=>
ifB (decide (v17=1)) (
z5 PG z5I [] (σ11.bump 22) λv61 σ62=>
z6T v61 0 λv63=>
z6T v61 1 λv64=>
k60 v63 v64 σ62) (
ifB (decide (v17=2)) (
z5 PG z1L [.ptr (σ.next+7) 0] (σ11.bump 27) λv65 σ66=>
z6T v65 0 λv67=>
z6T v65 1 λv68=>
tpI v65 2 λv69=>
ifB (decide (v69≠0)) (
Q (.tup [.str ⟨#[]⟩,.int .i64 0,.int .i64 v69]) (σ66.bump 6)) (
k60 v67 v68 (σ66.bump 2))) (
Q (.tup [.str ⟨#[]⟩,.int .i64 0,.int .i64 13]) (σ11.bump 21)))) (z3g Q σ k8 v15)))) (z3c next3)) (
nfW 1 (.ptr (σ.next+7) 0) λv70=>
ldW (σ5.bump 19) v70 λv71=>
zeL (σ5.bump 19) v71 λv72=>
lfW 0 (σ5.bump 19) (.ptr (σ.next+7) 0) λv73=>
z5 PG z2m [v73] (σ5.bump 19) λv74 σ75=>
zgF.sameW (σ5.bump 19) σ75 v70 (
zgF.sameW (σ5.bump 19) σ75 v71 (
zq .i64 v74 λv76=>
zgH .i64 v76 8 λv77=>
iW ((a0.size:Int)-v77) λv78=>
Q (.tup [.str v72,.int .i64 v78,.int .i64 0]) σ75)))
def z7k (a0:ByteArray) (a1:Int) (σ:Mem) (Q:AV->Mem->Prop):Prop:=
z5 PG za5 [.str a0] (σ.bump 9) λv0 σ1=>
zG v0 1 (
zfU (.agg (setAt (setAt [.nilp,.nils,.int .i64 0] 0 v0.cells) 2 [.int .i64 a1])) (
z15 σ1 (σ.next+7) (.rw (setAt (setAt [.nilp,.nils,.int .i64 0] 0 v0.cells) 2 [.int .i64 a1])) λσ2=>
zj [.b] (z5q a0 Q σ) false (σ2.bump 1)))
theorem zbc {a0 a1 σ Q} (h:σ.Live->z7k a0 a1 σ Q):z1 PG z4r [.str a0,.int .i64 a1] σ Q:=
 .of_sem [none,none,none,none,some ([0,7],[8]),none,none,some ([0,7],[8]),none,none,none,none,none,none,none,none,none,none,none,none,none,none,none,some ([0,7,8],[11,12]),none,none,none,none,none,none,none,none,none,none,none,none,none,none,none,none,none,some ([0,7,8,14,15],[]),none,none,none,none,some ([0,7,8,14,15],[17]),none,some ([0,7,8,14,15],[17]),none,none,some ([0,7,8,14,15,17],[]),none,none,none,none,none,none,none,none] [(8,.b),(30,tI),(36,tI),(40,tI),(44,tI),(61,tI),(69,tI),(77,tI),(88,tI),(89,tI),(17,tI),(101,tI),(93,tI),(132,tI)] mixed (by kernel_rfl) (by kernel_rfl) h
/-! (*vitrine/inflate.stream).several -/
def z2x (a0:AV) (a1:AV) (Q:AV->Mem->Prop) (v0:Int) (next1:AV->Int->Mem->Prop) (v2:AV) (v3:Int) (σ4:Mem):Prop:=
ifB (decide (v3<v0)) (
zz 1 a1 v3 λv5=>
ldI (σ4.bump 4) v5 λv6=>
lfW 0 (σ4.bump 15) a0 λv7=>
z5 PG zC [v7,.int .i64 v6] (σ4.bump 15) λv8 σ9=>
tpI v8 0 λv10=>
tpI v8 1 λv11=>
ifB (decide (v11≠0)) (
Q (.tup [.nils,.int .i64 v11]) (σ9.bump 5)) (
z15 (σ9.bump 7) (σ9.next+4) (.rw [.int .i64 v10]) λσ12=>
apW 1 8 (σ9.next+5) σ12 v2 (.slice (σ9.next+4) 0 1 (.ex 1)) λv13 σ14=>
iW (v3+1) λv15=>
next1 v13 v15 (σ14.bump 2))) (
Q (.tup [v2,.int .i64 0]) (σ4.bump 4))
def z3I (a0:AV) (a1:AV) (σ:Mem) (Q:AV->Mem->Prop):Prop:=
zx a1 λv0=>
zj [.v,tI] (z2x a0 a1 Q v0) .nils 0 (σ.bump 6)
theorem z6N {a0 a1 σ Q} (h:σ.Live->z3I a0 a1 σ Q):z1 PG z0J [a0,a1] σ Q:=
 .of_sem [none,none,none,none,some ([0,11,12],[6,13]),none,none,none,none,none,none,none,none,none,none,none] [(13,tI),(16,tI),(24,tI),(25,tI)] mixed (by kernel_rfl) (by kernel_rfl) h
/-! (*vitrine/inflate.stream).stored -/
def z47 (a0:AV) (σ:Mem) (Q:AV->Mem->Prop):Prop:=
z5 PG z1j [a0] (σ.bump 8) λv0 σ1=>
tpI v0 0 λv2=>
tpI v0 1 λv3=>
ifB (decide (v3≠0)) (
Q (.int .i64 v3) (σ1.bump 4)) (
z5 PG z1j [a0] (σ1.bump 9) λv4 σ5=>
tpI v4 0 λv6=>
tpI v4 1 λv7=>
ifB (decide (v7≠0)) (
Q (.int .i64 v7) (σ5.bump 4)) (
z4j (zB .xor .i64 v2 v6) λv8=>
ifB (decide (v8≠65535)) (
Q (.int .i64 14) (σ5.bump 7)) (
lfW 0 (σ5.bump 17) a0 λv9=>
z5 PG z14 [v9,.int .i64 v2] (σ5.bump 17) λv10 σ11=>
tpS v10 0 λv12=>
tpI v10 1 λv13=>
ifB (decide (v13≠0)) (
Q (.int .i64 v13) (σ11.bump 4)) (
z5 PG z0q [a0,.int .i64 v2] (σ11.bump 6) λv14 σ15=>
zq .i64 v14 λv16=>
ifB (decide (v16≠0)) (
Q (.int .i64 v16) (σ15.bump 4)) (
lfW 1 (σ15.bump 12) a0 λv17=>
apW 1 1 (σ15.next+8) (σ15.bump 12) v17 (.str v12) λv18 σ19=>
nfW 1 a0 λv20=>
stW 1 σ19 v20 v18 λσ21=>
Q (.int .i64 0) (σ21.bump 1))))))
theorem z7e {a0 σ Q} (h:σ.Live->z47 a0 σ Q):z1 PG z21 [a0] σ Q:=
 .of_sem [none,none,none,none,none,none,none,none,none,none,none,none,none,none,none,none,none,none,none,none,none,none] [(11,tI),(12,tI),(19,tI),(20,tI),(35,.s),(36,tI),(42,tI)] mixed (by kernel_rfl) (by kernel_rfl) h
/-! vitrine/inflate.fixed -/
def z6r (next3:Int->Mem->Prop) (v4:Int) (σ6:Mem):Prop:=
iW (v4+1) λv7=>
next3 v7 (σ6.bump 2)
def z6w (next3:Int->Mem->Prop) (v4:Int) (σ11:Mem):Prop:=
iW (v4+1) λv12=>
next3 v12 (σ11.bump 2)
def z6o (k13:Mem->Prop) (σ16:Mem):Prop:=
k13 σ16
def z6x (Q:AV->Mem->Prop) (σ:Mem) (v22:Int) (next23:Int->Mem->Prop) (v24:Int) (σ25:Mem):Prop:=
ifB (decide (v24<v22)) (
zz 1 (.slice (σ.next+3) 0 (Int.toNat 32) (.ex (Int.toNat 32))) v24 λv26=>
stW 1 (σ25.bump 7) v26 (.int .i64 5) λσ27=>
iW (v24+1) λv28=>
next23 v28 (σ27.bump 2)) (
Q (.tup [.slice (σ.next+2) 0 (Int.toNat 288) (.ex (Int.toNat 288)),.slice (σ.next+3) 0 (Int.toNat 32) (.ex (Int.toNat 32))]) (σ25.bump 5))
def z6y (Q:AV->Mem->Prop) (σ:Mem) (v2:Int) (next3:Int->Mem->Prop) (v4:Int) (σ5:Mem):Prop:=
ifB (decide (v4<v2)) (
ifB (decide (280<=v4)) (
zd [] (λ(k8:Mem->Prop)=>
zz 1 (.slice (σ.next+2) 0 (Int.toNat 288) (.ex (Int.toNat 288))) v4 λv9=>
stW 1 (σ5.bump 14) v9 (.int .i64 8) λσ10=>
k8 σ10) (z6r next3 v4)) (
zd [] (λ(k13:Mem->Prop)=>
ifB (decide (v4<144)) (
zz 1 (.slice (σ.next+2) 0 (Int.toNat 288) (.ex (Int.toNat 288))) v4 λv14=>
stW 1 (σ5.bump 14) v14 (.int .i64 8) λσ15=>
k13 σ15) (
zd [] (λ(k17:Mem->Prop)=>
ifB (decide (v4<256)) (
zz 1 (.slice (σ.next+2) 0 (Int.toNat 288) (.ex (Int.toNat 288))) v4 λv18=>
stW 1 (σ5.bump 17) v18 (.int .i64 9) λσ19=>
k17 σ19) (
zz 1 (.slice (σ.next+2) 0 (Int.toNat 288) (.ex (Int.toNat 288))) v4 λv20=>
stW 1 (σ5.bump 17) v20 (.int .i64 7) λσ21=>
k17 σ21)) (z6o k13))) (z6w next3 v4))) (
zx (.slice (σ.next+3) 0 (Int.toNat 32) (.ex (Int.toNat 32))) λv22=>
zj [tI] (z6x Q σ v22) 0 (σ5.bump 4))
def z8l (σ:Mem) (Q:AV->Mem->Prop):Prop:=
zeH 8 288 288 (
z15 (σ.bump 6) (σ.next+2) (.rw (repl (Int.toNat 288) [.int .i64 0])) λσ0=>
zeH 8 32 32 (
z15 σ0 (σ.next+3) (.rw (repl (Int.toNat 32) [.int .i64 0])) λσ1=>
zx (.slice (σ.next+2) 0 (Int.toNat 288) (.ex (Int.toNat 288))) λv2=>
zj [tI] (z6y Q σ v2) 0 (σ1.bump 3)))
theorem zcR {σ Q} (h:σ.Live->z8l σ Q):z1 PG z5I [] σ Q:=
 .of_sem [none,none,none,none,some ([2,3,9],[10]),none,none,none,none,none,none,some ([2,3,9,10],[]),none,none,some ([2,3,9,10],[]),none,none,none,none,none,some ([2,3,34],[35]),none,none,none,none,none,none,none] [(10,tI),(35,tI)] mixed (by kernel_rfl) (by kernel_rfl) h
/-! (*vitrine/inflate.stream).dynamic -/
def z2z (next22:AV->Mem->Prop) (v28:Int) (v29:Int) (next35:AV->Int->Mem->Prop) (v36:AV) (v37:Int) (σ38:Mem):Prop:=
ifB (decide (v37<v29)) (
z15 (σ38.bump 6) (σ38.next+3) (.rw [.int .i64 v28]) λσ39=>
apW 1 8 (σ38.next+4) σ39 v36 (.slice (σ38.next+3) 0 1 (.ex 1)) λv40 σ41=>
iW (v37+1) λv42=>
next35 v40 v42 (σ41.bump 2)) (
next22 v36 (σ38.bump 1))
def z1d (Q:AV->Mem->Prop) (next22:AV->Mem->Prop) (v23:AV) (v28:Int) (v29:Int) (v33:Int) (σ34:Mem):Prop:=
ifB (decide (v33≠0)) (
Q (.tup [.nils,.nils,.int .i64 v33]) (σ34.bump 6)) (
zj [.v,tI] (z2z next22 v28 v29) v23 0 (σ34.bump 4))
def z5V (next22:AV->Mem->Prop) (v28:Int) (v29:Int) (next46:AV->Int->Mem->Prop) (v47:AV) (v48:Int) (σ49:Mem):Prop:=
ifB (decide (v48<v29)) (
z15 (σ49.bump 6) (σ49.next+3) (.rw [.int .i64 v28]) λσ50=>
apW 1 8 (σ49.next+4) σ50 v47 (.slice (σ49.next+3) 0 1 (.ex 1)) λv51 σ52=>
iW (v48+1) λv53=>
next46 v51 v53 (σ52.bump 2)) (
next22 v47 (σ49.bump 1))
def z2A (Q:AV->Mem->Prop) (next22:AV->Mem->Prop) (v23:AV) (v28:Int) (v29:Int) (v44:Int) (σ45:Mem):Prop:=
ifB (decide (v44≠0)) (
Q (.tup [.nils,.nils,.int .i64 v44]) (σ45.bump 6)) (
zj [.v,tI] (z5V next22 v28 v29) v23 0 (σ45.bump 4))
def z2S (a0:AV) (Q:AV->Mem->Prop) (v7:Int) (v14:Int) (v20:AV) (next22:AV->Mem->Prop) (v23:AV) (σ24:Mem):Prop:=
zx v23 λv25=>
ifB (decide (v25<v14)) (
z5 PG z39 [a0,v20,v23] (σ24.bump 15) λv26 σ27=>
tpI v26 0 λv28=>
tpI v26 1 λv29=>
tpI v26 2 λv30=>
ifB (decide (v30=0)) (
zx v23 λv31=>
iW (v31+v29) λv32=>
zd [tI] (λ(k43:Int->Mem->Prop)=>
ifB (decide (v14<v32)) (
k43 12 (σ27.bump 11)) (
k43 v30 (σ27.bump 10))) (z1d Q next22 v23 v28 v29)) (
zd [tI] (λ(k54:Int->Mem->Prop)=>
k54 v30 (σ27.bump 10)) (z2A Q next22 v23 v28 v29))) (
zcJ 1 v23 none (some v7) λv55=>
zcJ 1 v23 (some v7) none λv56=>
Q (.tup [v55,v56,.int .i64 0]) (σ24.bump 13))
def z3J (a0:AV) (σ:Mem) (Q:AV->Mem->Prop):Prop:=
z15 (σ.bump 11) (σ.next+4) (.rw [.int .i64 5,.int .i64 5,.int .i64 4]) λσ0=>
z5 PG z0J [a0,.slice (σ.next+4) 0 3 (.ex 3)] σ0 λv1 σ2=>
z6T v1 0 λv3=>
tpI v1 1 λv4=>
ifB (decide (v4≠0)) (
Q (.tup [.nils,.nils,.int .i64 v4]) (σ2.bump 6)) (
zz 1 v3 0 λv5=>
ldI (σ2.bump 17) v5 λv6=>
iW (v6+257) λv7=>
zz 1 v3 0 λv8=>
ldI (σ2.bump 17) v8 λv9=>
iW (v9+257) λv10=>
zz 1 v3 1 λv11=>
ldI (σ2.bump 17) v11 λv12=>
iW (v10+v12) λv13=>
iW (v13+1) λv14=>
zz 1 v3 2 λv15=>
ldI (σ2.bump 28) v15 λv16=>
iW (v16+4) λv17=>
z5 PG z2h [a0,.int .i64 v17] (σ2.bump 28) λv18 σ19=>
z6T v18 0 λv20=>
tpI v18 1 λv21=>
ifB (decide (v21≠0)) (
Q (.tup [.nils,.nils,.int .i64 v21]) (σ19.bump 6)) (
zj [.v] (z2S a0 Q v7 v14 v20) .nils (σ19.bump 3)))
theorem z6O {a0 σ Q} (h:σ.Live->z3J a0 σ Q):z1 PG z1L [a0] σ Q:=
 .of_sem [none,none,none,none,none,none,none,none,none,none,none,none,some ([0,7,8,9],[10]),none,none,none,none,none,some ([0,7,8,9,10,11,12],[13]),none,none,none,none,none,none,some ([0,7,8,9,11,73],[10,74]),none,none,none,none,none,none] [(19,tI),(25,tI),(29,tI),(33,tI),(40,tI),(44,tI),(57,tI),(58,tI),(59,tI),(13,tI),(74,tI)] mixed (by kernel_rfl) (by kernel_rfl) h
/-! (*vitrine/inflate.stream).room -/
def z4T (a0:AV) (a1:Int) (σ:Mem) (Q:AV->Mem->Prop):Prop:=
lfI 2 (σ.bump 13) a0 λv0=>
lfW 1 (σ.bump 13) a0 λv1=>
zx v1 λv2=>
iW (v0-v2) λv3=>
ifB (decide (v3<a1)) (
Q (.int .i64 5) (σ.bump 14)) (
Q (.int .i64 0) (σ.bump 14))
theorem z8g {a0 a1 σ Q} (h:σ.Live->z4T a0 a1 σ Q):z1 PG z0q [a0,.int .i64 a1] σ Q:=
 .of_sem [none,none,none,none,none] [(9,tI)] mixed (by kernel_rfl) (by kernel_rfl) h
/-! (*vitrine/inflate.stream).match -/
def z3y (a0:AV) (Q:AV->Mem->Prop) (v2:Int) (v11:Int) (next18:Int->Mem->Prop) (v19:Int) (σ20:Mem):Prop:=
ifB (decide (v19<v2)) (
lfW 1 (σ20.bump 24) a0 λv21=>
lfW 1 (σ20.bump 24) a0 λv22=>
lfW 1 (σ20.bump 24) a0 λv23=>
zx v23 λv24=>
iW (v24-v11) λv25=>
zz 1 v22 v25 λv26=>
ldU (σ20.bump 24) v26 λv27=>
z15 (σ20.bump 24) (σ20.next+19) (.rw [.int .u8 v27]) λσ28=>
apW 1 1 (σ20.next+20) σ28 v21 (.slice (σ20.next+19) 0 1 (.ex 1)) λv29 σ30=>
nfW 1 a0 λv31=>
stW 1 σ30 v31 v29 λσ32=>
iW (v19+1) λv33=>
next18 v33 (σ32.bump 2)) (
Q (.int .i64 0) (σ20.bump 2))
def z4l (a0:AV) (a1:Int) (a2:AV) (σ:Mem) (Q:AV->Mem->Prop):Prop:=
z5 PG z1X [a0,.int .i64 a1] (σ.bump 9) λv0 σ1=>
tpI v0 0 λv2=>
tpI v0 1 λv3=>
ifB (decide (v3≠0)) (
Q (.int .i64 v3) (σ1.bump 4)) (
lfW 0 (σ1.bump 13) a0 λv4=>
z5 PG z11 [a2,v4] (σ1.bump 13) λv5 σ6=>
tpI v5 0 λv7=>
tpI v5 1 λv8=>
ifB (decide (v8≠0)) (
Q (.int .i64 v8) (σ6.bump 4)) (
z5 PG z1p [a0,.int .i64 v7] (σ6.bump 10) λv9 σ10=>
tpI v9 0 λv11=>
tpI v9 1 λv12=>
ifB (decide (v12≠0)) (
Q (.int .i64 v12) (σ10.bump 5)) (
lfW 1 (σ10.bump 11) a0 λv13=>
zx v13 λv14=>
ifB (decide (v14<v11)) (
Q (.int .i64 15) (σ10.bump 12)) (
z5 PG z0q [a0,.int .i64 v2] (σ10.bump 15) λv15 σ16=>
zq .i64 v15 λv17=>
ifB (decide (v17≠0)) (
Q (.int .i64 v17) (σ16.bump 4)) (
zj [tI] (z3y a0 Q v2 v11) 0 (σ16.bump 4))))))
theorem z7K {a0 a1 a2 σ Q} (h:σ.Live->z4l a0 a1 a2 σ Q):z1 PG z2i [a0,.int .i64 a1,a2] σ Q:=
 .of_sem [none,none,none,none,none,none,none,none,none,none,none,none,none,none,none,none,none,none,none,none,none,none,none,some ([0,10,57],[58]),none,none,none,none,none,none] [(16,tI),(17,tI),(28,tI),(29,tI),(37,tI),(38,tI),(53,tI),(58,tI),(77,tU)] mixed (by kernel_rfl) (by kernel_rfl) h
end Go.Vit
