import Derived.Test.YtloeboiajgfigaaGreatV7L
set_option linter.unusedVariables false
set_option linter.unusedSimpArgs false
set_option maxRecDepth 100000
namespace Go.Vit
open Go.Proofs
/-! vitrine/deflate.Dynamic -/
def z4V (next79:Int->Mem->Prop) (v80:Int) (σ93:Mem):Prop:=
iW (v80+1) λv94=>
next79 v94 (σ93.bump 2)
def z2S (Q:AV->Mem->Prop) (v0:AV) (v4:AV) (v5:AV) (v9:AV) (v49:AV) (v76:AV) (v78:Int) (next79:Int->Mem->Prop) (v80:Int) (σ81:Mem):Prop:=
ifB (decide (v80<v78)) (
zd 2 v9 v80 λv82=>
z3n 2 (σ81.bump 5) v82 λv83=>
zH (σ81.bump 5) (σ81.next+3) (.rw [.int .i64 0,.int .i64 0]) λσ84=>
stW 2 σ84 (.ptr (σ81.next+3) 0) v83 λσ85=>
z2H 0 (.ptr (σ81.next+3) 0) λv86=>
ldI (σ85.bump 5) v86 λv87=>
z6 PG z1O [v76,v49,.int .i64 v87] (σ85.bump 5) λv88 σ89=>
zB .i64 v88 λv90=>
z2H 0 (.ptr (σ81.next+3) 0) λv91=>
ldI (σ89.bump 3) v91 λv92=>
z9 [] (λ(k95:Mem->Prop)=>
ifB (decide (15<v92)) (
z2H 1 (.ptr (σ81.next+3) 0) λv96=>
ldI (σ89.bump 12) v96 λv97=>
z2H 0 (.ptr (σ81.next+3) 0) λv98=>
ldI (σ89.bump 12) v98 λv99=>
iW (v99-16) λv100=>
zig 3 1 none (.agg [.int .i64 2,.int .i64 3,.int .i64 7]) v100 λa=>zB .i64 a λv101=>
z6 PG zg [v49,.int .i64 v97,.int .i64 v101] (σ89.bump 12) λv102 σ103=>
k95 σ103) (
k95 (σ89.bump 3))) (z4V next79 v80)) (
z6 PG z1h [v4] (σ81.bump 8) λv104 σ105=>
z5b v104 0 λv106=>
tpI v104 1 λv107=>
z6 PG z1h [v5] (σ105.bump 7) λv108 σ109=>
z5b v108 0 λv110=>
tpI v108 1 λv111=>
z6 PG z2z [v49,v0,v106,v110] (σ109.bump 5) λv112 σ113=>
z6 PG z1c [v49] (σ113.bump 3) λv114 σ115=>
z3i v114 λv116=>
Q (.str v116) σ115)
def z2I (Q:AV->Mem->Prop) (v0:AV) (v4:AV) (v5:AV) (v9:AV) (v31:AV) (v47:AV) (v49:AV) (v65:Int) (next66:Int->Mem->Prop) (v67:Int) (σ68:Mem):Prop:=
ifB (decide (v67<v65)) (
zd 1 v47 v67 λv69=>
ldI (σ68.bump 4) v69 λv70=>
z6 PG zg [v49,.int .i64 v70,.int .i64 3] (σ68.bump 7) λv71 σ72=>
iW (v67+1) λv73=>
next66 v73 (σ72.bump 2)) (
z6 PG z1h [v31] (σ68.bump 8) λv74 σ75=>
z5b v74 0 λv76=>
tpI v74 1 λv77=>
zn v9 λv78=>
zf [tI] (z2S Q v0 v4 v5 v9 v49 v76 v78) 0 (σ75.bump 3))
def z2P (Q:AV->Mem->Prop) (v0:AV) (v4:AV) (v5:AV) (v9:AV) (σ30:Mem) (v31:AV) (v34:Int) (next35:AV->Int->Mem->Prop) (v36:AV) (v37:Int) (σ38:Mem):Prop:=
ifB (decide (v37<v34)) (
zd 1 (.slice (σ30.next+1) 0 19 (.ex 19)) v37 λv39=>
ldI (σ38.bump 4) v39 λv40=>
zd 1 v31 v40 λv41=>
ldI (σ38.bump 12) v41 λv42=>
zH (σ38.bump 12) (σ38.next+9) (.rw [.int .i64 v42]) λσ43=>
apW 1 8 (σ38.next+10) σ43 v36 (.slice (σ38.next+9) 0 1 (.ex 1)) λv44 σ45=>
iW (v37+1) λv46=>
next35 v44 v46 (σ45.bump 2)) (
z6 PG z2W [v36,.int .i64 4] (σ38.bump 4) λv47 σ48=>
z6 PG z71 [] (σ48.bump 2) λv49 σ50=>
z6 PG zg [v49,.int .i64 5,.int .i64 3] (σ50.bump 2) λv51 σ52=>
zn v4 λv53=>
iW (v53-257) λv54=>
z6 PG zg [v49,.int .i64 v54,.int .i64 5] (σ52.bump 5) λv55 σ56=>
zn v5 λv57=>
iW (v57-1) λv58=>
z6 PG zg [v49,.int .i64 v58,.int .i64 5] (σ56.bump 5) λv59 σ60=>
zn v47 λv61=>
iW (v61-4) λv62=>
z6 PG zg [v49,.int .i64 v62,.int .i64 4] (σ60.bump 5) λv63 σ64=>
zn v47 λv65=>
zf [tI] (z2I Q v0 v4 v5 v9 v31 v47 v49 v65) 0 (σ64.bump 3))
def z4S (Q:AV->Mem->Prop) (v0:AV) (v4:AV) (v5:AV) (v9:AV) (σ10:Mem) (v12:Int) (next13:Int->Mem->Prop) (v14:Int) (σ15:Mem):Prop:=
ifB (decide (v14<v12)) (
zd 2 v9 v14 λv16=>
z3n 2 (σ15.bump 5) v16 λv17=>
zH (σ15.bump 5) (σ15.next+3) (.rw [.int .i64 0,.int .i64 0]) λσ18=>
stW 2 σ18 (.ptr (σ15.next+3) 0) v17 λσ19=>
z2H 0 (.ptr (σ15.next+3) 0) λv20=>
ldI (σ19.bump 7) v20 λv21=>
z3f 19 1 (.ptr σ10.next 0) v21 λv22=>
ldI (σ19.bump 7) v22 λv23=>
iW (v23+1) λv24=>
z3f 19 1 (.ptr σ10.next 0) v21 λv25=>
stW 1 (σ19.bump 7) v25 (.int .i64 v24) λσ26=>
iW (v14+1) λv27=>
next13 v27 (σ26.bump 2)) (
zpG 19 1 (.ptr σ10.next 0) none none λv28=>
z6 PG z3m [.int .i64 7,v28] (σ15.bump 8) λv29 σ30=>
z5b v29 0 λv31=>
tpI v29 1 λv32=>
zH (σ30.bump 4) (σ30.next+1) (.rw [.int .i64 16,.int .i64 17,.int .i64 18,.int .i64 0,.int .i64 8,.int .i64 7,.int .i64 9,.int .i64 6,.int .i64 10,.int .i64 5,.int .i64 11,.int .i64 4,.int .i64 12,.int .i64 3,.int .i64 13,.int .i64 2,.int .i64 14,.int .i64 1,.int .i64 15]) λσ33=>
zn (.slice (σ30.next+1) 0 19 (.ex 19)) λv34=>
zf [.v,tI] (z2P Q v0 v4 v5 v9 σ30 v31 v34) .nils 0 σ33)
def z6W (a0:ByteArray) (σ:Mem) (Q:AV->Mem->Prop):Prop:=
z6 PG z7n [.str a0] (σ.bump 4) λv0 σ1=>
z6 PG z46 [v0] (σ1.bump 7) λv2 σ3=>
z5b v2 0 λv4=>
z5b v2 1 λv5=>
za v4 1 (
za v5 1 (
zH (σ3.bump 6) (σ3.next+2) (.rw (setAt (setAt [.nils,.nils] 0 v4.cells) 1 v5.cells)) λσ6=>
z6 PG z0e [.slice (σ3.next+2) 0 2 (.ex 2)] σ6 λv7 σ8=>
z6 PG z6r [v7] σ8 λv9 σ10=>
zH (σ10.bump 1) σ10.next (.rw (List.replicate 19 (.int .i64 0))) λσ11=>
zn v9 λv12=>
zf [tI] (z4S Q v0 v4 v5 v9 σ10 v12) 0 (σ11.bump 3)))
theorem zbt {a0 σ Q} (h:σ.Live->z6W a0 σ Q):z1 PG z49 [.str a0] σ Q:=
 .of_sem [none,none,none,none,none,none,none,some ([3,4,5,6,7,38,39],[40]),none,none,none,none,none,none,none,none,none,none,some ([3,4,5,6,10,56,57],[12,58]),none,none,none,none,none,none,none,none,none,none,none,none,none,none,some ([3,4,5,6,10,15,90,91],[92]),none,none,none,none,none,none,none,none,none,some ([3,4,5,15,18,105,106],[107]),none,none,none,none,none,none,some ([3,4,5,15,18,105,106,107],[]),none,none,none,none,none,none] [(40,tI),(45,tI),(47,tI),(55,tI),(58,tI),(61,tI),(66,tI),(92,tI),(95,tI),(104,tI),(107,tI),(114,tI),(115,tI),(117,tI),(121,tI),(124,tI),(126,tI),(133,tI),(138,tI),(145,.s)] mixed (by kernel_rfl) (by kernel_rfl) h
/-! vitrine/vitrineref05.Deflate -/
def z6q (Q:AV->Mem->Prop) (v11:ByteArray) (σ12:Mem):Prop:=
Q (.str v11) (σ12.bump 2)
def z6g (a0:ByteArray) (Q:AV->Mem->Prop) (v6:ByteArray) (σ7:Mem):Prop:=
z6 PG z5Q [.str a0] (σ7.bump 3) λv8 σ9=>
z3i v8 λv10=>
z9 [.s] (λ(k13:ByteArray->Mem->Prop)=>
ifB (decide ((v10.size:Int)<(v6.size:Int))) (
k13 v10 (σ9.bump 7)) (
k13 v6 (σ9.bump 5))) (z6q Q)
def z90 (a0:ByteArray) (σ:Mem) (Q:AV->Mem->Prop):Prop:=
z6 PG z6z [.str a0] (σ.bump 4) λv0 σ1=>
z3i v0 λv2=>
z6 PG z7f [.str a0] (σ1.bump 3) λv3 σ4=>
z3i v3 λv5=>
z9 [.s] (λ(k14:ByteArray->Mem->Prop)=>
ifB (decide ((v5.size:Int)<(v2.size:Int))) (
k14 v5 (σ4.bump 7)) (
k14 v2 (σ4.bump 5))) (z6g a0 Q)
theorem zdk {a0 σ Q} (h:σ.Live->z90 a0 σ Q):z1 PG z5B [.str a0] σ Q:=
 .of_sem [none,none,none,none,some ([0],[3]),none,none,none,some ([],[3]),none,none] [(6,.s),(3,.s),(8,.s),(16,.s)] mixed (by kernel_rfl) (by kernel_rfl) h
/-! vitrine/deflate.told -/
def z6J (a1:Int) (Q:AV->Mem->Prop) (next0:AV->Mem->Prop) (v1:AV) (σ2:Mem):Prop:=
zn v1 λv3=>
ifB (decide (a1<v3)) (
zn v1 λv4=>
iW (v4-1) λv5=>
zd 1 v1 v5 λv6=>
ldI (σ2.bump 13) v6 λv7=>
ifB (decide (v7=0)) (
zn v1 λv8=>
iW (v8-1) λv9=>
zbQ 1 v1 none (some v9) λv10=>
next0 v10 (σ2.bump 19)) (
Q v1 (σ2.bump 15))) (
Q v1 (σ2.bump 15))
def z9G (a0:AV) (a1:Int) (σ:Mem) (Q:AV->Mem->Prop):Prop:=
zf [.v] (z6J a1 Q) a0 (σ.bump 1)
theorem zdU {a0 a1 σ Q} (h:σ.Live->z9G a0 a1 σ Q):z1 PG z2W [a0,.int .i64 a1] σ Q:=
 .of_sem [none,none,some ([1],[0]),none,none,none,none,none] [(15,tI)] mixed (by kernel_rfl) (by kernel_rfl) h
/-! vitrine/vitrineref05.upto -/
def z8S (a0:AV) (a1:Int) (Q:AV->Mem->Prop) (next1:Int->Mem->Prop) (v2:Int) (σ3:Mem):Prop:=
ifB (decide (a1<v2)) (
iW (v2-1) λv4=>
zd 1 a0 v4 λv5=>
ldI (σ3.bump 11) v5 λv6=>
ifB (decide (v6=0)) (
iW (v2-1) λv7=>
next1 v7 (σ3.bump 14)) (
zbQ 1 a0 none (some v2) λv8=>
Q v8 (σ3.bump 15))) (
zbQ 1 a0 none (some v2) λv9=>
Q v9 (σ3.bump 15))
def zcO (a0:AV) (a1:Int) (σ:Mem) (Q:AV->Mem->Prop):Prop:=
zn a0 λv0=>
zf [tI] (z8S a0 a1 Q) v0 (σ.bump 4)
theorem zgL {a0 a1 σ Q} (h:σ.Live->zcO a0 a1 σ Q):z1 PG z4u [a0,.int .i64 a1] σ Q:=
 .of_sem [none,none,none,some ([0,1],[5]),none,none,none,none,none] [(5,tI),(16,tI)] mixed (by kernel_rfl) (by kernel_rfl) h
/-! vitrine/vitrineref03.Order -/
def zbC (σ:Mem) (Q:AV->Mem->Prop):Prop:=
zH (σ.bump 3) (σ.next+1) (.rw [.int .i64 16,.int .i64 17,.int .i64 18,.int .i64 0,.int .i64 8,.int .i64 7,.int .i64 9,.int .i64 6,.int .i64 10,.int .i64 5,.int .i64 11,.int .i64 4,.int .i64 12,.int .i64 3,.int .i64 13,.int .i64 2,.int .i64 14,.int .i64 1,.int .i64 15]) λσ0=>
Q (.slice (σ.next+1) 0 19 (.ex 19)) σ0
theorem zfz {σ Q} (h:σ.Live->zbC σ Q):z1 PG z7v [] σ Q:=
 .of_sem [none,none] [] mixed (by kernel_rfl) (by kernel_rfl) h
/-! slices.Grow[[]int,int] -/
def z12 (Q:AV->Mem->Prop) (v5:AV) (σ6:Mem):Prop:=
Q v5 (σ6.bump 2)
def z2u (a0:AV) (a1:Int) (Q:AV->Mem->Prop) (σ0:Mem):Prop:=
zqB a0 λv1=>
zn a0 λv2=>
iW (v1-v2) λv3=>
iW (a1-v3) λv4=>
z9 [.v] (λ(k7:AV->Mem->Prop)=>
ifB (decide (0<v4)) (
zqB a0 λv8=>
zbQ 1 a0 none (some v8) λv9=>
zrt 1 8 (σ0.next+15) [(.int .i64 0)] (σ0.bump 20) v9 (.int .i64 v4) λv10 σ11=>
zn a0 λv12=>
zbQ 1 v10 none (some v12) λv13=>
k7 v13 σ11) (
k7 a0 (σ0.bump 10))) (z12 Q)
def z3j (a0:AV) (a1:Int) (σ:Mem) (Q:AV->Mem->Prop):Prop:=
z9 [] (λ(k14:Mem->Prop)=>
ifB (decide (a1<0)) (
False) (
k14 (σ.bump 3))) (z2u a0 a1 Q)
theorem z6s {a0 a1 σ Q} (h:σ.Live->z3j a0 a1 σ Q):z1 PG z1B [a0,.int .i64 a1] σ Q:=
 .of_sem [none,none,some ([0,1],[]),none,none,none,some ([],[0]),none,none] [] mixed (by kernel_rfl) (by kernel_rfl) h
/-! vitrine/vitrineref03.Length -/
def z77 (a0:Int) (Q:AV->Mem->Prop) (next0:Int->Int->Mem->Prop) (v1:Int) (v2:Int) (σ3:Mem):Prop:=
ifB (decide (v2<a0)) (
z6 PG z26 [.int .i64 v2] (σ3.bump 9) λv4 σ5=>
zB .i64 v4 λv6=>
zh8 .i64 1 v6 λv7=>
iW (v1+v7) λv8=>
iW (v2+1) λv9=>
next0 v8 v9 (σ5.bump 3)) (
z6 PG z26 [.int .i64 a0] (σ3.bump 8) λv10 σ11=>
zB .i64 v10 λv12=>
Q (.tup [.int .i64 v1,.int .i64 v12]) σ11)
def za0 (a0:Int) (σ:Mem) (Q:AV->Mem->Prop):Prop:=
ifB (decide (a0=285)) (
Q (.tup [.int .i64 258,.int .i64 0]) (σ.bump 6)) (
zf [tI,tI] (z77 a0 Q) 3 257 (σ.bump 6))
theorem zeM {a0 σ Q} (h:σ.Live->za0 a0 σ Q):z1 PG z4j [.int .i64 a0] σ Q:=
 .of_sem [none,none,none,none,none,none,none,some ([0],[4,5]),none,none,none,none,none,none] [(4,tI),(5,tI),(15,tI),(20,tI)] mixed (by kernel_rfl) (by kernel_rfl) h
end Go.Vit
