import Derived.Test.YtloeboiajgfigaaGreatV7L
set_option linter.unusedVariables false
set_option linter.unusedSimpArgs false
set_option maxRecDepth 100000
namespace Go.Vit
open Go.Proofs
/-! vitrine/deflate.Dynamic -/
def z5g (next79:Int->Mem->Prop) (v80:Int) (σ93:Mem):Prop:=
iW (v80+1) λv94=>
next79 v94 (σ93.bump 2)
def z3a (Q:AV->Mem->Prop) (v0:AV) (v4:AV) (v5:AV) (v9:AV) (v49:AV) (v76:AV) (v78:Int) (next79:Int->Mem->Prop) (v80:Int) (σ81:Mem):Prop:=
ifB (decide (v80<v78)) (
zz 2 v9 v80 λv82=>
z5x 2 (σ81.bump 5) v82 λv83=>
z15 (σ81.bump 5) (σ81.next+3) (.rw [.int .i64 0,.int .i64 0]) λσ84=>
stW 2 σ84 (.ptr (σ81.next+3) 0) v83 λσ85=>
z6C 0 (.ptr (σ81.next+3) 0) λv86=>
ldI (σ85.bump 5) v86 λv87=>
z5 PG z2f [v76,v49,.int .i64 v87] (σ85.bump 5) λv88 σ89=>
zq .i64 v88 λv90=>
z6C 0 (.ptr (σ81.next+3) 0) λv91=>
ldI (σ89.bump 3) v91 λv92=>
zd [] (λ(k95:Mem->Prop)=>
ifB (decide (15<v92)) (
z6C 1 (.ptr (σ81.next+3) 0) λv96=>
ldI (σ89.bump 12) v96 λv97=>
z6C 0 (.ptr (σ81.next+3) 0) λv98=>
ldI (σ89.bump 12) v98 λv99=>
iW (v99-16) λv100=>
zhw 3 1 none (.agg [.int .i64 2,.int .i64 3,.int .i64 7]) v100 λa=>zq .i64 a λv101=>
z5 PG zg [v49,.int .i64 v97,.int .i64 v101] (σ89.bump 12) λv102 σ103=>
k95 σ103) (
k95 (σ89.bump 3))) (z5g next79 v80)) (
z5 PG z1s [v4] (σ81.bump 8) λv104 σ105=>
z6T v104 0 λv106=>
tpI v104 1 λv107=>
z5 PG z1s [v5] (σ105.bump 7) λv108 σ109=>
z6T v108 0 λv110=>
tpI v108 1 λv111=>
z5 PG z2U [v49,v0,v106,v110] (σ109.bump 5) λv112 σ113=>
z5 PG z1k [v49] (σ113.bump 3) λv114 σ115=>
z5t v114 λv116=>
Q (.str v116) σ115)
def z3e (Q:AV->Mem->Prop) (v0:AV) (v4:AV) (v5:AV) (v9:AV) (v31:AV) (v47:AV) (v49:AV) (v65:Int) (next66:Int->Mem->Prop) (v67:Int) (σ68:Mem):Prop:=
ifB (decide (v67<v65)) (
zz 1 v47 v67 λv69=>
ldI (σ68.bump 4) v69 λv70=>
z5 PG zg [v49,.int .i64 v70,.int .i64 3] (σ68.bump 7) λv71 σ72=>
iW (v67+1) λv73=>
next66 v73 (σ72.bump 2)) (
z5 PG z1s [v31] (σ68.bump 8) λv74 σ75=>
z6T v74 0 λv76=>
tpI v74 1 λv77=>
zx v9 λv78=>
zj [tI] (z3a Q v0 v4 v5 v9 v49 v76 v78) 0 (σ75.bump 3))
def z3j (Q:AV->Mem->Prop) (v0:AV) (v4:AV) (v5:AV) (v9:AV) (σ30:Mem) (v31:AV) (v34:Int) (next35:AV->Int->Mem->Prop) (v36:AV) (v37:Int) (σ38:Mem):Prop:=
ifB (decide (v37<v34)) (
zz 1 (.slice (σ30.next+1) 0 19 (.ex 19)) v37 λv39=>
ldI (σ38.bump 4) v39 λv40=>
zz 1 v31 v40 λv41=>
ldI (σ38.bump 12) v41 λv42=>
z15 (σ38.bump 12) (σ38.next+9) (.rw [.int .i64 v42]) λσ43=>
apW 1 8 (σ38.next+10) σ43 v36 (.slice (σ38.next+9) 0 1 (.ex 1)) λv44 σ45=>
iW (v37+1) λv46=>
next35 v44 v46 (σ45.bump 2)) (
z5 PG z3q [v36,.int .i64 4] (σ38.bump 4) λv47 σ48=>
z5 PG z7g [] (σ48.bump 2) λv49 σ50=>
z5 PG zg [v49,.int .i64 5,.int .i64 3] (σ50.bump 2) λv51 σ52=>
zx v4 λv53=>
iW (v53-257) λv54=>
z5 PG zg [v49,.int .i64 v54,.int .i64 5] (σ52.bump 5) λv55 σ56=>
zx v5 λv57=>
iW (v57-1) λv58=>
z5 PG zg [v49,.int .i64 v58,.int .i64 5] (σ56.bump 5) λv59 σ60=>
zx v47 λv61=>
iW (v61-4) λv62=>
z5 PG zg [v49,.int .i64 v62,.int .i64 4] (σ60.bump 5) λv63 σ64=>
zx v47 λv65=>
zj [tI] (z3e Q v0 v4 v5 v9 v31 v47 v49 v65) 0 (σ64.bump 3))
def z5p (Q:AV->Mem->Prop) (v0:AV) (v4:AV) (v5:AV) (v9:AV) (σ10:Mem) (v12:Int) (next13:Int->Mem->Prop) (v14:Int) (σ15:Mem):Prop:=
ifB (decide (v14<v12)) (
zz 2 v9 v14 λv16=>
z5x 2 (σ15.bump 5) v16 λv17=>
z15 (σ15.bump 5) (σ15.next+3) (.rw [.int .i64 0,.int .i64 0]) λσ18=>
stW 2 σ18 (.ptr (σ15.next+3) 0) v17 λσ19=>
z6C 0 (.ptr (σ15.next+3) 0) λv20=>
ldI (σ19.bump 7) v20 λv21=>
z3F 19 1 (.ptr σ10.next 0) v21 λv22=>
ldI (σ19.bump 7) v22 λv23=>
iW (v23+1) λv24=>
z3F 19 1 (.ptr σ10.next 0) v21 λv25=>
stW 1 (σ19.bump 7) v25 (.int .i64 v24) λσ26=>
iW (v14+1) λv27=>
next13 v27 (σ26.bump 2)) (
zom 19 1 (.ptr σ10.next 0) none none λv28=>
z5 PG z3N [.int .i64 7,v28] (σ15.bump 8) λv29 σ30=>
z6T v29 0 λv31=>
tpI v29 1 λv32=>
z15 (σ30.bump 4) (σ30.next+1) (.rw [.int .i64 16,.int .i64 17,.int .i64 18,.int .i64 0,.int .i64 8,.int .i64 7,.int .i64 9,.int .i64 6,.int .i64 10,.int .i64 5,.int .i64 11,.int .i64 4,.int .i64 12,.int .i64 3,.int .i64 13,.int .i64 2,.int .i64 14,.int .i64 1,.int .i64 15]) λσ33=>
zx (.slice (σ30.next+1) 0 19 (.ex 19)) λv34=>
zj [.v,tI] (z3j Q v0 v4 v5 v9 σ30 v31 v34) .nils 0 σ33)
def z7d (a0:ByteArray) (σ:Mem) (Q:AV->Mem->Prop):Prop:=
z5 PG z7R [.str a0] (σ.bump 4) λv0 σ1=>
z5 PG z4y [v0] (σ1.bump 7) λv2 σ3=>
z6T v2 0 λv4=>
z6T v2 1 λv5=>
zG v4 1 (
zG v5 1 (
z15 (σ3.bump 6) (σ3.next+2) (.rw (setAt (setAt [.nils,.nils] 0 v4.cells) 1 v5.cells)) λσ6=>
z5 PG z0h [.slice (σ3.next+2) 0 2 (.ex 2)] σ6 λv7 σ8=>
z5 PG z6K [v7] σ8 λv9 σ10=>
z15 (σ10.bump 1) σ10.next (.rw (List.replicate 19 (.int .i64 0))) λσ11=>
zx v9 λv12=>
zj [tI] (z5p Q v0 v4 v5 v9 σ10 v12) 0 (σ11.bump 3)))
theorem zbi {a0 σ Q} (h:σ.Live->z7d a0 σ Q):z1 PG z4C [.str a0] σ Q:=
 .of_sem [none,none,none,none,none,none,none,some ([3,4,5,6,7,38,39],[40]),none,none,none,none,none,none,none,none,none,none,some ([3,4,5,6,10,56,57],[12,58]),none,none,none,none,none,none,none,none,none,none,none,none,none,none,some ([3,4,5,6,10,15,90,91],[92]),none,none,none,none,none,none,none,none,none,some ([3,4,5,15,18,105,106],[107]),none,none,none,none,none,none,some ([3,4,5,15,18,105,106,107],[]),none,none,none,none,none,none] [(40,tI),(45,tI),(47,tI),(55,tI),(58,tI),(61,tI),(66,tI),(92,tI),(95,tI),(104,tI),(107,tI),(114,tI),(115,tI),(117,tI),(121,tI),(124,tI),(126,tI),(133,tI),(138,tI),(145,.s)] mixed (by kernel_rfl) (by kernel_rfl) h
/-! vitrine/vitrineref05.Deflate -/
/-! vitrine/deflate.told -/
def z76 (a1:Int) (Q:AV->Mem->Prop) (next0:AV->Mem->Prop) (v1:AV) (σ2:Mem):Prop:=
zx v1 λv3=>
ifB (decide (a1<v3)) (
zx v1 λv4=>
iW (v4-1) λv5=>
zz 1 v1 v5 λv6=>
ldI (σ2.bump 13) v6 λv7=>
ifB (decide (v7=0)) (
zx v1 λv8=>
iW (v8-1) λv9=>
zcJ 1 v1 none (some v9) λv10=>
next0 v10 (σ2.bump 19)) (
Q v1 (σ2.bump 15))) (
Q v1 (σ2.bump 15))
def z9H (a0:AV) (a1:Int) (σ:Mem) (Q:AV->Mem->Prop):Prop:=
zj [.v] (z76 a1 Q) a0 (σ.bump 1)
theorem zdu {a0 a1 σ Q} (h:σ.Live->z9H a0 a1 σ Q):z1 PG z3q [a0,.int .i64 a1] σ Q:=
 .of_sem [none,none,some ([1],[0]),none,none,none,none,none] [(15,tI)] mixed (by kernel_rfl) (by kernel_rfl) h
/-! vitrine/vitrineref05.upto -/
/-! vitrine/vitrineref03.Order -/
def zbH (σ:Mem) (Q:AV->Mem->Prop):Prop:=
z15 (σ.bump 3) (σ.next+1) (.rw [.int .i64 16,.int .i64 17,.int .i64 18,.int .i64 0,.int .i64 8,.int .i64 7,.int .i64 9,.int .i64 6,.int .i64 10,.int .i64 5,.int .i64 11,.int .i64 4,.int .i64 12,.int .i64 3,.int .i64 13,.int .i64 2,.int .i64 14,.int .i64 1,.int .i64 15]) λσ0=>
Q (.slice (σ.next+1) 0 19 (.ex 19)) σ0
theorem zeR {σ Q} (h:σ.Live->zbH σ Q):z1 PG z7I [] σ Q:=
 .of_sem [none,none] [] mixed (by kernel_rfl) (by kernel_rfl) h
/-! slices.Grow[[]int,int] -/
def z1a (Q:AV->Mem->Prop) (v5:AV) (σ6:Mem):Prop:=
Q v5 (σ6.bump 2)
def z2Q (a0:AV) (a1:Int) (Q:AV->Mem->Prop) (σ0:Mem):Prop:=
zpv a0 λv1=>
zx a0 λv2=>
iW (v1-v2) λv3=>
iW (a1-v3) λv4=>
zd [.v] (λ(k7:AV->Mem->Prop)=>
ifB (decide (0<v4)) (
zpv a0 λv8=>
zcJ 1 a0 none (some v8) λv9=>
zqD 1 8 (σ0.next+15) [(.int .i64 0)] (σ0.bump 20) v9 (.int .i64 v4) λv10 σ11=>
zx a0 λv12=>
zcJ 1 v10 none (some v12) λv13=>
k7 v13 σ11) (
k7 a0 (σ0.bump 10))) (z1a Q)
def z3M (a0:AV) (a1:Int) (σ:Mem) (Q:AV->Mem->Prop):Prop:=
zd [] (λ(k14:Mem->Prop)=>
ifB (decide (a1<0)) (
False) (
k14 (σ.bump 3))) (z2Q a0 a1 Q)
theorem z6J {a0 a1 σ Q} (h:σ.Live->z3M a0 a1 σ Q):z1 PG z1M [a0,.int .i64 a1] σ Q:=
 .of_sem [none,none,some ([0,1],[]),none,none,none,some ([],[0]),none,none] [] mixed (by kernel_rfl) (by kernel_rfl) h
/-! vitrine/vitrineref03.Length -/
def z7b (a0:Int) (Q:AV->Mem->Prop) (next0:Int->Int->Mem->Prop) (v1:Int) (v2:Int) (σ3:Mem):Prop:=
ifB (decide (v2<a0)) (
z5 PG z2t [.int .i64 v2] (σ3.bump 9) λv4 σ5=>
zq .i64 v4 λv6=>
zgu .i64 1 v6 λv7=>
iW (v1+v7) λv8=>
iW (v2+1) λv9=>
next0 v8 v9 (σ5.bump 3)) (
z5 PG z2t [.int .i64 a0] (σ3.bump 8) λv10 σ11=>
zq .i64 v10 λv12=>
Q (.tup [.int .i64 v1,.int .i64 v12]) σ11)
def z9y (a0:Int) (σ:Mem) (Q:AV->Mem->Prop):Prop:=
ifB (decide (a0=285)) (
Q (.tup [.int .i64 258,.int .i64 0]) (σ.bump 6)) (
zj [tI,tI] (z7b a0 Q) 3 257 (σ.bump 6))
theorem ze8 {a0 σ Q} (h:σ.Live->z9y a0 σ Q):z1 PG z6E [.int .i64 a0] σ Q:=
 .of_sem [none,none,none,none,none,none,none,some ([0],[4,5]),none,none,none,none,none,none] [(4,tI),(5,tI),(15,tI),(20,tI)] mixed (by kernel_rfl) (by kernel_rfl) h
end Go.Vit
