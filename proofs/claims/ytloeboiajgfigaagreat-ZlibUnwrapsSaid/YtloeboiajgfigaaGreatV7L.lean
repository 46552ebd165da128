import Derived.Test.YtloeboiajgfigaaGreatV7C
set_option linter.unusedVariables false
set_option linter.unusedSimpArgs false
set_option maxRecDepth 100000
namespace Go.Vit
open Go.Proofs
/-! vitrine/huff.Limit -/
def z61 (next5:AV->Int->Mem->Prop) (v7:Int) (v11:AV) (σ12:Mem):Prop:=
iW (v7+1) λv13=>
next5 v11 v13 (σ12.bump 2)
def z3T (k40:AV->Mem->Prop) (σ43:Mem):Prop:=
k40 (.bool true) σ43
def z5O (k44:Mem->Prop) (σ45:Mem):Prop:=
k44 σ45
def z3U (Q:AV->Mem->Prop) (v6:AV) (σ8:Mem) (v20:Int) (v27:Int) (next28:AV->Int->Mem->Prop) (v29:AV) (v30:Int) (σ31:Mem):Prop:=
ifB (decide (v30<v27)) (
z5 PG zO [v6] (σ31.bump 5) λv32 σ33=>
z15 σ33 (σ31.next+3) (.rw [.nils]) λσ34=>
stW 1 σ34 (.ptr (σ31.next+3) 0) v32 λσ35=>
z5 PG zP [v29,.int .i64 2] (σ35.bump 2) λv36 σ37=>
zma PG v36 (λargs38 σ39 k40=>
arg1W args38 λv41=>
zx v41 λv42=>
zd [] (λ(k44:Mem->Prop)=>
ifB (decide (v42=2)) (
zd [] (λ(k46:Mem->Prop)=>
ldW (σ39.bump 22) (.ptr (σ31.next+3) 0) λv47=>
zz 3 v41 0 λv48=>
z6C 0 v48 λv49=>
ldI (σ39.bump 22) v49 λv50=>
zz 3 v41 1 λv51=>
z6C 0 v51 λv52=>
ldI (σ39.bump 22) v52 λv53=>
iW (v50+v53) λv54=>
zG v41 1 (
zx v47 λv55=>
zG (.agg [.int .i64 0,.int .i64 0,.nils]) 3 (
z15 (σ39.bump 22) (σ39.next+17) (.rw [.int .i64 0,.int .i64 0,.nils]) λσ56=>
apW 3 40 (σ39.next+18) σ56 v47 (.slice (σ39.next+17) 0 1 (.ex 1)) λv57 σ58=>
zz 3 v57 v55 λv59=>
(
stW 3 σ58 v59 (.agg (setAt [.int .i64 v54,.int .i64 0,.nils] 2 v41.cells)) λσ60=>
stW 1 σ60 (.ptr (σ31.next+3) 0) v57 λσ61=>
k46 σ61)/\(
stW 1 σ58 (.ptr (σ31.next+3) 0) v57 λσ62=>
stW 3 σ62 v59 (.agg (setAt [.int .i64 v54,.int .i64 0,.nils] 2 v41.cells)) λσ63=>
k46 σ63)))) (z5O k44)) (
k44 (σ39.bump 4))) (z3T k40)) σ37 λσ64=>
ldW (σ64.bump 2) (.ptr (σ31.next+3) 0) λv65=>
z5 PG zm [v65,.func 95 []] (σ64.bump 2) λv66 σ67=>
ldW (σ67.bump 2) (.ptr (σ31.next+3) 0) λv68=>
iW (v30+1) λv69=>
next28 v68 v69 (σ67.bump 4)) (
zx v6 λv70=>
iW (2*v70) λv71=>
iW (v71-2) λv72=>
zcJ 3 v29 none (some v72) λv73=>
z5 PG z50 [.slice (σ8.next+8) 0 (Int.toNat v20) (.ex (Int.toNat v20)),v73] (σ31.bump 9) λv74 σ75=>
Q (.tup [.slice (σ8.next+8) 0 (Int.toNat v20) (.ex (Int.toNat v20)),.int .i64 0]) (σ75.bump 3))
def z6e (a0:Int) (Q:AV->Mem->Prop) (v6:AV) (σ8:Mem) (v20:Int) (σ23:Mem):Prop:=
zx v6 λv24=>
ifB (decide (v24<2)) (
Q (.tup [.slice (σ8.next+8) 0 (Int.toNat v20) (.ex (Int.toNat v20)),.int .i64 0]) (σ23.bump 6)) (
z5 PG zm [v6,.func 95 []] (σ23.bump 5) λv25 σ26=>
iW (a0-1) λv27=>
zj [.v,tI] (z3U Q v6 σ8 v20 v27) v6 0 (σ26.bump 5))
def z97 (a0:Int) (a1:AV) (Q:AV->Mem->Prop) (v4:Int) (next5:AV->Int->Mem->Prop) (v6:AV) (v7:Int) (σ8:Mem):Prop:=
ifB (decide (v7<v4)) (
zz 1 a1 v7 λv9=>
ldI (σ8.bump 6) v9 λv10=>
zd [.v] (λ(k14:AV->Mem->Prop)=>
ifB (decide (0<v10)) (
zG (.agg [.int .i64 v10,.int .i64 v7,.nils]) 3 (
z15 (σ8.bump 15) (σ8.next+12) (.rw [.int .i64 v10,.int .i64 v7,.nils]) λσ15=>
apW 3 40 (σ8.next+13) σ15 v6 (.slice (σ8.next+12) 0 1 (.ex 1)) λv16 σ17=>
k14 v16 σ17)) (
k14 v6 (σ8.bump 8))) (z61 next5 v7)) (
zx v6 λv18=>
zgu .i64 1 a0 λv19=>
ifB (decide (v19<v18)) (
Q (.tup [.nils,.int .i64 1]) (σ8.bump 8)) (
zx a1 λv20=>
zeH 8 v20 v20 (
z15 (σ8.bump 10) (σ8.next+8) (.rw (repl (Int.toNat v20) [.int .i64 0])) λσ21=>
zx v6 λv22=>
zd [] (λ(k76:Mem->Prop)=>
ifB (decide (v22=1)) (
zz 3 v6 0 λv77=>
z6C 1 v77 λv78=>
ldI (σ21.bump 10) v78 λv79=>
zz 1 (.slice (σ8.next+8) 0 (Int.toNat v20) (.ex (Int.toNat v20))) v79 λv80=>
stW 1 (σ21.bump 10) v80 (.int .i64 1) λσ81=>
k76 σ81) (
k76 (σ21.bump 3))) (z6e a0 Q v6 σ8 v20))))
def zcm (a0:Int) (a1:AV) (σ:Mem) (Q:AV->Mem->Prop):Prop:=
ifB (decide (a0<1)) (
Q (.tup [.nils,.int .i64 1]) (σ.bump 19)) (
ifB (decide (15<a0)) (
Q (.tup [.nils,.int .i64 1]) (σ.bump 19)) (
zx a1 λv0=>
ifB (decide (288<v0)) (
Q (.tup [.nils,.int .i64 1]) (σ.bump 19)) (
z5 PG zy [a1,.func 93 []] (σ.bump 17) λv1 σ2=>
z70 v1 λv3=>
ifB v3 (
Q (.tup [.nils,.int .i64 1]) (σ2.bump 2)) (
zx a1 λv4=>
zj [.v,tI] (z97 a0 a1 Q v4) .nils 0 (σ2.bump 4)))))
theorem zfP {a0 a1 σ Q} (h:σ.Live->zcm a0 a1 σ Q):z1 PG z3N [.int .i64 a0,a1] σ Q:=
 .of_sem [none,none,none,none,none,none,none,some ([0,1,28,29],[6,30]),none,none,none,none,none,some ([0,1,28,29,30],[6]),none,none,none,none,none,none,none,some ([0,6,9],[]),none,none,none,none,none,none,none,none,some ([6,9,69],[10,70]),none,none,none,none,none,none,none,none,none,some ([],[]),some ([],[]),none,none,none,none,none] [(26,.b),(30,tI),(34,tI),(59,tI),(70,tI),(84,tI),(88,tI)] mixed (by kernel_rfl) (by kernel_rfl) h
/-! vitrine/vitrineref02.Limit -/
/-! slices.SortStableFunc[[]vitrine/huff.item,vitrine/huff.item] -/
def zU (a0:AV) (a1:AV) (σ:Mem) (Q:AV->Mem->Prop):Prop:=
zx a0 λv0=>
z5 PG z04 [a0,.int .i64 v0,a1] (σ.bump 5) λv1 σ2=>
Q (.tup []) σ2
theorem z1o {a0 a1 σ Q} (h:σ.Live->zU a0 a1 σ Q):z1 PG zm [a0,a1] σ Q:=
 .of_sem [none] [] mixed (by kernel_rfl) (by kernel_rfl) h
/-! vitrine/huff.byCount -/
def z9S (a0:AV) (a1:AV) (σ:Mem) (Q:AV->Mem->Prop):Prop:=
zfU a0 (
z15 (σ.bump 3) σ.next (.rw a0.cells) λσ0=>
zfU a1 (
z15 σ0 (σ.next+1) (.rw a1.cells) λσ1=>
z6C 0 (.ptr σ.next 0) λv2=>
ldI (σ1.bump 6) v2 λv3=>
z6C 0 (.ptr (σ.next+1) 0) λv4=>
ldI (σ1.bump 6) v4 λv5=>
z5 PG z2u [.int .i64 v3,.int .i64 v5] (σ1.bump 6) λv6 σ7=>
zq .i64 v6 λv8=>
Q (.int .i64 v8) σ7))
theorem zdV {a0 a1 σ Q} (h:σ.Live->z9S a0 a1 σ Q):z1 PG z3l [a0,a1] σ Q:=
 .of_sem [none,none] [(6,tI),(8,tI),(9,tI)] mixed (by kernel_rfl) (by kernel_rfl) h
/-! slices.Clone[[]vitrine/huff.item,vitrine/huff.item] -/
def z0R (a0:AV) (σ:Mem) (Q:AV->Mem->Prop):Prop:=
eqW .sl a0 .nils λv0=>
ifB v0 (
Q .nils (σ.bump 4)) (
z15 (σ.bump 7) (σ.next+3) (.rw []) λσ1=>
apW 3 40 (σ.next+5) σ1 (.slice (σ.next+3) 0 0 (.ex 0)) a0 λv2 σ3=>
Q v2 σ3)
theorem z2V {a0 σ Q} (h:σ.Live->z0R a0 σ Q):z1 PG zO [a0] σ Q:=
 .of_sem [none,none,none,none,none] [] mixed (by kernel_rfl) (by kernel_rfl) h
/-! slices.Chunk[[]vitrine/huff.item,vitrine/huff.item] -/
def z0l (Q:AV->Mem->Prop) (σ:Mem) (σ3:Mem):Prop:=
Q (.func zl [.ptr σ.next 0,.ptr (σ.next+1) 0]) (σ3.bump 2)
def z0O (a0:AV) (a1:Int) (σ:Mem) (Q:AV->Mem->Prop):Prop:=
zfU a0 (
z15 (σ.bump 3) σ.next (.rw a0.cells) λσ0=>
z15 σ0 (σ.next+1) (.rw [.int .i64 a1]) λσ1=>
ldI (σ1.bump 2) (.ptr (σ.next+1) 0) λv2=>
zd [] (λ(k4:Mem->Prop)=>
ifB (decide (v2<1)) (
False) (
k4 (σ1.bump 2))) (z0l Q σ))
theorem z2Z {a0 a1 σ Q} (h:σ.Live->z0O a0 a1 σ Q):z1 PG zP [a0,.int .i64 a1] σ Q:=
 .of_sem [none,none,some ([2,3],[]),none,none] [(5,tI)] mixed (by kernel_rfl) (by kernel_rfl) h
/-! vitrine/huff.spend -/
def z64 (next1:Int->Mem->Prop) (v2:Int) (σ11:Mem):Prop:=
iW (v2+1) λv12=>
next1 v12 (σ11.bump 2)
def z67 (a0:AV) (a1:AV) (Q:AV->Mem->Prop) (v0:Int) (next1:Int->Mem->Prop) (v2:Int) (σ3:Mem):Prop:=
ifB (decide (v2<v0)) (
zz 3 a1 v2 λv4=>
z5x 3 (σ3.bump 5) v4 λv5=>
z15 (σ3.bump 5) (σ3.next+3) (.rw [.int .i64 0,.int .i64 0,.nils]) λσ6=>
stW 3 σ6 (.ptr (σ3.next+3) 0) v5 λσ7=>
z6C 2 (.ptr (σ3.next+3) 0) λv8=>
ldW (σ7.bump 3) v8 λv9=>
eqW .sl v9 .nils λv10=>
zd [] (λ(k13:Mem->Prop)=>
ifB v10 (
z6C 1 (.ptr (σ3.next+3) 0) λv14=>
ldI (σ7.bump 11) v14 λv15=>
zz 1 a0 v15 λv16=>
ldI (σ7.bump 11) v16 λv17=>
iW (v17+1) λv18=>
zz 1 a0 v15 λv19=>
stW 1 (σ7.bump 11) v19 (.int .i64 v18) λσ20=>
k13 σ20) (
z6C 2 (.ptr (σ3.next+3) 0) λv21=>
ldW (σ7.bump 7) v21 λv22=>
z5 PG z50 [a0,v22] (σ7.bump 7) λv23 σ24=>
k13 σ24)) (z64 next1 v2)) (
Q (.tup []) (σ3.bump 1))
def z8r (a0:AV) (a1:AV) (σ:Mem) (Q:AV->Mem->Prop):Prop:=
zx a1 λv0=>
zj [tI] (z67 a0 a1 Q v0) 0 (σ.bump 3)
theorem zaW {a0 a1 σ Q} (h:σ.Live->z8r a0 a1 σ Q):z1 PG z50 [a0,a1] σ Q:=
 .of_sem [none,none,some ([0,6,7],[8]),none,none,none,none,none,some ([0,6,7,8],[]),none,none,none] [(8,tI),(17,tI),(19,tI)] mixed (by kernel_rfl) (by kernel_rfl) h
/-! slices.Chunk[[]vitrine/huff.item,vitrine/huff.item]$1 -/
def z0c (Y:z6a) (a0:AV) (a1:AV) (a2:AV) (Q:AV->Mem->Prop) (next0:Int->Mem->Prop) (v1:Int) (σ2:Mem):Prop:=
ldW (σ2.bump 4) a1 λv3=>
zx v3 λv4=>
ifB (decide (v1<v4)) (
ldI (σ2.bump 11) a2 λv5=>
ldW (σ2.bump 11) a1 λv6=>
zcJ 3 v6 (some v1) none λv7=>
zx v7 λv8=>
z4j (imin v5 v8) λv9=>
ldW (σ2.bump 23) a1 λv10=>
iW (v1+v9) λv11=>
iW (v1+v9) λv12=>
slc3W 3 v10 (some v1) v11 v12 λv13=>
zf3 PG Y a0 [v13] (σ2.bump 23) λv14 σ15=>
z70 v14 λv16=>
ifB (!v16) (
Q (.tup []) σ15) (
ldI (σ15.bump 4) a2 λv17=>
iW (v1+v17) λv18=>
next0 v18 (σ15.bump 4))) (
Q (.tup []) (σ2.bump 4))
def z0o (Y:z6a) (a0:AV) (a1:AV) (a2:AV) (σ:Mem) (Q:AV->Mem->Prop):Prop:=
zj [tI] (z0c Y a0 a1 a2 Q) 0 (σ.bump 1)
theorem z2v {Y:z6a} {a0 a1 a2 σ Q} (h:σ.Live->z0o Y a0 a1 a2 σ Q):zY PG Y zl [a0,a1,a2] σ Q:=
 .of_sem [none,none,some ([0,1,2],[4]),none,none,none,none,none,none,none] [(4,tI),(13,tI),(29,.b),(11,tI)] mixed (by kernel_rfl) (by kernel_rfl) h
end Go.Vit
