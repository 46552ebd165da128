import Derived.Test.YtloeboiajgfigaaGreatV7C
set_option linter.unusedVariables false
set_option linter.unusedSimpArgs false
set_option maxRecDepth 100000
namespace Go.Vit
open Go.Proofs
/-! vitrine/huff.Limit -/
def z5P (next5:AV->Int->Mem->Prop) (v7:Int) (v11:AV) (σ12:Mem):Prop:=
iW (v7+1) λv13=>
next5 v11 v13 (σ12.bump 2)
def z3t (k40:AV->Mem->Prop) (σ43:Mem):Prop:=
k40 (.bool true) σ43
def z5j (k44:Mem->Prop) (σ45:Mem):Prop:=
k44 σ45
def z3M (Q:AV->Mem->Prop) (v6:AV) (σ8:Mem) (v20:Int) (v27:Int) (next28:AV->Int->Mem->Prop) (v29:AV) (v30:Int) (σ31:Mem):Prop:=
ifB (decide (v30<v27)) (
z6 PG zQ [v6] (σ31.bump 5) λv32 σ33=>
zH σ33 (σ31.next+3) (.rw [.nils]) λσ34=>
stW 1 σ34 (.ptr (σ31.next+3) 0) v32 λσ35=>
z6 PG zO [v29,.int .i64 2] (σ35.bump 2) λv36 σ37=>
znU PG v36 (λargs38 σ39 k40=>
arg1W args38 λv41=>
zn v41 λv42=>
z9 [] (λ(k44:Mem->Prop)=>
ifB (decide (v42=2)) (
z9 [] (λ(k46:Mem->Prop)=>
ldW (σ39.bump 22) (.ptr (σ31.next+3) 0) λv47=>
zd 3 v41 0 λv48=>
z2H 0 v48 λv49=>
ldI (σ39.bump 22) v49 λv50=>
zd 3 v41 1 λv51=>
z2H 0 v51 λv52=>
ldI (σ39.bump 22) v52 λv53=>
iW (v50+v53) λv54=>
za v41 1 (
zn v47 λv55=>
za (.agg [.int .i64 0,.int .i64 0,.nils]) 3 (
zH (σ39.bump 22) (σ39.next+17) (.rw [.int .i64 0,.int .i64 0,.nils]) λσ56=>
apW 3 40 (σ39.next+18) σ56 v47 (.slice (σ39.next+17) 0 1 (.ex 1)) λv57 σ58=>
zd 3 v57 v55 λv59=>
(
stW 3 σ58 v59 (.agg (setAt [.int .i64 v54,.int .i64 0,.nils] 2 v41.cells)) λσ60=>
stW 1 σ60 (.ptr (σ31.next+3) 0) v57 λσ61=>
k46 σ61)/\(
stW 1 σ58 (.ptr (σ31.next+3) 0) v57 λσ62=>
stW 3 σ62 v59 (.agg (setAt [.int .i64 v54,.int .i64 0,.nils] 2 v41.cells)) λσ63=>
k46 σ63)))) (z5j k44)) (
k44 (σ39.bump 4))) (z3t k40)) σ37 λσ64=>
ldW (σ64.bump 2) (.ptr (σ31.next+3) 0) λv65=>
z6 PG zk [v65,.func 95 []] (σ64.bump 2) λv66 σ67=>
ldW (σ67.bump 2) (.ptr (σ31.next+3) 0) λv68=>
iW (v30+1) λv69=>
next28 v68 v69 (σ67.bump 4)) (
zn v6 λv70=>
iW (2*v70) λv71=>
iW (v71-2) λv72=>
zbQ 3 v29 none (some v72) λv73=>
z6 PG z4x [.slice (σ8.next+8) 0 (Int.toNat v20) (.ex (Int.toNat v20)),v73] (σ31.bump 9) λv74 σ75=>
Q (.tup [.slice (σ8.next+8) 0 (Int.toNat v20) (.ex (Int.toNat v20)),.int .i64 0]) (σ75.bump 3))
def z5N (a0:Int) (Q:AV->Mem->Prop) (v6:AV) (σ8:Mem) (v20:Int) (σ23:Mem):Prop:=
zn v6 λv24=>
ifB (decide (v24<2)) (
Q (.tup [.slice (σ8.next+8) 0 (Int.toNat v20) (.ex (Int.toNat v20)),.int .i64 0]) (σ23.bump 6)) (
z6 PG zk [v6,.func 95 []] (σ23.bump 5) λv25 σ26=>
iW (a0-1) λv27=>
zf [.v,tI] (z3M Q v6 σ8 v20 v27) v6 0 (σ26.bump 5))
def z8A (a0:Int) (a1:AV) (Q:AV->Mem->Prop) (v4:Int) (next5:AV->Int->Mem->Prop) (v6:AV) (v7:Int) (σ8:Mem):Prop:=
ifB (decide (v7<v4)) (
zd 1 a1 v7 λv9=>
ldI (σ8.bump 6) v9 λv10=>
z9 [.v] (λ(k14:AV->Mem->Prop)=>
ifB (decide (0<v10)) (
za (.agg [.int .i64 v10,.int .i64 v7,.nils]) 3 (
zH (σ8.bump 15) (σ8.next+12) (.rw [.int .i64 v10,.int .i64 v7,.nils]) λσ15=>
apW 3 40 (σ8.next+13) σ15 v6 (.slice (σ8.next+12) 0 1 (.ex 1)) λv16 σ17=>
k14 v16 σ17)) (
k14 v6 (σ8.bump 8))) (z5P next5 v7)) (
zn v6 λv18=>
zh8 .i64 1 a0 λv19=>
ifB (decide (v19<v18)) (
Q (.tup [.nils,.int .i64 1]) (σ8.bump 8)) (
zn a1 λv20=>
zai 8 v20 v20 (
zH (σ8.bump 10) (σ8.next+8) (.rw (repl (Int.toNat v20) [.int .i64 0])) λσ21=>
zn v6 λv22=>
z9 [] (λ(k76:Mem->Prop)=>
ifB (decide (v22=1)) (
zd 3 v6 0 λv77=>
z2H 1 v77 λv78=>
ldI (σ21.bump 10) v78 λv79=>
zd 1 (.slice (σ8.next+8) 0 (Int.toNat v20) (.ex (Int.toNat v20))) v79 λv80=>
stW 1 (σ21.bump 10) v80 (.int .i64 1) λσ81=>
k76 σ81) (
k76 (σ21.bump 3))) (z5N a0 Q v6 σ8 v20))))
def zcG (a0:Int) (a1:AV) (σ:Mem) (Q:AV->Mem->Prop):Prop:=
ifB (decide (a0<1)) (
Q (.tup [.nils,.int .i64 1]) (σ.bump 19)) (
ifB (decide (15<a0)) (
Q (.tup [.nils,.int .i64 1]) (σ.bump 19)) (
zn a1 λv0=>
ifB (decide (288<v0)) (
Q (.tup [.nils,.int .i64 1]) (σ.bump 19)) (
z6 PG zA [a1,.func 93 []] (σ.bump 17) λv1 σ2=>
z7G v1 λv3=>
ifB v3 (
Q (.tup [.nils,.int .i64 1]) (σ2.bump 2)) (
zn a1 λv4=>
zf [.v,tI] (z8A a0 a1 Q v4) .nils 0 (σ2.bump 4)))))
theorem zgQ {a0 a1 σ Q} (h:σ.Live->zcG a0 a1 σ Q):z1 PG z3m [.int .i64 a0,a1] σ Q:=
 .of_sem [none,none,none,none,none,none,none,some ([0,1,28,29],[6,30]),none,none,none,none,none,some ([0,1,28,29,30],[6]),none,none,none,none,none,none,none,some ([0,6,9],[]),none,none,none,none,none,none,none,none,some ([6,9,69],[10,70]),none,none,none,none,none,none,none,none,none,some ([],[]),some ([],[]),none,none,none,none,none] [(26,.b),(30,tI),(34,tI),(59,tI),(70,tI),(84,tI),(88,tI)] mixed (by kernel_rfl) (by kernel_rfl) h
/-! vitrine/vitrineref02.Limit -/
def z4P (next1:Int->Int->Mem->Prop) (v3:Int) (v12:Int) (σ13:Mem):Prop:=
iW (v3+1) λv14=>
next1 v12 v14 (σ13.bump 3)
def z4K (next20:AV->Int->Mem->Prop) (v22:Int) (v25:AV) (σ26:Mem):Prop:=
iW (v22+1) λv27=>
next20 v25 v27 (σ26.bump 3)
def z8c (Q:AV->Mem->Prop) (v2:Int) (σ4:Mem) (v18:Int) (v21:AV) (v22:Int) (σ23:Mem) (k28:AV->Mem->Prop) (v41:Int) (σ42:Mem):Prop:=
zbQ 3 v21 none (some v41) λv43=>
apW 3 40 (σ42.next+5) (σ42.bump 7) .nils v43 λv44 σ45=>
z3n 3 (σ45.bump 5) (.ptr (σ23.next+17) 0) λv46=>
za v46 3 (
zH (σ45.bump 5) (σ45.next+2) (.rw (setAt [.int .i64 0,.bool false,.nils] 0 v46.cells)) λσ47=>
apW 3 40 (σ45.next+3) σ47 v44 (.slice (σ45.next+2) 0 1 (.ex 1)) λv48 σ49=>
zbQ 3 v21 (some v41) none λv50=>
apW 3 40 (σ49.next+4) (σ49.bump 6) v48 v50 λv51 σ52=>
ifB (decide (v2=1)) (
zd 1 (.slice (σ4.next+10) 0 (Int.toNat v18) (.ex (Int.toNat v18))) v22 λv53=>
stW 1 (σ52.bump 6) v53 (.int .i64 1) λσ54=>
Q (.tup [.slice (σ4.next+10) 0 (Int.toNat v18) (.ex (Int.toNat v18)),.int .i64 0]) (σ54.bump 3)) (
k28 v51 (σ52.bump 2)))
def z87 (v21:AV) (σ23:Mem) (k55:Int->Mem->Prop) (next56:Int->Mem->Prop) (v57:Int) (σ58:Mem):Prop:=
zn v21 λv59=>
ifB (decide (v57<v59)) (
zd 3 v21 v57 λv60=>
z2H 0 v60 λv61=>
ldI (σ58.bump 14) v61 λv62=>
z2H 0 (.ptr (σ23.next+17) 0) λv63=>
ldI (σ58.bump 14) v63 λv64=>
ifB (decide (v62<=v64)) (
iW (v57+1) λv65=>
next56 v65 (σ58.bump 17)) (
k55 v57 (σ58.bump 14))) (
k55 v57 (σ58.bump 14))
def z7V (a1:AV) (v67:AV) (next70:AV->Int->Mem->Prop) (v71:AV) (v72:Int) (σ73:Mem) (next88:Int->Mem->Prop) (v89:Int) (σ90:Mem):Prop:=
zn a1 λv91=>
ifB (decide (v89<v91)) (
z2H 2 (.ptr (σ73.next+21) 0) λv92=>
ldW (σ90.bump 27) v92 λv93=>
zd 3 v67 v72 λv94=>
z2H 2 v94 λv95=>
ldW (σ90.bump 27) v95 λv96=>
zd 1 v96 v89 λv97=>
ldI (σ90.bump 27) v97 λv98=>
iW (v72+1) λv99=>
zd 3 v67 v99 λv100=>
z2H 2 v100 λv101=>
ldW (σ90.bump 27) v101 λv102=>
zd 1 v102 v89 λv103=>
ldI (σ90.bump 27) v103 λv104=>
iW (v98+v104) λv105=>
zd 1 v93 v89 λv106=>
stW 1 (σ90.bump 27) v106 (.int .i64 v105) λσ107=>
iW (v89+1) λv108=>
next88 v108 (σ107.bump 3)) (
z3n 3 (σ90.bump 9) (.ptr (σ73.next+21) 0) λv109=>
za v109 3 (
zH (σ90.bump 9) (σ90.next+6) (.rw (setAt [.int .i64 0,.bool false,.nils] 0 v109.cells)) λσ110=>
apW 3 40 (σ90.next+7) σ110 v71 (.slice (σ90.next+6) 0 1 (.ex 1)) λv111 σ112=>
iW (v72+2) λv113=>
next70 v111 v113 (σ112.bump 3)))
def z4J (a1:AV) (v21:AV) (next66:AV->Int->Mem->Prop) (v67:AV) (v68:Int) (next70:AV->Int->Mem->Prop) (v71:AV) (v72:Int) (σ73:Mem):Prop:=
iW (v72+1) λv74=>
zn v67 λv75=>
ifB (decide (v74<v75)) (
zd 3 v67 v72 λv76=>
z2H 0 v76 λv77=>
ldI (σ73.bump 23) v77 λv78=>
iW (v72+1) λv79=>
zd 3 v67 v79 λv80=>
z2H 0 v80 λv81=>
ldI (σ73.bump 23) v81 λv82=>
iW (v78+v82) λv83=>
zn a1 λv84=>
zai 8 v84 v84 (
zH (σ73.bump 23) (σ73.next+19) (.rw (repl (Int.toNat v84) [.int .i64 0])) λσ85=>
zH σ85 (σ73.next+21) (.rw [.int .i64 0,.bool false,.nils]) λσ86=>
stW 3 σ86 (.ptr (σ73.next+21) 0) (.agg [.int .i64 v83,.bool false,.slice (σ73.next+19) 0 (Int.toNat v84) (.ex (Int.toNat v84))]) λσ87=>
zf [tI] (z7V a1 v67 next70 v71 v72 σ73) 0 (σ87.bump 1))) (
z6 PG zag [v21,v71] (σ73.bump 9) λv114 σ115=>
iW (v68+1) λv116=>
next66 v114 v116 (σ115.bump 3))
def z7N (a1:AV) (σ4:Mem) (v18:Int) (v67:AV) (next117:Int->Mem->Prop) (v118:Int) (next122:Int->Mem->Prop) (v123:Int) (σ124:Mem):Prop:=
zn a1 λv125=>
ifB (decide (v123<v125)) (
zd 1 (.slice (σ4.next+10) 0 (Int.toNat v18) (.ex (Int.toNat v18))) v123 λv126=>
ldI (σ124.bump 21) v126 λv127=>
zd 3 v67 v118 λv128=>
z2H 2 v128 λv129=>
ldW (σ124.bump 21) v129 λv130=>
zd 1 v130 v123 λv131=>
ldI (σ124.bump 21) v131 λv132=>
iW (v127+v132) λv133=>
zd 1 (.slice (σ4.next+10) 0 (Int.toNat v18) (.ex (Int.toNat v18))) v123 λv134=>
stW 1 (σ124.bump 21) v134 (.int .i64 v133) λσ135=>
iW (v123+1) λv136=>
next122 v136 (σ135.bump 3)) (
iW (v118+1) λv137=>
next117 v137 (σ124.bump 7))
def z4F (a1:AV) (Q:AV->Mem->Prop) (v2:Int) (σ4:Mem) (v18:Int) (v67:AV) (next117:Int->Mem->Prop) (v118:Int) (σ119:Mem):Prop:=
iW (2*v2) λv120=>
iW (v120-2) λv121=>
ifB (decide (v118<v121)) (
zf [tI] (z7N a1 σ4 v18 v67 next117 v118) 0 (σ119.bump 6)) (
Q (.tup [.slice (σ4.next+10) 0 (Int.toNat v18) (.ex (Int.toNat v18)),.int .i64 0]) (σ119.bump 8))
def z88 (a0:Int) (a1:AV) (Q:AV->Mem->Prop) (v2:Int) (σ4:Mem) (v18:Int) (v21:AV) (next66:AV->Int->Mem->Prop) (v67:AV) (v68:Int) (σ69:Mem):Prop:=
ifB (decide (v68<a0)) (
zf [.v,tI] (z4J a1 v21 next66 v67 v68) .nils 0 (σ69.bump 5)) (
zf [tI] (z4F a1 Q v2 σ4 v18 v67) 0 (σ69.bump 4))
def z8d (a0:Int) (a1:AV) (Q:AV->Mem->Prop) (v2:Int) (σ4:Mem) (v18:Int) (next20:AV->Int->Mem->Prop) (v21:AV) (v22:Int) (σ23:Mem):Prop:=
zn a1 λv24=>
ifB (decide (v22<v24)) (
z9 [.v] (λ(k28:AV->Mem->Prop)=>
zd 1 a1 v22 λv29=>
ldI (σ23.bump 9) v29 λv30=>
ifB (decide (v30=0)) (
k28 v21 (σ23.bump 9)) (
zd 1 a1 v22 λv31=>
ldI (σ23.bump 19) v31 λv32=>
zn a1 λv33=>
zai 8 v33 v33 (
zH (σ23.bump 19) (σ23.next+15) (.rw (repl (Int.toNat v33) [.int .i64 0])) λσ34=>
zH σ34 (σ23.next+17) (.rw [.int .i64 0,.bool false,.nils]) λσ35=>
stW 3 σ35 (.ptr (σ23.next+17) 0) (.agg [.int .i64 v32,.bool true,.slice (σ23.next+15) 0 (Int.toNat v33) (.ex (Int.toNat v33))]) λσ36=>
z2H 2 (.ptr (σ23.next+17) 0) λv37=>
ldW (σ36.bump 5) v37 λv38=>
zd 1 v38 v22 λv39=>
stW 1 (σ36.bump 5) v39 (.int .i64 1) λσ40=>
z9 [tI] (λ(k55:Int->Mem->Prop)=>
zf [tI] (z87 v21 σ23 k55) 0 (σ40.bump 1)) (z8c Q v2 σ4 v18 v21 v22 σ23 k28)))) (z4K next20 v22)) (
zf [.v,tI] (z88 a0 a1 Q v2 σ4 v18 v21) v21 1 (σ23.bump 7))
def z89 (a0:Int) (a1:AV) (Q:AV->Mem->Prop) (next1:Int->Int->Mem->Prop) (v2:Int) (v3:Int) (σ4:Mem):Prop:=
zn a1 λv5=>
ifB (decide (v3<v5)) (
zd 1 a1 v3 λv6=>
ldI (σ4.bump 16) v6 λv7=>
ifB (decide (v7<0)) (
Q (.tup [.nils,.int .i64 1]) (σ4.bump 18)) (
zd 1 a1 v3 λv8=>
ldI (σ4.bump 16) v8 λv9=>
ifB (decide (1000000000<v9)) (
Q (.tup [.nils,.int .i64 1]) (σ4.bump 18)) (
zd 1 a1 v3 λv10=>
ldI (σ4.bump 21) v10 λv11=>
z9 [tI] (λ(k15:Int->Mem->Prop)=>
ifB (decide (0<v11)) (
iW (v2+1) λv16=>
k15 v16 (σ4.bump 24)) (
k15 v2 (σ4.bump 21))) (z4P next1 v3)))) (
zh8 .i64 1 a0 λv17=>
ifB (decide (v17<v2)) (
Q (.tup [.nils,.int .i64 1]) (σ4.bump 10)) (
zn a1 λv18=>
zai 8 v18 v18 (
zH (σ4.bump 12) (σ4.next+10) (.rw (repl (Int.toNat v18) [.int .i64 0])) λσ19=>
zf [.v,tI] (z8d a0 a1 Q v2 σ4 v18) .nils 0 (σ19.bump 2))))
def zaF (a0:Int) (a1:AV) (σ:Mem) (Q:AV->Mem->Prop):Prop:=
zn a1 λv0=>
ifB (decide (288<v0)) (
Q (.tup [.nils,.int .i64 1]) (σ.bump 15)) (
ifB (decide (a0<1)) (
Q (.tup [.nils,.int .i64 1]) (σ.bump 15)) (
ifB (decide (15<a0)) (
Q (.tup [.nils,.int .i64 1]) (σ.bump 15)) (
zf [tI,tI] (z89 a0 a1 Q) 0 0 (σ.bump 15))))
theorem zfB {a0 a1 σ Q} (h:σ.Live->zaF a0 a1 σ Q):z1 PG z3K [.int .i64 a0,a1] σ Q:=
 .of_sem [none,none,none,none,none,none,none,some ([0,1],[6,7]),none,none,none,none,none,none,none,some ([0,1,7],[6]),none,none,none,none,none,none,none,none,none,some ([0,1,6,8],[9,10]),none,none,some ([0,1,6,8,10],[9]),none,none,none,none,none,some ([0,1,6,8,9,10,11],[12]),some ([0,1,6,8,9,10,11],[12]),none,none,none,none,none,none,none,none,none,none,none,none,none,none,none,none,some ([0,1,6,8,9],[14,15]),none,none,none,none,none,none,some ([0,1,6,8,9,14,15],[16,17]),none,none,none,none,none,none,some ([0,1,6,8,9,14,15,16,17,18],[19]),none,none,none,none,none,none,none,none,none,none,none,some ([1,6,8,14],[20]),none,none,none,none,none,some ([1,6,8,14,20],[21]),none,none,none,none,none,none,none] [(6,tI),(7,tI),(42,tI),(48,tI),(54,tI),(10,tI),(74,tI),(79,tI),(12,tI),(97,tI),(99,tI),(15,tI),(17,tI),(141,tI),(147,tI),(19,tI),(169,tI),(178,tI),(20,tI),(21,tI),(206,tI),(214,tI)] mixed (by kernel_rfl) (by kernel_rfl) h
/-! slices.SortStableFunc[[]vitrine/huff.item,vitrine/huff.item] -/
def zU (a0:AV) (a1:AV) (σ:Mem) (Q:AV->Mem->Prop):Prop:=
zn a0 λv0=>
z6 PG z00 [a0,.int .i64 v0,a1] (σ.bump 5) λv1 σ2=>
Q (.tup []) σ2
theorem z1f {a0 a1 σ Q} (h:σ.Live->zU a0 a1 σ Q):z1 PG zk [a0,a1] σ Q:=
 .of_sem [none] [] mixed (by kernel_rfl) (by kernel_rfl) h
/-! vitrine/huff.byCount -/
def z9Y (a0:AV) (a1:AV) (σ:Mem) (Q:AV->Mem->Prop):Prop:=
zge a0 (
zH (σ.bump 3) σ.next (.rw a0.cells) λσ0=>
zge a1 (
zH σ0 (σ.next+1) (.rw a1.cells) λσ1=>
z2H 0 (.ptr σ.next 0) λv2=>
ldI (σ1.bump 6) v2 λv3=>
z2H 0 (.ptr (σ.next+1) 0) λv4=>
ldI (σ1.bump 6) v4 λv5=>
z6 PG z23 [.int .i64 v3,.int .i64 v5] (σ1.bump 6) λv6 σ7=>
zB .i64 v6 λv8=>
Q (.int .i64 v8) σ7))
theorem ze9 {a0 a1 σ Q} (h:σ.Live->z9Y a0 a1 σ Q):z1 PG z2Z [a0,a1] σ Q:=
 .of_sem [none,none] [(6,tI),(8,tI),(9,tI)] mixed (by kernel_rfl) (by kernel_rfl) h
/-! slices.Clone[[]vitrine/huff.item,vitrine/huff.item] -/
def z0K (a0:AV) (σ:Mem) (Q:AV->Mem->Prop):Prop:=
eqW .sl a0 .nils λv0=>
ifB v0 (
Q .nils (σ.bump 4)) (
zH (σ.bump 7) (σ.next+3) (.rw []) λσ1=>
apW 3 40 (σ.next+5) σ1 (.slice (σ.next+3) 0 0 (.ex 0)) a0 λv2 σ3=>
Q v2 σ3)
theorem z2D {a0 σ Q} (h:σ.Live->z0K a0 σ Q):z1 PG zQ [a0] σ Q:=
 .of_sem [none,none,none,none,none] [] mixed (by kernel_rfl) (by kernel_rfl) h
/-! slices.Chunk[[]vitrine/huff.item,vitrine/huff.item] -/
def z0h (Q:AV->Mem->Prop) (σ:Mem) (σ3:Mem):Prop:=
Q (.func zj [.ptr σ.next 0,.ptr (σ.next+1) 0]) (σ3.bump 2)
def z0N (a0:AV) (a1:Int) (σ:Mem) (Q:AV->Mem->Prop):Prop:=
zge a0 (
zH (σ.bump 3) σ.next (.rw a0.cells) λσ0=>
zH σ0 (σ.next+1) (.rw [.int .i64 a1]) λσ1=>
ldI (σ1.bump 2) (.ptr (σ.next+1) 0) λv2=>
z9 [] (λ(k4:Mem->Prop)=>
ifB (decide (v2<1)) (
False) (
k4 (σ1.bump 2))) (z0h Q σ))
theorem z2C {a0 a1 σ Q} (h:σ.Live->z0N a0 a1 σ Q):z1 PG zO [a0,.int .i64 a1] σ Q:=
 .of_sem [none,none,some ([2,3],[]),none,none] [(5,tI)] mixed (by kernel_rfl) (by kernel_rfl) h
/-! vitrine/huff.spend -/
def z5h (next1:Int->Mem->Prop) (v2:Int) (σ11:Mem):Prop:=
iW (v2+1) λv12=>
next1 v12 (σ11.bump 2)
def z5I (a0:AV) (a1:AV) (Q:AV->Mem->Prop) (v0:Int) (next1:Int->Mem->Prop) (v2:Int) (σ3:Mem):Prop:=
ifB (decide (v2<v0)) (
zd 3 a1 v2 λv4=>
z3n 3 (σ3.bump 5) v4 λv5=>
zH (σ3.bump 5) (σ3.next+3) (.rw [.int .i64 0,.int .i64 0,.nils]) λσ6=>
stW 3 σ6 (.ptr (σ3.next+3) 0) v5 λσ7=>
z2H 2 (.ptr (σ3.next+3) 0) λv8=>
ldW (σ7.bump 3) v8 λv9=>
eqW .sl v9 .nils λv10=>
z9 [] (λ(k13:Mem->Prop)=>
ifB v10 (
z2H 1 (.ptr (σ3.next+3) 0) λv14=>
ldI (σ7.bump 11) v14 λv15=>
zd 1 a0 v15 λv16=>
ldI (σ7.bump 11) v16 λv17=>
iW (v17+1) λv18=>
zd 1 a0 v15 λv19=>
stW 1 (σ7.bump 11) v19 (.int .i64 v18) λσ20=>
k13 σ20) (
z2H 2 (.ptr (σ3.next+3) 0) λv21=>
ldW (σ7.bump 7) v21 λv22=>
z6 PG z4x [a0,v22] (σ7.bump 7) λv23 σ24=>
k13 σ24)) (z5h next1 v2)) (
Q (.tup []) (σ3.bump 1))
def z9c (a0:AV) (a1:AV) (σ:Mem) (Q:AV->Mem->Prop):Prop:=
zn a1 λv0=>
zf [tI] (z5I a0 a1 Q v0) 0 (σ.bump 3)
theorem zbD {a0 a1 σ Q} (h:σ.Live->z9c a0 a1 σ Q):z1 PG z4x [a0,a1] σ Q:=
 .of_sem [none,none,some ([0,6,7],[8]),none,none,none,none,none,some ([0,6,7,8],[]),none,none,none] [(8,tI),(17,tI),(19,tI)] mixed (by kernel_rfl) (by kernel_rfl) h
/-! slices.Chunk[[]vitrine/huff.item,vitrine/huff.item]$1 -/
def z0a (Y:z5O) (a0:AV) (a1:AV) (a2:AV) (Q:AV->Mem->Prop) (next0:Int->Mem->Prop) (v1:Int) (σ2:Mem):Prop:=
ldW (σ2.bump 4) a1 λv3=>
zn v3 λv4=>
ifB (decide (v1<v4)) (
ldI (σ2.bump 11) a2 λv5=>
ldW (σ2.bump 11) a1 λv6=>
zbQ 3 v6 (some v1) none λv7=>
zn v7 λv8=>
z3r (imin v5 v8) λv9=>
ldW (σ2.bump 23) a1 λv10=>
iW (v1+v9) λv11=>
iW (v1+v9) λv12=>
slc3W 3 v10 (some v1) v11 v12 λv13=>
zg7 PG Y a0 [v13] (σ2.bump 23) λv14 σ15=>
z7G v14 λv16=>
ifB (!v16) (
Q (.tup []) σ15) (
ldI (σ15.bump 4) a2 λv17=>
iW (v1+v17) λv18=>
next0 v18 (σ15.bump 4))) (
Q (.tup []) (σ2.bump 4))
def z0k (Y:z5O) (a0:AV) (a1:AV) (a2:AV) (σ:Mem) (Q:AV->Mem->Prop):Prop:=
zf [tI] (z0a Y a0 a1 a2 Q) 0 (σ.bump 1)
theorem z2a {Y:z5O} {a0 a1 a2 σ Q} (h:σ.Live->z0k Y a0 a1 a2 σ Q):zV PG Y zj [a0,a1,a2] σ Q:=
 .of_sem [none,none,some ([0,1,2],[4]),none,none,none,none,none,none,none] [(4,tI),(13,tI),(29,.b),(11,tI)] mixed (by kernel_rfl) (by kernel_rfl) h
end Go.Vit
