import Derived.Test.YtcliekhikcaoiaaV5C
set_option linter.unusedVariables false
set_option linter.unusedSimpArgs false
set_option linter.unusedVariables false
set_option maxRecDepth 100000
namespace Go.Vit
open Go.Proofs
/-! vitrine/huff.Limit -/
def F_huff_Limit_j1 (next5:AV->Int->Mem->Prop) (v7:Int) (v11:AV) (σ12:Mem):Prop:=
iW (v7+1) fun v13=>
next5 v11 v13 (σ12.bump 2)
def F_huff_Limit_j3 (k40:AV->Mem->Prop) (σ43:Mem):Prop:=
k40 (.bool true) σ43
def F_huff_Limit_j4 (k44:Mem->Prop) (σ45:Mem):Prop:=
k44 σ45
def F_huff_Limit_l2 (Q:AV->Mem->Prop) (v6:AV) (σ8:Mem) (v20:Int) (v27:Int) (next28:AV->Int->Mem->Prop) (v29:AV) (v30:Int) (σ31:Mem):Prop:=
ifB (decide (v30<v27)) (
callW PG n_slices_Clone___huff_item_huff_item_ [v6] (σ31.bump 5) fun v32 σ33=>
newW σ33 (σ31.next+3) (.rw [.nils]) fun σ34=>
stW 1 σ34 (.ptr (σ31.next+3) 0) v32 fun σ35=>
callW PG n_slices_Chunk___huff_item_huff_item_ [v29,.int .i64 2] (σ35.bump 2) fun v36 σ37=>
rangeW PG v36 (fun args38 σ39 k40=>
arg1W args38 fun v41=>
slenW v41 fun v42=>
joinF [] (fun (k44:Mem->Prop)=>
ifB (decide (v42=2)) (
joinF [] (fun (k46:Mem->Prop)=>
ldW (σ39.bump 22) (.ptr (σ31.next+3) 0) fun v47=>
idxW 3 v41 0 fun v48=>
fldW 0 v48 fun v49=>
ldI (σ39.bump 22) v49 fun v50=>
idxW 3 v41 1 fun v51=>
fldW 0 v51 fun v52=>
ldI (σ39.bump 22) v52 fun v53=>
iW (v50+v53) fun v54=>
cellOkW v41 1 (
slenW v47 fun v55=>
cellOkW (.agg [.int .i64 0,.int .i64 0,.nils]) 3 (
newW (σ39.bump 22) (σ39.next+17) (.rw [.int .i64 0,.int .i64 0,.nils]) fun σ56=>
apW 3 40 (σ39.next+18) σ56 v47 (.slice (σ39.next+17) 0 1 (.ex 1)) fun v57 σ58=>
idxW 3 v57 v55 fun v59=>
(
stW 3 σ58 v59 (.agg (setAt [.int .i64 v54,.int .i64 0,.nils] 2 v41.cells)) fun σ60=>
stW 1 σ60 (.ptr (σ31.next+3) 0) v57 fun σ61=>
k46 σ61)/\(
stW 1 σ58 (.ptr (σ31.next+3) 0) v57 fun σ62=>
stW 3 σ62 v59 (.agg (setAt [.int .i64 v54,.int .i64 0,.nils] 2 v41.cells)) fun σ63=>
k46 σ63)))) (F_huff_Limit_j4 k44)) (
k44 (σ39.bump 4))) (F_huff_Limit_j3 k40)) σ37 fun σ64=>
ldW (σ64.bump 2) (.ptr (σ31.next+3) 0) fun v65=>
callW PG n_slices_SortStableFunc___huff_item_huff_item_ [v65,.func 74 []] (σ64.bump 2) fun v66 σ67=>
ldW (σ67.bump 2) (.ptr (σ31.next+3) 0) fun v68=>
iW (v30+1) fun v69=>
next28 v68 v69 (σ67.bump 4)) (
slenW v6 fun v70=>
iW (2*v70) fun v71=>
iW (v71-2) fun v72=>
slcW 3 v29 none (some v72) fun v73=>
callW PG n_huff_spend [.slice (σ8.next+8) 0 (Int.toNat v20) (.ex (Int.toNat v20)),v73] (σ31.bump 9) fun v74 σ75=>
Q (.tup [.slice (σ8.next+8) 0 (Int.toNat v20) (.ex (Int.toNat v20)),.int .i64 0]) (σ75.bump 3))
def F_huff_Limit_j2 (a0:Int) (Q:AV->Mem->Prop) (v6:AV) (σ8:Mem) (v20:Int) (σ23:Mem):Prop:=
slenW v6 fun v24=>
ifB (decide (v24<2)) (
Q (.tup [.slice (σ8.next+8) 0 (Int.toNat v20) (.ex (Int.toNat v20)),.int .i64 0]) (σ23.bump 6)) (
callW PG n_slices_SortStableFunc___huff_item_huff_item_ [v6,.func 74 []] (σ23.bump 5) fun v25 σ26=>
iW (a0-1) fun v27=>
loopF [.v,tI] (F_huff_Limit_l2 Q v6 σ8 v20 v27) v6 0 (σ26.bump 5))
def F_huff_Limit_l1 (a0:Int) (a1:AV) (Q:AV->Mem->Prop) (v4:Int) (next5:AV->Int->Mem->Prop) (v6:AV) (v7:Int) (σ8:Mem):Prop:=
ifB (decide (v7<v4)) (
idxW 1 a1 v7 fun v9=>
ldI (σ8.bump 6) v9 fun v10=>
joinF [.v] (fun (k14:AV->Mem->Prop)=>
ifB (decide (0<v10)) (
cellOkW (.agg [.int .i64 v10,.int .i64 v7,.nils]) 3 (
newW (σ8.bump 15) (σ8.next+12) (.rw [.int .i64 v10,.int .i64 v7,.nils]) fun σ15=>
apW 3 40 (σ8.next+13) σ15 v6 (.slice (σ8.next+12) 0 1 (.ex 1)) fun v16 σ17=>
k14 v16 σ17)) (
k14 v6 (σ8.bump 8))) (F_huff_Limit_j1 next5 v7)) (
slenW v6 fun v18=>
shlW .i64 1 a0 fun v19=>
ifB (decide (v19<v18)) (
Q (.tup [.nils,.int .i64 1]) (σ8.bump 8)) (
slenW a1 fun v20=>
makeW 8 v20 v20 (
newW (σ8.bump 10) (σ8.next+8) (.rw (repl (Int.toNat v20) [.int .i64 0])) fun σ21=>
slenW v6 fun v22=>
joinF [] (fun (k76:Mem->Prop)=>
ifB (decide (v22=1)) (
idxW 3 v6 0 fun v77=>
fldW 1 v77 fun v78=>
ldI (σ21.bump 10) v78 fun v79=>
idxW 1 (.slice (σ8.next+8) 0 (Int.toNat v20) (.ex (Int.toNat v20))) v79 fun v80=>
stW 1 (σ21.bump 10) v80 (.int .i64 1) fun σ81=>
k76 σ81) (
k76 (σ21.bump 3))) (F_huff_Limit_j2 a0 Q v6 σ8 v20))))
def F_huff_Limit (a0:Int) (a1:AV) (σ:Mem) (Q:AV->Mem->Prop):Prop:=
ifB (decide (a0<1)) (
Q (.tup [.nils,.int .i64 1]) (σ.bump 19)) (
ifB (decide (15<a0)) (
Q (.tup [.nils,.int .i64 1]) (σ.bump 19)) (
slenW a1 fun v0=>
ifB (decide (288<v0)) (
Q (.tup [.nils,.int .i64 1]) (σ.bump 19)) (
callW PG n_slices_ContainsFunc___int_int_ [a1,.func 72 []] (σ.bump 17) fun v1 σ2=>
castB v1 fun v3=>
ifB v3 (
Q (.tup [.nils,.int .i64 1]) (σ2.bump 2)) (
slenW a1 fun v4=>
loopF [.v,tI] (F_huff_Limit_l1 a0 a1 Q v4) .nils 0 (σ2.bump 4)))))
theorem ok_huff_Limit {a0 a1 σ Q} (h:σ.Live->F_huff_Limit a0 a1 σ Q):ACalls PG n_huff_Limit [.int .i64 a0,a1] σ Q:=
 .of_sem [none,none,none,none,none,none,none,some ([0,1,28,29],[6,30]),none,none,none,none,none,some ([0,1,28,29,30],[6]),none,none,none,none,none,none,none,some ([0,6,9],[]),none,none,none,none,none,none,none,none,some ([6,9,69],[10,70]),none,none,none,none,none,none,none,none,none,some ([],[]),some ([],[]),none,none,none,none,none] [(26,.b),(30,tI),(34,tI),(59,tI),(70,tI),(84,tI),(88,tI)] mixed (by kernel_rfl) (by kernel_rfl) h
/-! vitrine/vitrineref02.Limit -/
def F_ref02_Limit_j1 (next1:Int->Int->Mem->Prop) (v3:Int) (v12:Int) (σ13:Mem):Prop:=
iW (v3+1) fun v14=>
next1 v12 v14 (σ13.bump 3)
def F_ref02_Limit_j2 (next20:AV->Int->Mem->Prop) (v22:Int) (v25:AV) (σ26:Mem):Prop:=
iW (v22+1) fun v27=>
next20 v25 v27 (σ26.bump 3)
def F_ref02_Limit_j3 (Q:AV->Mem->Prop) (v2:Int) (σ4:Mem) (v18:Int) (v21:AV) (v22:Int) (σ23:Mem) (k28:AV->Mem->Prop) (v41:Int) (σ42:Mem):Prop:=
slcW 3 v21 none (some v41) fun v43=>
apW 3 40 (σ42.next+5) (σ42.bump 7) .nils v43 fun v44 σ45=>
ldnW 3 (σ45.bump 5) (.ptr (σ23.next+17) 0) fun v46=>
cellOkW v46 3 (
newW (σ45.bump 5) (σ45.next+2) (.rw (setAt [.int .i64 0,.bool false,.nils] 0 v46.cells)) fun σ47=>
apW 3 40 (σ45.next+3) σ47 v44 (.slice (σ45.next+2) 0 1 (.ex 1)) fun v48 σ49=>
slcW 3 v21 (some v41) none fun v50=>
apW 3 40 (σ49.next+4) (σ49.bump 6) v48 v50 fun v51 σ52=>
ifB (decide (v2=1)) (
idxW 1 (.slice (σ4.next+10) 0 (Int.toNat v18) (.ex (Int.toNat v18))) v22 fun v53=>
stW 1 (σ52.bump 6) v53 (.int .i64 1) fun σ54=>
Q (.tup [.slice (σ4.next+10) 0 (Int.toNat v18) (.ex (Int.toNat v18)),.int .i64 0]) (σ54.bump 3)) (
k28 v51 (σ52.bump 2)))
def F_ref02_Limit_l3 (v21:AV) (σ23:Mem) (k55:Int->Mem->Prop) (next56:Int->Mem->Prop) (v57:Int) (σ58:Mem):Prop:=
slenW v21 fun v59=>
ifB (decide (v57<v59)) (
idxW 3 v21 v57 fun v60=>
fldW 0 v60 fun v61=>
ldI (σ58.bump 14) v61 fun v62=>
fldW 0 (.ptr (σ23.next+17) 0) fun v63=>
ldI (σ58.bump 14) v63 fun v64=>
ifB (decide (v62<=v64)) (
iW (v57+1) fun v65=>
next56 v65 (σ58.bump 17)) (
k55 v57 (σ58.bump 14))) (
k55 v57 (σ58.bump 14))
def F_ref02_Limit_l6 (a1:AV) (v67:AV) (next70:AV->Int->Mem->Prop) (v71:AV) (v72:Int) (σ73:Mem) (next88:Int->Mem->Prop) (v89:Int) (σ90:Mem):Prop:=
slenW a1 fun v91=>
ifB (decide (v89<v91)) (
fldW 2 (.ptr (σ73.next+21) 0) fun v92=>
ldW (σ90.bump 27) v92 fun v93=>
idxW 3 v67 v72 fun v94=>
fldW 2 v94 fun v95=>
ldW (σ90.bump 27) v95 fun v96=>
idxW 1 v96 v89 fun v97=>
ldI (σ90.bump 27) v97 fun v98=>
iW (v72+1) fun v99=>
idxW 3 v67 v99 fun v100=>
fldW 2 v100 fun v101=>
ldW (σ90.bump 27) v101 fun v102=>
idxW 1 v102 v89 fun v103=>
ldI (σ90.bump 27) v103 fun v104=>
iW (v98+v104) fun v105=>
idxW 1 v93 v89 fun v106=>
stW 1 (σ90.bump 27) v106 (.int .i64 v105) fun σ107=>
iW (v89+1) fun v108=>
next88 v108 (σ107.bump 3)) (
ldnW 3 (σ90.bump 9) (.ptr (σ73.next+21) 0) fun v109=>
cellOkW v109 3 (
newW (σ90.bump 9) (σ90.next+6) (.rw (setAt [.int .i64 0,.bool false,.nils] 0 v109.cells)) fun σ110=>
apW 3 40 (σ90.next+7) σ110 v71 (.slice (σ90.next+6) 0 1 (.ex 1)) fun v111 σ112=>
iW (v72+2) fun v113=>
next70 v111 v113 (σ112.bump 3)))
def F_ref02_Limit_l5 (a1:AV) (v21:AV) (next66:AV->Int->Mem->Prop) (v67:AV) (v68:Int) (next70:AV->Int->Mem->Prop) (v71:AV) (v72:Int) (σ73:Mem):Prop:=
iW (v72+1) fun v74=>
slenW v67 fun v75=>
ifB (decide (v74<v75)) (
idxW 3 v67 v72 fun v76=>
fldW 0 v76 fun v77=>
ldI (σ73.bump 23) v77 fun v78=>
iW (v72+1) fun v79=>
idxW 3 v67 v79 fun v80=>
fldW 0 v80 fun v81=>
ldI (σ73.bump 23) v81 fun v82=>
iW (v78+v82) fun v83=>
slenW a1 fun v84=>
makeW 8 v84 v84 (
newW (σ73.bump 23) (σ73.next+19) (.rw (repl (Int.toNat v84) [.int .i64 0])) fun σ85=>
newW σ85 (σ73.next+21) (.rw [.int .i64 0,.bool false,.nils]) fun σ86=>
stW 3 σ86 (.ptr (σ73.next+21) 0) (.agg [.int .i64 v83,.bool false,.slice (σ73.next+19) 0 (Int.toNat v84) (.ex (Int.toNat v84))]) fun σ87=>
loopF [tI] (F_ref02_Limit_l6 a1 v67 next70 v71 v72 σ73) 0 (σ87.bump 1))) (
callW PG n_ref02_row [v21,v71] (σ73.bump 9) fun v114 σ115=>
iW (v68+1) fun v116=>
next66 v114 v116 (σ115.bump 3))
def F_ref02_Limit_l8 (a1:AV) (σ4:Mem) (v18:Int) (v67:AV) (next117:Int->Mem->Prop) (v118:Int) (next122:Int->Mem->Prop) (v123:Int) (σ124:Mem):Prop:=
slenW a1 fun v125=>
ifB (decide (v123<v125)) (
idxW 1 (.slice (σ4.next+10) 0 (Int.toNat v18) (.ex (Int.toNat v18))) v123 fun v126=>
ldI (σ124.bump 21) v126 fun v127=>
idxW 3 v67 v118 fun v128=>
fldW 2 v128 fun v129=>
ldW (σ124.bump 21) v129 fun v130=>
idxW 1 v130 v123 fun v131=>
ldI (σ124.bump 21) v131 fun v132=>
iW (v127+v132) fun v133=>
idxW 1 (.slice (σ4.next+10) 0 (Int.toNat v18) (.ex (Int.toNat v18))) v123 fun v134=>
stW 1 (σ124.bump 21) v134 (.int .i64 v133) fun σ135=>
iW (v123+1) fun v136=>
next122 v136 (σ135.bump 3)) (
iW (v118+1) fun v137=>
next117 v137 (σ124.bump 7))
def F_ref02_Limit_l7 (a1:AV) (Q:AV->Mem->Prop) (v2:Int) (σ4:Mem) (v18:Int) (v67:AV) (next117:Int->Mem->Prop) (v118:Int) (σ119:Mem):Prop:=
iW (2*v2) fun v120=>
iW (v120-2) fun v121=>
ifB (decide (v118<v121)) (
loopF [tI] (F_ref02_Limit_l8 a1 σ4 v18 v67 next117 v118) 0 (σ119.bump 6)) (
Q (.tup [.slice (σ4.next+10) 0 (Int.toNat v18) (.ex (Int.toNat v18)),.int .i64 0]) (σ119.bump 8))
def F_ref02_Limit_l4 (a0:Int) (a1:AV) (Q:AV->Mem->Prop) (v2:Int) (σ4:Mem) (v18:Int) (v21:AV) (next66:AV->Int->Mem->Prop) (v67:AV) (v68:Int) (σ69:Mem):Prop:=
ifB (decide (v68<a0)) (
loopF [.v,tI] (F_ref02_Limit_l5 a1 v21 next66 v67 v68) .nils 0 (σ69.bump 5)) (
loopF [tI] (F_ref02_Limit_l7 a1 Q v2 σ4 v18 v67) 0 (σ69.bump 4))
def F_ref02_Limit_l2 (a0:Int) (a1:AV) (Q:AV->Mem->Prop) (v2:Int) (σ4:Mem) (v18:Int) (next20:AV->Int->Mem->Prop) (v21:AV) (v22:Int) (σ23:Mem):Prop:=
slenW a1 fun v24=>
ifB (decide (v22<v24)) (
joinF [.v] (fun (k28:AV->Mem->Prop)=>
idxW 1 a1 v22 fun v29=>
ldI (σ23.bump 9) v29 fun v30=>
ifB (decide (v30=0)) (
k28 v21 (σ23.bump 9)) (
idxW 1 a1 v22 fun v31=>
ldI (σ23.bump 19) v31 fun v32=>
slenW a1 fun v33=>
makeW 8 v33 v33 (
newW (σ23.bump 19) (σ23.next+15) (.rw (repl (Int.toNat v33) [.int .i64 0])) fun σ34=>
newW σ34 (σ23.next+17) (.rw [.int .i64 0,.bool false,.nils]) fun σ35=>
stW 3 σ35 (.ptr (σ23.next+17) 0) (.agg [.int .i64 v32,.bool true,.slice (σ23.next+15) 0 (Int.toNat v33) (.ex (Int.toNat v33))]) fun σ36=>
fldW 2 (.ptr (σ23.next+17) 0) fun v37=>
ldW (σ36.bump 5) v37 fun v38=>
idxW 1 v38 v22 fun v39=>
stW 1 (σ36.bump 5) v39 (.int .i64 1) fun σ40=>
joinF [tI] (fun (k55:Int->Mem->Prop)=>
loopF [tI] (F_ref02_Limit_l3 v21 σ23 k55) 0 (σ40.bump 1)) (F_ref02_Limit_j3 Q v2 σ4 v18 v21 v22 σ23 k28)))) (F_ref02_Limit_j2 next20 v22)) (
loopF [.v,tI] (F_ref02_Limit_l4 a0 a1 Q v2 σ4 v18 v21) v21 1 (σ23.bump 7))
def F_ref02_Limit_l1 (a0:Int) (a1:AV) (Q:AV->Mem->Prop) (next1:Int->Int->Mem->Prop) (v2:Int) (v3:Int) (σ4:Mem):Prop:=
slenW a1 fun v5=>
ifB (decide (v3<v5)) (
idxW 1 a1 v3 fun v6=>
ldI (σ4.bump 16) v6 fun v7=>
ifB (decide (v7<0)) (
Q (.tup [.nils,.int .i64 1]) (σ4.bump 18)) (
idxW 1 a1 v3 fun v8=>
ldI (σ4.bump 16) v8 fun v9=>
ifB (decide (1000000000<v9)) (
Q (.tup [.nils,.int .i64 1]) (σ4.bump 18)) (
idxW 1 a1 v3 fun v10=>
ldI (σ4.bump 21) v10 fun v11=>
joinF [tI] (fun (k15:Int->Mem->Prop)=>
ifB (decide (0<v11)) (
iW (v2+1) fun v16=>
k15 v16 (σ4.bump 24)) (
k15 v2 (σ4.bump 21))) (F_ref02_Limit_j1 next1 v3)))) (
shlW .i64 1 a0 fun v17=>
ifB (decide (v17<v2)) (
Q (.tup [.nils,.int .i64 1]) (σ4.bump 10)) (
slenW a1 fun v18=>
makeW 8 v18 v18 (
newW (σ4.bump 12) (σ4.next+10) (.rw (repl (Int.toNat v18) [.int .i64 0])) fun σ19=>
loopF [.v,tI] (F_ref02_Limit_l2 a0 a1 Q v2 σ4 v18) .nils 0 (σ19.bump 2))))
def F_ref02_Limit (a0:Int) (a1:AV) (σ:Mem) (Q:AV->Mem->Prop):Prop:=
slenW a1 fun v0=>
ifB (decide (288<v0)) (
Q (.tup [.nils,.int .i64 1]) (σ.bump 15)) (
ifB (decide (a0<1)) (
Q (.tup [.nils,.int .i64 1]) (σ.bump 15)) (
ifB (decide (15<a0)) (
Q (.tup [.nils,.int .i64 1]) (σ.bump 15)) (
loopF [tI,tI] (F_ref02_Limit_l1 a0 a1 Q) 0 0 (σ.bump 15))))
theorem ok_ref02_Limit {a0 a1 σ Q} (h:σ.Live->F_ref02_Limit a0 a1 σ Q):ACalls PG n_ref02_Limit [.int .i64 a0,a1] σ Q:=
 .of_sem [none,none,none,none,none,none,none,some ([0,1],[6,7]),none,none,none,none,none,none,none,some ([0,1,7],[6]),none,none,none,none,none,none,none,none,none,some ([0,1,6,8],[9,10]),none,none,some ([0,1,6,8,10],[9]),none,none,none,none,none,some ([0,1,6,8,9,10,11],[12]),some ([0,1,6,8,9,10,11],[12]),none,none,none,none,none,none,none,none,none,none,none,none,none,none,none,none,some ([0,1,6,8,9],[14,15]),none,none,none,none,none,none,some ([0,1,6,8,9,14,15],[16,17]),none,none,none,none,none,none,some ([0,1,6,8,9,14,15,16,17,18],[19]),none,none,none,none,none,none,none,none,none,none,none,some ([1,6,8,14],[20]),none,none,none,none,none,some ([1,6,8,14,20],[21]),none,none,none,none,none,none,none] [(6,tI),(7,tI),(42,tI),(48,tI),(54,tI),(10,tI),(74,tI),(79,tI),(12,tI),(97,tI),(99,tI),(15,tI),(17,tI),(141,tI),(147,tI),(19,tI),(169,tI),(178,tI),(20,tI),(21,tI),(206,tI),(214,tI)] mixed (by kernel_rfl) (by kernel_rfl) h
/-! slices.SortStableFunc[[]vitrine/huff.item,vitrine/huff.item] -/
def F_slices_SortStableFunc___huff_item_huff_item_ (a0:AV) (a1:AV) (σ:Mem) (Q:AV->Mem->Prop):Prop:=
slenW a0 fun v0=>
callW PG n_slices_stableCmpFunc_huff_item_ [a0,.int .i64 v0,a1] (σ.bump 5) fun v1 σ2=>
Q (.tup []) σ2
theorem ok_slices_SortStableFunc___huff_item_huff_item_ {a0 a1 σ Q} (h:σ.Live->F_slices_SortStableFunc___huff_item_huff_item_ a0 a1 σ Q):ACalls PG n_slices_SortStableFunc___huff_item_huff_item_ [a0,a1] σ Q:=
 .of_sem [none] [] mixed (by kernel_rfl) (by kernel_rfl) h
/-! vitrine/huff.byCount -/
def F_huff_byCount (a0:AV) (a1:AV) (σ:Mem) (Q:AV->Mem->Prop):Prop:=
boxW a0 (
newW (σ.bump 3) σ.next (.rw a0.cells) fun σ0=>
boxW a1 (
newW σ0 (σ.next+1) (.rw a1.cells) fun σ1=>
fldW 0 (.ptr σ.next 0) fun v2=>
ldI (σ1.bump 6) v2 fun v3=>
fldW 0 (.ptr (σ.next+1) 0) fun v4=>
ldI (σ1.bump 6) v4 fun v5=>
callW PG n_cmp_Compare_int_ [.int .i64 v3,.int .i64 v5] (σ1.bump 6) fun v6 σ7=>
castI .i64 v6 fun v8=>
Q (.int .i64 v8) σ7))
theorem ok_huff_byCount {a0 a1 σ Q} (h:σ.Live->F_huff_byCount a0 a1 σ Q):ACalls PG n_huff_byCount [a0,a1] σ Q:=
 .of_sem [none,none] [(6,tI),(8,tI),(9,tI)] mixed (by kernel_rfl) (by kernel_rfl) h
/-! slices.Clone[[]vitrine/huff.item,vitrine/huff.item] -/
def F_slices_Clone___huff_item_huff_item_ (a0:AV) (σ:Mem) (Q:AV->Mem->Prop):Prop:=
eqW .sl a0 .nils fun v0=>
ifB v0 (
Q .nils (σ.bump 4)) (
newW (σ.bump 7) (σ.next+3) (.rw []) fun σ1=>
apW 3 40 (σ.next+5) σ1 (.slice (σ.next+3) 0 0 (.ex 0)) a0 fun v2 σ3=>
Q v2 σ3)
theorem ok_slices_Clone___huff_item_huff_item_ {a0 σ Q} (h:σ.Live->F_slices_Clone___huff_item_huff_item_ a0 σ Q):ACalls PG n_slices_Clone___huff_item_huff_item_ [a0] σ Q:=
 .of_sem [none,none,none,none,none] [] mixed (by kernel_rfl) (by kernel_rfl) h
/-! slices.Chunk[[]vitrine/huff.item,vitrine/huff.item] -/
def F_slices_Chunk___huff_item_huff_item__j1 (Q:AV->Mem->Prop) (σ:Mem) (σ3:Mem):Prop:=
Q (.func n_slices_Chunk___huff_item_huff_item__1 [.ptr σ.next 0,.ptr (σ.next+1) 0]) (σ3.bump 2)
def F_slices_Chunk___huff_item_huff_item_ (a0:AV) (a1:Int) (σ:Mem) (Q:AV->Mem->Prop):Prop:=
boxW a0 (
newW (σ.bump 3) σ.next (.rw a0.cells) fun σ0=>
newW σ0 (σ.next+1) (.rw [.int .i64 a1]) fun σ1=>
ldI (σ1.bump 2) (.ptr (σ.next+1) 0) fun v2=>
joinF [] (fun (k4:Mem->Prop)=>
ifB (decide (v2<1)) (
False) (
k4 (σ1.bump 2))) (F_slices_Chunk___huff_item_huff_item__j1 Q σ))
theorem ok_slices_Chunk___huff_item_huff_item_ {a0 a1 σ Q} (h:σ.Live->F_slices_Chunk___huff_item_huff_item_ a0 a1 σ Q):ACalls PG n_slices_Chunk___huff_item_huff_item_ [a0,.int .i64 a1] σ Q:=
 .of_sem [none,none,some ([2,3],[]),none,none] [(5,tI)] mixed (by kernel_rfl) (by kernel_rfl) h
/-! vitrine/huff.spend -/
def F_huff_spend_j1 (next1:Int->Mem->Prop) (v2:Int) (σ11:Mem):Prop:=
iW (v2+1) fun v12=>
next1 v12 (σ11.bump 2)
def F_huff_spend_l1 (a0:AV) (a1:AV) (Q:AV->Mem->Prop) (v0:Int) (next1:Int->Mem->Prop) (v2:Int) (σ3:Mem):Prop:=
ifB (decide (v2<v0)) (
idxW 3 a1 v2 fun v4=>
ldnW 3 (σ3.bump 5) v4 fun v5=>
newW (σ3.bump 5) (σ3.next+3) (.rw [.int .i64 0,.int .i64 0,.nils]) fun σ6=>
stW 3 σ6 (.ptr (σ3.next+3) 0) v5 fun σ7=>
fldW 2 (.ptr (σ3.next+3) 0) fun v8=>
ldW (σ7.bump 3) v8 fun v9=>
eqW .sl v9 .nils fun v10=>
joinF [] (fun (k13:Mem->Prop)=>
ifB v10 (
fldW 1 (.ptr (σ3.next+3) 0) fun v14=>
ldI (σ7.bump 11) v14 fun v15=>
idxW 1 a0 v15 fun v16=>
ldI (σ7.bump 11) v16 fun v17=>
iW (v17+1) fun v18=>
idxW 1 a0 v15 fun v19=>
stW 1 (σ7.bump 11) v19 (.int .i64 v18) fun σ20=>
k13 σ20) (
fldW 2 (.ptr (σ3.next+3) 0) fun v21=>
ldW (σ7.bump 7) v21 fun v22=>
callW PG n_huff_spend [a0,v22] (σ7.bump 7) fun v23 σ24=>
k13 σ24)) (F_huff_spend_j1 next1 v2)) (
Q (.tup []) (σ3.bump 1))
def F_huff_spend (a0:AV) (a1:AV) (σ:Mem) (Q:AV->Mem->Prop):Prop:=
slenW a1 fun v0=>
loopF [tI] (F_huff_spend_l1 a0 a1 Q v0) 0 (σ.bump 3)
theorem ok_huff_spend {a0 a1 σ Q} (h:σ.Live->F_huff_spend a0 a1 σ Q):ACalls PG n_huff_spend [a0,a1] σ Q:=
 .of_sem [none,none,some ([0,6,7],[8]),none,none,none,none,none,some ([0,6,7,8],[]),none,none,none] [(8,tI),(17,tI),(19,tI)] mixed (by kernel_rfl) (by kernel_rfl) h
/-! slices.Chunk[[]vitrine/huff.item,vitrine/huff.item]$1 -/
def F_slices_Chunk___huff_item_huff_item__1_l1 (Y:YEnv) (a0:AV) (a1:AV) (a2:AV) (Q:AV->Mem->Prop) (next0:Int->Mem->Prop) (v1:Int) (σ2:Mem):Prop:=
ldW (σ2.bump 4) a1 fun v3=>
slenW v3 fun v4=>
ifB (decide (v1<v4)) (
ldI (σ2.bump 11) a2 fun v5=>
ldW (σ2.bump 11) a1 fun v6=>
slcW 3 v6 (some v1) none fun v7=>
slenW v7 fun v8=>
letW (imin v5 v8) fun v9=>
ldW (σ2.bump 23) a1 fun v10=>
iW (v1+v9) fun v11=>
iW (v1+v9) fun v12=>
slc3W 3 v10 (some v1) v11 v12 fun v13=>
callvY PG Y a0 [v13] (σ2.bump 23) fun v14 σ15=>
castB v14 fun v16=>
ifB (!v16) (
Q (.tup []) σ15) (
ldI (σ15.bump 4) a2 fun v17=>
iW (v1+v17) fun v18=>
next0 v18 (σ15.bump 4))) (
Q (.tup []) (σ2.bump 4))
def F_slices_Chunk___huff_item_huff_item__1 (Y:YEnv) (a0:AV) (a1:AV) (a2:AV) (σ:Mem) (Q:AV->Mem->Prop):Prop:=
loopF [tI] (F_slices_Chunk___huff_item_huff_item__1_l1 Y a0 a1 a2 Q) 0 (σ.bump 1)
theorem ok_slices_Chunk___huff_item_huff_item__1 {Y:YEnv} {a0 a1 a2 σ Q} (h:σ.Live->F_slices_Chunk___huff_item_huff_item__1 Y a0 a1 a2 σ Q):ACallsY PG Y n_slices_Chunk___huff_item_huff_item__1 [a0,a1,a2] σ Q:=
 .of_sem [none,none,some ([0,1,2],[4]),none,none,none,none,none,none,none] [(4,tI),(13,tI),(29,.b),(11,tI)] mixed (by kernel_rfl) (by kernel_rfl) h
end Go.Vit
