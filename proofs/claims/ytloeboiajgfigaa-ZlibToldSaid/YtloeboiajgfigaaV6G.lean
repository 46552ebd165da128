import Derived.Test.YtloeboiajgfigaaV6L
set_option linter.unusedVariables false
set_option linter.unusedSimpArgs false
set_option linter.unusedVariables false
set_option maxRecDepth 100000
namespace Go.Vit
open Go.Proofs
/-! vitrine/deflate.Dynamic -/
def F_deflate_Dynamic_j1 (next79:Int->Mem->Prop) (v80:Int) (σ93:Mem):Prop:=
iW (v80+1) fun v94=>
next79 v94 (σ93.bump 2)
def F_deflate_Dynamic_l4 (Q:AV->Mem->Prop) (v0:AV) (v4:AV) (v5:AV) (v9:AV) (v49:AV) (v76:AV) (v78:Int) (next79:Int->Mem->Prop) (v80:Int) (σ81:Mem):Prop:=
ifB (decide (v80<v78)) (
idxW 2 v9 v80 fun v82=>
ldnW 2 (σ81.bump 5) v82 fun v83=>
newW (σ81.bump 5) (σ81.next+3) (.rw [.int .i64 0,.int .i64 0]) fun σ84=>
stW 2 σ84 (.ptr (σ81.next+3) 0) v83 fun σ85=>
fldW 0 (.ptr (σ81.next+3) 0) fun v86=>
ldI (σ85.bump 5) v86 fun v87=>
callW PG n_huff_Table_Lay [v76,v49,.int .i64 v87] (σ85.bump 5) fun v88 σ89=>
castI .i64 v88 fun v90=>
fldW 0 (.ptr (σ81.next+3) 0) fun v91=>
ldI (σ89.bump 3) v91 fun v92=>
joinF [] (fun (k95:Mem->Prop)=>
ifB (decide (15<v92)) (
fldW 1 (.ptr (σ81.next+3) 0) fun v96=>
ldI (σ89.bump 12) v96 fun v97=>
fldW 0 (.ptr (σ81.next+3) 0) fun v98=>
ldI (σ89.bump 12) v98 fun v99=>
iW (v99-16) fun v100=>
aidxW 3 1 none (.agg [.int .i64 2,.int .i64 3,.int .i64 7]) v100 fun a=>castI .i64 a fun v101=>
callW PG n_bits_Writer_Bits [v49,.int .i64 v97,.int .i64 v101] (σ89.bump 12) fun v102 σ103=>
k95 σ103) (
k95 (σ89.bump 3))) (F_deflate_Dynamic_j1 next79 v80)) (
callW PG n_huff_Make [v4] (σ81.bump 8) fun v104 σ105=>
tupW v104 0 fun v106=>
tpI v104 1 fun v107=>
callW PG n_huff_Make [v5] (σ105.bump 7) fun v108 σ109=>
tupW v108 0 fun v110=>
tpI v108 1 fun v111=>
callW PG n_deflate_symbols [v49,v0,v106,v110] (σ109.bump 5) fun v112 σ113=>
callW PG n_bits_Writer_Text [v49] (σ113.bump 3) fun v114 σ115=>
castS v114 fun v116=>
Q (.str v116) σ115)
def F_deflate_Dynamic_l3 (Q:AV->Mem->Prop) (v0:AV) (v4:AV) (v5:AV) (v9:AV) (v31:AV) (v47:AV) (v49:AV) (v65:Int) (next66:Int->Mem->Prop) (v67:Int) (σ68:Mem):Prop:=
ifB (decide (v67<v65)) (
idxW 1 v47 v67 fun v69=>
ldI (σ68.bump 4) v69 fun v70=>
callW PG n_bits_Writer_Bits [v49,.int .i64 v70,.int .i64 3] (σ68.bump 7) fun v71 σ72=>
iW (v67+1) fun v73=>
next66 v73 (σ72.bump 2)) (
callW PG n_huff_Make [v31] (σ68.bump 8) fun v74 σ75=>
tupW v74 0 fun v76=>
tpI v74 1 fun v77=>
slenW v9 fun v78=>
loopF [tI] (F_deflate_Dynamic_l4 Q v0 v4 v5 v9 v49 v76 v78) 0 (σ75.bump 3))
def F_deflate_Dynamic_l2 (Q:AV->Mem->Prop) (v0:AV) (v4:AV) (v5:AV) (v9:AV) (σ30:Mem) (v31:AV) (v34:Int) (next35:AV->Int->Mem->Prop) (v36:AV) (v37:Int) (σ38:Mem):Prop:=
ifB (decide (v37<v34)) (
idxW 1 (.slice (σ30.next+1) 0 19 (.ex 19)) v37 fun v39=>
ldI (σ38.bump 4) v39 fun v40=>
idxW 1 v31 v40 fun v41=>
ldI (σ38.bump 12) v41 fun v42=>
newW (σ38.bump 12) (σ38.next+9) (.rw [.int .i64 v42]) fun σ43=>
apW 1 8 (σ38.next+10) σ43 v36 (.slice (σ38.next+9) 0 1 (.ex 1)) fun v44 σ45=>
iW (v37+1) fun v46=>
next35 v44 v46 (σ45.bump 2)) (
callW PG n_deflate_told [v36,.int .i64 4] (σ38.bump 4) fun v47 σ48=>
callW PG n_bits_New [] (σ48.bump 2) fun v49 σ50=>
callW PG n_bits_Writer_Bits [v49,.int .i64 5,.int .i64 3] (σ50.bump 2) fun v51 σ52=>
slenW v4 fun v53=>
iW (v53-257) fun v54=>
callW PG n_bits_Writer_Bits [v49,.int .i64 v54,.int .i64 5] (σ52.bump 5) fun v55 σ56=>
slenW v5 fun v57=>
iW (v57-1) fun v58=>
callW PG n_bits_Writer_Bits [v49,.int .i64 v58,.int .i64 5] (σ56.bump 5) fun v59 σ60=>
slenW v47 fun v61=>
iW (v61-4) fun v62=>
callW PG n_bits_Writer_Bits [v49,.int .i64 v62,.int .i64 4] (σ60.bump 5) fun v63 σ64=>
slenW v47 fun v65=>
loopF [tI] (F_deflate_Dynamic_l3 Q v0 v4 v5 v9 v31 v47 v49 v65) 0 (σ64.bump 3))
def F_deflate_Dynamic_l1 (Q:AV->Mem->Prop) (v0:AV) (v4:AV) (v5:AV) (v9:AV) (σ10:Mem) (v12:Int) (next13:Int->Mem->Prop) (v14:Int) (σ15:Mem):Prop:=
ifB (decide (v14<v12)) (
idxW 2 v9 v14 fun v16=>
ldnW 2 (σ15.bump 5) v16 fun v17=>
newW (σ15.bump 5) (σ15.next+3) (.rw [.int .i64 0,.int .i64 0]) fun σ18=>
stW 2 σ18 (.ptr (σ15.next+3) 0) v17 fun σ19=>
fldW 0 (.ptr (σ15.next+3) 0) fun v20=>
ldI (σ19.bump 7) v20 fun v21=>
idxAW 19 1 (.ptr σ10.next 0) v21 fun v22=>
ldI (σ19.bump 7) v22 fun v23=>
iW (v23+1) fun v24=>
idxAW 19 1 (.ptr σ10.next 0) v21 fun v25=>
stW 1 (σ19.bump 7) v25 (.int .i64 v24) fun σ26=>
iW (v14+1) fun v27=>
next13 v27 (σ26.bump 2)) (
slaW 19 1 (.ptr σ10.next 0) none none fun v28=>
callW PG n_huff_Limit [.int .i64 7,v28] (σ15.bump 8) fun v29 σ30=>
tupW v29 0 fun v31=>
tpI v29 1 fun v32=>
newW (σ30.bump 4) (σ30.next+1) (.rw [.int .i64 16,.int .i64 17,.int .i64 18,.int .i64 0,.int .i64 8,.int .i64 7,.int .i64 9,.int .i64 6,.int .i64 10,.int .i64 5,.int .i64 11,.int .i64 4,.int .i64 12,.int .i64 3,.int .i64 13,.int .i64 2,.int .i64 14,.int .i64 1,.int .i64 15]) fun σ33=>
slenW (.slice (σ30.next+1) 0 19 (.ex 19)) fun v34=>
loopF [.v,tI] (F_deflate_Dynamic_l2 Q v0 v4 v5 v9 σ30 v31 v34) .nils 0 σ33)
def F_deflate_Dynamic (a0:ByteArray) (σ:Mem) (Q:AV->Mem->Prop):Prop:=
callW PG n_lz_Tokens [.str a0] (σ.bump 4) fun v0 σ1=>
callW PG n_deflate_lengths [v0] (σ1.bump 7) fun v2 σ3=>
tupW v2 0 fun v4=>
tupW v2 1 fun v5=>
cellOkW v4 1 (
cellOkW v5 1 (
newW (σ3.bump 6) (σ3.next+2) (.rw (setAt (setAt [.nils,.nils] 0 v4.cells) 1 v5.cells)) fun σ6=>
callW PG n_slices_Concat___int_int_ [.slice (σ3.next+2) 0 2 (.ex 2)] σ6 fun v7 σ8=>
callW PG n_deflate_Runs [v7] σ8 fun v9 σ10=>
newW (σ10.bump 1) σ10.next (.rw (List.replicate 19 (.int .i64 0))) fun σ11=>
slenW v9 fun v12=>
loopF [tI] (F_deflate_Dynamic_l1 Q v0 v4 v5 v9 σ10 v12) 0 (σ11.bump 3)))
theorem ok_deflate_Dynamic {a0 σ Q} (h:σ.Live->F_deflate_Dynamic a0 σ Q):ACalls PG n_deflate_Dynamic [.str a0] σ Q:=
 .of_sem [none,none,none,none,none,none,none,some ([3,4,5,6,7,38,39],[40]),none,none,none,none,none,none,none,none,none,none,some ([3,4,5,6,10,56,57],[12,58]),none,none,none,none,none,none,none,none,none,none,none,none,none,none,some ([3,4,5,6,10,15,90,91],[92]),none,none,none,none,none,none,none,none,none,some ([3,4,5,15,18,105,106],[107]),none,none,none,none,none,none,some ([3,4,5,15,18,105,106,107],[]),none,none,none,none,none,none] [(40,tI),(45,tI),(47,tI),(55,tI),(58,tI),(61,tI),(66,tI),(92,tI),(95,tI),(104,tI),(107,tI),(114,tI),(115,tI),(117,tI),(121,tI),(124,tI),(126,tI),(133,tI),(138,tI),(145,.s)] mixed (by kernel_rfl) (by kernel_rfl) h
/-! vitrine/deflate.told -/
def F_deflate_told_l1 (a1:Int) (Q:AV->Mem->Prop) (next0:AV->Mem->Prop) (v1:AV) (σ2:Mem):Prop:=
slenW v1 fun v3=>
ifB (decide (a1<v3)) (
slenW v1 fun v4=>
iW (v4-1) fun v5=>
idxW 1 v1 v5 fun v6=>
ldI (σ2.bump 13) v6 fun v7=>
ifB (decide (v7=0)) (
slenW v1 fun v8=>
iW (v8-1) fun v9=>
slcW 1 v1 none (some v9) fun v10=>
next0 v10 (σ2.bump 19)) (
Q v1 (σ2.bump 15))) (
Q v1 (σ2.bump 15))
def F_deflate_told (a0:AV) (a1:Int) (σ:Mem) (Q:AV->Mem->Prop):Prop:=
loopF [.v] (F_deflate_told_l1 a1 Q) a0 (σ.bump 1)
theorem ok_deflate_told {a0 a1 σ Q} (h:σ.Live->F_deflate_told a0 a1 σ Q):ACalls PG n_deflate_told [a0,.int .i64 a1] σ Q:=
 .of_sem [none,none,some ([1],[0]),none,none,none,none,none] [(15,tI)] mixed (by kernel_rfl) (by kernel_rfl) h
/-! slices.Grow[[]int,int] -/
def F_slices_Grow___int_int__j2 (Q:AV->Mem->Prop) (v5:AV) (σ6:Mem):Prop:=
Q v5 (σ6.bump 2)
def F_slices_Grow___int_int__j1 (a0:AV) (a1:Int) (Q:AV->Mem->Prop) (σ0:Mem):Prop:=
capW a0 fun v1=>
slenW a0 fun v2=>
iW (v1-v2) fun v3=>
iW (a1-v3) fun v4=>
joinF [.v] (fun (k7:AV->Mem->Prop)=>
ifB (decide (0<v4)) (
capW a0 fun v8=>
slcW 1 a0 none (some v8) fun v9=>
apzW 1 8 (σ0.next+15) [(.int .i64 0)] (σ0.bump 20) v9 (.int .i64 v4) fun v10 σ11=>
slenW a0 fun v12=>
slcW 1 v10 none (some v12) fun v13=>
k7 v13 σ11) (
k7 a0 (σ0.bump 10))) (F_slices_Grow___int_int__j2 Q)
def F_slices_Grow___int_int_ (a0:AV) (a1:Int) (σ:Mem) (Q:AV->Mem->Prop):Prop:=
joinF [] (fun (k14:Mem->Prop)=>
ifB (decide (a1<0)) (
False) (
k14 (σ.bump 3))) (F_slices_Grow___int_int__j1 a0 a1 Q)
theorem ok_slices_Grow___int_int_ {a0 a1 σ Q} (h:σ.Live->F_slices_Grow___int_int_ a0 a1 σ Q):ACalls PG n_slices_Grow___int_int_ [a0,.int .i64 a1] σ Q:=
 .of_sem [none,none,some ([0,1],[]),none,none,none,some ([],[0]),none,none] [] mixed (by kernel_rfl) (by kernel_rfl) h
end Go.Vit
