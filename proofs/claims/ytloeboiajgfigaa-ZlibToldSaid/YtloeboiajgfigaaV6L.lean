import Derived.Test.YtloeboiajgfigaaV6C
set_option linter.unusedVariables false
set_option linter.unusedSimpArgs false
set_option linter.unusedVariables false
set_option maxRecDepth 100000
namespace Go.Vit
open Go.Proofs
/-! vitrine/huff.Limit -/
def F_huff_Limit_j1 (next5:AV->Int->Mem->Prop) (v7:Int) (v11:AV) (σ12:Mem):Prop:=
iW (v7+1) fun v13=>
next5 v11 v13 (σ12.bump 2)
def F_huff_Limit_j3 (k40:AV->Mem->Prop) (σ43:Mem):Prop:=
k40 (.bool true) σ43
def F_huff_Limit_j4 (k44:Mem->Prop) (σ45:Mem):Prop:=
k44 σ45
def F_huff_Limit_l2 (Q:AV->Mem->Prop) (v6:AV) (σ8:Mem) (v20:Int) (v27:Int) (next28:AV->Int->Mem->Prop) (v29:AV) (v30:Int) (σ31:Mem):Prop:=
ifB (decide (v30<v27)) (
callW PG n_slices_Clone___huff_item_huff_item_ [v6] (σ31.bump 5) fun v32 σ33=>
newW σ33 (σ31.next+3) (.rw [.nils]) fun σ34=>
stW 1 σ34 (.ptr (σ31.next+3) 0) v32 fun σ35=>
callW PG n_slices_Chunk___huff_item_huff_item_ [v29,.int .i64 2] (σ35.bump 2) fun v36 σ37=>
rangeW PG v36 (fun args38 σ39 k40=>
arg1W args38 fun v41=>
slenW v41 fun v42=>
joinF [] (fun (k44:Mem->Prop)=>
ifB (decide (v42=2)) (
joinF [] (fun (k46:Mem->Prop)=>
ldW (σ39.bump 22) (.ptr (σ31.next+3) 0) fun v47=>
idxW 3 v41 0 fun v48=>
fldW 0 v48 fun v49=>
ldI (σ39.bump 22) v49 fun v50=>
idxW 3 v41 1 fun v51=>
fldW 0 v51 fun v52=>
ldI (σ39.bump 22) v52 fun v53=>
iW (v50+v53) fun v54=>
cellOkW v41 1 (
slenW v47 fun v55=>
cellOkW (.agg [.int .i64 0,.int .i64 0,.nils]) 3 (
newW (σ39.bump 22) (σ39.next+17) (.rw [.int .i64 0,.int .i64 0,.nils]) fun σ56=>
apW 3 40 (σ39.next+18) σ56 v47 (.slice (σ39.next+17) 0 1 (.ex 1)) fun v57 σ58=>
idxW 3 v57 v55 fun v59=>
(
stW 3 σ58 v59 (.agg (setAt [.int .i64 v54,.int .i64 0,.nils] 2 v41.cells)) fun σ60=>
stW 1 σ60 (.ptr (σ31.next+3) 0) v57 fun σ61=>
k46 σ61)/\(
stW 1 σ58 (.ptr (σ31.next+3) 0) v57 fun σ62=>
stW 3 σ62 v59 (.agg (setAt [.int .i64 v54,.int .i64 0,.nils] 2 v41.cells)) fun σ63=>
k46 σ63)))) (F_huff_Limit_j4 k44)) (
k44 (σ39.bump 4))) (F_huff_Limit_j3 k40)) σ37 fun σ64=>
ldW (σ64.bump 2) (.ptr (σ31.next+3) 0) fun v65=>
callW PG n_slices_SortStableFunc___huff_item_huff_item_ [v65,.func 62 []] (σ64.bump 2) fun v66 σ67=>
ldW (σ67.bump 2) (.ptr (σ31.next+3) 0) fun v68=>
iW (v30+1) fun v69=>
next28 v68 v69 (σ67.bump 4)) (
slenW v6 fun v70=>
iW (2*v70) fun v71=>
iW (v71-2) fun v72=>
slcW 3 v29 none (some v72) fun v73=>
callW PG n_huff_spend [.slice (σ8.next+8) 0 (Int.toNat v20) (.ex (Int.toNat v20)),v73] (σ31.bump 9) fun v74 σ75=>
Q (.tup [.slice (σ8.next+8) 0 (Int.toNat v20) (.ex (Int.toNat v20)),.int .i64 0]) (σ75.bump 3))
def F_huff_Limit_j2 (a0:Int) (Q:AV->Mem->Prop) (v6:AV) (σ8:Mem) (v20:Int) (σ23:Mem):Prop:=
slenW v6 fun v24=>
ifB (decide (v24<2)) (
Q (.tup [.slice (σ8.next+8) 0 (Int.toNat v20) (.ex (Int.toNat v20)),.int .i64 0]) (σ23.bump 6)) (
callW PG n_slices_SortStableFunc___huff_item_huff_item_ [v6,.func 62 []] (σ23.bump 5) fun v25 σ26=>
iW (a0-1) fun v27=>
loopF [.v,tI] (F_huff_Limit_l2 Q v6 σ8 v20 v27) v6 0 (σ26.bump 5))
def F_huff_Limit_l1 (a0:Int) (a1:AV) (Q:AV->Mem->Prop) (v4:Int) (next5:AV->Int->Mem->Prop) (v6:AV) (v7:Int) (σ8:Mem):Prop:=
ifB (decide (v7<v4)) (
idxW 1 a1 v7 fun v9=>
ldI (σ8.bump 6) v9 fun v10=>
joinF [.v] (fun (k14:AV->Mem->Prop)=>
ifB (decide (0<v10)) (
cellOkW (.agg [.int .i64 v10,.int .i64 v7,.nils]) 3 (
newW (σ8.bump 15) (σ8.next+12) (.rw [.int .i64 v10,.int .i64 v7,.nils]) fun σ15=>
apW 3 40 (σ8.next+13) σ15 v6 (.slice (σ8.next+12) 0 1 (.ex 1)) fun v16 σ17=>
k14 v16 σ17)) (
k14 v6 (σ8.bump 8))) (F_huff_Limit_j1 next5 v7)) (
slenW v6 fun v18=>
shlW .i64 1 a0 fun v19=>
ifB (decide (v19<v18)) (
Q (.tup [.nils,.int .i64 1]) (σ8.bump 8)) (
slenW a1 fun v20=>
makeW 8 v20 v20 (
newW (σ8.bump 10) (σ8.next+8) (.rw (repl (Int.toNat v20) [.int .i64 0])) fun σ21=>
slenW v6 fun v22=>
joinF [] (fun (k76:Mem->Prop)=>
ifB (decide (v22=1)) (
idxW 3 v6 0 fun v77=>
fldW 1 v77 fun v78=>
ldI (σ21.bump 10) v78 fun v79=>
idxW 1 (.slice (σ8.next+8) 0 (Int.toNat v20) (.ex (Int.toNat v20))) v79 fun v80=>
stW 1 (σ21.bump 10) v80 (.int .i64 1) fun σ81=>
k76 σ81) (
k76 (σ21.bump 3))) (F_huff_Limit_j2 a0 Q v6 σ8 v20))))
def F_huff_Limit (a0:Int) (a1:AV) (σ:Mem) (Q:AV->Mem->Prop):Prop:=
ifB (decide (a0<1)) (
Q (.tup [.nils,.int .i64 1]) (σ.bump 19)) (
ifB (decide (15<a0)) (
Q (.tup [.nils,.int .i64 1]) (σ.bump 19)) (
slenW a1 fun v0=>
ifB (decide (288<v0)) (
Q (.tup [.nils,.int .i64 1]) (σ.bump 19)) (
callW PG n_slices_ContainsFunc___int_int_ [a1,.func 60 []] (σ.bump 17) fun v1 σ2=>
castB v1 fun v3=>
ifB v3 (
Q (.tup [.nils,.int .i64 1]) (σ2.bump 2)) (
slenW a1 fun v4=>
loopF [.v,tI] (F_huff_Limit_l1 a0 a1 Q v4) .nils 0 (σ2.bump 4)))))
theorem ok_huff_Limit {a0 a1 σ Q} (h:σ.Live->F_huff_Limit a0 a1 σ Q):ACalls PG n_huff_Limit [.int .i64 a0,a1] σ Q:=
 .of_sem [none,none,none,none,none,none,none,some ([0,1,28,29],[6,30]),none,none,none,none,none,some ([0,1,28,29,30],[6]),none,none,none,none,none,none,none,some ([0,6,9],[]),none,none,none,none,none,none,none,none,some ([6,9,69],[10,70]),none,none,none,none,none,none,none,none,none,some ([],[]),some ([],[]),none,none,none,none,none] [(26,.b),(30,tI),(34,tI),(59,tI),(70,tI),(84,tI),(88,tI)] mixed (by kernel_rfl) (by kernel_rfl) h
/-! slices.SortStableFunc[[]vitrine/huff.item,vitrine/huff.item] -/
def F_slices_SortStableFunc___huff_item_huff_item_ (a0:AV) (a1:AV) (σ:Mem) (Q:AV->Mem->Prop):Prop:=
slenW a0 fun v0=>
callW PG n_slices_stableCmpFunc_huff_item_ [a0,.int .i64 v0,a1] (σ.bump 5) fun v1 σ2=>
Q (.tup []) σ2
theorem ok_slices_SortStableFunc___huff_item_huff_item_ {a0 a1 σ Q} (h:σ.Live->F_slices_SortStableFunc___huff_item_huff_item_ a0 a1 σ Q):ACalls PG n_slices_SortStableFunc___huff_item_huff_item_ [a0,a1] σ Q:=
 .of_sem [none] [] mixed (by kernel_rfl) (by kernel_rfl) h
/-! vitrine/huff.byCount -/
def F_huff_byCount (a0:AV) (a1:AV) (σ:Mem) (Q:AV->Mem->Prop):Prop:=
boxW a0 (
newW (σ.bump 3) σ.next (.rw a0.cells) fun σ0=>
boxW a1 (
newW σ0 (σ.next+1) (.rw a1.cells) fun σ1=>
fldW 0 (.ptr σ.next 0) fun v2=>
ldI (σ1.bump 6) v2 fun v3=>
fldW 0 (.ptr (σ.next+1) 0) fun v4=>
ldI (σ1.bump 6) v4 fun v5=>
callW PG n_cmp_Compare_int_ [.int .i64 v3,.int .i64 v5] (σ1.bump 6) fun v6 σ7=>
castI .i64 v6 fun v8=>
Q (.int .i64 v8) σ7))
theorem ok_huff_byCount {a0 a1 σ Q} (h:σ.Live->F_huff_byCount a0 a1 σ Q):ACalls PG n_huff_byCount [a0,a1] σ Q:=
 .of_sem [none,none] [(6,tI),(8,tI),(9,tI)] mixed (by kernel_rfl) (by kernel_rfl) h
/-! slices.Clone[[]vitrine/huff.item,vitrine/huff.item] -/
def F_slices_Clone___huff_item_huff_item_ (a0:AV) (σ:Mem) (Q:AV->Mem->Prop):Prop:=
eqW .sl a0 .nils fun v0=>
ifB v0 (
Q .nils (σ.bump 4)) (
newW (σ.bump 7) (σ.next+3) (.rw []) fun σ1=>
apW 3 40 (σ.next+5) σ1 (.slice (σ.next+3) 0 0 (.ex 0)) a0 fun v2 σ3=>
Q v2 σ3)
theorem ok_slices_Clone___huff_item_huff_item_ {a0 σ Q} (h:σ.Live->F_slices_Clone___huff_item_huff_item_ a0 σ Q):ACalls PG n_slices_Clone___huff_item_huff_item_ [a0] σ Q:=
 .of_sem [none,none,none,none,none] [] mixed (by kernel_rfl) (by kernel_rfl) h
/-! slices.Chunk[[]vitrine/huff.item,vitrine/huff.item] -/
def F_slices_Chunk___huff_item_huff_item__j1 (Q:AV->Mem->Prop) (σ:Mem) (σ3:Mem):Prop:=
Q (.func n_slices_Chunk___huff_item_huff_item__1 [.ptr σ.next 0,.ptr (σ.next+1) 0]) (σ3.bump 2)
def F_slices_Chunk___huff_item_huff_item_ (a0:AV) (a1:Int) (σ:Mem) (Q:AV->Mem->Prop):Prop:=
boxW a0 (
newW (σ.bump 3) σ.next (.rw a0.cells) fun σ0=>
newW σ0 (σ.next+1) (.rw [.int .i64 a1]) fun σ1=>
ldI (σ1.bump 2) (.ptr (σ.next+1) 0) fun v2=>
joinF [] (fun (k4:Mem->Prop)=>
ifB (decide (v2<1)) (
False) (
k4 (σ1.bump 2))) (F_slices_Chunk___huff_item_huff_item__j1 Q σ))
theorem ok_slices_Chunk___huff_item_huff_item_ {a0 a1 σ Q} (h:σ.Live->F_slices_Chunk___huff_item_huff_item_ a0 a1 σ Q):ACalls PG n_slices_Chunk___huff_item_huff_item_ [a0,.int .i64 a1] σ Q:=
 .of_sem [none,none,some ([2,3],[]),none,none] [(5,tI)] mixed (by kernel_rfl) (by kernel_rfl) h
/-! vitrine/huff.spend -/
def F_huff_spend_j1 (next1:Int->Mem->Prop) (v2:Int) (σ11:Mem):Prop:=
iW (v2+1) fun v12=>
next1 v12 (σ11.bump 2)
def F_huff_spend_l1 (a0:AV) (a1:AV) (Q:AV->Mem->Prop) (v0:Int) (next1:Int->Mem->Prop) (v2:Int) (σ3:Mem):Prop:=
ifB (decide (v2<v0)) (
idxW 3 a1 v2 fun v4=>
ldnW 3 (σ3.bump 5) v4 fun v5=>
newW (σ3.bump 5) (σ3.next+3) (.rw [.int .i64 0,.int .i64 0,.nils]) fun σ6=>
stW 3 σ6 (.ptr (σ3.next+3) 0) v5 fun σ7=>
fldW 2 (.ptr (σ3.next+3) 0) fun v8=>
ldW (σ7.bump 3) v8 fun v9=>
eqW .sl v9 .nils fun v10=>
joinF [] (fun (k13:Mem->Prop)=>
ifB v10 (
fldW 1 (.ptr (σ3.next+3) 0) fun v14=>
ldI (σ7.bump 11) v14 fun v15=>
idxW 1 a0 v15 fun v16=>
ldI (σ7.bump 11) v16 fun v17=>
iW (v17+1) fun v18=>
idxW 1 a0 v15 fun v19=>
stW 1 (σ7.bump 11) v19 (.int .i64 v18) fun σ20=>
k13 σ20) (
fldW 2 (.ptr (σ3.next+3) 0) fun v21=>
ldW (σ7.bump 7) v21 fun v22=>
callW PG n_huff_spend [a0,v22] (σ7.bump 7) fun v23 σ24=>
k13 σ24)) (F_huff_spend_j1 next1 v2)) (
Q (.tup []) (σ3.bump 1))
def F_huff_spend (a0:AV) (a1:AV) (σ:Mem) (Q:AV->Mem->Prop):Prop:=
slenW a1 fun v0=>
loopF [tI] (F_huff_spend_l1 a0 a1 Q v0) 0 (σ.bump 3)
theorem ok_huff_spend {a0 a1 σ Q} (h:σ.Live->F_huff_spend a0 a1 σ Q):ACalls PG n_huff_spend [a0,a1] σ Q:=
 .of_sem [none,none,some ([0,6,7],[8]),none,none,none,none,none,some ([0,6,7,8],[]),none,none,none] [(8,tI),(17,tI),(19,tI)] mixed (by kernel_rfl) (by kernel_rfl) h
/-! slices.Chunk[[]vitrine/huff.item,vitrine/huff.item]$1 -/
def F_slices_Chunk___huff_item_huff_item__1_l1 (Y:YEnv) (a0:AV) (a1:AV) (a2:AV) (Q:AV->Mem->Prop) (next0:Int->Mem->Prop) (v1:Int) (σ2:Mem):Prop:=
ldW (σ2.bump 4) a1 fun v3=>
slenW v3 fun v4=>
ifB (decide (v1<v4)) (
ldI (σ2.bump 11) a2 fun v5=>
ldW (σ2.bump 11) a1 fun v6=>
slcW 3 v6 (some v1) none fun v7=>
slenW v7 fun v8=>
letW (imin v5 v8) fun v9=>
ldW (σ2.bump 23) a1 fun v10=>
iW (v1+v9) fun v11=>
iW (v1+v9) fun v12=>
slc3W 3 v10 (some v1) v11 v12 fun v13=>
callvY PG Y a0 [v13] (σ2.bump 23) fun v14 σ15=>
castB v14 fun v16=>
ifB (!v16) (
Q (.tup []) σ15) (
ldI (σ15.bump 4) a2 fun v17=>
iW (v1+v17) fun v18=>
next0 v18 (σ15.bump 4))) (
Q (.tup []) (σ2.bump 4))
def F_slices_Chunk___huff_item_huff_item__1 (Y:YEnv) (a0:AV) (a1:AV) (a2:AV) (σ:Mem) (Q:AV->Mem->Prop):Prop:=
loopF [tI] (F_slices_Chunk___huff_item_huff_item__1_l1 Y a0 a1 a2 Q) 0 (σ.bump 1)
theorem ok_slices_Chunk___huff_item_huff_item__1 {Y:YEnv} {a0 a1 a2 σ Q} (h:σ.Live->F_slices_Chunk___huff_item_huff_item__1 Y a0 a1 a2 σ Q):ACallsY PG Y n_slices_Chunk___huff_item_huff_item__1 [a0,a1,a2] σ Q:=
 .of_sem [none,none,some ([0,1,2],[4]),none,none,none,none,none,none,none] [(4,tI),(13,tI),(29,.b),(11,tI)] mixed (by kernel_rfl) (by kernel_rfl) h
end Go.Vit
