import Derived.Test.YtcliekhikcaoiaaV5G
set_option linter.unusedVariables false
set_option linter.unusedSimpArgs false
set_option linter.unusedVariables false
set_option maxRecDepth 100000
namespace Go.Vit
open Go.Proofs
/-! vitrine/vitrineref05.Dynamic -/
def F_ref05_Dynamic_j5 (next57:Int->Mem->Prop) (v58:Int) (σ70:Mem):Prop:=
iW (v58+1) fun v71=>
next57 v71 (σ70.bump 3)
def F_ref05_Dynamic_j6 (k72:Mem->Prop) (σ78:Mem):Prop:=
k72 σ78
def F_ref05_Dynamic_j7 (k79:Mem->Prop) (σ85:Mem):Prop:=
k79 σ85
def F_ref05_Dynamic_l1 (Q:AV->Mem->Prop) (v0:AV) (v15:AV) (v17:AV) (v23:AV) (σ34:Mem) (v55:AV) (next57:Int->Mem->Prop) (v58:Int) (σ59:Mem):Prop:=
slenW v23 fun v60=>
ifB (decide (v58<v60)) (
idxW 2 v23 v58 fun v61=>
fldW 0 v61 fun v62=>
ldI (σ59.bump 12) v62 fun v63=>
callW PG n_ref02_Table_Lay [v55,.ptr (σ34.next+1) 0,.int .i64 v63] (σ59.bump 12) fun v64 σ65=>
castI .i64 v64 fun v66=>
idxW 2 v23 v58 fun v67=>
fldW 0 v67 fun v68=>
ldI (σ65.bump 5) v68 fun v69=>
joinF [] (fun (k72:Mem->Prop)=>
ifB (decide (v69=16)) (
idxW 2 v23 v58 fun v73=>
fldW 1 v73 fun v74=>
ldI (σ65.bump 14) v74 fun v75=>
callW PG n_ref01_Writer_Bits [.ptr (σ34.next+1) 0,.int .i64 v75,.int .i64 2] (σ65.bump 14) fun v76 σ77=>
k72 σ77) (
joinF [] (fun (k79:Mem->Prop)=>
ifB (decide (v69=17)) (
idxW 2 v23 v58 fun v80=>
fldW 1 v80 fun v81=>
ldI (σ65.bump 16) v81 fun v82=>
callW PG n_ref01_Writer_Bits [.ptr (σ34.next+1) 0,.int .i64 v82,.int .i64 3] (σ65.bump 16) fun v83 σ84=>
k79 σ84) (
joinF [] (fun (k86:Mem->Prop)=>
ifB (decide (v69=18)) (
idxW 2 v23 v58 fun v87=>
fldW 1 v87 fun v88=>
ldI (σ65.bump 18) v88 fun v89=>
callW PG n_ref01_Writer_Bits [.ptr (σ34.next+1) 0,.int .i64 v89,.int .i64 7] (σ65.bump 18) fun v90 σ91=>
k86 σ91) (
k86 (σ65.bump 11))) (F_ref05_Dynamic_j7 k79))) (F_ref05_Dynamic_j6 k72))) (F_ref05_Dynamic_j5 next57 v58)) (
callW PG n_ref02_Make [v15] (σ59.bump 11) fun v92 σ93=>
tupW v92 0 fun v94=>
tpI v92 1 fun v95=>
callW PG n_ref02_Make [v17] (σ93.bump 7) fun v96 σ97=>
tupW v96 0 fun v98=>
tpI v96 1 fun v99=>
callW PG n_ref05_lay [.ptr (σ34.next+1) 0,v0,v94,v98] (σ97.bump 5) fun v100 σ101=>
callW PG n_ref01_Writer_Text [.ptr (σ34.next+1) 0] (σ101.bump 3) fun v102 σ103=>
castS v102 fun v104=>
Q (.str v104) σ103)
def F_ref05_Dynamic_j4 (Q:AV->Mem->Prop) (v0:AV) (v15:AV) (v17:AV) (v23:AV) (v29:AV) (σ34:Mem) (σ52:Mem):Prop:=
callW PG n_ref02_Make [v29] (σ52.bump 7) fun v53 σ54=>
tupW v53 0 fun v55=>
tpI v53 1 fun v56=>
loopF [tI] (F_ref05_Dynamic_l1 Q v0 v15 v17 v23 σ34 v55) 0 (σ54.bump 1)
def F_ref05_Dynamic_l2 (v33:AV) (σ34:Mem) (k105:Mem->Prop) (next106:Int->Mem->Prop) (v107:Int) (σ108:Mem):Prop:=
slenW v33 fun v109=>
ifB (decide (v107<v109)) (
idxW 1 v33 v107 fun v110=>
ldI (σ108.bump 10) v110 fun v111=>
callW PG n_ref01_Writer_Bits [.ptr (σ34.next+1) 0,.int .i64 v111,.int .i64 3] (σ108.bump 10) fun v112 σ113=>
iW (v107+1) fun v114=>
next106 v114 (σ113.bump 3)) (
k105 (σ108.bump 4))
def F_ref05_Dynamic_j3 (Q:AV->Mem->Prop) (v0:AV) (v15:AV) (v17:AV) (v23:AV) (v29:AV) (v31:AV) (σ32:Mem):Prop:=
callW PG n_ref05_upto [v31,.int .i64 4] (σ32.bump 3) fun v33 σ34=>
boxW (.agg [.nils,.int .i64 0]) (
newW (σ34.bump 3) (σ34.next+1) (.rw [.nils,.int .i64 0]) fun σ35=>
callW PG n_ref01_Writer_Bits [.ptr (σ34.next+1) 0,.int .i64 1,.int .i64 1] (σ35.bump 2) fun v36 σ37=>
callW PG n_ref01_Writer_Bits [.ptr (σ34.next+1) 0,.int .i64 2,.int .i64 2] (σ37.bump 2) fun v38 σ39=>
slenW v15 fun v40=>
iW (v40-257) fun v41=>
callW PG n_ref01_Writer_Bits [.ptr (σ34.next+1) 0,.int .i64 v41,.int .i64 5] (σ39.bump 5) fun v42 σ43=>
slenW v17 fun v44=>
iW (v44-1) fun v45=>
callW PG n_ref01_Writer_Bits [.ptr (σ34.next+1) 0,.int .i64 v45,.int .i64 5] (σ43.bump 5) fun v46 σ47=>
slenW v33 fun v48=>
iW (v48-4) fun v49=>
callW PG n_ref01_Writer_Bits [.ptr (σ34.next+1) 0,.int .i64 v49,.int .i64 4] (σ47.bump 5) fun v50 σ51=>
joinF [] (fun (k105:Mem->Prop)=>
loopF [tI] (F_ref05_Dynamic_l2 v33 σ34 k105) 0 (σ51.bump 1)) (F_ref05_Dynamic_j4 Q v0 v15 v17 v23 v29 σ34))
def F_ref05_Dynamic_l3 (v29:AV) (k115:AV->Mem->Prop) (next116:AV->Int->Mem->Prop) (v117:AV) (v118:Int) (σ119:Mem):Prop:=
ifB (decide (v118<19)) (
callW PG n_ref03_Order [] (σ119.bump 13) fun v120 σ121=>
idxW 1 v120 v118 fun v122=>
ldI σ121 v122 fun v123=>
idxW 1 v29 v123 fun v124=>
ldI σ121 v124 fun v125=>
newW σ121 (σ119.next+10) (.rw [.int .i64 v125]) fun σ126=>
apW 1 8 (σ119.next+11) σ126 v117 (.slice (σ119.next+10) 0 1 (.ex 1)) fun v127 σ128=>
iW (v118+1) fun v129=>
next116 v127 v129 (σ128.bump 3)) (
k115 v117 (σ119.bump 2))
def F_ref05_Dynamic_j2 (Q:AV->Mem->Prop) (v0:AV) (v15:AV) (v17:AV) (v23:AV) (σ24:Mem) (σ26:Mem):Prop:=
callW PG n_ref02_Limit [.int .i64 7,.slice σ24.next 0 (Int.toNat 19) (.ex (Int.toNat 19))] (σ26.bump 7) fun v27 σ28=>
tupW v27 0 fun v29=>
tpI v27 1 fun v30=>
joinF [.v] (fun (k115:AV->Mem->Prop)=>
loopF [.v,tI] (F_ref05_Dynamic_l3 v29 k115) .nils 0 (σ28.bump 2)) (F_ref05_Dynamic_j3 Q v0 v15 v17 v23 v29)
def F_ref05_Dynamic_l4 (v23:AV) (σ24:Mem) (k130:Mem->Prop) (next131:Int->Mem->Prop) (v132:Int) (σ133:Mem):Prop:=
slenW v23 fun v134=>
ifB (decide (v132<v134)) (
idxW 2 v23 v132 fun v135=>
fldW 0 v135 fun v136=>
ldI (σ133.bump 15) v136 fun v137=>
idxW 1 (.slice σ24.next 0 (Int.toNat 19) (.ex (Int.toNat 19))) v137 fun v138=>
ldI (σ133.bump 15) v138 fun v139=>
iW (v139+1) fun v140=>
idxW 1 (.slice σ24.next 0 (Int.toNat 19) (.ex (Int.toNat 19))) v137 fun v141=>
stW 1 (σ133.bump 15) v141 (.int .i64 v140) fun σ142=>
iW (v132+1) fun v143=>
next131 v143 (σ142.bump 3)) (
k130 (σ133.bump 4))
def F_ref05_Dynamic_j1 (Q:AV->Mem->Prop) (v0:AV) (σ1:Mem) (σ2:Mem) (σ6:Mem):Prop:=
callW PG n_ref02_Limit [.int .i64 15,.slice σ1.next 0 (Int.toNat 286) (.ex (Int.toNat 286))] (σ6.bump 7) fun v7 σ8=>
tupW v7 0 fun v9=>
tpI v7 1 fun v10=>
callW PG n_ref02_Limit [.int .i64 15,.slice σ2.next 0 (Int.toNat 30) (.ex (Int.toNat 30))] (σ8.bump 7) fun v11 σ12=>
tupW v11 0 fun v13=>
tpI v11 1 fun v14=>
callW PG n_ref05_upto [v9,.int .i64 257] (σ12.bump 3) fun v15 σ16=>
callW PG n_ref05_upto [v13,.int .i64 1] (σ16.bump 3) fun v17 σ18=>
apW 1 8 (σ18.next+3) (σ18.bump 5) .nils v15 fun v19 σ20=>
apW 1 8 (σ20.next+2) (σ20.bump 4) v19 v17 fun v21 σ22=>
callW PG n_ref05_Runs [v21] (σ22.bump 3) fun v23 σ24=>
makeW 8 19 19 (
newW (σ24.bump 2) σ24.next (.rw (repl (Int.toNat 19) [.int .i64 0])) fun σ25=>
joinF [] (fun (k130:Mem->Prop)=>
loopF [tI] (F_ref05_Dynamic_l4 v23 σ24 k130) 0 (σ25.bump 1)) (F_ref05_Dynamic_j2 Q v0 v15 v17 v23 σ24))
def F_ref05_Dynamic_j8 (next145:Int->Mem->Prop) (v146:Int) (σ149:Mem):Prop:=
iW (v146+1) fun v150=>
next145 v150 (σ149.bump 3)
def F_ref05_Dynamic_l5 (v0:AV) (σ1:Mem) (σ2:Mem) (k144:Mem->Prop) (next145:Int->Mem->Prop) (v146:Int) (σ147:Mem):Prop:=
slenW v0 fun v148=>
ifB (decide (v146<v148)) (
joinF [] (fun (k151:Mem->Prop)=>
idxW 3 v0 v146 fun v152=>
fldW 1 v152 fun v153=>
ldI (σ147.bump 10) v153 fun v154=>
ifB (decide (v154=0)) (
idxW 3 v0 v146 fun v155=>
fldW 0 v155 fun v156=>
ldI (σ147.bump 21) v156 fun v157=>
idxW 1 (.slice σ1.next 0 (Int.toNat 286) (.ex (Int.toNat 286))) v157 fun v158=>
ldI (σ147.bump 21) v158 fun v159=>
iW (v159+1) fun v160=>
idxW 1 (.slice σ1.next 0 (Int.toNat 286) (.ex (Int.toNat 286))) v157 fun v161=>
stW 1 (σ147.bump 21) v161 (.int .i64 v160) fun σ162=>
k151 σ162) (
idxW 3 v0 v146 fun v163=>
fldW 1 v163 fun v164=>
ldI (σ147.bump 23) v164 fun v165=>
callW PG n_ref05_length [.int .i64 v165] (σ147.bump 23) fun v166 σ167=>
tpI v166 0 fun v168=>
tpI v166 1 fun v169=>
tpI v166 2 fun v170=>
idxW 1 (.slice σ1.next 0 (Int.toNat 286) (.ex (Int.toNat 286))) v168 fun v171=>
ldI (σ167.bump 7) v171 fun v172=>
iW (v172+1) fun v173=>
idxW 1 (.slice σ1.next 0 (Int.toNat 286) (.ex (Int.toNat 286))) v168 fun v174=>
stW 1 (σ167.bump 7) v174 (.int .i64 v173) fun σ175=>
idxW 3 v0 v146 fun v176=>
fldW 2 v176 fun v177=>
ldI (σ175.bump 11) v177 fun v178=>
callW PG n_ref05_distance [.int .i64 v178] (σ175.bump 11) fun v179 σ180=>
tpI v179 0 fun v181=>
tpI v179 1 fun v182=>
tpI v179 2 fun v183=>
idxW 1 (.slice σ2.next 0 (Int.toNat 30) (.ex (Int.toNat 30))) v181 fun v184=>
ldI (σ180.bump 7) v184 fun v185=>
iW (v185+1) fun v186=>
idxW 1 (.slice σ2.next 0 (Int.toNat 30) (.ex (Int.toNat 30))) v181 fun v187=>
stW 1 (σ180.bump 7) v187 (.int .i64 v186) fun σ188=>
k151 σ188)) (F_ref05_Dynamic_j8 next145 v146)) (
k144 (σ147.bump 4))
def F_ref05_Dynamic (a0:ByteArray) (σ:Mem) (Q:AV->Mem->Prop):Prop:=
callW PG n_ref04_Tokens [.str a0] (σ.bump 4) fun v0 σ1=>
makeW 8 286 286 (
newW (σ1.bump 2) σ1.next (.rw (repl (Int.toNat 286) [.int .i64 0])) fun σ2=>
makeW 8 30 30 (
newW (σ2.bump 2) σ2.next (.rw (repl (Int.toNat 30) [.int .i64 0])) fun σ3=>
idxW 1 (.slice σ1.next 0 (Int.toNat 286) (.ex (Int.toNat 286))) 256 fun v4=>
stW 1 (σ3.bump 3) v4 (.int .i64 1) fun σ5=>
joinF [] (fun (k144:Mem->Prop)=>
loopF [tI] (F_ref05_Dynamic_l5 v0 σ1 σ2 k144) 0 (σ5.bump 1)) (F_ref05_Dynamic_j1 Q v0 σ1 σ2)))
theorem ok_ref05_Dynamic {a0 σ Q} (h:σ.Live->F_ref05_Dynamic a0 σ Q):ACalls PG n_ref05_Dynamic [.str a0] σ Q:=
 .of_sem [none,none,none,none,none,none,some ([3,4,5],[]),some ([3,4,5],[6]),none,none,some ([3,4,5,6],[]),none,none,none,none,none,none,none,none,none,none,none,none,none,none,none,none,none,none,some ([3,10,12,15,16],[]),some ([3,10,12,15,16],[17]),none,none,none,none,none,none,none,none,some ([3,10,12,15,18],[20]),some ([3,10,12,15,18],[20,21]),none,none,none,none,none,none,none,none,none,none,none,none,none,some ([3,10,12,15,18,22],[]),some ([3,10,12,15,18,20,22],[23]),none,none,none,none,none,none,none,none,some ([3,10,12,15,22,24],[26]),none,none,none,none,none,none,none,some ([3,10,12,15,22,24,26],[]),none,none,some ([3,10,12,15,22,24,26],[]),none,none,some ([3,10,12,15,22,24,26],[]),none,none,none,none,none,none] [(6,tI),(47,tI),(54,tI),(56,tI),(64,tI),(66,tI),(67,tI),(68,tI),(72,tI),(80,tI),(82,tI),(83,tI),(84,tI),(88,tI),(95,tI),(100,tI),(17,tI),(125,tI),(127,tI),(134,tI),(21,tI),(144,tI),(146,tI),(23,tI),(182,tI),(188,tI),(26,tI),(201,tI),(202,tI),(207,tI),(215,tI),(224,tI),(233,tI),(239,tI),(244,tI),(251,.s)] mixed (by kernel_rfl) (by kernel_rfl) h
end Go.Vit
