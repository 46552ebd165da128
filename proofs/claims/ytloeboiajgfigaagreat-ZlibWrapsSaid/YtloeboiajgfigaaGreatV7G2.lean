import Derived.Test.YtloeboiajgfigaaGreatV7G
set_option linter.unusedVariables false
set_option linter.unusedSimpArgs false
set_option maxRecDepth 100000
namespace Go.Vit
open Go.Proofs
/-! vitrine/vitrineref05.Dynamic -/
def z6c (next57:Int->Mem->Prop) (v58:Int) (σ70:Mem):Prop:=
iW (v58+1) λv71=>
next57 v71 (σ70.bump 3)
def z28 (k72:Mem->Prop) (σ78:Mem):Prop:=
k72 σ78
def z3R (k79:Mem->Prop) (σ85:Mem):Prop:=
k79 σ85
def z3O (Q:AV->Mem->Prop) (v0:AV) (v15:AV) (v17:AV) (v23:AV) (σ34:Mem) (v55:AV) (next57:Int->Mem->Prop) (v58:Int) (σ59:Mem):Prop:=
zn v23 λv60=>
ifB (decide (v58<v60)) (
zd 2 v23 v58 λv61=>
z2H 0 v61 λv62=>
ldI (σ59.bump 12) v62 λv63=>
z6 PG zI [v55,.ptr (σ34.next+1) 0,.int .i64 v63] (σ59.bump 12) λv64 σ65=>
zB .i64 v64 λv66=>
zd 2 v23 v58 λv67=>
z2H 0 v67 λv68=>
ldI (σ65.bump 5) v68 λv69=>
z9 [] (λ(k72:Mem->Prop)=>
ifB (decide (v69=16)) (
zd 2 v23 v58 λv73=>
z2H 1 v73 λv74=>
ldI (σ65.bump 14) v74 λv75=>
z6 PG z7 [.ptr (σ34.next+1) 0,.int .i64 v75,.int .i64 2] (σ65.bump 14) λv76 σ77=>
k72 σ77) (
z9 [] (λ(k79:Mem->Prop)=>
ifB (decide (v69=17)) (
zd 2 v23 v58 λv80=>
z2H 1 v80 λv81=>
ldI (σ65.bump 16) v81 λv82=>
z6 PG z7 [.ptr (σ34.next+1) 0,.int .i64 v82,.int .i64 3] (σ65.bump 16) λv83 σ84=>
k79 σ84) (
z9 [] (λ(k86:Mem->Prop)=>
ifB (decide (v69=18)) (
zd 2 v23 v58 λv87=>
z2H 1 v87 λv88=>
ldI (σ65.bump 18) v88 λv89=>
z6 PG z7 [.ptr (σ34.next+1) 0,.int .i64 v89,.int .i64 7] (σ65.bump 18) λv90 σ91=>
k86 σ91) (
k86 (σ65.bump 11))) (z3R k79))) (z28 k72))) (z6c next57 v58)) (
z6 PG z2x [v15] (σ59.bump 11) λv92 σ93=>
z5b v92 0 λv94=>
tpI v92 1 λv95=>
z6 PG z2x [v17] (σ93.bump 7) λv96 σ97=>
z5b v96 0 λv98=>
tpI v96 1 λv99=>
z6 PG z7s [.ptr (σ34.next+1) 0,v0,v94,v98] (σ97.bump 5) λv100 σ101=>
z6 PG z15 [.ptr (σ34.next+1) 0] (σ101.bump 3) λv102 σ103=>
z3i v102 λv104=>
Q (.str v104) σ103)
def z3P (Q:AV->Mem->Prop) (v0:AV) (v15:AV) (v17:AV) (v23:AV) (v29:AV) (σ34:Mem) (σ52:Mem):Prop:=
z6 PG z2x [v29] (σ52.bump 7) λv53 σ54=>
z5b v53 0 λv55=>
tpI v53 1 λv56=>
zf [tI] (z3O Q v0 v15 v17 v23 σ34 v55) 0 (σ54.bump 1)
def z3S (v33:AV) (σ34:Mem) (k105:Mem->Prop) (next106:Int->Mem->Prop) (v107:Int) (σ108:Mem):Prop:=
zn v33 λv109=>
ifB (decide (v107<v109)) (
zd 1 v33 v107 λv110=>
ldI (σ108.bump 10) v110 λv111=>
z6 PG z7 [.ptr (σ34.next+1) 0,.int .i64 v111,.int .i64 3] (σ108.bump 10) λv112 σ113=>
iW (v107+1) λv114=>
next106 v114 (σ113.bump 3)) (
k105 (σ108.bump 4))
def z3B (Q:AV->Mem->Prop) (v0:AV) (v15:AV) (v17:AV) (v23:AV) (v29:AV) (v31:AV) (σ32:Mem):Prop:=
z6 PG z4u [v31,.int .i64 4] (σ32.bump 3) λv33 σ34=>
zge (.agg [.nils,.int .i64 0]) (
zH (σ34.bump 3) (σ34.next+1) (.rw [.nils,.int .i64 0]) λσ35=>
z6 PG z7 [.ptr (σ34.next+1) 0,.int .i64 1,.int .i64 1] (σ35.bump 2) λv36 σ37=>
z6 PG z7 [.ptr (σ34.next+1) 0,.int .i64 2,.int .i64 2] (σ37.bump 2) λv38 σ39=>
zn v15 λv40=>
iW (v40-257) λv41=>
z6 PG z7 [.ptr (σ34.next+1) 0,.int .i64 v41,.int .i64 5] (σ39.bump 5) λv42 σ43=>
zn v17 λv44=>
iW (v44-1) λv45=>
z6 PG z7 [.ptr (σ34.next+1) 0,.int .i64 v45,.int .i64 5] (σ43.bump 5) λv46 σ47=>
zn v33 λv48=>
iW (v48-4) λv49=>
z6 PG z7 [.ptr (σ34.next+1) 0,.int .i64 v49,.int .i64 4] (σ47.bump 5) λv50 σ51=>
z9 [] (λ(k105:Mem->Prop)=>
zf [tI] (z3S v33 σ34 k105) 0 (σ51.bump 1)) (z3P Q v0 v15 v17 v23 v29 σ34))
def z6k (v29:AV) (k115:AV->Mem->Prop) (next116:AV->Int->Mem->Prop) (v117:AV) (v118:Int) (σ119:Mem):Prop:=
ifB (decide (v118<19)) (
z6 PG z7v [] (σ119.bump 13) λv120 σ121=>
zd 1 v120 v118 λv122=>
ldI σ121 v122 λv123=>
zd 1 v29 v123 λv124=>
ldI σ121 v124 λv125=>
zH σ121 (σ119.next+10) (.rw [.int .i64 v125]) λσ126=>
apW 1 8 (σ119.next+11) σ126 v117 (.slice (σ119.next+10) 0 1 (.ex 1)) λv127 σ128=>
iW (v118+1) λv129=>
next116 v127 v129 (σ128.bump 3)) (
k115 v117 (σ119.bump 2))
def z3Q (Q:AV->Mem->Prop) (v0:AV) (v15:AV) (v17:AV) (v23:AV) (σ24:Mem) (σ26:Mem):Prop:=
z6 PG z3K [.int .i64 7,.slice σ24.next 0 (Int.toNat 19) (.ex (Int.toNat 19))] (σ26.bump 7) λv27 σ28=>
z5b v27 0 λv29=>
tpI v27 1 λv30=>
z9 [.v] (λ(k115:AV->Mem->Prop)=>
zf [.v,tI] (z6k v29 k115) .nils 0 (σ28.bump 2)) (z3B Q v0 v15 v17 v23 v29)
def z3T (v23:AV) (σ24:Mem) (k130:Mem->Prop) (next131:Int->Mem->Prop) (v132:Int) (σ133:Mem):Prop:=
zn v23 λv134=>
ifB (decide (v132<v134)) (
zd 2 v23 v132 λv135=>
z2H 0 v135 λv136=>
ldI (σ133.bump 15) v136 λv137=>
zd 1 (.slice σ24.next 0 (Int.toNat 19) (.ex (Int.toNat 19))) v137 λv138=>
ldI (σ133.bump 15) v138 λv139=>
iW (v139+1) λv140=>
zd 1 (.slice σ24.next 0 (Int.toNat 19) (.ex (Int.toNat 19))) v137 λv141=>
stW 1 (σ133.bump 15) v141 (.int .i64 v140) λσ142=>
iW (v132+1) λv143=>
next131 v143 (σ142.bump 3)) (
k130 (σ133.bump 4))
def z3u (Q:AV->Mem->Prop) (v0:AV) (σ1:Mem) (σ2:Mem) (σ6:Mem):Prop:=
z6 PG z3K [.int .i64 15,.slice σ1.next 0 (Int.toNat 286) (.ex (Int.toNat 286))] (σ6.bump 7) λv7 σ8=>
z5b v7 0 λv9=>
tpI v7 1 λv10=>
z6 PG z3K [.int .i64 15,.slice σ2.next 0 (Int.toNat 30) (.ex (Int.toNat 30))] (σ8.bump 7) λv11 σ12=>
z5b v11 0 λv13=>
tpI v11 1 λv14=>
z6 PG z4u [v9,.int .i64 257] (σ12.bump 3) λv15 σ16=>
z6 PG z4u [v13,.int .i64 1] (σ16.bump 3) λv17 σ18=>
apW 1 8 (σ18.next+3) (σ18.bump 5) .nils v15 λv19 σ20=>
apW 1 8 (σ20.next+2) (σ20.bump 4) v19 v17 λv21 σ22=>
z6 PG z8m [v21] (σ22.bump 3) λv23 σ24=>
zai 8 19 19 (
zH (σ24.bump 2) σ24.next (.rw (repl (Int.toNat 19) [.int .i64 0])) λσ25=>
z9 [] (λ(k130:Mem->Prop)=>
zf [tI] (z3T v23 σ24 k130) 0 (σ25.bump 1)) (z3Q Q v0 v15 v17 v23 σ24))
def z68 (next145:Int->Mem->Prop) (v146:Int) (σ149:Mem):Prop:=
iW (v146+1) λv150=>
next145 v150 (σ149.bump 3)
def z66 (v0:AV) (σ1:Mem) (σ2:Mem) (k144:Mem->Prop) (next145:Int->Mem->Prop) (v146:Int) (σ147:Mem):Prop:=
zn v0 λv148=>
ifB (decide (v146<v148)) (
z9 [] (λ(k151:Mem->Prop)=>
zd 3 v0 v146 λv152=>
z2H 1 v152 λv153=>
ldI (σ147.bump 10) v153 λv154=>
ifB (decide (v154=0)) (
zd 3 v0 v146 λv155=>
z2H 0 v155 λv156=>
ldI (σ147.bump 21) v156 λv157=>
zd 1 (.slice σ1.next 0 (Int.toNat 286) (.ex (Int.toNat 286))) v157 λv158=>
ldI (σ147.bump 21) v158 λv159=>
iW (v159+1) λv160=>
zd 1 (.slice σ1.next 0 (Int.toNat 286) (.ex (Int.toNat 286))) v157 λv161=>
stW 1 (σ147.bump 21) v161 (.int .i64 v160) λσ162=>
k151 σ162) (
zd 3 v0 v146 λv163=>
z2H 1 v163 λv164=>
ldI (σ147.bump 23) v164 λv165=>
z6 PG z4k [.int .i64 v165] (σ147.bump 23) λv166 σ167=>
tpI v166 0 λv168=>
tpI v166 1 λv169=>
tpI v166 2 λv170=>
zd 1 (.slice σ1.next 0 (Int.toNat 286) (.ex (Int.toNat 286))) v168 λv171=>
ldI (σ167.bump 7) v171 λv172=>
iW (v172+1) λv173=>
zd 1 (.slice σ1.next 0 (Int.toNat 286) (.ex (Int.toNat 286))) v168 λv174=>
stW 1 (σ167.bump 7) v174 (.int .i64 v173) λσ175=>
zd 3 v0 v146 λv176=>
z2H 2 v176 λv177=>
ldI (σ175.bump 11) v177 λv178=>
z6 PG z3e [.int .i64 v178] (σ175.bump 11) λv179 σ180=>
tpI v179 0 λv181=>
tpI v179 1 λv182=>
tpI v179 2 λv183=>
zd 1 (.slice σ2.next 0 (Int.toNat 30) (.ex (Int.toNat 30))) v181 λv184=>
ldI (σ180.bump 7) v184 λv185=>
iW (v185+1) λv186=>
zd 1 (.slice σ2.next 0 (Int.toNat 30) (.ex (Int.toNat 30))) v181 λv187=>
stW 1 (σ180.bump 7) v187 (.int .i64 v186) λσ188=>
k151 σ188)) (z68 next145 v146)) (
k144 (σ147.bump 4))
def z8G (a0:ByteArray) (σ:Mem) (Q:AV->Mem->Prop):Prop:=
z6 PG z4h [.str a0] (σ.bump 4) λv0 σ1=>
zai 8 286 286 (
zH (σ1.bump 2) σ1.next (.rw (repl (Int.toNat 286) [.int .i64 0])) λσ2=>
zai 8 30 30 (
zH (σ2.bump 2) σ2.next (.rw (repl (Int.toNat 30) [.int .i64 0])) λσ3=>
zd 1 (.slice σ1.next 0 (Int.toNat 286) (.ex (Int.toNat 286))) 256 λv4=>
stW 1 (σ3.bump 3) v4 (.int .i64 1) λσ5=>
z9 [] (λ(k144:Mem->Prop)=>
zf [tI] (z66 v0 σ1 σ2 k144) 0 (σ5.bump 1)) (z3u Q v0 σ1 σ2)))
theorem zde {a0 σ Q} (h:σ.Live->z8G a0 σ Q):z1 PG z5Q [.str a0] σ Q:=
 .of_sem [none,none,none,none,none,none,some ([3,4,5],[]),some ([3,4,5],[6]),none,none,some ([3,4,5,6],[]),none,none,none,none,none,none,none,none,none,none,none,none,none,none,none,none,none,none,some ([3,10,12,15,16],[]),some ([3,10,12,15,16],[17]),none,none,none,none,none,none,none,none,some ([3,10,12,15,18],[20]),some ([3,10,12,15,18],[20,21]),none,none,none,none,none,none,none,none,none,none,none,none,none,some ([3,10,12,15,18,22],[]),some ([3,10,12,15,18,20,22],[23]),none,none,none,none,none,none,none,none,some ([3,10,12,15,22,24],[26]),none,none,none,none,none,none,none,some ([3,10,12,15,22,24,26],[]),none,none,some ([3,10,12,15,22,24,26],[]),none,none,some ([3,10,12,15,22,24,26],[]),none,none,none,none,none,none] [(6,tI),(47,tI),(54,tI),(56,tI),(64,tI),(66,tI),(67,tI),(68,tI),(72,tI),(80,tI),(82,tI),(83,tI),(84,tI),(88,tI),(95,tI),(100,tI),(17,tI),(125,tI),(127,tI),(134,tI),(21,tI),(144,tI),(146,tI),(23,tI),(182,tI),(188,tI),(26,tI),(201,tI),(202,tI),(207,tI),(215,tI),(224,tI),(233,tI),(239,tI),(244,tI),(251,.s)] mixed (by kernel_rfl) (by kernel_rfl) h
end Go.Vit
