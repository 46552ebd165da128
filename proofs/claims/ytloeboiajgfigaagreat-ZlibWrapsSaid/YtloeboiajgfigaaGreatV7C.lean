/- The functions, as printed conditions. -/
import Derived.Test.YtloeboiajgfigaaGreatVm2
import Derived.Test.YtloeboiajgfigaaGreatChecked
import Derived.KernelRfl
set_option linter.unusedVariables false
set_option linter.unusedSimpArgs false
set_option maxRecDepth 100000
namespace Go.Vit
open Go.Proofs
noncomputable abbrev PG:Program:=Tryz.prog
theorem mixed:PG.follows .mixedOrders=true:=by kernel_rfl
abbrev z6Q:Nat:=3
abbrev z7r:Nat:=5
abbrev z8n:Nat:=6
abbrev z3D:Nat:=7
abbrev z3H:Nat:=8
abbrev z4f:Nat:=10
abbrev z9n:Nat:=11
abbrev z5B:Nat:=12
abbrev z8s:Nat:=13
abbrev z7F:Nat:=14
abbrev z8o:Nat:=15
abbrev z43:Nat:=16
abbrev z4D:Nat:=19
abbrev z5G:Nat:=20
abbrev z49:Nat:=21
abbrev z8l:Nat:=22
abbrev z6z:Nat:=23
abbrev z7f:Nat:=24
abbrev z5Q:Nat:=25
abbrev zah:Nat:=26
abbrev z0v:Nat:=27
abbrev z1H:Nat:=28
abbrev z5D:Nat:=29
abbrev z1z:Nat:=30
abbrev z1h:Nat:=31
abbrev z0W:Nat:=32
abbrev z0p:Nat:=33
abbrev z21:Nat:=34
abbrev z24:Nat:=35
abbrev z7e:Nat:=38
abbrev z71:Nat:=41
abbrev zg:Nat:=42
abbrev z1L:Nat:=43
abbrev z1c:Nat:=44
abbrev z0e:Nat:=45
abbrev zm:Nat:=46
abbrev z2z:Nat:=47
abbrev z7n:Nat:=48
abbrev z46:Nat:=49
abbrev z6r:Nat:=50
abbrev z3m:Nat:=51
abbrev z2W:Nat:=52
abbrev z1O:Nat:=53
abbrev z7:Nat:=54
abbrev z2N:Nat:=55
abbrev z15:Nat:=56
abbrev z2x:Nat:=57
abbrev z7s:Nat:=58
abbrev z4h:Nat:=59
abbrev z4k:Nat:=60
abbrev z3e:Nat:=61
abbrev z3K:Nat:=62
abbrev z4u:Nat:=63
abbrev z8m:Nat:=64
abbrev z7v:Nat:=65
abbrev zI:Nat:=66
abbrev zC:Nat:=67
abbrev z1b:Nat:=68
abbrev z17:Nat:=69
abbrev z20:Nat:=70
abbrev z2L:Nat:=71
abbrev z94:Nat:=72
abbrev z1g:Nat:=73
abbrev z33:Nat:=74
abbrev zt:Nat:=75
abbrev z7D:Nat:=76
abbrev z23:Nat:=77
abbrev z1I:Nat:=78
abbrev z1i:Nat:=79
abbrev z4j:Nat:=84
abbrev z3b:Nat:=85
abbrev z1B:Nat:=86
abbrev z5q:Nat:=87
abbrev zW:Nat:=88
abbrev z3d:Nat:=89
abbrev z27:Nat:=90
abbrev z3I:Nat:=91
abbrev zA:Nat:=92
abbrev zfL:Nat:=93
abbrev zk:Nat:=94
abbrev z2Z:Nat:=95
abbrev zQ:Nat:=96
abbrev zO:Nat:=97
abbrev z4x:Nat:=98
abbrev z7q:Nat:=99
abbrev zag:Nat:=100
abbrev z8B:Nat:=101
abbrev z8K:Nat:=102
abbrev z14:Nat:=103
abbrev z39:Nat:=104
abbrev z26:Nat:=108
abbrev z1w:Nat:=109
abbrev z7c:Nat:=111
abbrev z0G:Nat:=112
abbrev z00:Nat:=113
abbrev zj:Nat:=114
abbrev z7p:Nat:=115
abbrev z6w:Nat:=116
abbrev zu:Nat:=117
abbrev zb:Nat:=118
abbrev zal:Nat:=119
abbrev zw:Nat:=120
abbrev z8:Nat:=121
abbrev z10:Nat:=122
abbrev z06:Nat:=123
abbrev zE:Nat:=124
abbrev zo:Nat:=125
/-! vitrine/deflate.Runs -/
def z4b (next0:AV->Int->Mem->Prop) (v1:AV) (v2:Int) (σ8:Mem) (v15:Int) (σ16:Mem):Prop:=
z3n 2 (σ16.bump 5) (.ptr (σ8.next+5) 0) λv17=>
za v17 2 (
zH (σ16.bump 5) (σ16.next+2) (.rw (setAt [.int .i64 0,.int .i64 0] 0 v17.cells)) λσ18=>
apW 2 16 (σ16.next+3) σ18 v1 (.slice (σ16.next+2) 0 1 (.ex 1)) λv19 σ20=>
iW (v2+v15) λv21=>
next0 v19 v21 (σ20.bump 4))
def zc6 (k22:Int->Mem->Prop) (v28:Int) (σ29:Mem):Prop:=
k22 v28 σ29
def zcf (k30:Int->Mem->Prop) (v35:Int) (σ36:Mem):Prop:=
k30 v35 σ36
def zc7 (k30:Int->Mem->Prop) (v41:Int) (σ42:Mem):Prop:=
k30 v41 σ42
def zc5 (k30:Int->Mem->Prop) (v44:Int) (σ45:Mem):Prop:=
k30 v44 σ45
def zci (k22:Int->Mem->Prop) (v47:Int) (σ48:Mem):Prop:=
k22 v47 σ48
def zcb (k49:Int->Mem->Prop) (v52:Int) (σ53:Mem):Prop:=
k49 v52 σ53
def zbh (k49:Int->Mem->Prop) (v58:Int) (σ59:Mem):Prop:=
k49 v58 σ59
def zaX (k49:Int->Mem->Prop) (v61:Int) (σ62:Mem):Prop:=
k49 v61 σ62
def zaO (next0:AV->Int->Mem->Prop) (v1:AV) (v2:Int) (σ8:Mem) (v64:Int) (σ65:Mem):Prop:=
z3n 2 (σ65.bump 5) (.ptr (σ8.next+5) 0) λv66=>
za v66 2 (
zH (σ65.bump 5) (σ65.next+2) (.rw (setAt [.int .i64 0,.int .i64 0] 0 v66.cells)) λσ67=>
apW 2 16 (σ65.next+3) σ67 v1 (.slice (σ65.next+2) 0 1 (.ex 1)) λv68 σ69=>
iW (v2+v64) λv70=>
next0 v68 v70 (σ69.bump 4))
def zbw (k71:Int->Mem->Prop) (v74:Int) (σ75:Mem):Prop:=
k71 v74 σ75
def zaP (k76:Int->Mem->Prop) (v81:Int) (σ82:Mem):Prop:=
k76 v81 σ82
def zbn (k76:Int->Mem->Prop) (v87:Int) (σ88:Mem):Prop:=
k76 v87 σ88
def zba (k76:Int->Mem->Prop) (v90:Int) (σ91:Mem):Prop:=
k76 v90 σ91
def zbz (k71:Int->Mem->Prop) (v93:Int) (σ94:Mem):Prop:=
k71 v93 σ94
def zb2 (k95:Int->Mem->Prop) (v98:Int) (σ99:Mem):Prop:=
k95 v98 σ99
def zbs (k95:Int->Mem->Prop) (v104:Int) (σ105:Mem):Prop:=
k95 v104 σ105
def zbq (k95:Int->Mem->Prop) (v107:Int) (σ108:Mem):Prop:=
k95 v107 σ108
def z6Y (a0:AV) (next0:AV->Int->Mem->Prop) (v1:AV) (v2:Int) (v5:Int) (v7:Bool) (σ8:Mem):Prop:=
zd 1 a0 v2 λv9=>
ldI (σ8.bump 7) v9 λv10=>
zH (σ8.bump 7) (σ8.next+5) (.rw [.int .i64 0,.int .i64 0]) λσ11=>
stW 2 σ11 (.ptr (σ8.next+5) 0) (.agg [.int .i64 v10,.int .i64 0]) λσ12=>
zd 1 a0 v2 λv13=>
ldI (σ12.bump 10) v13 λv14=>
ifB (decide (v14=0)) (
z9 [tI] (λ(k22:Int->Mem->Prop)=>
ifB (decide (10<v5)) (
z3r (imin v5 138) λv23=>
iW (v23-11) λv24=>
stW 2 (σ12.bump 17) (.ptr (σ8.next+5) 0) (.agg [.int .i64 18,.int .i64 v24]) λσ25=>
k22 v23 σ25) (
zd 1 a0 v2 λv26=>
ldI (σ12.bump 20) v26 λv27=>
ifB (decide (v27=0)) (
z9 [tI] (λ(k30:Int->Mem->Prop)=>
ifB (decide (2<v5)) (
iW (v5-3) λv31=>
stW 2 (σ12.bump 24) (.ptr (σ8.next+5) 0) (.agg [.int .i64 17,.int .i64 v31]) λσ32=>
k30 v5 σ32) (
zd 1 a0 v2 λv33=>
ldI (σ12.bump 33) v33 λv34=>
ifB (decide (v34≠0)) (
ifB v7 (
z9 [tI] (λ(k37:Int->Mem->Prop)=>
ifB (decide (2<v5)) (
z3r (imin v5 6) λv38=>
iW (v38-3) λv39=>
stW 2 (σ12.bump 40) (.ptr (σ8.next+5) 0) (.agg [.int .i64 16,.int .i64 v39]) λσ40=>
k37 v38 σ40) (
k37 1 (σ12.bump 34))) (zcf k30)) (
z9 [tI] (λ(k43:Int->Mem->Prop)=>
k43 1 (σ12.bump 34)) (zc7 k30))) (
z9 [tI] (λ(k46:Int->Mem->Prop)=>
k46 1 (σ12.bump 34)) (zc5 k30)))) (zc6 k22)) (
z9 [tI] (λ(k49:Int->Mem->Prop)=>
zd 1 a0 v2 λv50=>
ldI (σ12.bump 33) v50 λv51=>
ifB (decide (v51≠0)) (
ifB v7 (
z9 [tI] (λ(k54:Int->Mem->Prop)=>
ifB (decide (2<v5)) (
z3r (imin v5 6) λv55=>
iW (v55-3) λv56=>
stW 2 (σ12.bump 40) (.ptr (σ8.next+5) 0) (.agg [.int .i64 16,.int .i64 v56]) λσ57=>
k54 v55 σ57) (
k54 1 (σ12.bump 34))) (zcb k49)) (
z9 [tI] (λ(k60:Int->Mem->Prop)=>
k60 1 (σ12.bump 34)) (zbh k49))) (
z9 [tI] (λ(k63:Int->Mem->Prop)=>
k63 1 (σ12.bump 34)) (zaX k49))) (zci k22)))) (z4b next0 v1 v2 σ8)) (
z9 [tI] (λ(k71:Int->Mem->Prop)=>
zd 1 a0 v2 λv72=>
ldI (σ12.bump 20) v72 λv73=>
ifB (decide (v73=0)) (
z9 [tI] (λ(k76:Int->Mem->Prop)=>
ifB (decide (2<v5)) (
iW (v5-3) λv77=>
stW 2 (σ12.bump 24) (.ptr (σ8.next+5) 0) (.agg [.int .i64 17,.int .i64 v77]) λσ78=>
k76 v5 σ78) (
zd 1 a0 v2 λv79=>
ldI (σ12.bump 33) v79 λv80=>
ifB (decide (v80≠0)) (
ifB v7 (
z9 [tI] (λ(k83:Int->Mem->Prop)=>
ifB (decide (2<v5)) (
z3r (imin v5 6) λv84=>
iW (v84-3) λv85=>
stW 2 (σ12.bump 40) (.ptr (σ8.next+5) 0) (.agg [.int .i64 16,.int .i64 v85]) λσ86=>
k83 v84 σ86) (
k83 1 (σ12.bump 34))) (zaP k76)) (
z9 [tI] (λ(k89:Int->Mem->Prop)=>
k89 1 (σ12.bump 34)) (zbn k76))) (
z9 [tI] (λ(k92:Int->Mem->Prop)=>
k92 1 (σ12.bump 34)) (zba k76)))) (zbw k71)) (
z9 [tI] (λ(k95:Int->Mem->Prop)=>
zd 1 a0 v2 λv96=>
ldI (σ12.bump 33) v96 λv97=>
ifB (decide (v97≠0)) (
ifB v7 (
z9 [tI] (λ(k100:Int->Mem->Prop)=>
ifB (decide (2<v5)) (
z3r (imin v5 6) λv101=>
iW (v101-3) λv102=>
stW 2 (σ12.bump 40) (.ptr (σ8.next+5) 0) (.agg [.int .i64 16,.int .i64 v102]) λσ103=>
k100 v101 σ103) (
k100 1 (σ12.bump 34))) (zb2 k95)) (
z9 [tI] (λ(k106:Int->Mem->Prop)=>
k106 1 (σ12.bump 34)) (zbs k95))) (
z9 [tI] (λ(k109:Int->Mem->Prop)=>
k109 1 (σ12.bump 34)) (zbq k95))) (zbz k71))) (zaO next0 v1 v2 σ8))
def z72 (a0:AV) (next0:AV->Int->Mem->Prop) (v1:AV) (v2:Int) (v5:Int) (σ6:Mem):Prop:=
z9 [.b] (λ(k110:Bool->Mem->Prop)=>
ifB (decide (0<v2)) (
iW (v2-1) λv111=>
zd 1 a0 v111 λv112=>
ldI (σ6.bump 15) v112 λv113=>
zd 1 a0 v2 λv114=>
ldI (σ6.bump 15) v114 λv115=>
k110 (decide (v113=v115)) (σ6.bump 15)) (
k110 false (σ6.bump 15))) (z6Y a0 next0 v1 v2 v5)
def z7d (a0:AV) (v2:Int) (k116:Int->Mem->Prop) (next117:Int->Mem->Prop) (v118:Int) (σ119:Mem):Prop:=
iW (v2+v118) λv120=>
zn a0 λv121=>
ifB (decide (v120<v121)) (
iW (v2+v118) λv122=>
zd 1 a0 v122 λv123=>
ldI (σ119.bump 19) v123 λv124=>
zd 1 a0 v2 λv125=>
ldI (σ119.bump 19) v125 λv126=>
ifB (decide (v124=v126)) (
iW (v118+1) λv127=>
next117 v127 (σ119.bump 22)) (
k116 v118 (σ119.bump 19))) (
k116 v118 (σ119.bump 19))
def z74 (a0:AV) (Q:AV->Mem->Prop) (next0:AV->Int->Mem->Prop) (v1:AV) (v2:Int) (σ3:Mem):Prop:=
zn a0 λv4=>
ifB (decide (v2<v4)) (
z9 [tI] (λ(k116:Int->Mem->Prop)=>
zf [tI] (z7d a0 v2 k116) 1 (σ3.bump 5)) (z72 a0 next0 v1 v2)) (
Q v1 (σ3.bump 6))
def z9X (a0:AV) (σ:Mem) (Q:AV->Mem->Prop):Prop:=
zf [.v,tI] (z74 a0 Q) .nils 0 (σ.bump 3)
theorem zet {a0 σ Q} (h:σ.Live->z9X a0 σ Q):z1 PG z6r [a0] σ Q:=
 .of_sem [none,none,none,none,some ([0],[3,4]),none,none,none,none,some ([0,3,4],[5]),some ([0,3,4],[5]),none,none,none,none,some ([0,3,4,5],[6]),none,none,none,some ([0,3,4,7],[5]),none,none,none,some ([0,3,4,7],[5]),none,none,some ([0,3,4,7],[5]),none,none,none,none,none,none] [(4,tI),(5,tI),(24,tI),(28,tI),(40,tI),(44,tI),(6,.b),(50,tI),(56,tI),(71,tI),(84,tI)] mixed (by kernel_rfl) (by kernel_rfl) h
/-! vitrine/vitrineref05.Runs -/
def z5n (next0:AV->Int->Mem->Prop) (v2:Int) (v9:AV) (v10:Int) (σ11:Mem):Prop:=
iW (v2+v10) λv12=>
next0 v9 v12 (σ11.bump 4)
def zev (k13:AV->Int->Mem->Prop) (v21:AV) (v22:Int) (σ23:Mem):Prop:=
k13 v21 v22 σ23
def zf0 (k24:AV->Int->Mem->Prop) (v36:AV) (v37:Int) (σ38:Mem):Prop:=
k24 v36 v37 σ38
def zf1 (k24:AV->Int->Mem->Prop) (v50:AV) (v51:Int) (σ52:Mem):Prop:=
k24 v50 v51 σ52
def zez (k24:AV->Int->Mem->Prop) (v59:AV) (v60:Int) (σ61:Mem):Prop:=
k24 v59 v60 σ61
def zeE (k24:AV->Int->Mem->Prop) (v68:AV) (v69:Int) (σ70:Mem):Prop:=
k24 v68 v69 σ70
def zeD (k13:AV->Int->Mem->Prop) (v77:AV) (v78:Int) (σ79:Mem):Prop:=
k13 v77 v78 σ79
def zfq (k80:AV->Int->Mem->Prop) (v88:AV) (v89:Int) (σ90:Mem):Prop:=
k80 v88 v89 σ90
def zdi (k80:AV->Int->Mem->Prop) (v102:AV) (v103:Int) (σ104:Mem):Prop:=
k80 v102 v103 σ104
def zdd (k80:AV->Int->Mem->Prop) (v111:AV) (v112:Int) (σ113:Mem):Prop:=
k80 v111 v112 σ113
def zdm (k80:AV->Int->Mem->Prop) (v120:AV) (v121:Int) (σ122:Mem):Prop:=
k80 v120 v121 σ122
def zdt (next0:AV->Int->Mem->Prop) (v2:Int) (v129:AV) (v130:Int) (σ131:Mem):Prop:=
iW (v2+v130) λv132=>
next0 v129 v132 (σ131.bump 4)
def zd8 (k133:AV->Int->Mem->Prop) (v136:AV) (v137:Int) (σ138:Mem):Prop:=
k133 v136 v137 σ138
def zdq (k139:AV->Int->Mem->Prop) (v151:AV) (v152:Int) (σ153:Mem):Prop:=
k139 v151 v152 σ153
def zdy (k139:AV->Int->Mem->Prop) (v165:AV) (v166:Int) (σ167:Mem):Prop:=
k139 v165 v166 σ167
def zdr (k139:AV->Int->Mem->Prop) (v174:AV) (v175:Int) (σ176:Mem):Prop:=
k139 v174 v175 σ176
def zdc (k139:AV->Int->Mem->Prop) (v183:AV) (v184:Int) (σ185:Mem):Prop:=
k139 v183 v184 σ185
def zdn (k133:AV->Int->Mem->Prop) (v192:AV) (v193:Int) (σ194:Mem):Prop:=
k133 v192 v193 σ194
def zd9 (k195:AV->Int->Mem->Prop) (v203:AV) (v204:Int) (σ205:Mem):Prop:=
k195 v203 v204 σ205
def zdx (k195:AV->Int->Mem->Prop) (v217:AV) (v218:Int) (σ219:Mem):Prop:=
k195 v217 v218 σ219
def zdj (k195:AV->Int->Mem->Prop) (v226:AV) (v227:Int) (σ228:Mem):Prop:=
k195 v226 v227 σ228
def zdl (k195:AV->Int->Mem->Prop) (v235:AV) (v236:Int) (σ237:Mem):Prop:=
k195 v235 v236 σ237
def z8Q (a0:AV) (next0:AV->Int->Mem->Prop) (v1:AV) (v2:Int) (v5:Int) (σ6:Mem):Prop:=
zd 1 a0 v2 λv7=>
ldI (σ6.bump 10) v7 λv8=>
ifB (decide (v8=0)) (
z9 [.v,tI] (λ(k13:AV->Int->Mem->Prop)=>
ifB (decide (11<=v5)) (
z3r (imin v5 138) λv14=>
iW (v14-11) λv15=>
za (.agg [.int .i64 18,.int .i64 v15]) 2 (
zH (σ6.bump 20) (σ6.next+17) (.rw [.int .i64 18,.int .i64 v15]) λσ16=>
apW 2 16 (σ6.next+18) σ16 v1 (.slice (σ6.next+17) 0 1 (.ex 1)) λv17 σ18=>
k13 v17 v14 σ18)) (
zd 1 a0 v2 λv19=>
ldI (σ6.bump 20) v19 λv20=>
ifB (decide (v20=0)) (
z9 [.v,tI] (λ(k24:AV->Int->Mem->Prop)=>
ifB (decide (3<=v5)) (
iW (v5-3) λv25=>
za (.agg [.int .i64 17,.int .i64 v25]) 2 (
zH (σ6.bump 27) (σ6.next+24) (.rw [.int .i64 17,.int .i64 v25]) λσ26=>
apW 2 16 (σ6.next+25) σ26 v1 (.slice (σ6.next+24) 0 1 (.ex 1)) λv27 σ28=>
k24 v27 v5 σ28)) (
zd 1 a0 v2 λv29=>
ldI (σ6.bump 46) v29 λv30=>
ifB (decide (v30≠0)) (
ifB (decide (0<v2)) (
iW (v2-1) λv31=>
zd 1 a0 v31 λv32=>
ldI (σ6.bump 46) v32 λv33=>
zd 1 a0 v2 λv34=>
ldI (σ6.bump 46) v34 λv35=>
ifB (decide (v33=v35)) (
z9 [.v,tI] (λ(k39:AV->Int->Mem->Prop)=>
ifB (decide (3<=v5)) (
z3r (imin v5 6) λv40=>
iW (v40-3) λv41=>
za (.agg [.int .i64 16,.int .i64 v41]) 2 (
zH (σ6.bump 56) (σ6.next+53) (.rw [.int .i64 16,.int .i64 v41]) λσ42=>
apW 2 16 (σ6.next+54) σ42 v1 (.slice (σ6.next+53) 0 1 (.ex 1)) λv43 σ44=>
k39 v43 v40 σ44)) (
zd 1 a0 v2 λv45=>
ldI (σ6.bump 56) v45 λv46=>
za (.agg [.int .i64 v46,.int .i64 0]) 2 (
zH (σ6.bump 56) (σ6.next+53) (.rw [.int .i64 v46,.int .i64 0]) λσ47=>
apW 2 16 (σ6.next+54) σ47 v1 (.slice (σ6.next+53) 0 1 (.ex 1)) λv48 σ49=>
k39 v48 1 σ49))) (zf0 k24)) (
z9 [.v,tI] (λ(k53:AV->Int->Mem->Prop)=>
zd 1 a0 v2 λv54=>
ldI (σ6.bump 56) v54 λv55=>
za (.agg [.int .i64 v55,.int .i64 0]) 2 (
zH (σ6.bump 56) (σ6.next+53) (.rw [.int .i64 v55,.int .i64 0]) λσ56=>
apW 2 16 (σ6.next+54) σ56 v1 (.slice (σ6.next+53) 0 1 (.ex 1)) λv57 σ58=>
k53 v57 1 σ58)) (zf1 k24))) (
z9 [.v,tI] (λ(k62:AV->Int->Mem->Prop)=>
zd 1 a0 v2 λv63=>
ldI (σ6.bump 56) v63 λv64=>
za (.agg [.int .i64 v64,.int .i64 0]) 2 (
zH (σ6.bump 56) (σ6.next+53) (.rw [.int .i64 v64,.int .i64 0]) λσ65=>
apW 2 16 (σ6.next+54) σ65 v1 (.slice (σ6.next+53) 0 1 (.ex 1)) λv66 σ67=>
k62 v66 1 σ67)) (zez k24))) (
z9 [.v,tI] (λ(k71:AV->Int->Mem->Prop)=>
zd 1 a0 v2 λv72=>
ldI (σ6.bump 56) v72 λv73=>
za (.agg [.int .i64 v73,.int .i64 0]) 2 (
zH (σ6.bump 56) (σ6.next+53) (.rw [.int .i64 v73,.int .i64 0]) λσ74=>
apW 2 16 (σ6.next+54) σ74 v1 (.slice (σ6.next+53) 0 1 (.ex 1)) λv75 σ76=>
k71 v75 1 σ76)) (zeE k24)))) (zev k13)) (
z9 [.v,tI] (λ(k80:AV->Int->Mem->Prop)=>
zd 1 a0 v2 λv81=>
ldI (σ6.bump 46) v81 λv82=>
ifB (decide (v82≠0)) (
ifB (decide (0<v2)) (
iW (v2-1) λv83=>
zd 1 a0 v83 λv84=>
ldI (σ6.bump 46) v84 λv85=>
zd 1 a0 v2 λv86=>
ldI (σ6.bump 46) v86 λv87=>
ifB (decide (v85=v87)) (
z9 [.v,tI] (λ(k91:AV->Int->Mem->Prop)=>
ifB (decide (3<=v5)) (
z3r (imin v5 6) λv92=>
iW (v92-3) λv93=>
za (.agg [.int .i64 16,.int .i64 v93]) 2 (
zH (σ6.bump 56) (σ6.next+53) (.rw [.int .i64 16,.int .i64 v93]) λσ94=>
apW 2 16 (σ6.next+54) σ94 v1 (.slice (σ6.next+53) 0 1 (.ex 1)) λv95 σ96=>
k91 v95 v92 σ96)) (
zd 1 a0 v2 λv97=>
ldI (σ6.bump 56) v97 λv98=>
za (.agg [.int .i64 v98,.int .i64 0]) 2 (
zH (σ6.bump 56) (σ6.next+53) (.rw [.int .i64 v98,.int .i64 0]) λσ99=>
apW 2 16 (σ6.next+54) σ99 v1 (.slice (σ6.next+53) 0 1 (.ex 1)) λv100 σ101=>
k91 v100 1 σ101))) (zfq k80)) (
z9 [.v,tI] (λ(k105:AV->Int->Mem->Prop)=>
zd 1 a0 v2 λv106=>
ldI (σ6.bump 56) v106 λv107=>
za (.agg [.int .i64 v107,.int .i64 0]) 2 (
zH (σ6.bump 56) (σ6.next+53) (.rw [.int .i64 v107,.int .i64 0]) λσ108=>
apW 2 16 (σ6.next+54) σ108 v1 (.slice (σ6.next+53) 0 1 (.ex 1)) λv109 σ110=>
k105 v109 1 σ110)) (zdi k80))) (
z9 [.v,tI] (λ(k114:AV->Int->Mem->Prop)=>
zd 1 a0 v2 λv115=>
ldI (σ6.bump 56) v115 λv116=>
za (.agg [.int .i64 v116,.int .i64 0]) 2 (
zH (σ6.bump 56) (σ6.next+53) (.rw [.int .i64 v116,.int .i64 0]) λσ117=>
apW 2 16 (σ6.next+54) σ117 v1 (.slice (σ6.next+53) 0 1 (.ex 1)) λv118 σ119=>
k114 v118 1 σ119)) (zdd k80))) (
z9 [.v,tI] (λ(k123:AV->Int->Mem->Prop)=>
zd 1 a0 v2 λv124=>
ldI (σ6.bump 56) v124 λv125=>
za (.agg [.int .i64 v125,.int .i64 0]) 2 (
zH (σ6.bump 56) (σ6.next+53) (.rw [.int .i64 v125,.int .i64 0]) λσ126=>
apW 2 16 (σ6.next+54) σ126 v1 (.slice (σ6.next+53) 0 1 (.ex 1)) λv127 σ128=>
k123 v127 1 σ128)) (zdm k80))) (zeD k13)))) (z5n next0 v2)) (
z9 [.v,tI] (λ(k133:AV->Int->Mem->Prop)=>
zd 1 a0 v2 λv134=>
ldI (σ6.bump 20) v134 λv135=>
ifB (decide (v135=0)) (
z9 [.v,tI] (λ(k139:AV->Int->Mem->Prop)=>
ifB (decide (3<=v5)) (
iW (v5-3) λv140=>
za (.agg [.int .i64 17,.int .i64 v140]) 2 (
zH (σ6.bump 27) (σ6.next+24) (.rw [.int .i64 17,.int .i64 v140]) λσ141=>
apW 2 16 (σ6.next+25) σ141 v1 (.slice (σ6.next+24) 0 1 (.ex 1)) λv142 σ143=>
k139 v142 v5 σ143)) (
zd 1 a0 v2 λv144=>
ldI (σ6.bump 46) v144 λv145=>
ifB (decide (v145≠0)) (
ifB (decide (0<v2)) (
iW (v2-1) λv146=>
zd 1 a0 v146 λv147=>
ldI (σ6.bump 46) v147 λv148=>
zd 1 a0 v2 λv149=>
ldI (σ6.bump 46) v149 λv150=>
ifB (decide (v148=v150)) (
z9 [.v,tI] (λ(k154:AV->Int->Mem->Prop)=>
ifB (decide (3<=v5)) (
z3r (imin v5 6) λv155=>
iW (v155-3) λv156=>
za (.agg [.int .i64 16,.int .i64 v156]) 2 (
zH (σ6.bump 56) (σ6.next+53) (.rw [.int .i64 16,.int .i64 v156]) λσ157=>
apW 2 16 (σ6.next+54) σ157 v1 (.slice (σ6.next+53) 0 1 (.ex 1)) λv158 σ159=>
k154 v158 v155 σ159)) (
zd 1 a0 v2 λv160=>
ldI (σ6.bump 56) v160 λv161=>
za (.agg [.int .i64 v161,.int .i64 0]) 2 (
zH (σ6.bump 56) (σ6.next+53) (.rw [.int .i64 v161,.int .i64 0]) λσ162=>
apW 2 16 (σ6.next+54) σ162 v1 (.slice (σ6.next+53) 0 1 (.ex 1)) λv163 σ164=>
k154 v163 1 σ164))) (zdq k139)) (
z9 [.v,tI] (λ(k168:AV->Int->Mem->Prop)=>
zd 1 a0 v2 λv169=>
ldI (σ6.bump 56) v169 λv170=>
za (.agg [.int .i64 v170,.int .i64 0]) 2 (
zH (σ6.bump 56) (σ6.next+53) (.rw [.int .i64 v170,.int .i64 0]) λσ171=>
apW 2 16 (σ6.next+54) σ171 v1 (.slice (σ6.next+53) 0 1 (.ex 1)) λv172 σ173=>
k168 v172 1 σ173)) (zdy k139))) (
z9 [.v,tI] (λ(k177:AV->Int->Mem->Prop)=>
zd 1 a0 v2 λv178=>
ldI (σ6.bump 56) v178 λv179=>
za (.agg [.int .i64 v179,.int .i64 0]) 2 (
zH (σ6.bump 56) (σ6.next+53) (.rw [.int .i64 v179,.int .i64 0]) λσ180=>
apW 2 16 (σ6.next+54) σ180 v1 (.slice (σ6.next+53) 0 1 (.ex 1)) λv181 σ182=>
k177 v181 1 σ182)) (zdr k139))) (
z9 [.v,tI] (λ(k186:AV->Int->Mem->Prop)=>
zd 1 a0 v2 λv187=>
ldI (σ6.bump 56) v187 λv188=>
za (.agg [.int .i64 v188,.int .i64 0]) 2 (
zH (σ6.bump 56) (σ6.next+53) (.rw [.int .i64 v188,.int .i64 0]) λσ189=>
apW 2 16 (σ6.next+54) σ189 v1 (.slice (σ6.next+53) 0 1 (.ex 1)) λv190 σ191=>
k186 v190 1 σ191)) (zdc k139)))) (zd8 k133)) (
z9 [.v,tI] (λ(k195:AV->Int->Mem->Prop)=>
zd 1 a0 v2 λv196=>
ldI (σ6.bump 46) v196 λv197=>
ifB (decide (v197≠0)) (
ifB (decide (0<v2)) (
iW (v2-1) λv198=>
zd 1 a0 v198 λv199=>
ldI (σ6.bump 46) v199 λv200=>
zd 1 a0 v2 λv201=>
ldI (σ6.bump 46) v201 λv202=>
ifB (decide (v200=v202)) (
z9 [.v,tI] (λ(k206:AV->Int->Mem->Prop)=>
ifB (decide (3<=v5)) (
z3r (imin v5 6) λv207=>
iW (v207-3) λv208=>
za (.agg [.int .i64 16,.int .i64 v208]) 2 (
zH (σ6.bump 56) (σ6.next+53) (.rw [.int .i64 16,.int .i64 v208]) λσ209=>
apW 2 16 (σ6.next+54) σ209 v1 (.slice (σ6.next+53) 0 1 (.ex 1)) λv210 σ211=>
k206 v210 v207 σ211)) (
zd 1 a0 v2 λv212=>
ldI (σ6.bump 56) v212 λv213=>
za (.agg [.int .i64 v213,.int .i64 0]) 2 (
zH (σ6.bump 56) (σ6.next+53) (.rw [.int .i64 v213,.int .i64 0]) λσ214=>
apW 2 16 (σ6.next+54) σ214 v1 (.slice (σ6.next+53) 0 1 (.ex 1)) λv215 σ216=>
k206 v215 1 σ216))) (zd9 k195)) (
z9 [.v,tI] (λ(k220:AV->Int->Mem->Prop)=>
zd 1 a0 v2 λv221=>
ldI (σ6.bump 56) v221 λv222=>
za (.agg [.int .i64 v222,.int .i64 0]) 2 (
zH (σ6.bump 56) (σ6.next+53) (.rw [.int .i64 v222,.int .i64 0]) λσ223=>
apW 2 16 (σ6.next+54) σ223 v1 (.slice (σ6.next+53) 0 1 (.ex 1)) λv224 σ225=>
k220 v224 1 σ225)) (zdx k195))) (
z9 [.v,tI] (λ(k229:AV->Int->Mem->Prop)=>
zd 1 a0 v2 λv230=>
ldI (σ6.bump 56) v230 λv231=>
za (.agg [.int .i64 v231,.int .i64 0]) 2 (
zH (σ6.bump 56) (σ6.next+53) (.rw [.int .i64 v231,.int .i64 0]) λσ232=>
apW 2 16 (σ6.next+54) σ232 v1 (.slice (σ6.next+53) 0 1 (.ex 1)) λv233 σ234=>
k229 v233 1 σ234)) (zdj k195))) (
z9 [.v,tI] (λ(k238:AV->Int->Mem->Prop)=>
zd 1 a0 v2 λv239=>
ldI (σ6.bump 56) v239 λv240=>
za (.agg [.int .i64 v240,.int .i64 0]) 2 (
zH (σ6.bump 56) (σ6.next+53) (.rw [.int .i64 v240,.int .i64 0]) λσ241=>
apW 2 16 (σ6.next+54) σ241 v1 (.slice (σ6.next+53) 0 1 (.ex 1)) λv242 σ243=>
k238 v242 1 σ243)) (zdl k195))) (zdn k133))) (zdt next0 v2))
def z91 (a0:AV) (v2:Int) (k244:Int->Mem->Prop) (next245:Int->Mem->Prop) (v246:Int) (σ247:Mem):Prop:=
iW (v2+v246) λv248=>
zn a0 λv249=>
ifB (decide (v248<v249)) (
iW (v2+v246) λv250=>
zd 1 a0 v250 λv251=>
ldI (σ247.bump 19) v251 λv252=>
zd 1 a0 v2 λv253=>
ldI (σ247.bump 19) v253 λv254=>
ifB (decide (v252=v254)) (
iW (v246+1) λv255=>
next245 v255 (σ247.bump 22)) (
k244 v246 (σ247.bump 19))) (
k244 v246 (σ247.bump 19))
def z9a (a0:AV) (Q:AV->Mem->Prop) (next0:AV->Int->Mem->Prop) (v1:AV) (v2:Int) (σ3:Mem):Prop:=
zn a0 λv4=>
ifB (decide (v2<v4)) (
z9 [tI] (λ(k244:Int->Mem->Prop)=>
zf [tI] (z91 a0 v2 k244) 1 (σ3.bump 5)) (z8Q a0 next0 v1 v2)) (
Q v1 (σ3.bump 6))
def zcW (a0:AV) (σ:Mem) (Q:AV->Mem->Prop):Prop:=
zf [.v,tI] (z9a a0 Q) .nils 0 (σ.bump 3)
theorem zhr {a0 σ Q} (h:σ.Live->zcW a0 σ Q):z1 PG z8m [a0] σ Q:=
 .of_sem [none,none,none,none,some ([0],[3,4]),none,none,none,none,some ([0,3,4],[5]),some ([0,3,4],[5]),none,none,none,none,none,none,some ([0,4],[3,5]),none,none,none,some ([0,4],[3,5]),none,none,some ([0,4],[3,5]),none,none,none,none,none,none] [(4,tI),(5,tI),(22,tI),(26,tI),(43,tI),(61,tI),(77,tI),(88,tI),(92,tI),(35,tI)] mixed (by kernel_rfl) (by kernel_rfl) h
/-! vitrine/deflate.Stored -/
def z5M (v0:AV) (next2:ByteArray->Bool->Mem->Prop) (v3:ByteArray) (v6:Int) (v7:Int) (σ8:Mem):Prop:=
z6 PG zg [v0,.int .i64 v7,.int .i64 3] (σ8.bump 3) λv9 σ10=>
wrW .u8 v6 λv11=>
z3r (v6 / 256) λv12=>
wrW .u8 v12 λv13=>
z3r (zF .xor .i64 (-1) v6) λv14=>
wrW .u8 v14 λv15=>
z3r (zF .xor .i64 (-1) v6) λv16=>
z3r (v16 / 256) λv17=>
wrW .u8 v17 λv18=>
zH (σ10.bump 16) (σ10.next+13) (.rw [.int .u8 v11,.int .u8 v13,.int .u8 v15,.int .u8 v18]) λσ19=>
zds σ19 (.slice (σ10.next+13) 0 4 (.ex 4)) λv20=>
z6 PG z1L [v0,.str v20] σ19 λv21 σ22=>
zkD v3 0 v6 λv23=>
z6 PG z1L [v0,.str v23] (σ22.bump 5) λv24 σ25=>
zkD v3 v6 v3.size λv26=>
next2 v26 (decide (v6<(v3.size:Int))) (σ25.bump 4)
def z5J (Q:AV->Mem->Prop) (v0:AV) (next2:ByteArray->Bool->Mem->Prop) (v3:ByteArray) (v4:Bool) (σ5:Mem):Prop:=
ifB v4 (
z3r (imin (v3.size:Int) 65535) λv6=>
z9 [tI] (λ(k27:Int->Mem->Prop)=>
ifB (decide (v6<(v3.size:Int))) (
k27 0 (σ5.bump 13)) (
k27 1 (σ5.bump 12))) (z5M v0 next2 v3 v6)) (
z6 PG z1c [v0] (σ5.bump 4) λv28 σ29=>
z3i v28 λv30=>
Q (.str v30) σ29)
def z7W (a0:ByteArray) (σ:Mem) (Q:AV->Mem->Prop):Prop:=
z6 PG z71 [] (σ.bump 3) λv0 σ1=>
zf [.s,.b] (z5J Q v0) a0 true (σ1.bump 1)
theorem zc4 {a0 σ Q} (h:σ.Live->z7W a0 σ Q):z1 PG z4D [.str a0] σ Q:=
 .of_sem [none,none,none,none,some ([3],[0,4]),none,none,none,none,none,none,none,some ([0,3,4,5],[6]),none,none,none,none,none,none] [(0,.s),(4,.b),(6,tI),(45,.s)] mixed (by kernel_rfl) (by kernel_rfl) h
/-! vitrine/vitrineref05.Stored -/
def z6I (Q:AV->Mem->Prop) (σ:Mem) (next1:ByteArray->Mem->Prop) (v2:ByteArray) (v4:Int) (v5:Int) (σ6:Mem):Prop:=
z6 PG z7 [.ptr (σ.next+2) 0,.int .i64 v5,.int .i64 1] (σ6.bump 3) λv7 σ8=>
z6 PG z7 [.ptr (σ.next+2) 0,.int .i64 0,.int .i64 2] (σ8.bump 2) λv9 σ10=>
wrW .u8 v4 λv11=>
zjO .i64 v4 256 λv12=>
wrW .u8 v12 λv13=>
zl3 v4 256 λv14=>
iW (255-v14) λv15=>
wrW .u8 v15 λv16=>
zjO .i64 v4 256 λv17=>
iW (255-v17) λv18=>
wrW .u8 v18 λv19=>
zH (σ10.bump 21) (σ10.next+14) (.rw [.int .u8 v11,.int .u8 v13,.int .u8 v16,.int .u8 v19]) λσ20=>
zds σ20 (.slice (σ10.next+14) 0 4 (.ex 4)) λv21=>
zkD v2 0 v4 λv22=>
zqe v21 v22 λv23=>
z6 PG z2N [.ptr (σ.next+2) 0,.str v23] σ20 λv24 σ25=>
zkD v2 v4 v2.size λv26=>
ifB (decide (v5=1)) (
z6 PG z15 [.ptr (σ.next+2) 0] (σ25.bump 9) λv27 σ28=>
z3i v27 λv29=>
Q (.str v29) σ28) (
next1 v26 (σ25.bump 6))
def z70 (Q:AV->Mem->Prop) (σ:Mem) (next1:ByteArray->Mem->Prop) (v2:ByteArray) (σ3:Mem):Prop:=
z3r (imin (v2.size:Int) 65535) λv4=>
z9 [tI] (λ(k30:Int->Mem->Prop)=>
ifB (decide (v4=(v2.size:Int))) (
k30 1 (σ3.bump 10)) (
k30 0 (σ3.bump 9))) (z6I Q σ next1 v2 v4)
def z9P (a0:ByteArray) (σ:Mem) (Q:AV->Mem->Prop):Prop:=
zge (.agg [.nils,.int .i64 0]) (
zH (σ.bump 4) (σ.next+2) (.rw [.nils,.int .i64 0]) λσ0=>
zf [.s] (z70 Q σ) a0 σ0)
theorem zf3 {a0 σ Q} (h:σ.Live->z9P a0 σ Q):z1 PG z6z [.str a0] σ Q:=
 .of_sem [none,none,none,some ([3],[0]),none,none,none,none,some ([0,3,4],[5]),none,none,none,none,none,none,none,none] [(0,.s),(5,tI),(47,.s)] mixed (by kernel_rfl) (by kernel_rfl) h
/-! vitrine/deflate.Fixed -/
def z8D (a0:ByteArray) (σ:Mem) (Q:AV->Mem->Prop):Prop:=
zH (σ.bump 12) (σ.next+1) (.rw [.int .i64 8]) λσ0=>
z6 PG zm [.slice (σ.next+1) 0 1 (.ex 1),.int .i64 144] σ0 λv1 σ2=>
zH σ2 (σ.next+3) (.rw [.int .i64 9]) λσ3=>
z6 PG zm [.slice (σ.next+3) 0 1 (.ex 1),.int .i64 112] σ3 λv4 σ5=>
zH σ5 (σ.next+5) (.rw [.int .i64 7]) λσ6=>
z6 PG zm [.slice (σ.next+5) 0 1 (.ex 1),.int .i64 24] σ6 λv7 σ8=>
zH σ8 (σ.next+7) (.rw [.int .i64 8]) λσ9=>
z6 PG zm [.slice (σ.next+7) 0 1 (.ex 1),.int .i64 8] σ9 λv10 σ11=>
za v1 1 (
za v4 1 (
za v7 1 (
za v10 1 (
zH σ11 (σ.next+9) (.rw (setAt (setAt (setAt (setAt [.nils,.nils,.nils,.nils] 0 v1.cells) 1 v4.cells) 2 v7.cells) 3 v10.cells)) λσ12=>
z6 PG z0e [.slice (σ.next+9) 0 4 (.ex 4)] σ12 λv13 σ14=>
z6 PG z1h [v13] (σ14.bump 7) λv15 σ16=>
z5b v15 0 λv17=>
tpI v15 1 λv18=>
zH (σ16.bump 8) σ16.next (.rw [.int .i64 5]) λσ19=>
z6 PG zm [.slice σ16.next 0 1 (.ex 1),.int .i64 32] σ19 λv20 σ21=>
z6 PG z1h [v20] σ21 λv22 σ23=>
z5b v22 0 λv24=>
tpI v22 1 λv25=>
z6 PG z71 [] (σ23.bump 2) λv26 σ27=>
z6 PG zg [v26,.int .i64 3,.int .i64 3] (σ27.bump 2) λv28 σ29=>
z6 PG z7n [.str a0] (σ29.bump 6) λv30 σ31=>
z6 PG z2z [v26,v30,v17,v24] σ31 λv32 σ33=>
z6 PG z1c [v26] (σ33.bump 3) λv34 σ35=>
z3i v34 λv36=>
Q (.str v36) σ35))))
theorem zdf {a0 σ Q} (h:σ.Live->z8D a0 σ Q):z1 PG z5G [.str a0] σ Q:=
 .of_sem [none,none,none,none,none,none,none,none] [(23,tI),(29,tI),(40,.s)] mixed (by kernel_rfl) (by kernel_rfl) h
/-! vitrine/vitrineref05.Fixed -/
def zb1 (a0:ByteArray) (σ:Mem) (Q:AV->Mem->Prop):Prop:=
zge (.agg [.nils,.int .i64 0]) (
zH (σ.bump 4) (σ.next+2) (.rw [.nils,.int .i64 0]) λσ0=>
z6 PG z7 [.ptr (σ.next+2) 0,.int .i64 1,.int .i64 1] (σ0.bump 2) λv1 σ2=>
z6 PG z7 [.ptr (σ.next+2) 0,.int .i64 1,.int .i64 2] (σ2.bump 2) λv3 σ4=>
z6 PG z7e [] (σ4.bump 6) λv5 σ6=>
z5b v5 0 λv7=>
z5b v5 1 λv8=>
z6 PG z2x [v7] (σ6.bump 7) λv9 σ10=>
z5b v9 0 λv11=>
tpI v9 1 λv12=>
z6 PG z2x [v8] (σ10.bump 7) λv13 σ14=>
z5b v13 0 λv15=>
tpI v13 1 λv16=>
z6 PG z4h [.str a0] (σ14.bump 6) λv17 σ18=>
z6 PG z7s [.ptr (σ.next+2) 0,v17,v11,v15] σ18 λv19 σ20=>
z6 PG z15 [.ptr (σ.next+2) 0] (σ20.bump 3) λv21 σ22=>
z3i v21 λv23=>
Q (.str v23) σ22)
theorem zfN {a0 σ Q} (h:σ.Live->zb1 a0 σ Q):z1 PG z7f [.str a0] σ Q:=
 .of_sem [none,none,none,none,none,none,none,none,none] [(24,tI),(29,tI),(37,.s)] mixed (by kernel_rfl) (by kernel_rfl) h
/-! vitrine/deflate.Deflate -/
def z2O (next11:ByteArray->Int->Mem->Prop) (v13:Int) (v17:ByteArray) (σ18:Mem):Prop:=
iW (v13+1) λv19=>
next11 v17 v19 (σ18.bump 2)
def z4U (Q:AV->Mem->Prop) (σ1:Mem) (v10:Int) (next11:ByteArray->Int->Mem->Prop) (v12:ByteArray) (v13:Int) (σ14:Mem):Prop:=
ifB (decide (v13<v10)) (
zd 1 (.slice (σ1.next+4) 0 2 (.ex 2)) v13 λv15=>
ldS (σ14.bump 4) v15 λv16=>
z9 [.s] (λ(k20:ByteArray->Mem->Prop)=>
ifB (decide ((v16.size:Int)<(v12.size:Int))) (
k20 v16 (σ14.bump 11)) (
k20 v12 (σ14.bump 9))) (z2O next11 v13)) (
Q (.str v12) (σ14.bump 3))
def z6U (a0:ByteArray) (σ:Mem) (Q:AV->Mem->Prop):Prop:=
z6 PG z4D [.str a0] (σ.bump 4) λv0 σ1=>
z3i v0 λv2=>
z6 PG z5G [.str a0] (σ1.bump 7) λv3 σ4=>
z3i v3 λv5=>
z6 PG z49 [.str a0] σ4 λv6 σ7=>
z3i v6 λv8=>
zH σ7 (σ1.next+4) (.rw [.str v5,.str v8]) λσ9=>
zn (.slice (σ1.next+4) 0 2 (.ex 2)) λv10=>
zf [.s,tI] (z4U Q σ1 v10) v2 0 σ9
theorem zb5 {a0 σ Q} (h:σ.Live->z6U a0 σ Q):z1 PG z4f [.str a0] σ Q:=
 .of_sem [none,none,none,none,some ([12,13],[3,14]),none,none,none,none,none,some ([12,13,14],[3]),none,none,none] [(7,.s),(3,.s),(9,.s),(11,.s),(14,tI),(17,.s)] mixed (by kernel_rfl) (by kernel_rfl) h
/-! vitrine/bits.New -/
def zfW (σ:Mem) (Q:AV->Mem->Prop):Prop:=
zge (.agg [.nils,.int .i64 0,.int .i64 0]) (
zH (σ.bump 4) (σ.next+2) (.rw [.nils,.int .i64 0,.int .i64 0]) λσ0=>
Q (.ptr (σ.next+2) 0) σ0)
theorem zjA {σ Q} (h:σ.Live->zfW σ Q):z1 PG z71 [] σ Q:=
 .of_sem [none,none] [] mixed (by kernel_rfl) (by kernel_rfl) h
/-! (*vitrine/bits.Writer).Bits -/
def z4o (a0:AV) (Q:AV->Mem->Prop) (next14:Mem->Prop) (σ15:Mem):Prop:=
lfI 2 (σ15.bump 5) a0 λv16=>
ifB (decide (8<=v16)) (
lfW 0 (σ15.bump 20) a0 λv17=>
lfI 1 (σ15.bump 20) a0 λv18=>
wrW .u8 v18 λv19=>
zH (σ15.bump 20) (σ15.next+15) (.rw [.int .u8 v19]) λσ20=>
apW 1 1 (σ15.next+16) σ20 v17 (.slice (σ15.next+15) 0 1 (.ex 1)) λv21 σ22=>
nfW 0 a0 λv23=>
stW 1 σ22 v23 v21 λσ24=>
lfI 1 (σ24.bump 8) a0 λv25=>
z3r (v25 / 256) λv26=>
nfW 1 a0 λv27=>
stW 1 (σ24.bump 8) v27 (.int .i64 v26) λσ28=>
lfI 2 (σ28.bump 8) a0 λv29=>
iW (v29-8) λv30=>
nfW 2 a0 λv31=>
stW 1 (σ28.bump 8) v31 (.int .i64 v30) λσ32=>
next14 σ32) (
Q (.tup []) (σ15.bump 5))
def z6a (a0:AV) (a1:Int) (a2:Int) (σ:Mem) (Q:AV->Mem->Prop):Prop:=
eqW .ptr a0 .nilp λv0=>
ifB v0 (
Q (.tup []) (σ.bump 10)) (
ifB (decide (a2<0)) (
Q (.tup []) (σ.bump 10)) (
ifB (decide (24<a2)) (
Q (.tup []) (σ.bump 10)) (
lfI 1 (σ.bump 28) a0 λv1=>
zh8 .i64 1 a2 λv2=>
iW (v2-1) λv3=>
z3r (zF .and .i64 a1 v3) λv4=>
lfI 2 (σ.bump 28) a0 λv5=>
zh8 .i64 v4 v5 λv6=>
z3r (zF .or .i64 v1 v6) λv7=>
nfW 1 a0 λv8=>
stW 1 (σ.bump 28) v8 (.int .i64 v7) λσ9=>
lfI 2 (σ9.bump 9) a0 λv10=>
iW (v10+a2) λv11=>
nfW 2 a0 λv12=>
stW 1 (σ9.bump 9) v12 (.int .i64 v11) λσ13=>
zf [] (z4o a0 Q) σ13)))
theorem zat {a0 a1 a2 σ Q} (h:σ.Live->z6a a0 a1 a2 σ Q):z1 PG zg [a0,.int .i64 a1,.int .i64 a2] σ Q:=
 .of_sem [none,none,none,none,none,some ([0],[]),none,none,none,none,none,none] [(19,tI),(28,tI),(36,tI),(44,tI),(61,tI),(70,tI),(49,tI)] mixed (by kernel_rfl) (by kernel_rfl) h
/-! (*vitrine/bits.Writer).Bytes -/
def z5R (a0:AV) (a1:ByteArray) (σ:Mem) (Q:AV->Mem->Prop):Prop:=
eqW .ptr a0 .nilp λv0=>
ifB v0 (
Q (.tup []) (σ.bump 2)) (
lfI 2 (σ.bump 10) a0 λv1=>
iW (8-v1) λv2=>
zl3 v2 8 λv3=>
z6 PG zg [a0,.int .i64 0,.int .i64 v3] (σ.bump 10) λv4 σ5=>
lfW 0 (σ5.bump 10) a0 λv6=>
apW 1 1 (σ5.next+6) (σ5.bump 10) v6 (.str a1) λv7 σ8=>
nfW 0 a0 λv9=>
stW 1 σ8 v9 v7 λσ10=>
Q (.tup []) σ10)
theorem z9v {a0 a1 σ Q} (h:σ.Live->z5R a0 a1 σ Q):z1 PG z1L [a0,.str a1] σ Q:=
 .of_sem [none,none,none,none] [(10,tI)] mixed (by kernel_rfl) (by kernel_rfl) h
/-! (*vitrine/bits.Writer).Text -/
def z8F (Q:AV->Mem->Prop) (v4:ByteArray) (σ5:Mem):Prop:=
Q (.str v4) (σ5.bump 2)
def z6m (a0:AV) (σ:Mem) (Q:AV->Mem->Prop):Prop:=
eqW .ptr a0 .nilp λv0=>
ifB v0 (
Q (.str ⟨#[]⟩) (σ.bump 4)) (
lfW 0 (σ.bump 9) a0 λv1=>
zds (σ.bump 9) v1 λv2=>
lfI 2 (σ.bump 14) a0 λv3=>
z9 [.s] (λ(k6:ByteArray->Mem->Prop)=>
ifB (decide (0<v3)) (
lfI 1 (σ.bump 24) a0 λv7=>
wrW .u8 v7 λv8=>
zH (σ.bump 24) (σ.next+20) (.rw [.int .u8 v8]) λσ9=>
zds σ9 (.slice (σ.next+20) 0 1 (.ex 1)) λv10=>
zqe v2 v10 λv11=>
k6 v11 σ9) (
k6 v2 (σ.bump 14))) (z8F Q))
theorem zay {a0 σ Q} (h:σ.Live->z6m a0 σ Q):z1 PG z1c [a0] σ Q:=
 .of_sem [none,none,none,none,none,none,some ([],[3]),none,none] [(3,.s),(14,tI),(20,tI)] mixed (by kernel_rfl) (by kernel_rfl) h
/-! (*vitrine/vitrineref01.Writer).Bits -/
def z3X (a0:AV) (a1:Int) (next0:Int->Mem->Prop) (v1:Int) (σ5:Mem):Prop:=
lfW 0 (σ5.bump 34) a0 λv6=>
lfI 1 (σ5.bump 34) a0 λv7=>
zjO .i64 v7 8 λv8=>
lfW 0 (σ5.bump 34) a0 λv9=>
lfI 1 (σ5.bump 34) a0 λv10=>
zjO .i64 v10 8 λv11=>
zd 1 v9 v11 λv12=>
ldU (σ5.bump 34) v12 λv13=>
zmX .i64 a1 v1 λv14=>
z3r (zF .and .i64 v14 1) λv15=>
wrW .u8 v15 λv16=>
lfI 1 (σ5.bump 34) a0 λv17=>
zl3 v17 8 λv18=>
zh8 .u8 v16 v18 λv19=>
z3r (zF .or .u8 v13 v19) λv20=>
zd 1 v6 v8 λv21=>
stW 1 (σ5.bump 34) v21 (.int .u8 v20) λσ22=>
lfI 1 (σ22.bump 9) a0 λv23=>
iW (v23+1) λv24=>
nfW 1 a0 λv25=>
stW 1 (σ22.bump 9) v25 (.int .i64 v24) λσ26=>
iW (v1+1) λv27=>
next0 v27 (σ26.bump 3)
def z3Z (a0:AV) (a1:Int) (a2:Int) (Q:AV->Mem->Prop) (next0:Int->Mem->Prop) (v1:Int) (σ2:Mem):Prop:=
ifB (decide (v1<a2)) (
lfI 1 (σ2.bump 9) a0 λv3=>
zl3 v3 8 λv4=>
z9 [] (λ(k28:Mem->Prop)=>
ifB (decide (v4=0)) (
lfW 0 (σ2.bump 19) a0 λv29=>
zH (σ2.bump 19) (σ2.next+14) (.rw [.int .u8 0]) λσ30=>
apW 1 1 (σ2.next+15) σ30 v29 (.slice (σ2.next+14) 0 1 (.ex 1)) λv31 σ32=>
nfW 0 a0 λv33=>
stW 1 σ32 v33 v31 λσ34=>
k28 σ34) (
k28 (σ2.bump 9))) (z3X a0 a1 next0 v1)) (
Q (.tup []) (σ2.bump 3))
def z5f (a0:AV) (a1:Int) (a2:Int) (σ:Mem) (Q:AV->Mem->Prop):Prop:=
ifB (decide (a2<0)) (
Q (.tup []) (σ.bump 6)) (
ifB (decide (24<a2)) (
Q (.tup []) (σ.bump 6)) (
zf [tI] (z3Z a0 a1 a2 Q) 0 (σ.bump 7)))
theorem z9w {a0 a1 a2 σ Q} (h:σ.Live->z5f a0 a1 a2 σ Q):z1 PG z7 [a0,.int .i64 a1,.int .i64 a2] σ Q:=
 .of_sem [none,none,none,none,some ([0,1,2],[6]),none,none,none,none,some ([0,1,2,6],[]),none,none,none,none] [(6,tI),(21,tI),(40,tI),(49,tI),(52,tU),(61,tI),(70,tI)] mixed (by kernel_rfl) (by kernel_rfl) h
/-! (*vitrine/vitrineref01.Writer).Bytes -/
def z4W (a0:AV) (a1:ByteArray) (σ:Mem) (Q:AV->Mem->Prop):Prop:=
lfW 0 (σ.bump 10) a0 λv0=>
apW 1 1 (σ.next+6) (σ.bump 10) v0 (.str a1) λv1 σ2=>
nfW 0 a0 λv3=>
stW 1 σ2 v3 v1 λσ4=>
lfW 0 (σ4.bump 10) a0 λv5=>
zn v5 λv6=>
iW (8*v6) λv7=>
nfW 1 a0 λv8=>
stW 1 (σ4.bump 10) v8 (.int .i64 v7) λσ9=>
Q (.tup []) σ9
theorem z93 {a0 a1 σ Q} (h:σ.Live->z4W a0 a1 σ Q):z1 PG z2N [a0,.str a1] σ Q:=
 .of_sem [none,none] [] mixed (by kernel_rfl) (by kernel_rfl) h
/-! (*vitrine/vitrineref01.Writer).Text -/
def z5U (a0:AV) (σ:Mem) (Q:AV->Mem->Prop):Prop:=
lfW 0 (σ.bump 7) a0 λv0=>
zds (σ.bump 7) v0 λv1=>
Q (.str v1) (σ.bump 7)
theorem z9t {a0 σ Q} (h:σ.Live->z5U a0 σ Q):z1 PG z15 [a0] σ Q:=
 .of_sem [none,none] [] mixed (by kernel_rfl) (by kernel_rfl) h
/-! slices.Concat[[]int,int] -/
def z1S (next1:Int->Int->Mem->Prop) (v3:Int) (v8:Int) (σ9:Mem):Prop:=
iW (v3+1) λv10=>
next1 v8 v10 (σ9.bump 2)
def z1P (a0:AV) (Q:AV->Mem->Prop) (v14:Int) (next15:AV->Int->Mem->Prop) (v16:AV) (v17:Int) (σ18:Mem):Prop:=
ifB (decide (v17<v14)) (
zd 1 a0 v17 λv19=>
ldW (σ18.bump 4) v19 λv20=>
apW 1 8 (σ18.next+6) (σ18.bump 8) v16 v20 λv21 σ22=>
iW (v17+1) λv23=>
next15 v21 v23 (σ22.bump 2)) (
Q v16 (σ18.bump 3))
def z1Q (a0:AV) (Q:AV->Mem->Prop) (v0:Int) (next1:Int->Int->Mem->Prop) (v2:Int) (v3:Int) (σ4:Mem):Prop:=
ifB (decide (v3<v0)) (
zd 1 a0 v3 λv5=>
ldW (σ4.bump 4) v5 λv6=>
zn v6 λv7=>
iW (v2+v7) λv8=>
z9 [] (λ(k11:Mem->Prop)=>
ifB (decide (v8<0)) (
False) (
k11 (σ4.bump 11))) (z1S next1 v3 v8)) (
z6 PG z1B [.nils,.int .i64 v2] (σ4.bump 4) λv12 σ13=>
zn a0 λv14=>
zf [.v,tI] (z1P a0 Q v14) v12 0 (σ13.bump 3))
def z2F (a0:AV) (σ:Mem) (Q:AV->Mem->Prop):Prop:=
zn a0 λv0=>
zf [tI,tI] (z1Q a0 Q v0) 0 0 (σ.bump 5)
theorem z5K {a0 σ Q} (h:σ.Live->z2F a0 σ Q):z1 PG z0e [a0] σ Q:=
 .of_sem [none,none,none,none,some ([0,9,10],[3,11]),none,none,none,none,none,none,some ([0,3,9,10,11],[]),none,none,none,none,none,some ([25,26],[6,27]),none,none,none,none,none,none,none] [(3,tI),(11,tI),(27,tI)] mixed (by kernel_rfl) (by kernel_rfl) h
/-! slices.Repeat[[]int,int] -/
def z4B (Q:AV->Mem->Prop) (σ8:Mem) (v9:Int) (next13:Int->Mem->Prop) (v14:Int) (σ15:Mem):Prop:=
zn (.slice (σ8.next+2) 0 (Int.toNat v9) (.ex (Int.toNat v9))) λv16=>
ifB (decide (v14<v16)) (
zbQ 1 (.slice (σ8.next+2) 0 (Int.toNat v9) (.ex (Int.toNat v9))) (some v14) none λv17=>
zbQ 1 (.slice (σ8.next+2) 0 (Int.toNat v9) (.ex (Int.toNat v9))) none (some v14) λv18=>
cpW 1 (σ15.bump 14) v17 v18 λv19 σ20=>
iW (v14+v19) λv21=>
next13 v21 σ20) (
Q (.slice (σ8.next+2) 0 (Int.toNat v9) (.ex (Int.toNat v9))) (σ15.bump 6))
def z4C (a0:AV) (Q:AV->Mem->Prop) (v7:Int) (σ8:Mem):Prop:=
iW v7 λv9=>
zai 8 v9 v9 (
zH (σ8.bump 4) (σ8.next+2) (.rw (repl (Int.toNat v9) [.int .i64 0])) λσ10=>
cpW 1 (σ10.bump 4) (.slice (σ8.next+2) 0 (Int.toNat v9) (.ex (Int.toNat v9))) a0 λv11 σ12=>
zf [tI] (z4B Q σ8 v9) v11 σ12)
def z1U (Q:AV->Mem->Prop) (σ23:Mem) (v24:Int) (next28:Int->Mem->Prop) (v29:Int) (σ30:Mem):Prop:=
zn (.slice (σ23.next+2) 0 (Int.toNat v24) (.ex (Int.toNat v24))) λv31=>
ifB (decide (v29<v31)) (
zbQ 1 (.slice (σ23.next+2) 0 (Int.toNat v24) (.ex (Int.toNat v24))) (some v29) none λv32=>
zbQ 1 (.slice (σ23.next+2) 0 (Int.toNat v24) (.ex (Int.toNat v24))) none (some v29) λv33=>
cpW 1 (σ30.bump 14) v32 v33 λv34 σ35=>
iW (v29+v34) λv36=>
next28 v36 σ35) (
Q (.slice (σ23.next+2) 0 (Int.toNat v24) (.ex (Int.toNat v24))) (σ30.bump 6))
def z1V (a0:AV) (Q:AV->Mem->Prop) (v7:Int) (σ23:Mem):Prop:=
iW v7 λv24=>
zai 8 v24 v24 (
zH (σ23.bump 4) (σ23.next+2) (.rw (repl (Int.toNat v24) [.int .i64 0])) λσ25=>
cpW 1 (σ25.bump 4) (.slice (σ23.next+2) 0 (Int.toNat v24) (.ex (Int.toNat v24))) a0 λv26 σ27=>
zf [tI] (z1U Q σ23 v24) v26 σ27)
def z1R (a0:AV) (a1:Int) (Q:AV->Mem->Prop) (σ0:Mem):Prop:=
zn a0 λv1=>
wrW .u64 v1 λv2=>
wrW .u64 a1 λv3=>
z6 PG z5q [.int .u64 v2,.int .u64 v3] (σ0.bump 11) λv4 σ5=>
z5b v4 0 λa=>zB .u64 a λv6=>
z5b v4 1 λa=>zB .u64 a λv7=>
ifB (decide (0<v6)) (
z9 [] (λ(k22:Mem->Prop)=>
False) (z4C a0 Q v7)) (
z9 [] (λ(k37:Mem->Prop)=>
ifB (decide (9223372036854775807<v7)) (
False) (
k37 (σ5.bump 6))) (z1V a0 Q v7))
def z2E (a0:AV) (a1:Int) (σ:Mem) (Q:AV->Mem->Prop):Prop:=
z9 [] (λ(k38:Mem->Prop)=>
ifB (decide (a1<0)) (
False) (
k38 (σ.bump 3))) (z1R a0 a1 Q)
theorem z5u {a0 a1 σ Q} (h:σ.Live->z2E a0 a1 σ Q):z1 PG zm [a0,.int .i64 a1] σ Q:=
 .of_sem [none,none,some ([0,1],[]),none,none,none,some ([0,6],[]),none,none,none,none,some ([7],[8]),none,none,none,none,none] [(19,(.i .u64)),(20,(.i .u64)),(8,tI)] mixed (by kernel_rfl) (by kernel_rfl) h
/-! vitrine/huff.Make -/
def z9I (next15:Int->Mem->Prop) (v16:Int) (σ20:Mem):Prop:=
iW (v16+1) λv21=>
next15 v21 (σ20.bump 2)
def z9S (Q:AV->Mem->Prop) (σ3:Mem) (σ34:Mem):Prop:=
Q (.tup [.ptr (σ3.next+8) 0,.int .i64 0]) (σ34.bump 3)
def z9V (Q:AV->Mem->Prop) (σ:Mem) (σ3:Mem) (v13:AV) (v14:Int) (next15:Int->Mem->Prop) (v16:Int) (σ17:Mem):Prop:=
ifB (decide (v16<v14)) (
zd 1 v13 v16 λv18=>
ldI (σ17.bump 6) v18 λv19=>
z9 [] (λ(k22:Mem->Prop)=>
ifB (decide (0<v19)) (
lfW 18 (σ17.bump 19) (.ptr (σ3.next+8) 0) λv23=>
zH (σ17.bump 19) (σ17.next+14) (.rw [.int .i64 v16]) λσ24=>
apW 1 8 (σ17.next+15) σ24 v23 (.slice (σ17.next+14) 0 1 (.ex 1)) λv25 σ26=>
nfW 18 (.ptr (σ3.next+8) 0) λv27=>
stW 1 σ26 v27 v25 λσ28=>
k22 σ28) (
k22 (σ17.bump 8))) (z9I next15 v16)) (
lfW 18 (σ17.bump 7) (.ptr (σ3.next+8) 0) λv29=>
z6 PG zt [v29,.func z7D [.ptr σ.next 0]] (σ17.bump 7) λv30 σ31=>
lfW 18 (σ31.bump 6) (.ptr (σ3.next+8) 0) λv32=>
zn v32 λv33=>
z9 [] (λ(k35:Mem->Prop)=>
ifB (decide (v33<2)) (
lfW 18 (σ31.bump 15) (.ptr (σ3.next+8) 0) λv36=>
zn v36 λv37=>
nfW 19 (.ptr (σ3.next+8) 0) λv38=>
stW 1 (σ31.bump 15) v38 (.int .i64 v37) λσ39=>
k35 σ39) (
k35 (σ31.bump 6))) (z9S Q σ3))
def zey (a0:AV) (σ:Mem) (Q:AV->Mem->Prop):Prop:=
zge a0 (
zH (σ.bump 3) σ.next (.rw a0.cells) λσ0=>
ldW (σ0.bump 7) (.ptr σ.next 0) λv1=>
z6 PG z94 [v1] (σ0.bump 7) λv2 σ3=>
z5b v2 0 λv4=>
tpI v2 1 λv5=>
ifB (decide (v5≠0)) (
Q (.tup [.nilp,.int .i64 v5]) (σ3.bump 5)) (
ldW (σ3.bump 10) (.ptr σ.next 0) λv6=>
ldW (σ3.bump 10) (.ptr σ.next 0) λv7=>
z6 PG z1g [v6] (σ3.bump 10) λv8 σ9=>
ziX.sameW (σ3.bump 10) σ9 (.ptr σ.next 0) (
z6 PG z33 [v7] σ9 λv10 σ11=>
za v8 1 (
za v4 1 (
za v10 16 (
zge (.agg (setAt (setAt (setAt (setAt ([.nils,.nils]++List.replicate 16 (.int .i64 0)++[.nils]++[.int .i64 0]) 0 v8.cells) 1 v4.cells) 2 v10.cells) 19 [.int .i64 15])) (
zH σ11 (σ3.next+8) (.rw (setAt (setAt (setAt (setAt ([.nils,.nils]++List.replicate 16 (.int .i64 0)++[.nils]++[.int .i64 0]) 0 v8.cells) 1 v4.cells) 2 v10.cells) 19 [.int .i64 15])) λσ12=>
ldW (σ12.bump 3) (.ptr σ.next 0) λv13=>
zn v13 λv14=>
zf [tI] (z9V Q σ σ3 v13 v14) 0 (σ12.bump 3))))))))
theorem zjl {a0 σ Q} (h:σ.Live->zey a0 σ Q):z1 PG z1h [a0] σ Q:=
 .of_sem [none,none,none,none,none,none,none,none,some ([1,6,24,25],[26]),none,none,none,none,none,some ([1,6,24,25,26],[]),none,none,none,none,some ([6],[]),none,none] [(13,tI),(26,tI),(30,tI)] mixed (by kernel_rfl) (by kernel_rfl) h
/-! vitrine/deflate.symbols -/
def z50 (next2:Int->Mem->Prop) (v3:Int) (σ5:Mem):Prop:=
iW (v3+1) λv6=>
next2 v6 (σ5.bump 2)
def z52 (a1:AV) (a2:AV) (a3:AV) (Q:AV->Mem->Prop) (σ:Mem) (v1:Int) (next2:Int->Mem->Prop) (v3:Int) (σ4:Mem):Prop:=
ifB (decide (v3<v1)) (
z9 [] (λ(k7:Mem->Prop)=>
zd 3 a1 v3 λv8=>
z3n 3 (σ4.bump 5) v8 λv9=>
zH (σ4.bump 5) (σ4.next+3) (.rw [.int .i64 0,.int .i64 0,.int .i64 0]) λσ10=>
stW 3 σ10 (.ptr (σ4.next+3) 0) v9 λσ11=>
z2H 1 (.ptr (σ4.next+3) 0) λv12=>
ldI (σ11.bump 3) v12 λv13=>
ifB (decide (v13=0)) (
z2H 0 (.ptr (σ4.next+3) 0) λv14=>
ldI (σ11.bump 9) v14 λv15=>
z2T PG (.func zW [.ptr σ.next 0]) [a2,.agg [.int .i64 v15,.int .i64 0,.int .i64 0]] (σ11.bump 9) λv16 σ17=>
k7 σ17) (
z2H 1 (.ptr (σ4.next+3) 0) λv18=>
ldI (σ11.bump 9) v18 λv19=>
z6 PG z3d [.int .i64 v19] (σ11.bump 9) λv20 σ21=>
z2T PG (.func zW [.ptr σ.next 0]) [a2,v20] σ21 λv22 σ23=>
z2H 2 (.ptr (σ4.next+3) 0) λv24=>
ldI (σ23.bump 6) v24 λv25=>
z6 PG z27 [.int .i64 v25] (σ23.bump 6) λv26 σ27=>
z2T PG (.func zW [.ptr σ.next 0]) [a3,v26] σ27 λv28 σ29=>
k7 σ29)) (z50 next2 v3)) (
z2T PG (.func zW [.ptr σ.next 0]) [a2,.agg [.int .i64 256,.int .i64 0,.int .i64 0]] (σ4.bump 5) λv30 σ31=>
Q (.tup []) σ31)
def z6H (a0:AV) (a1:AV) (a2:AV) (a3:AV) (σ:Mem) (Q:AV->Mem->Prop):Prop:=
zge a0 (
zH (σ.bump 1) σ.next (.rw a0.cells) λσ0=>
zn a1 λv1=>
zf [tI] (z52 a1 a2 a3 Q σ v1) 0 (σ0.bump 5))
theorem zbf {a0 a1 a2 a3 σ Q} (h:σ.Live->z6H a0 a1 a2 a3 σ Q):z1 PG z2z [a0,a1,a2,a3] σ Q:=
 .of_sem [none,none,none,none,some ([2,3,8,12,13],[14]),none,none,some ([2,3,8,12,13,14],[]),none,none,none,none,none,none,none,none] [(14,tI),(19,tI),(24,tI),(30,tI),(36,tI)] mixed (by kernel_rfl) (by kernel_rfl) h
/-! vitrine/lz.Tokens -/
def z9C (next4:AV->Int->Mem->Prop) (v9:AV) (v10:Int) (σ11:Mem):Prop:=
next4 v9 v10 σ11
def z9U (σ:Mem) (σ0:Mem) (v5:AV) (v6:Int) (k12:AV->Int->Mem->Prop) (v15:Int) (v16:Int) (σ17:Mem):Prop:=
ifB (decide (v15<3)) (
ldS (σ17.bump 11) (.ptr σ.next 0) λv18=>
z6L v18 v6 λv19=>
iW v19 λv20=>
za (.agg [.int .i64 v20,.int .i64 0,.int .i64 0]) 3 (
zH (σ17.bump 11) (σ17.next+8) (.rw [.int .i64 v20,.int .i64 0,.int .i64 0]) λσ21=>
apW 3 24 (σ17.next+9) σ21 v5 (.slice (σ17.next+8) 0 1 (.ex 1)) λv22 σ23=>
z2T PG (.func z3I [.ptr σ.next 0,.ptr (σ0.next+2) 0]) [.int .i64 v6,.int .i64 1] (σ23.bump 3) λv24 σ25=>
iW (v6+1) λv26=>
k12 v22 v26 (σ25.bump 3))) (
za (.agg [.int .i64 0,.int .i64 v15,.int .i64 v16]) 3 (
zH (σ17.bump 9) (σ17.next+6) (.rw [.int .i64 0,.int .i64 v15,.int .i64 v16]) λσ27=>
apW 3 24 (σ17.next+7) σ27 v5 (.slice (σ17.next+6) 0 1 (.ex 1)) λv28 σ29=>
z2T PG (.func z3I [.ptr σ.next 0,.ptr (σ0.next+2) 0]) [.int .i64 v6,.int .i64 v15] (σ29.bump 4) λv30 σ31=>
iW (v6+v15) λv32=>
k12 v28 v32 (σ31.bump 4)))
def z9Z (k33:Int->Int->Mem->Prop) (v41:Int) (v42:Int) (σ43:Mem):Prop:=
k33 v41 v42 σ43
def za2 (k44:Int->Int->Mem->Prop) (next45:Int->Int->Int->Mem->Prop) (v48:Int) (v55:Int) (v56:Int) (σ57:Mem):Prop:=
ifB (decide (v55=258)) (
k44 v55 v56 (σ57.bump 2)) (
iW (v48-1) λv58=>
next45 v55 v56 v58 (σ57.bump 5))
def z9A (v6:Int) (v38:AV) (k44:Int->Int->Mem->Prop) (next45:Int->Int->Int->Mem->Prop) (v46:Int) (v47:Int) (v48:Int) (v53:Int) (σ54:Mem):Prop:=
z9 [tI,tI] (λ(k59:Int->Int->Mem->Prop)=>
ifB (decide (v46<v53)) (
zd 1 v38 v48 λv60=>
ldI (σ54.bump 12) v60 λv61=>
iW (v6-v61) λv62=>
k59 v53 v62 (σ54.bump 12)) (
k59 v46 v47 (σ54.bump 3))) (za2 k44 next45 v48)
def z9z (σ:Mem) (v6:Int) (v38:AV) (v48:Int) (k63:Int->Mem->Prop) (next64:Int->Mem->Prop) (v65:Int) (σ66:Mem):Prop:=
ifB (decide (v65<258)) (
iW (v6+v65) λv67=>
ldS (σ66.bump 26) (.ptr σ.next 0) λv68=>
ifB (decide (v67<(v68.size:Int))) (
ldS (σ66.bump 26) (.ptr σ.next 0) λv69=>
iW (v6+v65) λv70=>
z6L v69 v70 λv71=>
ldS (σ66.bump 26) (.ptr σ.next 0) λv72=>
zd 1 v38 v48 λv73=>
ldI (σ66.bump 26) v73 λv74=>
iW (v74+v65) λv75=>
z6L v72 v75 λv76=>
ifB (decide (v71=v76)) (
iW (v65+1) λv77=>
next64 v77 (σ66.bump 29)) (
k63 v65 (σ66.bump 26))) (
k63 v65 (σ66.bump 26))) (
k63 v65 (σ66.bump 26))
def z9E (σ:Mem) (v6:Int) (v38:AV) (k44:Int->Int->Mem->Prop) (next45:Int->Int->Int->Mem->Prop) (v46:Int) (v47:Int) (v48:Int) (σ49:Mem):Prop:=
ifB (decide (0<=v48)) (
zd 1 v38 v48 λv50=>
ldI (σ49.bump 11) v50 λv51=>
iW (v6-v51) λv52=>
ifB (decide (v52<=512)) (
z9 [tI] (λ(k63:Int->Mem->Prop)=>
zf [tI] (z9z σ v6 v38 v48 k63) 3 (σ49.bump 12)) (z9A v6 v38 k44 next45 v46 v47 v48)) (
k44 v46 v47 (σ49.bump 11))) (
k44 v46 v47 (σ49.bump 11))
def z9D (Q:AV->Mem->Prop) (σ:Mem) (σ0:Mem) (next4:AV->Int->Mem->Prop) (v5:AV) (v6:Int) (σ7:Mem):Prop:=
ldS (σ7.bump 4) (.ptr σ.next 0) λv8=>
ifB (decide (v6<(v8.size:Int))) (
z9 [.v,tI] (λ(k12:AV->Int->Mem->Prop)=>
iW (v6+3) λv13=>
ldS (σ7.bump 11) (.ptr σ.next 0) λv14=>
z9 [tI,tI] (λ(k33:Int->Int->Mem->Prop)=>
ifB (decide (v13<=(v14.size:Int))) (
ldW (σ7.bump 19) (.ptr (σ0.next+2) 0) λv34=>
ldS (σ7.bump 19) (.ptr σ.next 0) λv35=>
iW (v6+3) λv36=>
zkD v35 v6 v36 λv37=>
zoz (σ7.bump 19) .nils false v34 (.str v37) λv38=>
zn v38 λv39=>
iW (v39-1) λv40=>
z9 [tI,tI] (λ(k44:Int->Int->Mem->Prop)=>
zf [tI,tI,tI] (z9E σ v6 v38 k44) 0 0 v40 (σ7.bump 23)) (z9Z k33)) (
k33 0 0 (σ7.bump 11))) (z9U σ σ0 v5 v6 k12)) (z9C next4)) (
Q v5 (σ7.bump 6))
def zf7 (a0:ByteArray) (σ:Mem) (Q:AV->Mem->Prop):Prop:=
zH (σ.bump 2) σ.next (.rw [.str a0]) λσ0=>
zH (σ0.bump 4) (σ0.next+1) (.map [] 0) λσ1=>
zH σ1 (σ0.next+2) (.rw [.nilm]) λσ2=>
stW 1 σ2 (.ptr (σ0.next+2) 0) (.map (σ0.next+1)) λσ3=>
zf [.v,tI] (z9D Q σ σ0) .nils 0 (σ3.bump 3)
theorem zj5 {a0 σ Q} (h:σ.Live->zf7 a0 σ Q):z1 PG z7n [.str a0] σ Q:=
 .of_sem [none,none,none,none,none,none,some ([1,4,5],[3,6]),none,none,some ([1,4,5],[3,6]),none,none,some ([1,3,4,5,6],[7,8]),none,none,some ([1,3,4,5,6],[7,8]),some ([1,3,4,5,6,9],[7,8,10]),none,none,none,none,some ([1,3,4,5,6,7,8,9,10],[11]),some ([1,3,4,5,6,7,8,9,10],[11]),none,none,none,none,none,some ([1,3,4,5,6,9,10],[7,8]),none,none,none,none,none,none,none,none,none,none,none,none,none] [(6,tI),(15,.s),(7,tI),(8,tI),(20,.s),(24,.s),(10,tI),(40,tI),(11,tI),(52,.s),(57,.s),(62,.s),(66,tI),(82,tI),(89,.s)] mixed (by kernel_rfl) (by kernel_rfl) h
/-! vitrine/vitrineref03.Fixed -/
def z84 (next0:AV->Int->Mem->Prop) (v2:Int) (v4:AV) (σ5:Mem):Prop:=
iW (v2+1) λv6=>
next0 v4 v6 (σ5.bump 3)
def z3c (next0:AV->Int->Mem->Prop) (v2:Int) (v11:AV) (σ12:Mem):Prop:=
iW (v2+1) λv13=>
next0 v11 v13 (σ12.bump 3)
def z4I (k14:AV->Mem->Prop) (v18:AV) (σ19:Mem):Prop:=
k14 v18 σ19
def z8a (Q:AV->Mem->Prop) (v1:AV) (next27:AV->Int->Mem->Prop) (v28:AV) (v29:Int) (σ30:Mem):Prop:=
ifB (decide (v29<32)) (
zH (σ30.bump 6) (σ30.next+3) (.rw [.int .i64 5]) λσ31=>
apW 1 8 (σ30.next+4) σ31 v28 (.slice (σ30.next+3) 0 1 (.ex 1)) λv32 σ33=>
iW (v29+1) λv34=>
next27 v32 v34 (σ33.bump 3)) (
Q (.tup [v1,v28]) (σ30.bump 6))
def z7Y (Q:AV->Mem->Prop) (next0:AV->Int->Mem->Prop) (v1:AV) (v2:Int) (σ3:Mem):Prop:=
ifB (decide (v2<288)) (
ifB (decide (v2<144)) (
z9 [.v] (λ(k7:AV->Mem->Prop)=>
zH (σ3.bump 13) (σ3.next+10) (.rw [.int .i64 8]) λσ8=>
apW 1 8 (σ3.next+11) σ8 v1 (.slice (σ3.next+10) 0 1 (.ex 1)) λv9 σ10=>
k7 v9 σ10) (z84 next0 v2)) (
z9 [.v] (λ(k14:AV->Mem->Prop)=>
ifB (decide (280<=v2)) (
zH (σ3.bump 13) (σ3.next+10) (.rw [.int .i64 8]) λσ15=>
apW 1 8 (σ3.next+11) σ15 v1 (.slice (σ3.next+10) 0 1 (.ex 1)) λv16 σ17=>
k14 v16 σ17) (
z9 [.v] (λ(k20:AV->Mem->Prop)=>
ifB (decide (v2<256)) (
zH (σ3.bump 16) (σ3.next+13) (.rw [.int .i64 9]) λσ21=>
apW 1 8 (σ3.next+14) σ21 v1 (.slice (σ3.next+13) 0 1 (.ex 1)) λv22 σ23=>
k20 v22 σ23) (
zH (σ3.bump 16) (σ3.next+13) (.rw [.int .i64 7]) λσ24=>
apW 1 8 (σ3.next+14) σ24 v1 (.slice (σ3.next+13) 0 1 (.ex 1)) λv25 σ26=>
k20 v25 σ26)) (z4I k14))) (z3c next0 v2))) (
zf [.v,tI] (z8a Q v1) .nils 0 (σ3.bump 3))
def zbc (σ:Mem) (Q:AV->Mem->Prop):Prop:=
zf [.v,tI] (z7Y Q) .nils 0 (σ.bump 5)
theorem zfG {σ Q} (h:σ.Live->zbc σ Q):z1 PG z7e [] σ Q:=
 .of_sem [none,none,none,none,none,some ([3],[2,4]),none,none,none,none,none,some ([3,4],[2]),none,none,some ([3,4],[2]),none,none,none,none,none,some ([2],[3,5]),none,none,none,none,none,none] [(4,tI),(5,tI)] mixed (by kernel_rfl) (by kernel_rfl) h
/-! vitrine/vitrineref02.Make -/
def zcS (a0:AV) (σ:Mem) (Q:AV->Mem->Prop):Prop:=
z6 PG z7q [a0] (σ.bump 9) λv0 σ1=>
z5b v0 0 λv2=>
tpI v0 1 λv3=>
ifB (decide (v3≠0)) (
Q (.tup [.nilp,.int .i64 v3]) (σ1.bump 5)) (
apW 1 8 (σ1.next+5) (σ1.bump 11) .nils a0 λv4 σ5=>
za v4 1 (
za v2 1 (
zge (.agg (setAt (setAt [.nils,.nils] 0 v4.cells) 1 v2.cells)) (
zH σ5 (σ1.next+8) (.rw (setAt (setAt [.nils,.nils] 0 v4.cells) 1 v2.cells)) λσ6=>
Q (.tup [.ptr (σ1.next+8) 0,.int .i64 0]) σ6))))
theorem zhP {a0 σ Q} (h:σ.Live->zcS a0 σ Q):z1 PG z2x [a0] σ Q:=
 .of_sem [none,none,none,none,none,none,none] [(11,tI)] mixed (by kernel_rfl) (by kernel_rfl) h
/-! vitrine/vitrineref05.lay -/
def z9F (next0:Int->Mem->Prop) (v1:Int) (σ4:Mem):Prop:=
iW (v1+1) λv5=>
next0 v5 (σ4.bump 3)
def za4 (a0:AV) (a1:AV) (a2:AV) (a3:AV) (Q:AV->Mem->Prop) (next0:Int->Mem->Prop) (v1:Int) (σ2:Mem):Prop:=
zn a1 λv3=>
ifB (decide (v1<v3)) (
z9 [] (λ(k6:Mem->Prop)=>
zd 3 a1 v1 λv7=>
z2H 1 v7 λv8=>
ldI (σ2.bump 10) v8 λv9=>
ifB (decide (v9=0)) (
zd 3 a1 v1 λv10=>
z2H 0 v10 λv11=>
ldI (σ2.bump 18) v11 λv12=>
z6 PG zI [a2,a0,.int .i64 v12] (σ2.bump 18) λv13 σ14=>
zB .i64 v13 λv15=>
k6 σ14) (
zd 3 a1 v1 λv16=>
z2H 1 v16 λv17=>
ldI (σ2.bump 23) v17 λv18=>
z6 PG z4k [.int .i64 v18] (σ2.bump 23) λv19 σ20=>
tpI v19 0 λv21=>
tpI v19 1 λv22=>
tpI v19 2 λv23=>
z6 PG zI [a2,a0,.int .i64 v21] (σ20.bump 4) λv24 σ25=>
zB .i64 v24 λv26=>
z6 PG z7 [a0,.int .i64 v22,.int .i64 v23] (σ25.bump 4) λv27 σ28=>
zd 3 a1 v1 λv29=>
z2H 2 v29 λv30=>
ldI (σ28.bump 13) v30 λv31=>
z6 PG z3e [.int .i64 v31] (σ28.bump 13) λv32 σ33=>
tpI v32 0 λv34=>
tpI v32 1 λv35=>
tpI v32 2 λv36=>
z6 PG zI [a3,a0,.int .i64 v34] (σ33.bump 4) λv37 σ38=>
zB .i64 v37 λv39=>
z6 PG z7 [a0,.int .i64 v35,.int .i64 v36] (σ38.bump 4) λv40 σ41=>
k6 σ41)) (z9F next0 v1)) (
z6 PG zI [a2,a0,.int .i64 256] (σ2.bump 7) λv42 σ43=>
zB .i64 v42 λv44=>
Q (.tup []) σ43)
def zeV (a0:AV) (a1:AV) (a2:AV) (a3:AV) (σ:Mem) (Q:AV->Mem->Prop):Prop:=
zf [tI] (za4 a0 a1 a2 a3 Q) 0 (σ.bump 1)
theorem ziB {a0 a1 a2 a3 σ Q} (h:σ.Live->zeV a0 a1 a2 a3 σ Q):z1 PG z7s [a0,a1,a2,a3] σ Q:=
 .of_sem [none,none,some ([0,1,2,3],[8]),none,none,some ([0,1,2,3,8],[]),none,none,none,none,none,none,none,none,none,none,none] [(8,tI),(22,tI),(30,tI),(31,tI),(37,tI),(39,tI),(40,tI),(41,tI),(45,tI),(55,tI),(57,tI),(58,tI),(59,tI),(63,tI),(70,tI)] mixed (by kernel_rfl) (by kernel_rfl) h
/-! vitrine/vitrineref04.Tokens -/
def z6K (next0:AV->Int->Mem->Prop) (v7:AV) (v8:Int) (σ9:Mem):Prop:=
next0 v7 v8 σ9
def z6S (a0:ByteArray) (next0:AV->Int->Mem->Prop) (v1:AV) (v2:Int) (v4:Int) (v5:Int) (σ6:Mem):Prop:=
z9 [.v,tI] (λ(k10:AV->Int->Mem->Prop)=>
ifB (decide (3<=v4)) (
za (.agg [.int .i64 0,.int .i64 v4,.int .i64 v5]) 3 (
zH (σ6.bump 9) (σ6.next+6) (.rw [.int .i64 0,.int .i64 v4,.int .i64 v5]) λσ11=>
apW 3 24 (σ6.next+7) σ11 v1 (.slice (σ6.next+6) 0 1 (.ex 1)) λv12 σ13=>
iW (v2+v4) λv14=>
k10 v12 v14 (σ13.bump 4))) (
z6L a0 v2 λv15=>
iW v15 λv16=>
za (.agg [.int .i64 v16,.int .i64 0,.int .i64 0]) 3 (
zH (σ6.bump 11) (σ6.next+8) (.rw [.int .i64 v16,.int .i64 0,.int .i64 0]) λσ17=>
apW 3 24 (σ6.next+9) σ17 v1 (.slice (σ6.next+8) 0 1 (.ex 1)) λv18 σ19=>
iW (v2+1) λv20=>
k10 v18 v20 (σ19.bump 3)))) (z6K next0)
def z73 (next22:Int->Int->Int->Mem->Prop) (v25:Int) (v29:Int) (v30:Int) (σ31:Mem):Prop:=
iW (v25+1) λv32=>
next22 v29 v30 v32 (σ31.bump 3)
def z6P (next22:Int->Int->Int->Mem->Prop) (v23:Int) (v24:Int) (v25:Int) (v27:Int) (σ28:Mem):Prop:=
z9 [tI,tI] (λ(k33:Int->Int->Mem->Prop)=>
ifB (decide (v23<v27)) (
k33 v27 v25 (σ28.bump 7)) (
k33 v23 v24 (σ28.bump 3))) (z73 next22 v25)
def z6V (a0:ByteArray) (v2:Int) (v25:Int) (k34:Int->Mem->Prop) (next35:Int->Mem->Prop) (v36:Int) (σ37:Mem):Prop:=
ifB (decide (v36<258)) (
iW (v2+v36) λv38=>
ifB (decide (v38<(a0.size:Int))) (
iW (v2+v36) λv39=>
z6L a0 v39 λv40=>
iW (v2+v36) λv41=>
iW (v41-v25) λv42=>
z6L a0 v42 λv43=>
ifB (decide (v40=v43)) (
iW (v36+1) λv44=>
next35 v44 (σ37.bump 28)) (
k34 v36 (σ37.bump 25))) (
k34 v36 (σ37.bump 25))) (
k34 v36 (σ37.bump 25))
def z75 (a0:ByteArray) (v2:Int) (k21:Int->Int->Mem->Prop) (next22:Int->Int->Int->Mem->Prop) (v23:Int) (v24:Int) (v25:Int) (σ26:Mem):Prop:=
ifB (decide (v25<=512)) (
ifB (decide (v25<=v2)) (
z9 [tI] (λ(k34:Int->Mem->Prop)=>
zf [tI] (z6V a0 v2 v25 k34) 0 (σ26.bump 8)) (z6P next22 v23 v24 v25)) (
k21 v23 v24 (σ26.bump 7))) (
k21 v23 v24 (σ26.bump 7))
def z6G (a0:ByteArray) (Q:AV->Mem->Prop) (next0:AV->Int->Mem->Prop) (v1:AV) (v2:Int) (σ3:Mem):Prop:=
ifB (decide (v2<(a0.size:Int))) (
z9 [tI,tI] (λ(k21:Int->Int->Mem->Prop)=>
zf [tI,tI,tI] (z75 a0 v2 k21) 0 0 1 (σ3.bump 7)) (z6S a0 next0 v1 v2)) (
Q v1 (σ3.bump 6))
def za5 (a0:ByteArray) (σ:Mem) (Q:AV->Mem->Prop):Prop:=
zf [.v,tI] (z6G a0 Q) .nils 0 (σ.bump 3)
theorem zfm {a0 σ Q} (h:σ.Live->za5 a0 σ Q):z1 PG z4h [.str a0] σ Q:=
 .of_sem [none,none,none,none,some ([0],[3,4]),none,none,none,none,none,none,some ([0,3,4],[5,6]),some ([0,3,4],[5,6,7]),none,none,none,none,some ([0,3,4,5,6,7],[8]),some ([0,3,4,5,6,7],[8]),none,none,none,none,none,some ([0,3,4,7],[5,6]),none,none,none,none,some ([0],[3,4]),none,none,none,none,none] [(4,tI),(5,tI),(6,tI),(7,tI),(8,tI)] mixed (by kernel_rfl) (by kernel_rfl) h
/-! vitrine/deflate.lengths -/
def z4Y (next5:Int->Mem->Prop) (v6:Int) (σ14:Mem):Prop:=
iW (v6+1) λv15=>
next5 v15 (σ14.bump 2)
def z51 (a0:AV) (Q:AV->Mem->Prop) (σ:Mem) (σ0:Mem) (v4:Int) (next5:Int->Mem->Prop) (v6:Int) (σ7:Mem):Prop:=
ifB (decide (v6<v4)) (
zd 3 a0 v6 λv8=>
z3n 3 (σ7.bump 5) v8 λv9=>
zH (σ7.bump 5) (σ7.next+3) (.rw [.int .i64 0,.int .i64 0,.int .i64 0]) λσ10=>
stW 3 σ10 (.ptr (σ7.next+3) 0) v9 λσ11=>
z2H 1 (.ptr (σ7.next+3) 0) λv12=>
ldI (σ11.bump 3) v12 λv13=>
z9 [] (λ(k16:Mem->Prop)=>
ifB (decide (v13=0)) (
z2H 0 (.ptr (σ7.next+3) 0) λv17=>
ldI (σ11.bump 10) v17 λv18=>
z3f 286 1 (.ptr (σ.next+2) 0) v18 λv19=>
ldI (σ11.bump 10) v19 λv20=>
iW (v20+1) λv21=>
z3f 286 1 (.ptr (σ.next+2) 0) v18 λv22=>
stW 1 (σ11.bump 10) v22 (.int .i64 v21) λσ23=>
k16 σ23) (
z2H 1 (.ptr (σ7.next+3) 0) λv24=>
ldI (σ11.bump 12) v24 λv25=>
z6 PG z3d [.int .i64 v25] (σ11.bump 12) λv26 σ27=>
zqR 0 none v26 λa=>zB .i64 a λv28=>
z3f 286 1 (.ptr (σ.next+2) 0) v28 λv29=>
ldI σ27 v29 λv30=>
iW (v30+1) λv31=>
z3f 286 1 (.ptr (σ.next+2) 0) v28 λv32=>
stW 1 σ27 v32 (.int .i64 v31) λσ33=>
z2H 2 (.ptr (σ7.next+3) 0) λv34=>
ldI (σ33.bump 9) v34 λv35=>
z6 PG z27 [.int .i64 v35] (σ33.bump 9) λv36 σ37=>
zqR 0 none v36 λa=>zB .i64 a λv38=>
z3f 30 1 (.ptr σ0.next 0) v38 λv39=>
ldI σ37 v39 λv40=>
iW (v40+1) λv41=>
z3f 30 1 (.ptr σ0.next 0) v38 λv42=>
stW 1 σ37 v42 (.int .i64 v41) λσ43=>
k16 σ43)) (z4Y next5 v6)) (
zpG 286 1 (.ptr (σ.next+2) 0) none none λv44=>
z6 PG z3m [.int .i64 15,v44] (σ7.bump 8) λv45 σ46=>
z5b v45 0 λv47=>
tpI v45 1 λv48=>
zpG 30 1 (.ptr σ0.next 0) none none λv49=>
z6 PG z3m [.int .i64 15,v49] (σ46.bump 7) λv50 σ51=>
z5b v50 0 λv52=>
tpI v50 1 λv53=>
z6 PG z2W [v47,.int .i64 257] (σ51.bump 6) λv54 σ55=>
z6 PG z2W [v52,.int .i64 1] σ55 λv56 σ57=>
Q (.tup [v54,v56]) σ57)
def z78 (a0:AV) (σ:Mem) (Q:AV->Mem->Prop):Prop:=
zH (σ.bump 3) (σ.next+2) (.rw (List.replicate 286 (.int .i64 0))) λσ0=>
zH (σ0.bump 1) σ0.next (.rw (List.replicate 30 (.int .i64 0))) λσ1=>
z3f 286 1 (.ptr (σ.next+2) 0) 256 λv2=>
stW 1 (σ1.bump 2) v2 (.int .i64 1) λσ3=>
zn a0 λv4=>
zf [tI] (z51 a0 Q σ σ0 v4) 0 (σ3.bump 3)
theorem zb4 {a0 σ Q} (h:σ.Live->z78 a0 σ Q):z1 PG z46 [a0] σ Q:=
 .of_sem [none,none,none,none,none,none,some ([4,5,13,14],[15]),none,none,none,none,none,some ([4,5,13,14,15],[]),none,none,none,none,none,none,none] [(15,tI),(20,tI),(23,tI),(25,tI),(29,tI),(31,tI),(33,tI),(37,tI),(39,tI),(41,tI),(49,tI),(54,tI)] mixed (by kernel_rfl) (by kernel_rfl) h
/-! (*vitrine/huff.Table).Lay -/
def z5C (a0:AV) (a1:AV) (a2:Int) (Q:AV->Mem->Prop) (next15:Int->Mem->Prop) (v16:Int) (σ17:Mem):Prop:=
ifB (decide (0<=v16)) (
lfW 1 (σ17.bump 13) a0 λv18=>
zd 1 v18 a2 λv19=>
ldI (σ17.bump 13) v19 λv20=>
zmX .i64 v20 v16 λv21=>
z6 PG zg [a1,.int .i64 v21,.int .i64 1] (σ17.bump 13) λv22 σ23=>
iW (v16-1) λv24=>
next15 v24 (σ23.bump 3)) (
Q (.int .i64 0) (σ17.bump 3))
def z7R (a0:AV) (a1:AV) (a2:Int) (σ:Mem) (Q:AV->Mem->Prop):Prop:=
eqW .ptr a0 .nilp λv0=>
ifB v0 (
Q (.int .i64 2) (σ.bump 9)) (
eqW .ptr a1 .nilp λv1=>
ifB v1 (
Q (.int .i64 2) (σ.bump 9)) (
ifB (decide (a2<0)) (
Q (.int .i64 1) (σ.bump 31)) (
zew a0 λv2=>
z2H 0 v2 λv3=>
ldW (σ.bump 30) v3 λv4=>
zn v4 λv5=>
ifB (decide (v5<=a2)) (
Q (.int .i64 1) (σ.bump 31)) (
zew a0 λv6=>
z2H 0 v6 λv7=>
ldW (σ.bump 30) v7 λv8=>
zd 1 v8 a2 λv9=>
ldI (σ.bump 30) v9 λv10=>
ifB (decide (v10=0)) (
Q (.int .i64 1) (σ.bump 31)) (
lfW 0 (σ.bump 39) a0 λv11=>
zd 1 v11 a2 λv12=>
ldI (σ.bump 39) v12 λv13=>
iW (v13-1) λv14=>
zf [tI] (z5C a0 a1 a2 Q) v14 (σ.bump 39))))))
theorem zc3 {a0 a1 a2 σ Q} (h:σ.Live->z7R a0 a1 a2 σ Q):z1 PG z1O [a0,a1,.int .i64 a2] σ Q:=
 .of_sem [none,none,none,none,none,none,none,none,none,none,some ([0,1,2],[7]),none,none,none,none,none,none] [(34,tI),(43,tI),(7,tI),(56,tI)] mixed (by kernel_rfl) (by kernel_rfl) h
/-! vitrine/vitrineref05.length -/
def z6M (next0:Int->Int->Mem->Prop) (v2:Int) (v8:Int) (σ9:Mem):Prop:=
iW (v2+1) λv10=>
next0 v8 v10 (σ9.bump 3)
def z6C (a0:Int) (Q:AV->Mem->Prop) (next0:Int->Int->Mem->Prop) (v1:Int) (v2:Int) (σ3:Mem):Prop:=
ifB (decide (v2<=285)) (
z6 PG z4j [.int .i64 v2] (σ3.bump 9) λv4 σ5=>
tpI v4 0 λv6=>
tpI v4 1 λv7=>
z9 [tI] (λ(k11:Int->Mem->Prop)=>
ifB (decide (v6<=a0)) (
k11 v2 (σ5.bump 5)) (
k11 v1 (σ5.bump 3))) (z6M next0 v2)) (
z6 PG z4j [.int .i64 v1] (σ3.bump 9) λv12 σ13=>
tpI v12 0 λv14=>
tpI v12 1 λv15=>
iW (a0-v14) λv16=>
Q (.tup [.int .i64 v1,.int .i64 v16,.int .i64 v15]) (σ13.bump 8))
def z9N (a0:Int) (σ:Mem) (Q:AV->Mem->Prop):Prop:=
zf [tI,tI] (z6C a0 Q) 257 257 (σ.bump 5)
theorem zef {a0 σ Q} (h:σ.Live->z9N a0 σ Q):z1 PG z4k [.int .i64 a0] σ Q:=
 .of_sem [none,none,none,none,some ([0],[5,6]),none,none,none,none,none,some ([0,6],[5]),none,none,none,none] [(5,tI),(6,tI),(18,tI),(19,tI),(27,tI),(28,tI)] mixed (by kernel_rfl) (by kernel_rfl) h
/-! vitrine/vitrineref05.distance -/
def z5T (next0:Int->Int->Mem->Prop) (v2:Int) (v8:Int) (σ9:Mem):Prop:=
iW (v2+1) λv10=>
next0 v8 v10 (σ9.bump 3)
def z5Y (a0:Int) (Q:AV->Mem->Prop) (next0:Int->Int->Mem->Prop) (v1:Int) (v2:Int) (σ3:Mem):Prop:=
ifB (decide (v2<=29)) (
z6 PG z3b [.int .i64 v2] (σ3.bump 9) λv4 σ5=>
tpI v4 0 λv6=>
tpI v4 1 λv7=>
z9 [tI] (λ(k11:Int->Mem->Prop)=>
ifB (decide (v6<=a0)) (
k11 v2 (σ5.bump 5)) (
k11 v1 (σ5.bump 3))) (z5T next0 v2)) (
z6 PG z3b [.int .i64 v1] (σ3.bump 9) λv12 σ13=>
tpI v12 0 λv14=>
tpI v12 1 λv15=>
iW (a0-v14) λv16=>
Q (.tup [.int .i64 v1,.int .i64 v16,.int .i64 v15]) (σ13.bump 8))
def z8b (a0:Int) (σ:Mem) (Q:AV->Mem->Prop):Prop:=
zf [tI,tI] (z5Y a0 Q) 0 0 (σ.bump 5)
theorem zc8 {a0 σ Q} (h:σ.Live->z8b a0 σ Q):z1 PG z3e [.int .i64 a0] σ Q:=
 .of_sem [none,none,none,none,some ([0],[5,6]),none,none,none,none,none,some ([0,6],[5]),none,none,none,none] [(5,tI),(6,tI),(18,tI),(19,tI),(27,tI),(28,tI)] mixed (by kernel_rfl) (by kernel_rfl) h
/-! (*vitrine/vitrineref02.Table).Lay -/
def z53 (a0:AV) (a1:AV) (a2:Int) (Q:AV->Mem->Prop) (next13:Int->Mem->Prop) (v14:Int) (σ15:Mem):Prop:=
ifB (decide (0<=v14)) (
lfW 1 (σ15.bump 13) a0 λv16=>
zd 1 v16 a2 λv17=>
ldI (σ15.bump 13) v17 λv18=>
zmX .i64 v18 v14 λv19=>
z6 PG z7 [a1,.int .i64 v19,.int .i64 1] (σ15.bump 13) λv20 σ21=>
iW (v14-1) λv22=>
next13 v22 (σ21.bump 3)) (
Q (.int .i64 0) (σ15.bump 3))
def z7a (a0:AV) (a1:AV) (a2:Int) (σ:Mem) (Q:AV->Mem->Prop):Prop:=
ifB (decide (a2<0)) (
Q (.int .i64 1) (σ.bump 23)) (
zew a0 λv0=>
z2H 0 v0 λv1=>
ldW (σ.bump 22) v1 λv2=>
zn v2 λv3=>
ifB (decide (v3<=a2)) (
Q (.int .i64 1) (σ.bump 23)) (
zew a0 λv4=>
z2H 0 v4 λv5=>
ldW (σ.bump 22) v5 λv6=>
zd 1 v6 a2 λv7=>
ldI (σ.bump 22) v7 λv8=>
ifB (decide (v8=0)) (
Q (.int .i64 1) (σ.bump 23)) (
lfW 0 (σ.bump 31) a0 λv9=>
zd 1 v9 a2 λv10=>
ldI (σ.bump 31) v10 λv11=>
iW (v11-1) λv12=>
zf [tI] (z53 a0 a1 a2 Q) v12 (σ.bump 31))))
theorem zbF {a0 a1 a2 σ Q} (h:σ.Live->z7a a0 a1 a2 σ Q):z1 PG zI [a0,a1,.int .i64 a2] σ Q:=
 .of_sem [none,none,none,none,none,none,some ([0,1,2],[7]),none,none,none,none,none,none] [(26,tI),(35,tI),(7,tI),(48,tI)] mixed (by kernel_rfl) (by kernel_rfl) h
/-! vitrine/bits.Read -/
def zfo (a0:ByteArray) (σ:Mem) (Q:AV->Mem->Prop):Prop:=
zge (.agg [.str a0,.int .i64 0,.int .i64 0]) (
zH (σ.bump 5) (σ.next+3) (.rw [.str a0,.int .i64 0,.int .i64 0]) λσ0=>
Q (.ptr (σ.next+3) 0) σ0)
theorem zj4 {a0 σ Q} (h:σ.Live->zfo a0 σ Q):z1 PG zah [.str a0] σ Q:=
 .of_sem [none,none] [] mixed (by kernel_rfl) (by kernel_rfl) h
/-! (*vitrine/huff.Table).Next -/
def z4Q (a0:AV) (a1:AV) (Q:AV->Mem->Prop) (next2:Int->Int->Int->Int->Mem->Prop) (v3:Int) (v4:Int) (v5:Int) (v6:Int) (σ7:Mem):Prop:=
lfI 19 (σ7.bump 6) a0 λv8=>
ifB (decide (v6<=v8)) (
z6 PG zC [a1,.int .i64 1] (σ7.bump 13) λv9 σ10=>
tpI v9 0 λv11=>
tpI v9 1 λv12=>
ifB (decide (v12≠0)) (
Q (.tup [.int .i64 0,.int .i64 v12]) (σ10.bump 5)) (
iW (v3*2) λv13=>
z3r (zF .or .i64 v13 v11) λv14=>
iW (v4*2) λv15=>
iW (v14-v15) λv16=>
nfW 2 a0 λv17=>
z3f 16 1 v17 v6 λv18=>
ldI (σ10.bump 22) v18 λv19=>
ifB (decide (v16<v19)) (
lfW 18 (σ10.bump 33) a0 λv20=>
iW (v5+v16) λv21=>
zd 1 v20 v21 λv22=>
ldI (σ10.bump 33) v22 λv23=>
Q (.tup [.int .i64 v23,.int .i64 0]) (σ10.bump 33)) (
nfW 2 a0 λv24=>
z3f 16 1 v24 v6 λv25=>
ldI (σ10.bump 31) v25 λv26=>
iW (v15+v26) λv27=>
nfW 2 a0 λv28=>
z3f 16 1 v28 v6 λv29=>
ldI (σ10.bump 40) v29 λv30=>
iW (v5+v30) λv31=>
iW (v6+1) λv32=>
next2 v14 v27 v31 v32 (σ10.bump 43)))) (
Q (.tup [.int .i64 0,.int .i64 12]) (σ7.bump 8))
def z6N (a0:AV) (a1:AV) (σ:Mem) (Q:AV->Mem->Prop):Prop:=
eqW .ptr a0 .nilp λv0=>
ifB v0 (
Q (.tup [.int .i64 0,.int .i64 2]) (σ.bump 10)) (
eqW .ptr a1 .nilp λv1=>
ifB v1 (
Q (.tup [.int .i64 0,.int .i64 2]) (σ.bump 10)) (
zf [tI,tI,tI,tI] (z4Q a0 a1 Q) 0 0 0 1 (σ.bump 12)))
theorem zaV {a0 a1 σ Q} (h:σ.Live->z6N a0 a1 σ Q):z1 PG z0W [a0,a1] σ Q:=
 .of_sem [none,none,none,none,none,none,none,some ([0,1],[6,7,8,9]),none,none,none,none,none,none,none,none,none,none,none,none,none,none,none,none,none] [(6,tI),(7,tI),(8,tI),(9,tI),(23,tI),(30,tI),(31,tI),(50,tI),(60,tI),(67,tI),(75,tI)] mixed (by kernel_rfl) (by kernel_rfl) h
/-! (*vitrine/bits.Reader).Left -/
def z6p (a0:AV) (σ:Mem) (Q:AV->Mem->Prop):Prop:=
eqW .ptr a0 .nilp λv0=>
ifB v0 (
Q (.int .i64 0) (σ.bump 4)) (
lfS 0 (σ.bump 15) a0 λv1=>
iW (8*(v1.size:Int)) λv2=>
lfI 2 (σ.bump 15) a0 λv3=>
iW (v2+v3) λv4=>
Q (.int .i64 v4) (σ.bump 15))
theorem za8 {a0 σ Q} (h:σ.Live->z6p a0 σ Q):z1 PG z24 [a0] σ Q:=
 .of_sem [none,none,none,none,none] [(8,.s),(14,tI)] mixed (by kernel_rfl) (by kernel_rfl) h
/-! math/bits.Mul -/
def z8I (a0:Int) (a1:Int) (σ:Mem) (Q:AV->Mem->Prop):Prop:=
z6 PG z7c [.int .u64 a0,.int .u64 a1] (σ.bump 10) λv0 σ1=>
z5b v0 0 λa=>zB .u64 a λv2=>
z5b v0 1 λa=>zB .u64 a λv3=>
Q (.tup [.int .u64 v2,.int .u64 v3]) (σ1.bump 4)
theorem zdp {a0 a1 σ Q} (h:σ.Live->z8I a0 a1 σ Q):z1 PG z5q [.int .u64 a0,.int .u64 a1] σ Q:=
 .of_sem [none,none,none,none,none,none] [(16,(.i .u32)),(17,(.i .u32)),(26,(.i .u64)),(27,(.i .u64))] mixed (by kernel_rfl) (by kernel_rfl) h
/-! vitrine/huff.Codes -/
def z8Z (next12:Int->Mem->Prop) (v13:Int) (σ17:Mem):Prop:=
iW (v13+1) λv18=>
next12 v18 (σ17.bump 2)
def z8y (a0:AV) (Q:AV->Mem->Prop) (σ1:Mem) (σ8:Mem) (v9:Int) (v11:Int) (next12:Int->Mem->Prop) (v13:Int) (σ14:Mem):Prop:=
ifB (decide (v13<v11)) (
zd 1 a0 v13 λv15=>
ldI (σ14.bump 6) v15 λv16=>
z9 [] (λ(k19:Mem->Prop)=>
ifB (decide (0<v16)) (
z3f 16 1 (.ptr (σ1.next+5) 0) v16 λv20=>
ldI (σ14.bump 15) v20 λv21=>
zd 1 (.slice (σ8.next+2) 0 (Int.toNat v9) (.ex (Int.toNat v9))) v13 λv22=>
stW 1 (σ14.bump 15) v22 (.int .i64 v21) λσ23=>
z3f 16 1 (.ptr (σ1.next+5) 0) v16 λv24=>
ldI (σ23.bump 6) v24 λv25=>
iW (v25+1) λv26=>
z3f 16 1 (.ptr (σ1.next+5) 0) v16 λv27=>
stW 1 (σ23.bump 6) v27 (.int .i64 v26) λσ28=>
k19 σ28) (
k19 (σ14.bump 8))) (z8Z next12 v13)) (
Q (.tup [.slice (σ8.next+2) 0 (Int.toNat v9) (.ex (Int.toNat v9)),.int .i64 0]) (σ14.bump 4))
def zcV (a0:AV) (σ:Mem) (Q:AV->Mem->Prop):Prop:=
z6 PG z8B [a0] (σ.bump 5) λv0 σ1=>
zB .i64 v0 λv2=>
ifB (decide (v2≠0)) (
Q (.tup [.nils,.int .i64 v2]) (σ1.bump 5)) (
z6 PG z33 [a0] (σ1.bump 7) λv3 σ4=>
z6 PG z8K [v3] σ4 λv5 σ6=>
zH σ6 (σ1.next+5) (.rw (List.replicate 16 (.int .i64 0))) λσ7=>
stW 16 σ7 (.ptr (σ1.next+5) 0) v5 λσ8=>
zn a0 λv9=>
zai 8 v9 v9 (
zH (σ8.bump 4) (σ8.next+2) (.rw (repl (Int.toNat v9) [.int .i64 0])) λσ10=>
zn a0 λv11=>
zf [tI] (z8y a0 Q σ1 σ8 v9 v11) 0 (σ10.bump 3)))
theorem zgB {a0 σ Q} (h:σ.Live->zcV a0 σ Q):z1 PG z94 [a0] σ Q:=
 .of_sem [none,none,none,none,none,none,none,none,none,some ([5,6,20,21],[22]),none,none,none,none,none,some ([5,6,20,21,22],[]),none,none,none,none] [(10,tI),(22,tI),(26,tI),(33,tI),(37,tI)] mixed (by kernel_rfl) (by kernel_rfl) h
/-! slices.Clone[[]int,int] -/
def z34 (a0:AV) (σ:Mem) (Q:AV->Mem->Prop):Prop:=
eqW .sl a0 .nils λv0=>
ifB v0 (
Q .nils (σ.bump 4)) (
zH (σ.bump 7) (σ.next+3) (.rw []) λσ1=>
apW 1 8 (σ.next+5) σ1 (.slice (σ.next+3) 0 0 (.ex 0)) a0 λv2 σ3=>
Q v2 σ3)
theorem z5Z {a0 σ Q} (h:σ.Live->z34 a0 σ Q):z1 PG z1g [a0] σ Q:=
 .of_sem [none,none,none,none,none] [] mixed (by kernel_rfl) (by kernel_rfl) h
/-! vitrine/huff.counted -/
def z79 (next3:Int->Mem->Prop) (v4:Int) (σ8:Mem):Prop:=
iW (v4+1) λv9=>
next3 v9 (σ8.bump 2)
def z76 (a0:AV) (Q:AV->Mem->Prop) (σ:Mem) (σ0:Mem) (v2:Int) (next3:Int->Mem->Prop) (v4:Int) (σ5:Mem):Prop:=
ifB (decide (v4<v2)) (
zd 1 a0 v4 λv6=>
ldI (σ5.bump 4) v6 λv7=>
z9 [] (λ(k10:Mem->Prop)=>
ifB (decide (0<v7)) (
z3f 16 1 (.ptr σ0.next 0) v7 λv11=>
ldI (σ5.bump 12) v11 λv12=>
iW (v12+1) λv13=>
z3f 16 1 (.ptr σ0.next 0) v7 λv14=>
stW 1 (σ5.bump 12) v14 (.int .i64 v13) λσ15=>
k10 σ15) (
k10 (σ5.bump 6))) (z79 next3 v4)) (
z3n 16 (σ5.bump 3) (.ptr σ0.next 0) λv16=>
stW 16 (σ5.bump 3) (.ptr σ.next 0) v16 λσ17=>
z3n 16 σ17 (.ptr σ.next 0) λv18=>
Q v18 σ17)
def z9T (a0:AV) (σ:Mem) (Q:AV->Mem->Prop):Prop:=
zH (σ.bump 1) σ.next (.rw (List.replicate 16 (.int .i64 0))) λσ0=>
zH (σ0.bump 1) σ0.next (.rw (List.replicate 16 (.int .i64 0))) λσ1=>
zn a0 λv2=>
zf [tI] (z76 a0 Q σ σ0 v2) 0 (σ1.bump 3)
theorem zeu {a0 σ Q} (h:σ.Live->z9T a0 σ Q):z1 PG z33 [a0] σ Q:=
 .of_sem [none,none,none,none,some ([2,3,6,7],[8]),none,none,none,none,none,some ([2,3,6,7,8],[]),none,none,none] [(8,tI),(11,tI),(16,tI)] mixed (by kernel_rfl) (by kernel_rfl) h
/-! slices.SortStableFunc[[]int,int] -/
def zX (a0:AV) (a1:AV) (σ:Mem) (Q:AV->Mem->Prop):Prop:=
zn a0 λv0=>
z6 PG z14 [a0,.int .i64 v0,a1] (σ.bump 5) λv1 σ2=>
Q (.tup []) σ2
theorem z0Z {a0 a1 σ Q} (h:σ.Live->zX a0 a1 σ Q):z1 PG zt [a0,a1] σ Q:=
 .of_sem [none] [] mixed (by kernel_rfl) (by kernel_rfl) h
/-! vitrine/huff.Make$1 -/
def zaJ (a0:Int) (a1:Int) (a2:AV) (σ:Mem) (Q:AV->Mem->Prop):Prop:=
ldW (σ.bump 11) a2 λv0=>
zd 1 v0 a0 λv1=>
ldI (σ.bump 11) v1 λv2=>
ldW (σ.bump 11) a2 λv3=>
zd 1 v3 a1 λv4=>
ldI (σ.bump 11) v4 λv5=>
z6 PG z23 [.int .i64 v2,.int .i64 v5] (σ.bump 11) λv6 σ7=>
zB .i64 v6 λv8=>
Q (.int .i64 v8) σ7
theorem zfI {a0 a1 a2 σ Q} (h:σ.Live->zaJ a0 a1 a2 σ Q):z1 PG z7D [.int .i64 a0,.int .i64 a1,a2] σ Q:=
 .of_sem [none,none] [(9,tI),(13,tI),(14,tI)] mixed (by kernel_rfl) (by kernel_rfl) h
/-! cmp.Compare[int] -/
def z6i (a0:Int) (a1:Int) (σ:Mem) (Q:AV->Mem->Prop):Prop:=
z6 PG z39 [.int .i64 a0] (σ.bump 4) λv0 σ1=>
z7G v0 λv2=>
z6 PG z39 [.int .i64 a1] (σ1.bump 3) λv3 σ4=>
z7G v3 λv5=>
ifB v2 (
ifB v5 (
Q (.int .i64 0) (σ4.bump 3)) (
Q (.int .i64 (-1)) (σ4.bump 3))) (
ifB v5 (
Q (.int .i64 1) (σ4.bump 3)) (
ifB (decide (a0<a1)) (
Q (.int .i64 (-1)) (σ4.bump 6)) (
ifB (decide (a1<a0)) (
Q (.int .i64 1) (σ4.bump 9)) (
Q (.int .i64 0) (σ4.bump 9)))))
theorem zav {a0 a1 σ Q} (h:σ.Live->z6i a0 a1 σ Q):z1 PG z23 [.int .i64 a0,.int .i64 a1] σ Q:=
 .of_sem [none,none,none,none,none,none,none,none,none,none,none,none,none,none,none,none,none,none,none] [(8,.b),(10,.b)] mixed (by kernel_rfl) (by kernel_rfl) h
/-! vitrine/deflate.symbols$1 -/
def z5g (a0:AV) (a1:AV) (a2:AV) (σ:Mem) (Q:AV->Mem->Prop):Prop:=
zge a1 (
zH (σ.bump 1) σ.next (.rw a1.cells) λσ0=>
ldW (σ0.bump 5) a2 λv1=>
z2H 0 (.ptr σ.next 0) λv2=>
ldI (σ0.bump 5) v2 λv3=>
z6 PG z1O [a0,v1,.int .i64 v3] (σ0.bump 5) λv4 σ5=>
zB .i64 v4 λv6=>
ldW (σ5.bump 6) a2 λv7=>
z2H 1 (.ptr σ.next 0) λv8=>
ldI (σ5.bump 6) v8 λv9=>
z2H 2 (.ptr σ.next 0) λv10=>
ldI (σ5.bump 6) v10 λv11=>
z6 PG zg [v7,.int .i64 v9,.int .i64 v11] (σ5.bump 6) λv12 σ13=>
Q (.tup []) σ13)
theorem z9s {a0 a1 a2 σ Q} (h:σ.Live->z5g a0 a1 a2 σ Q):z1 PG zW [a0,a1,a2] σ Q:=
 .of_sem [none,none,none] [(8,tI),(9,tI),(12,tI),(14,tI)] mixed (by kernel_rfl) (by kernel_rfl) h
/-! vitrine/deflate.length -/
def z5z (Q:AV->Mem->Prop) (σ:Mem) (v7:Int) (next8:Int->Mem->Prop) (v9:Int) (σ10:Mem):Prop:=
zmX .i64 v7 v9 λv11=>
ifB (decide (8<=v11)) (
iW (v9+1) λv12=>
next8 v12 (σ10.bump 7)) (
iW (4*v9) λv13=>
iW (257+v13) λv14=>
zmX .i64 v7 v9 λv15=>
iW (v14+v15) λv16=>
zh8 .i64 1 v9 λv17=>
iW (v17-1) λv18=>
z3r (zF .and .i64 v7 v18) λv19=>
stW 3 (σ10.bump 19) (.ptr σ.next 0) (.agg [.int .i64 v16,.int .i64 v19,.int .i64 v9]) λσ20=>
z3n 3 σ20 (.ptr σ.next 0) λv21=>
Q v21 σ20)
def z82 (a0:Int) (σ:Mem) (Q:AV->Mem->Prop):Prop:=
zH (σ.bump 1) σ.next (.rw [.int .i64 0,.int .i64 0,.int .i64 0]) λσ0=>
ifB (decide (a0=258)) (
stW 3 (σ0.bump 5) (.ptr σ.next 0) (.agg [.int .i64 285,.int .i64 0,.int .i64 0]) λσ1=>
z3n 3 σ1 (.ptr σ.next 0) λv2=>
Q v2 σ1) (
ifB (decide (a0<11)) (
iW (257+a0) λv3=>
iW (v3-3) λv4=>
stW 3 (σ0.bump 11) (.ptr σ.next 0) (.agg [.int .i64 v4,.int .i64 0,.int .i64 0]) λσ5=>
z3n 3 σ5 (.ptr σ.next 0) λv6=>
Q v6 σ5) (
iW (a0-3) λv7=>
zf [tI] (z5z Q σ v7) 0 (σ0.bump 10)))
theorem zcn {a0 σ Q} (h:σ.Live->z82 a0 σ Q):z1 PG z3d [.int .i64 a0] σ Q:=
 .of_sem [none,none,none,none,none,none,none,none,none,none,none,some ([0,2],[3]),none,none,none,none,none] [(3,tI)] mixed (by kernel_rfl) (by kernel_rfl) h
/-! vitrine/deflate.distance -/
def z4w (Q:AV->Mem->Prop) (σ:Mem) (v1:Int) (next4:Int->Mem->Prop) (v5:Int) (σ6:Mem):Prop:=
zmX .i64 v1 v5 λv7=>
ifB (decide (4<=v7)) (
iW (v5+1) λv8=>
next4 v8 (σ6.bump 7)) (
iW (2*v5) λv9=>
zmX .i64 v1 v5 λv10=>
iW (v9+v10) λv11=>
zh8 .i64 1 v5 λv12=>
iW (v12-1) λv13=>
z3r (zF .and .i64 v1 v13) λv14=>
stW 3 (σ6.bump 18) (.ptr σ.next 0) (.agg [.int .i64 v11,.int .i64 v14,.int .i64 v5]) λσ15=>
z3n 3 σ15 (.ptr σ.next 0) λv16=>
Q v16 σ15)
def z64 (a0:Int) (σ:Mem) (Q:AV->Mem->Prop):Prop:=
zH (σ.bump 1) σ.next (.rw [.int .i64 0,.int .i64 0,.int .i64 0]) λσ0=>
iW (a0-1) λv1=>
ifB (decide (v1<4)) (
stW 3 (σ0.bump 8) (.ptr σ.next 0) (.agg [.int .i64 v1,.int .i64 0,.int .i64 0]) λσ2=>
z3n 3 σ2 (.ptr σ.next 0) λv3=>
Q v3 σ2) (
zf [tI] (z4w Q σ v1) 0 (σ0.bump 6))
theorem zab {a0 σ Q} (h:σ.Live->z64 a0 σ Q):z1 PG z27 [.int .i64 a0] σ Q:=
 .of_sem [none,none,none,none,none,none,none,some ([0,2],[3]),none,none,none,none,none] [(3,tI)] mixed (by kernel_rfl) (by kernel_rfl) h
/-! vitrine/lz.Tokens$1 -/
def zda (Q:AV->Mem->Prop) (σ0:Mem):Prop:=
Q (.tup []) σ0
def z80 (a0:Int) (a1:Int) (a2:AV) (a3:AV) (k1:Mem->Prop) (next2:Int->Mem->Prop) (v3:Int) (σ4:Mem):Prop:=
iW (a0+a1) λv5=>
ifB (decide (v3<v5)) (
iW (v3+3) λv6=>
ldS (σ4.bump 12) a2 λv7=>
ifB (decide (v6<=(v7.size:Int))) (
ldS (σ4.bump 18) a2 λv8=>
iW (v3+3) λv9=>
zkD v8 v3 v9 λv10=>
ldW (σ4.bump 27) a3 λv11=>
ldW (σ4.bump 27) a3 λv12=>
zoz (σ4.bump 27) .nils false v12 (.str v10) λv13=>
zH (σ4.bump 27) (σ4.next+24) (.rw [.int .i64 v3]) λσ14=>
apW 1 8 (σ4.next+25) σ14 v13 (.slice (σ4.next+24) 0 1 (.ex 1)) λv15 σ16=>
ziX.sameW σ14 σ16 a3 (
zrG σ16 v11 (.str v10) v15 λσ17=>
iW (v3+1) λv18=>
next2 v18 (σ17.bump 3))) (
k1 (σ4.bump 12))) (
k1 (σ4.bump 12))
def zbL (a0:Int) (a1:Int) (a2:AV) (a3:AV) (σ:Mem) (Q:AV->Mem->Prop):Prop:=
z9 [] (λ(k1:Mem->Prop)=>
zf [tI] (z80 a0 a1 a2 a3 k1) a0 (σ.bump 2)) (zda Q)
theorem zfS {a0 a1 a2 a3 σ Q} (h:σ.Live->zbL a0 a1 a2 a3 σ Q):z1 PG z3I [.int .i64 a0,.int .i64 a1,a2,a3] σ Q:=
 .of_sem [none,some ([],[]),some ([0,1,2,3],[6]),none,none,none,none,none,none] [(6,tI),(17,.s),(23,.s)] mixed (by kernel_rfl) (by kernel_rfl) h
/-! vitrine/vitrineref02.Codes -/
def z7Q (next10:Int->Int->Int->Mem->Prop) (v13:Int) (v16:Int) (v17:Int) (σ18:Mem):Prop:=
iW (v13+1) λv19=>
next10 v16 v17 v19 (σ18.bump 3)
def z4H (σ1:Mem) (v3:Int) (v8:Int) (v13:Int) (k20:Int->Int->Mem->Prop) (v23:Int) (σ24:Mem):Prop:=
zd 1 (.slice (σ1.next+4) 0 (Int.toNat v3) (.ex (Int.toNat v3))) v13 λv25=>
stW 1 (σ24.bump 5) v25 (.int .i64 v23) λσ26=>
k20 v23 v8 (σ26.bump 2)
def z86 (a0:AV) (σ1:Mem) (v3:Int) (next5:Int->Int->Int->Mem->Prop) (v8:Int) (next10:Int->Int->Int->Mem->Prop) (v11:Int) (v12:Int) (v13:Int) (σ14:Mem):Prop:=
zn a0 λv15=>
ifB (decide (v13<v15)) (
z9 [tI,tI] (λ(k20:Int->Int->Mem->Prop)=>
zd 1 a0 v13 λv21=>
ldI (σ14.bump 10) v21 λv22=>
ifB (decide (v22≠v8)) (
k20 v11 v12 (σ14.bump 10)) (
z9 [tI] (λ(k27:Int->Mem->Prop)=>
ifB (decide (0<v12)) (
iW (v11+1) λv28=>
iW (v8-v12) λv29=>
zh8 .i64 v28 v29 λv30=>
k27 v30 (σ14.bump 19)) (
k27 v11 (σ14.bump 12))) (z4H σ1 v3 v8 v13 k20))) (z7Q next10 v13)) (
iW (v8+1) λv31=>
next5 v11 v12 v31 (σ14.bump 7))
def z85 (a0:AV) (Q:AV->Mem->Prop) (σ1:Mem) (v3:Int) (next5:Int->Int->Int->Mem->Prop) (v6:Int) (v7:Int) (v8:Int) (σ9:Mem):Prop:=
ifB (decide (v8<=15)) (
zf [tI,tI,tI] (z86 a0 σ1 v3 next5 v8) v6 v7 0 (σ9.bump 3)) (
Q (.tup [.slice (σ1.next+4) 0 (Int.toNat v3) (.ex (Int.toNat v3)),.int .i64 0]) (σ9.bump 5))
def zbe (a0:AV) (σ:Mem) (Q:AV->Mem->Prop):Prop:=
z6 PG z7p [a0] (σ.bump 5) λv0 σ1=>
zB .i64 v0 λv2=>
ifB (decide (v2≠0)) (
Q (.tup [.nils,.int .i64 v2]) (σ1.bump 5)) (
zn a0 λv3=>
zai 8 v3 v3 (
zH (σ1.bump 6) (σ1.next+4) (.rw (repl (Int.toNat v3) [.int .i64 0])) λσ4=>
zf [tI,tI,tI] (z85 a0 Q σ1 v3) 0 0 1 (σ4.bump 3)))
theorem zfP {a0 σ Q} (h:σ.Live->zbe a0 σ Q):z1 PG z7q [a0] σ Q:=
 .of_sem [none,none,none,none,none,none,none,none,none,none,some ([0,5],[6,7,8]),none,none,none,none,none,some ([0,5,8],[6,7,9]),none,none,some ([0,5,8,9],[6,7]),none,none,none,some ([0,5,8,9],[6]),none,none,none,none,none,none] [(11,tI),(6,tI),(7,tI),(8,tI),(9,tI),(31,tI)] mixed (by kernel_rfl) (by kernel_rfl) h
/-! slices.ContainsFunc[[]int,int] -/
def z1m (a0:AV) (a1:AV) (σ:Mem) (Q:AV->Mem->Prop):Prop:=
z6 PG z0G [a0,a1] (σ.bump 6) λv0 σ1=>
zB .i64 v0 λv2=>
Q (.bool (decide (0<=v2))) σ1
theorem z3U {a0 a1 σ Q} (h:σ.Live->z1m a0 a1 σ Q):z1 PG zA [a0,a1] σ Q:=
 .of_sem [none,none] [(7,tI)] mixed (by kernel_rfl) (by kernel_rfl) h
/-! vitrine/huff.Limit$1 -/
def za1 (a0:Int) (σ:Mem) (Q:AV->Mem->Prop):Prop:=
ifB (decide (a0<0)) (
Q (.bool true) (σ.bump 8)) (
Q (.bool (decide (1000000000<a0))) (σ.bump 8))
theorem zea {a0 σ Q} (h:σ.Live->za1 a0 σ Q):z1 PG zfL [.int .i64 a0] σ Q:=
 .of_sem [none,none] [] mixed (by kernel_rfl) (by kernel_rfl) h
/-! vitrine/vitrineref03.Distance -/
def z5o (a0:Int) (Q:AV->Mem->Prop) (next0:Int->Int->Mem->Prop) (v1:Int) (v2:Int) (σ3:Mem):Prop:=
ifB (decide (v2<a0)) (
z6 PG z1w [.int .i64 v2] (σ3.bump 9) λv4 σ5=>
zB .i64 v4 λv6=>
zh8 .i64 1 v6 λv7=>
iW (v1+v7) λv8=>
iW (v2+1) λv9=>
next0 v8 v9 (σ5.bump 3)) (
z6 PG z1w [.int .i64 a0] (σ3.bump 8) λv10 σ11=>
zB .i64 v10 λv12=>
Q (.tup [.int .i64 v1,.int .i64 v12]) σ11)
def z7Z (a0:Int) (σ:Mem) (Q:AV->Mem->Prop):Prop:=
zf [tI,tI] (z5o a0 Q) 1 0 (σ.bump 4)
theorem zbU {a0 σ Q} (h:σ.Live->z7Z a0 σ Q):z1 PG z3b [.int .i64 a0] σ Q:=
 .of_sem [none,none,none,none,some ([0],[4,5]),none,none,none,none,none,none] [(4,tI),(5,tI),(13,tI),(18,tI)] mixed (by kernel_rfl) (by kernel_rfl) h
/-! vitrine/vitrineref02.row -/
def zfw (next0:AV->Int->Int->Mem->Prop) (v7:AV) (v8:Int) (v9:Int) (σ10:Mem):Prop:=
next0 v7 v8 v9 σ10
def zfK (next0:AV->Int->Int->Mem->Prop) (v25:AV) (v26:Int) (v27:Int) (σ28:Mem):Prop:=
next0 v25 v26 v27 σ28
def zfF (next0:AV->Int->Int->Mem->Prop) (v42:AV) (v43:Int) (v44:Int) (σ45:Mem):Prop:=
next0 v42 v43 v44 σ45
def zfQ (next0:AV->Int->Int->Mem->Prop) (v55:AV) (v56:Int) (v57:Int) (σ58:Mem):Prop:=
next0 v55 v56 v57 σ58
def zfM (next0:AV->Int->Int->Mem->Prop) (v73:AV) (v74:Int) (v75:Int) (σ76:Mem):Prop:=
next0 v73 v74 v75 σ76
def zfJ (next0:AV->Int->Int->Mem->Prop) (v90:AV) (v91:Int) (v92:Int) (σ93:Mem):Prop:=
next0 v90 v91 v92 σ93
def z9y (a0:AV) (a1:AV) (Q:AV->Mem->Prop) (next0:AV->Int->Int->Mem->Prop) (v1:AV) (v2:Int) (v3:Int) (σ4:Mem):Prop:=
zn a0 λv5=>
ifB (decide (v2<v5)) (
zn a1 λv6=>
ifB (decide (v3=v6)) (
z9 [.v,tI,tI] (λ(k11:AV->Int->Int->Mem->Prop)=>
zd 3 a0 v2 λv12=>
z3n 3 (σ4.bump 41) v12 λv13=>
za v13 3 (
zH (σ4.bump 41) (σ4.next+38) (.rw (setAt [.int .i64 0,.bool false,.nils] 0 v13.cells)) λσ14=>
apW 3 40 (σ4.next+39) σ14 v1 (.slice (σ4.next+38) 0 1 (.ex 1)) λv15 σ16=>
iW (v2+1) λv17=>
k11 v15 v17 v3 (σ16.bump 3))) (zfw next0)) (
zn a0 λv18=>
ifB (decide (v2<v18)) (
zd 3 a0 v2 λv19=>
z2H 0 v19 λv20=>
ldI (σ4.bump 33) v20 λv21=>
zd 3 a1 v3 λv22=>
z2H 0 v22 λv23=>
ldI (σ4.bump 33) v23 λv24=>
z9 [.v,tI,tI] (λ(k29:AV->Int->Int->Mem->Prop)=>
ifB (decide (v21<=v24)) (
zd 3 a0 v2 λv30=>
z3n 3 (σ4.bump 41) v30 λv31=>
za v31 3 (
zH (σ4.bump 41) (σ4.next+38) (.rw (setAt [.int .i64 0,.bool false,.nils] 0 v31.cells)) λσ32=>
apW 3 40 (σ4.next+39) σ32 v1 (.slice (σ4.next+38) 0 1 (.ex 1)) λv33 σ34=>
iW (v2+1) λv35=>
k29 v33 v35 v3 (σ34.bump 3))) (
zd 3 a1 v3 λv36=>
z3n 3 (σ4.bump 41) v36 λv37=>
za v37 3 (
zH (σ4.bump 41) (σ4.next+38) (.rw (setAt [.int .i64 0,.bool false,.nils] 0 v37.cells)) λσ38=>
apW 3 40 (σ4.next+39) σ38 v1 (.slice (σ4.next+38) 0 1 (.ex 1)) λv39 σ40=>
iW (v3+1) λv41=>
k29 v39 v2 v41 (σ40.bump 3)))) (zfK next0)) (
z9 [.v,tI,tI] (λ(k46:AV->Int->Int->Mem->Prop)=>
zd 3 a1 v3 λv47=>
z3n 3 (σ4.bump 41) v47 λv48=>
za v48 3 (
zH (σ4.bump 41) (σ4.next+38) (.rw (setAt [.int .i64 0,.bool false,.nils] 0 v48.cells)) λσ49=>
apW 3 40 (σ4.next+39) σ49 v1 (.slice (σ4.next+38) 0 1 (.ex 1)) λv50 σ51=>
iW (v3+1) λv52=>
k46 v50 v2 v52 (σ51.bump 3))) (zfF next0)))) (
zn a1 λv53=>
ifB (decide (v3<v53)) (
zn a1 λv54=>
ifB (decide (v3=v54)) (
z9 [.v,tI,tI] (λ(k59:AV->Int->Int->Mem->Prop)=>
zd 3 a0 v2 λv60=>
z3n 3 (σ4.bump 41) v60 λv61=>
za v61 3 (
zH (σ4.bump 41) (σ4.next+38) (.rw (setAt [.int .i64 0,.bool false,.nils] 0 v61.cells)) λσ62=>
apW 3 40 (σ4.next+39) σ62 v1 (.slice (σ4.next+38) 0 1 (.ex 1)) λv63 σ64=>
iW (v2+1) λv65=>
k59 v63 v65 v3 (σ64.bump 3))) (zfQ next0)) (
zn a0 λv66=>
ifB (decide (v2<v66)) (
zd 3 a0 v2 λv67=>
z2H 0 v67 λv68=>
ldI (σ4.bump 33) v68 λv69=>
zd 3 a1 v3 λv70=>
z2H 0 v70 λv71=>
ldI (σ4.bump 33) v71 λv72=>
z9 [.v,tI,tI] (λ(k77:AV->Int->Int->Mem->Prop)=>
ifB (decide (v69<=v72)) (
zd 3 a0 v2 λv78=>
z3n 3 (σ4.bump 41) v78 λv79=>
za v79 3 (
zH (σ4.bump 41) (σ4.next+38) (.rw (setAt [.int .i64 0,.bool false,.nils] 0 v79.cells)) λσ80=>
apW 3 40 (σ4.next+39) σ80 v1 (.slice (σ4.next+38) 0 1 (.ex 1)) λv81 σ82=>
iW (v2+1) λv83=>
k77 v81 v83 v3 (σ82.bump 3))) (
zd 3 a1 v3 λv84=>
z3n 3 (σ4.bump 41) v84 λv85=>
za v85 3 (
zH (σ4.bump 41) (σ4.next+38) (.rw (setAt [.int .i64 0,.bool false,.nils] 0 v85.cells)) λσ86=>
apW 3 40 (σ4.next+39) σ86 v1 (.slice (σ4.next+38) 0 1 (.ex 1)) λv87 σ88=>
iW (v3+1) λv89=>
k77 v87 v2 v89 (σ88.bump 3)))) (zfM next0)) (
z9 [.v,tI,tI] (λ(k94:AV->Int->Int->Mem->Prop)=>
zd 3 a1 v3 λv95=>
z3n 3 (σ4.bump 41) v95 λv96=>
za v96 3 (
zH (σ4.bump 41) (σ4.next+38) (.rw (setAt [.int .i64 0,.bool false,.nils] 0 v96.cells)) λσ97=>
apW 3 40 (σ4.next+39) σ97 v1 (.slice (σ4.next+38) 0 1 (.ex 1)) λv98 σ99=>
iW (v3+1) λv100=>
k94 v98 v2 v100 (σ99.bump 3))) (zfJ next0)))) (
Q v1 (σ4.bump 12)))
def zfg (a0:AV) (a1:AV) (σ:Mem) (Q:AV->Mem->Prop):Prop:=
zf [.v,tI,tI] (z9y a0 a1 Q) .nils 0 0 (σ.bump 4)
theorem zix {a0 a1 σ Q} (h:σ.Live->zfg a0 a1 σ Q):z1 PG zag [a0,a1] σ Q:=
 .of_sem [none,none,none,none,none,some ([0,1],[5,6,7]),none,none,none,none,some ([0,1],[5,6,7]),none,none,none,none,none] [(6,tI),(7,tI),(32,tI),(37,tI)] mixed (by kernel_rfl) (by kernel_rfl) h
/-! (*vitrine/bits.Reader).Bits -/
def z4v (a0:AV) (a1:Int) (Q:AV->Mem->Prop) (next4:Mem->Prop) (σ5:Mem):Prop:=
lfI 2 (σ5.bump 6) a0 λv6=>
ifB (decide (v6<a1)) (
lfI 1 (σ5.bump 25) a0 λv7=>
lfS 0 (σ5.bump 25) a0 λv8=>
z6L v8 0 λv9=>
iW v9 λv10=>
lfI 2 (σ5.bump 25) a0 λv11=>
zh8 .i64 v10 v11 λv12=>
z3r (zF .or .i64 v7 v12) λv13=>
nfW 1 a0 λv14=>
stW 1 (σ5.bump 25) v14 (.int .i64 v13) λσ15=>
lfI 2 (σ15.bump 8) a0 λv16=>
iW (v16+8) λv17=>
nfW 2 a0 λv18=>
stW 1 (σ15.bump 8) v18 (.int .i64 v17) λσ19=>
lfS 0 (σ19.bump 9) a0 λv20=>
zkD v20 1 v20.size λv21=>
nfW 0 a0 λv22=>
stW 1 (σ19.bump 9) v22 (.str v21) λσ23=>
next4 σ23) (
lfI 1 (σ5.bump 15) a0 λv24=>
zh8 .i64 1 a1 λv25=>
iW (v25-1) λv26=>
z3r (zF .and .i64 v24 v26) λv27=>
lfI 1 (σ5.bump 24) a0 λv28=>
zmX .i64 v28 a1 λv29=>
nfW 1 a0 λv30=>
stW 1 (σ5.bump 24) v30 (.int .i64 v29) λσ31=>
lfI 2 (σ31.bump 9) a0 λv32=>
iW (v32-a1) λv33=>
nfW 2 a0 λv34=>
stW 1 (σ31.bump 9) v34 (.int .i64 v33) λσ35=>
Q (.tup [.int .i64 v27,.int .i64 0]) (σ35.bump 3))
def z6d (a0:AV) (a1:Int) (σ:Mem) (Q:AV->Mem->Prop):Prop:=
eqW .ptr a0 .nilp λv0=>
ifB v0 (
Q (.tup [.int .i64 0,.int .i64 2]) (σ.bump 7)) (
ifB (decide (a1<0)) (
Q (.tup [.int .i64 0,.int .i64 1]) (σ.bump 14)) (
ifB (decide (24<a1)) (
Q (.tup [.int .i64 0,.int .i64 1]) (σ.bump 14)) (
z6 PG z24 [a0] (σ.bump 17) λv1 σ2=>
zB .i64 v1 λv3=>
ifB (decide (v3<a1)) (
Q (.tup [.int .i64 0,.int .i64 3]) (σ2.bump 2)) (
zf [] (z4v a0 a1 Q) σ2))))
theorem za7 {a0 a1 σ Q} (h:σ.Live->z6d a0 a1 σ Q):z1 PG zC [a0,.int .i64 a1] σ Q:=
 .of_sem [none,none,none,none,none,none,none,none,none,none,none,none,some ([0,1],[]),none,none,none,none,none,none,none,none,none,none] [(20,tI),(25,tI),(31,tI),(35,.s),(41,tI),(49,tI),(57,.s),(64,tI),(72,tI),(80,tI)] mixed (by kernel_rfl) (by kernel_rfl) h
/-! (*vitrine/inflate.stream).pair -/
def z4A (a0:AV) (σ:Mem) (Q:AV->Mem->Prop):Prop:=
lfW 0 (σ.bump 12) a0 λv0=>
z6 PG z17 [v0,.int .i64 2] (σ.bump 12) λv1 σ2=>
tpS v1 0 λv3=>
tpI v1 1 λv4=>
ifB (decide (v4≠0)) (
Q (.tup [.int .i64 0,.int .i64 v4]) (σ2.bump 5)) (
z6L v3 0 λv5=>
iW v5 λv6=>
z6L v3 1 λv7=>
iW v7 λv8=>
iW (v8*256) λv9=>
z3r (zF .or .i64 v6 v9) λv10=>
Q (.tup [.int .i64 v10,.int .i64 0]) (σ2.bump 12))
theorem z8e {a0 σ Q} (h:σ.Live->z4A a0 σ Q):z1 PG z1b [a0] σ Q:=
 .of_sem [none,none,none,none,none,none] [(12,.s),(13,tI)] mixed (by kernel_rfl) (by kernel_rfl) h
/-! (*vitrine/bits.Reader).Bytes -/
def z5m (a0:AV) (a1:Int) (σ:Mem) (Q:AV->Mem->Prop):Prop:=
eqW .ptr a0 .nilp λv0=>
ifB v0 (
Q (.tup [.str ⟨#[]⟩,.int .i64 2]) (σ.bump 7)) (
ifB (decide (a1<0)) (
Q (.tup [.str ⟨#[]⟩,.int .i64 1]) (σ.bump 10)) (
nfW 1 a0 λv1=>
stW 1 (σ.bump 16) v1 (.int .i64 0) λσ2=>
nfW 2 a0 λv3=>
stW 1 σ2 v3 (.int .i64 0) λσ4=>
lfS 0 (σ4.bump 7) a0 λv5=>
ifB (decide ((v5.size:Int)<a1)) (
Q (.tup [.str ⟨#[]⟩,.int .i64 3]) (σ4.bump 9)) (
lfS 0 (σ4.bump 14) a0 λv6=>
zkD v6 0 a1 λv7=>
lfS 0 (σ4.bump 24) a0 λv8=>
zkD v8 a1 v8.size λv9=>
nfW 0 a0 λv10=>
stW 1 (σ4.bump 24) v10 (.str v9) λσ11=>
Q (.tup [.str v7,.int .i64 0]) (σ11.bump 3))))
theorem z9u {a0 a1 σ Q} (h:σ.Live->z5m a0 a1 σ Q):z1 PG z17 [a0,.int .i64 a1] σ Q:=
 .of_sem [none,none,none,none,none,none,none,none,none,none,none,none,none,none,none] [(23,.s),(29,.s),(36,.s)] mixed (by kernel_rfl) (by kernel_rfl) h
/-! (*vitrine/inflate.stream).small -/
def z2U (a0:AV) (Q:AV->Mem->Prop) (σ:Mem) (v2:AV) (v3:Int) (next4:Int->Mem->Prop) (v5:Int) (σ6:Mem):Prop:=
ifB (decide (v5<v3)) (
zd 1 v2 v5 λv7=>
ldI (σ6.bump 4) v7 λv8=>
lfW 0 (σ6.bump 14) a0 λv9=>
z6 PG zC [v9,.int .i64 3] (σ6.bump 14) λv10 σ11=>
tpI v10 0 λv12=>
tpI v10 1 λv13=>
ifB (decide (v13≠0)) (
Q (.tup [.nilp,.int .i64 v13]) (σ11.bump 5)) (
z3f 19 1 (.ptr (σ.next+2) 0) v8 λv14=>
stW 1 (σ11.bump 6) v14 (.int .i64 v12) λσ15=>
iW (v5+1) λv16=>
next4 v16 (σ15.bump 2))) (
zpG 19 1 (.ptr (σ.next+2) 0) none none λv17=>
z6 PG z1h [v17] (σ6.bump 7) λv18 σ19=>
z5b v18 0 λv20=>
tpI v18 1 λv21=>
Q (.tup [v20,.int .i64 v21]) σ19)
def z3Y (a0:AV) (a1:Int) (σ:Mem) (Q:AV->Mem->Prop):Prop:=
zH (σ.bump 3) (σ.next+2) (.rw (List.replicate 19 (.int .i64 0))) λσ0=>
zH (σ0.bump 5) σ0.next (.rw [.int .i64 16,.int .i64 17,.int .i64 18,.int .i64 0,.int .i64 8,.int .i64 7,.int .i64 9,.int .i64 6,.int .i64 10,.int .i64 5,.int .i64 11,.int .i64 4,.int .i64 12,.int .i64 3,.int .i64 13,.int .i64 2,.int .i64 14,.int .i64 1,.int .i64 15]) λσ1=>
zbQ 1 (.slice σ0.next 0 19 (.ex 19)) none (some a1) λv2=>
zn v2 λv3=>
zf [tI] (z2U a0 Q σ v2 v3) 0 σ1
theorem z7y {a0 a1 σ Q} (h:σ.Live->z3Y a0 a1 σ Q):z1 PG z20 [a0,.int .i64 a1] σ Q:=
 .of_sem [none,none,none,none,some ([0,6,13,14],[15]),none,none,none,none,none,none,none,none,none,none,none] [(15,tI),(18,tI),(25,tI),(26,tI),(37,tI)] mixed (by kernel_rfl) (by kernel_rfl) h
/-! (*vitrine/inflate.stream).run -/
def z4Z (a0:AV) (a1:AV) (a2:AV) (σ:Mem) (Q:AV->Mem->Prop):Prop:=
lfW 0 (σ.bump 14) a0 λv0=>
z6 PG z0W [a1,v0] (σ.bump 14) λv1 σ2=>
tpI v1 0 λv3=>
tpI v1 1 λv4=>
ifB (decide (v4≠0)) (
Q (.tup [.int .i64 v3,.int .i64 1,.int .i64 v4]) (σ2.bump 11)) (
ifB (decide (v3<16)) (
Q (.tup [.int .i64 v3,.int .i64 1,.int .i64 v4]) (σ2.bump 11)) (
ifB (decide (v3=16)) (
zn a2 λv5=>
ifB (decide (v5=0)) (
Q (.tup [.int .i64 0,.int .i64 0,.int .i64 12]) (σ2.bump 16)) (
iW (v3-16) λv6=>
zig 3 1 none (.agg [.int .i64 2,.int .i64 3,.int .i64 7]) v6 λa=>zB .i64 a λv7=>
lfW 0 (σ2.bump 29) a0 λv8=>
z6 PG zC [v8,.int .i64 v7] (σ2.bump 29) λv9 σ10=>
tpI v9 0 λv11=>
tpI v9 1 λv12=>
iW (v3-16) λv13=>
zig 3 1 none (.agg [.int .i64 3,.int .i64 3,.int .i64 11]) v13 λa=>zB .i64 a λv14=>
iW (v11+v14) λv15=>
ifB (decide (v3=16)) (
zn a2 λv16=>
iW (v16-1) λv17=>
zd 1 a2 v17 λv18=>
ldI (σ10.bump 20) v18 λv19=>
Q (.tup [.int .i64 v19,.int .i64 v15,.int .i64 v12]) (σ10.bump 20)) (
Q (.tup [.int .i64 0,.int .i64 v15,.int .i64 v12]) (σ10.bump 14)))) (
iW (v3-16) λv20=>
zig 3 1 none (.agg [.int .i64 2,.int .i64 3,.int .i64 7]) v20 λa=>zB .i64 a λv21=>
lfW 0 (σ2.bump 29) a0 λv22=>
z6 PG zC [v22,.int .i64 v21] (σ2.bump 29) λv23 σ24=>
tpI v23 0 λv25=>
tpI v23 1 λv26=>
iW (v3-16) λv27=>
zig 3 1 none (.agg [.int .i64 3,.int .i64 3,.int .i64 11]) v27 λa=>zB .i64 a λv28=>
iW (v25+v28) λv29=>
ifB (decide (v3=16)) (
zn a2 λv30=>
iW (v30-1) λv31=>
zd 1 a2 v31 λv32=>
ldI (σ24.bump 20) v32 λv33=>
Q (.tup [.int .i64 v33,.int .i64 v29,.int .i64 v26]) (σ24.bump 20)) (
Q (.tup [.int .i64 0,.int .i64 v29,.int .i64 v26]) (σ24.bump 14)))))
theorem z8M {a0 a1 a2 σ Q} (h:σ.Live->z4Z a0 a1 a2 σ Q):z1 PG z2L [a0,a1,a2] σ Q:=
 .of_sem [none,none,none,none,none,none,none,none,none,none,none,none,none,none,none] [(21,tI),(22,tI),(41,tI),(49,tI),(50,tI),(55,tI),(64,tI)] mixed (by kernel_rfl) (by kernel_rfl) h
/-! (*vitrine/inflate.stream).length -/
def z3F (a0:AV) (a1:Int) (σ:Mem) (Q:AV->Mem->Prop):Prop:=
iW (a1-257) λv0=>
ifB (decide (285<a1)) (
Q (.tup [.int .i64 0,.int .i64 12]) (σ.bump 10)) (
ifB (decide (a1=285)) (
Q (.tup [.int .i64 258,.int .i64 0]) (σ.bump 13)) (
ifB (decide (v0<8)) (
iW (v0+3) λv1=>
Q (.tup [.int .i64 v1,.int .i64 0]) (σ.bump 18)) (
zjO .i64 v0 4 λv2=>
iW (v2-1) λv3=>
lfW 0 (σ.bump 29) a0 λv4=>
z6 PG zC [v4,.int .i64 v3] (σ.bump 29) λv5 σ6=>
tpI v5 0 λv7=>
tpI v5 1 λv8=>
zl3 v0 4 λv9=>
iW (4+v9) λv10=>
zh8 .i64 v10 v3 λv11=>
iW (v11+3) λv12=>
iW (v12+v7) λv13=>
Q (.tup [.int .i64 v13,.int .i64 v8]) (σ6.bump 11))))
theorem z6O {a0 a1 σ Q} (h:σ.Live->z3F a0 a1 σ Q):z1 PG z1I [a0,.int .i64 a1] σ Q:=
 .of_sem [none,none,none,none,none,none,none,none,none,none,none,none,none,none,none] [(33,tI),(34,tI)] mixed (by kernel_rfl) (by kernel_rfl) h
/-! (*vitrine/inflate.stream).distance -/
def z35 (a0:AV) (a1:Int) (σ:Mem) (Q:AV->Mem->Prop):Prop:=
ifB (decide (29<a1)) (
Q (.tup [.int .i64 0,.int .i64 12]) (σ.bump 7)) (
ifB (decide (a1<4)) (
iW (a1+1) λv0=>
Q (.tup [.int .i64 v0,.int .i64 0]) (σ.bump 12)) (
zjO .i64 a1 2 λv1=>
iW (v1-1) λv2=>
lfW 0 (σ.bump 23) a0 λv3=>
z6 PG zC [v3,.int .i64 v2] (σ.bump 23) λv4 σ5=>
tpI v4 0 λv6=>
tpI v4 1 λv7=>
zl3 a1 2 λv8=>
iW (2+v8) λv9=>
zh8 .i64 v9 v2 λv10=>
iW (v10+1) λv11=>
iW (v11+v6) λv12=>
Q (.tup [.int .i64 v12,.int .i64 v7]) (σ5.bump 11)))
theorem z60 {a0 a1 σ Q} (h:σ.Live->z35 a0 a1 σ Q):z1 PG z1i [a0,.int .i64 a1] σ Q:=
 .of_sem [none,none,none,none,none,none,none,none,none,none,none] [(27,tI),(28,tI)] mixed (by kernel_rfl) (by kernel_rfl) h
/-! math/bits.Mul32 -/
/-! math/bits.Mul64 -/
def z6F (a0:Int) (a1:Int) (σ:Mem) (Q:AV->Mem->Prop):Prop:=
z3r (zF .and .u64 a0 4294967295) λv0=>
z3r (a0 / 4294967296) λv1=>
z3r (zF .and .u64 a1 4294967295) λv2=>
z3r (a1 / 4294967296) λv3=>
wrW .u64 (v0*v2) λv4=>
wrW .u64 (v1*v2) λv5=>
z3r (v4 / 4294967296) λv6=>
wrW .u64 (v5+v6) λv7=>
z3r (zF .and .u64 v7 4294967295) λv8=>
z3r (v7 / 4294967296) λv9=>
wrW .u64 (v0*v3) λv10=>
wrW .u64 (v8+v10) λv11=>
wrW .u64 (v1*v3) λv12=>
wrW .u64 (v12+v9) λv13=>
z3r (v11 / 4294967296) λv14=>
wrW .u64 (v13+v14) λv15=>
wrW .u64 (a0*a1) λv16=>
Q (.tup [.int .u64 v15,.int .u64 v16]) (σ.bump 50)
theorem zaM {a0 a1 σ Q} (h:σ.Live->z6F a0 a1 σ Q):z1 PG z7c [.int .u64 a0,.int .u64 a1] σ Q:=
 .of_sem [none,none,none,none,none,none,none,none,none,none,none,none] [] mixed (by kernel_rfl) (by kernel_rfl) h
/-! vitrine/huff.Check -/
def z97 (Q:AV->Mem->Prop) (σ2:Mem) (v8:AV) (next9:Int->Int->Int->Mem->Prop) (v10:Int) (v11:Int) (v12:Int) (σ13:Mem):Prop:=
ifB (decide (v12<16)) (
zig 16 1 none v8 v12 λa=>zB .i64 a λv14=>
iW (15-v12) λv15=>
zh8 .i64 v14 v15 λv16=>
iW (v10+v16) λv17=>
iW (v11+v14) λv18=>
iW (v12+1) λv19=>
next9 v17 v18 v19 (σ13.bump 18)) (
ifB (decide (32768<v10)) (
Q (.int .i64 10) (σ13.bump 5)) (
ifB (decide (v10<32768)) (
ifB (decide (0<v11)) (
ifB (decide (1<v11)) (
Q (.int .i64 11) (σ13.bump 21)) (
z3f 16 1 (.ptr (σ2.next+2) 0) 1 λv20=>
ldI (σ13.bump 20) v20 λv21=>
ifB (decide (v21=0)) (
Q (.int .i64 11) (σ13.bump 21)) (
Q (.int .i64 0) (σ13.bump 21)))) (
Q (.int .i64 0) (σ13.bump 21))) (
Q (.int .i64 0) (σ13.bump 21))))
def zcX (a0:AV) (σ:Mem) (Q:AV->Mem->Prop):Prop:=
zn a0 λv0=>
ifB (decide (288<v0)) (
Q (.int .i64 1) (σ.bump 9)) (
z6 PG zA [a0,.func 116 []] (σ.bump 8) λv1 σ2=>
z7G v1 λv3=>
ifB v3 (
Q (.int .i64 1) (σ2.bump 1)) (
z6 PG z33 [a0] (σ2.bump 4) λv4 σ5=>
zH σ5 (σ2.next+2) (.rw (List.replicate 16 (.int .i64 0))) λσ6=>
stW 16 σ6 (.ptr (σ2.next+2) 0) v4 λσ7=>
z3n 16 (σ7.bump 4) (.ptr (σ2.next+2) 0) λv8=>
zf [tI,tI,tI] (z97 Q σ2 v8) 0 0 0 (σ7.bump 4)))
theorem zha {a0 σ Q} (h:σ.Live->zcX a0 σ Q):z1 PG z8B [a0] σ Q:=
 .of_sem [none,none,none,none,none,none,none,none,some ([3,17],[4,5,18]),none,none,none,none,none,none,none,none,none,none,none,none,none,none,none] [(13,.b),(4,tI),(5,tI),(18,tI),(21,tI),(47,tI)] mixed (by kernel_rfl) (by kernel_rfl) h
/-! vitrine/huff.first -/
def z8q (Q:AV->Mem->Prop) (σ:Mem) (σ1:Mem) (next3:Int->Mem->Prop) (v4:Int) (σ5:Mem):Prop:=
ifB (decide (v4<=15)) (
iW (v4-1) λv6=>
z3f 16 1 (.ptr σ1.next 0) v6 λv7=>
ldI (σ5.bump 15) v7 λv8=>
iW (v4-1) λv9=>
z3f 16 1 (.ptr σ.next 0) v9 λv10=>
ldI (σ5.bump 15) v10 λv11=>
iW (v8+v11) λv12=>
iW (v12*2) λv13=>
z3f 16 1 (.ptr σ1.next 0) v4 λv14=>
stW 1 (σ5.bump 15) v14 (.int .i64 v13) λσ15=>
iW (v4+1) λv16=>
next3 v16 (σ15.bump 3)) (
z3n 16 (σ5.bump 4) (.ptr σ1.next 0) λv17=>
stW 16 (σ5.bump 4) (.ptr (σ.next+1) 0) v17 λσ18=>
z3n 16 σ18 (.ptr (σ.next+1) 0) λv19=>
Q v19 σ18)
def zcU (a0:AV) (σ:Mem) (Q:AV->Mem->Prop):Prop:=
zge a0 (
zH (σ.bump 2) σ.next (.rw a0.cells) λσ0=>
zH σ0 (σ.next+1) (.rw (List.replicate 16 (.int .i64 0))) λσ1=>
zH (σ1.bump 1) σ1.next (.rw (List.replicate 16 (.int .i64 0))) λσ2=>
zf [tI] (z8q Q σ σ1) 2 (σ2.bump 1))
theorem zhI {a0 σ Q} (h:σ.Live->zcU a0 σ Q):z1 PG z8K [a0] σ Q:=
 .of_sem [none,none,none,none,some ([1,2,3],[4]),none,none,none,none,none,none] [(4,tI),(13,tI),(17,tI)] mixed (by kernel_rfl) (by kernel_rfl) h
/-! slices.stableCmpFunc[int] -/
def z1E (next9:Int->Mem->Prop) (v10:Int) (σ23:Mem):Prop:=
iW (v10*2) λv24=>
next9 v24 (σ23.bump 3)
def z1G (a0:AV) (a1:Int) (a2:AV) (next9:Int->Mem->Prop) (v10:Int) (next13:Int->Int->Mem->Prop) (v14:Int) (v15:Int) (σ16:Mem):Prop:=
ifB (decide (v15<=a1)) (
iW (v14+v10) λv17=>
z6 PG zb [a0,.int .i64 v14,.int .i64 v17,.int .i64 v15,a2] (σ16.bump 11) λv18 σ19=>
iW (2*v10) λv20=>
iW (v15+v20) λv21=>
next13 v15 v21 (σ19.bump 7)) (
iW (v14+v10) λv22=>
z9 [] (λ(k25:Mem->Prop)=>
ifB (decide (v22<a1)) (
z6 PG zb [a0,.int .i64 v14,.int .i64 v22,.int .i64 a1,a2] (σ16.bump 16) λv26 σ27=>
k25 σ27) (
k25 (σ16.bump 10))) (z1E next9 v10))
def z0l (a0:AV) (a1:Int) (a2:AV) (Q:AV->Mem->Prop) (next9:Int->Mem->Prop) (v10:Int) (σ11:Mem):Prop:=
ifB (decide (v10<a1)) (
iW (2*v10) λv12=>
zf [tI,tI] (z1G a0 a1 a2 next9 v10) 0 v12 (σ11.bump 7)) (
Q (.tup []) (σ11.bump 3))
def z0n (a0:AV) (a1:Int) (a2:AV) (Q:AV->Mem->Prop) (next0:Int->Int->Mem->Prop) (v1:Int) (v2:Int) (σ3:Mem):Prop:=
ifB (decide (v2<=a1)) (
z6 PG zu [a0,.int .i64 v1,.int .i64 v2,a2] (σ3.bump 8) λv4 σ5=>
iW (v2+20) λv6=>
next0 v2 v6 (σ5.bump 6)) (
z6 PG zu [a0,.int .i64 v1,.int .i64 a1,a2] (σ3.bump 8) λv7 σ8=>
zf [tI] (z0l a0 a1 a2 Q) 20 σ8)
def z16 (a0:AV) (a1:Int) (a2:AV) (σ:Mem) (Q:AV->Mem->Prop):Prop:=
zf [tI,tI] (z0n a0 a1 a2 Q) 0 20 (σ.bump 4)
theorem z29 {a0 a1 a2 σ Q} (h:σ.Live->z16 a0 a1 a2 σ Q):z1 PG z14 [a0,.int .i64 a1,a2] σ Q:=
 .of_sem [none,none,none,some ([0,1,2,6],[7,8]),none,none,none,none,none,none,none,none,some ([0,1,2],[6]),none,none,none,none,none,some ([0,1,2,6],[7,8]),none,none,none,none,none,none,none,none,some ([0,1,2,6],[]),none,none] [(6,tI),(7,tI),(8,tI)] mixed (by kernel_rfl) (by kernel_rfl) h
/-! cmp.isNaN[int] -/
def z7P (a0:Int) (σ:Mem) (Q:AV->Mem->Prop):Prop:=
Q (.bool (decide (a0≠a0))) (σ.bump 5)
theorem zbV {a0 σ Q} (h:σ.Live->z7P a0 σ Q):z1 PG z39 [.int .i64 a0] σ Q:=
 .of_sem [none,none] [] mixed (by kernel_rfl) (by kernel_rfl) h
/-! vitrine/vitrineref02.Check -/
def z7S (a0:AV) (Q:AV->Mem->Prop) (next1:Int->Mem->Prop) (v2:Int) (σ3:Mem):Prop:=
zn a0 λv4=>
ifB (decide (v2<v4)) (
zd 1 a0 v2 λv5=>
ldI (σ3.bump 16) v5 λv6=>
ifB (decide (v6<0)) (
Q (.int .i64 1) (σ3.bump 17)) (
zd 1 a0 v2 λv7=>
ldI (σ3.bump 16) v7 λv8=>
ifB (decide (15<v8)) (
Q (.int .i64 1) (σ3.bump 17)) (
iW (v2+1) λv9=>
next1 v9 (σ3.bump 19)))) (
z6 PG zal [a0] (σ3.bump 13) λv10 σ11=>
tpI v10 0 λv12=>
tpI v10 1 λv13=>
tpI v10 2 λv14=>
ifB (decide (32768<v12)) (
Q (.int .i64 10) (σ11.bump 3)) (
ifB (decide (v12<32768)) (
ifB (decide (0<v13)) (
ifB (decide (v13=1)) (
ifB (!(decide (v14=1))) (
Q (.int .i64 11) (σ11.bump 18)) (
Q (.int .i64 0) (σ11.bump 18))) (
Q (.int .i64 11) (σ11.bump 18))) (
Q (.int .i64 0) (σ11.bump 18))) (
Q (.int .i64 0) (σ11.bump 18))))
def zbp (a0:AV) (σ:Mem) (Q:AV->Mem->Prop):Prop:=
zn a0 λv0=>
ifB (decide (288<v0)) (
Q (.int .i64 1) (σ.bump 5)) (
zf [tI] (z7S a0 Q) 0 (σ.bump 5))
theorem zfC {a0 σ Q} (h:σ.Live->zbp a0 σ Q):z1 PG z7p [a0] σ Q:=
 .of_sem [none,none,none,none,none,none,some ([0],[3]),none,none,none,none,none,none,none,none,none,none,none,none,none,none,none] [(3,tI),(19,tI),(25,tI),(31,tI),(32,tI),(33,tI)] mixed (by kernel_rfl) (by kernel_rfl) h
/-! slices.IndexFunc[[]int,int] -/
def z1q (a0:AV) (a1:AV) (Q:AV->Mem->Prop) (v0:Int) (next1:Int->Mem->Prop) (v2:Int) (σ3:Mem):Prop:=
ifB (decide (v2<v0)) (
zd 1 a0 v2 λv4=>
ldI (σ3.bump 9) v4 λv5=>
z2T PG a1 [.int .i64 v5] (σ3.bump 9) λv6 σ7=>
z7G v6 λv8=>
ifB v8 (
Q (.int .i64 v2) (σ7.bump 2)) (
iW (v2+1) λv9=>
next1 v9 (σ7.bump 2))) (
Q (.int .i64 (-1)) (σ3.bump 2))
def z1X (a0:AV) (a1:AV) (σ:Mem) (Q:AV->Mem->Prop):Prop:=
zn a0 λv0=>
zf [tI] (z1q a0 a1 Q v0) 0 (σ.bump 4)
theorem z4p {a0 a1 σ Q} (h:σ.Live->z1X a0 a1 σ Q):z1 PG z0G [a0,a1] σ Q:=
 .of_sem [none,none,none,some ([0,1,7],[8]),none,none,none,none,none,none,none,none,none] [(8,tI),(15,tI),(16,.b)] mixed (by kernel_rfl) (by kernel_rfl) h
/-! slices.stableCmpFunc[vitrine/huff.item] -/
def z0S (next9:Int->Mem->Prop) (v10:Int) (σ23:Mem):Prop:=
iW (v10*2) λv24=>
next9 v24 (σ23.bump 3)
def z0Q (a0:AV) (a1:Int) (a2:AV) (next9:Int->Mem->Prop) (v10:Int) (next13:Int->Int->Mem->Prop) (v14:Int) (v15:Int) (σ16:Mem):Prop:=
ifB (decide (v15<=a1)) (
iW (v14+v10) λv17=>
z6 PG z8 [a0,.int .i64 v14,.int .i64 v17,.int .i64 v15,a2] (σ16.bump 11) λv18 σ19=>
iW (2*v10) λv20=>
iW (v15+v20) λv21=>
next13 v15 v21 (σ19.bump 7)) (
iW (v14+v10) λv22=>
z9 [] (λ(k25:Mem->Prop)=>
ifB (decide (v22<a1)) (
z6 PG z8 [a0,.int .i64 v14,.int .i64 v22,.int .i64 a1,a2] (σ16.bump 16) λv26 σ27=>
k25 σ27) (
k25 (σ16.bump 10))) (z0S next9 v10))
def z0V (a0:AV) (a1:Int) (a2:AV) (Q:AV->Mem->Prop) (next9:Int->Mem->Prop) (v10:Int) (σ11:Mem):Prop:=
ifB (decide (v10<a1)) (
iW (2*v10) λv12=>
zf [tI,tI] (z0Q a0 a1 a2 next9 v10) 0 v12 (σ11.bump 7)) (
Q (.tup []) (σ11.bump 3))
def z0U (a0:AV) (a1:Int) (a2:AV) (Q:AV->Mem->Prop) (next0:Int->Int->Mem->Prop) (v1:Int) (v2:Int) (σ3:Mem):Prop:=
ifB (decide (v2<=a1)) (
z6 PG zw [a0,.int .i64 v1,.int .i64 v2,a2] (σ3.bump 8) λv4 σ5=>
iW (v2+20) λv6=>
next0 v2 v6 (σ5.bump 6)) (
z6 PG zw [a0,.int .i64 v1,.int .i64 a1,a2] (σ3.bump 8) λv7 σ8=>
zf [tI] (z0V a0 a1 a2 Q) 20 σ8)
def z1d (a0:AV) (a1:Int) (a2:AV) (σ:Mem) (Q:AV->Mem->Prop):Prop:=
zf [tI,tI] (z0U a0 a1 a2 Q) 0 20 (σ.bump 4)
theorem z3p {a0 a1 a2 σ Q} (h:σ.Live->z1d a0 a1 a2 σ Q):z1 PG z00 [a0,.int .i64 a1,a2] σ Q:=
 .of_sem [none,none,none,some ([0,1,2,6],[7,8]),none,none,none,none,none,none,none,none,some ([0,1,2],[6]),none,none,none,none,none,some ([0,1,2,6],[7,8]),none,none,none,none,none,none,none,none,some ([0,1,2,6],[]),none,none] [(6,tI),(7,tI),(8,tI)] mixed (by kernel_rfl) (by kernel_rfl) h
/-! vitrine/vitrineref03.lengthBits -/
def z6n (a0:Int) (σ:Mem) (Q:AV->Mem->Prop):Prop:=
ifB (decide (a0<265)) (
Q (.int .i64 0) (σ.bump 8)) (
ifB (decide (a0=285)) (
Q (.int .i64 0) (σ.bump 8)) (
iW (a0-261) λv0=>
zjO .i64 v0 4 λv1=>
Q (.int .i64 v1) (σ.bump 11)))
theorem zap {a0 σ Q} (h:σ.Live->z6n a0 σ Q):z1 PG z26 [.int .i64 a0] σ Q:=
 .of_sem [none,none,none,none,none] [] mixed (by kernel_rfl) (by kernel_rfl) h
/-! vitrine/vitrineref03.distanceBits -/
def z4T (a0:Int) (σ:Mem) (Q:AV->Mem->Prop):Prop:=
ifB (decide (a0<4)) (
Q (.int .i64 0) (σ.bump 4)) (
zjO .i64 a0 2 λv0=>
iW (v0-1) λv1=>
Q (.int .i64 v1) (σ.bump 7))
theorem z95 {a0 σ Q} (h:σ.Live->z4T a0 σ Q):z1 PG z1w [.int .i64 a0] σ Q:=
 .of_sem [none,none,none,none,none] [] mixed (by kernel_rfl) (by kernel_rfl) h
/-! vitrine/huff.Check$1 -/
def z9O (a0:Int) (σ:Mem) (Q:AV->Mem->Prop):Prop:=
ifB (decide (a0<0)) (
Q (.bool true) (σ.bump 8)) (
Q (.bool (decide (15<a0))) (σ.bump 8))
theorem zeR {a0 σ Q} (h:σ.Live->z9O a0 σ Q):z1 PG z6w [.int .i64 a0] σ Q:=
 .of_sem [none,none] [] mixed (by kernel_rfl) (by kernel_rfl) h
/-! slices.insertionSortCmpFunc[int] -/
def z0H (next1:Int->Mem->Prop) (v2:Int) (σ4:Mem):Prop:=
iW (v2+1) λv5=>
next1 v5 (σ4.bump 3)
def z0M (a0:AV) (a1:Int) (a3:AV) (k6:Mem->Prop) (next7:Int->Mem->Prop) (v8:Int) (σ9:Mem):Prop:=
ifB (decide (a1<v8)) (
zd 1 a0 v8 λv10=>
ldI (σ9.bump 17) v10 λv11=>
iW (v8-1) λv12=>
zd 1 a0 v12 λv13=>
ldI (σ9.bump 17) v13 λv14=>
z2T PG a3 [.int .i64 v11,.int .i64 v14] (σ9.bump 17) λv15 σ16=>
zB .i64 v15 λv17=>
ifB (decide (v17<0)) (
iW (v8-1) λv18=>
iW (v8-1) λv19=>
zd 1 a0 v19 λv20=>
ldI (σ16.bump 18) v20 λv21=>
zd 1 a0 v8 λv22=>
ldI (σ16.bump 18) v22 λv23=>
zd 1 a0 v8 λv24=>
stW 1 (σ16.bump 18) v24 (.int .i64 v21) λσ25=>
zd 1 a0 v18 λv26=>
stW 1 σ25 v26 (.int .i64 v23) λσ27=>
iW (v8-1) λv28=>
next7 v28 (σ27.bump 3)) (
k6 σ16)) (
k6 (σ9.bump 17))
def zP (a0:AV) (a1:Int) (a2:Int) (a3:AV) (Q:AV->Mem->Prop) (next1:Int->Mem->Prop) (v2:Int) (σ3:Mem):Prop:=
ifB (decide (v2<a2)) (
z9 [] (λ(k6:Mem->Prop)=>
zf [tI] (z0M a0 a1 a3 k6) v2 (σ3.bump 5)) (z0H next1 v2)) (
Q (.tup []) (σ3.bump 3))
def zY (a0:AV) (a1:Int) (a2:Int) (a3:AV) (σ:Mem) (Q:AV->Mem->Prop):Prop:=
iW (a1+1) λv0=>
zf [tI] (zP a0 a1 a2 a3 Q) v0 (σ.bump 3)
theorem z0Y {a0 a1 a2 a3 σ Q} (h:σ.Live->zY a0 a1 a2 a3 σ Q):z1 PG zu [a0,.int .i64 a1,.int .i64 a2,a3] σ Q:=
 .of_sem [none,none,some ([0,1,2,3],[8]),none,none,none,none,some ([0,1,2,3,8],[]),some ([0,1,2,3,8],[9]),none,none,none,none,none,none] [(8,tI),(9,tI),(26,tI),(31,tI),(32,tI),(46,tI),(50,tI)] mixed (by kernel_rfl) (by kernel_rfl) h
/-! slices.symMergeCmpFunc[int] -/
def z1u (next1:Int->Int->Mem->Prop) (v16:Int) (v17:Int) (σ18:Mem):Prop:=
next1 v16 v17 σ18
def z1j (a0:AV) (Q:AV->Mem->Prop) (v2:Int) (next21:Int->Mem->Prop) (v22:Int) (σ23:Mem):Prop:=
iW (v2-1) λv24=>
ifB (decide (v22<v24)) (
iW (v22+1) λv25=>
iW (v22+1) λv26=>
zd 1 a0 v26 λv27=>
ldI (σ23.bump 22) v27 λv28=>
zd 1 a0 v22 λv29=>
ldI (σ23.bump 22) v29 λv30=>
zd 1 a0 v22 λv31=>
stW 1 (σ23.bump 22) v31 (.int .i64 v28) λσ32=>
zd 1 a0 v25 λv33=>
stW 1 σ32 v33 (.int .i64 v30) λσ34=>
iW (v22+1) λv35=>
next21 v35 (σ34.bump 3)) (
Q (.tup []) (σ23.bump 4))
def z1k (a0:AV) (a1:Int) (a4:AV) (Q:AV->Mem->Prop) (next1:Int->Int->Mem->Prop) (v2:Int) (v3:Int) (σ4:Mem):Prop:=
ifB (decide (v2<v3)) (
iW (v2+v3) λv5=>
wrW .u64 v5 λv6=>
z3r (v6 / 2) λv7=>
iW v7 λv8=>
zd 1 a0 v8 λv9=>
ldI (σ4.bump 21) v9 λv10=>
zd 1 a0 a1 λv11=>
ldI (σ4.bump 21) v11 λv12=>
z2T PG a4 [.int .i64 v10,.int .i64 v12] (σ4.bump 21) λv13 σ14=>
zB .i64 v13 λv15=>
z9 [tI,tI] (λ(k19:Int->Int->Mem->Prop)=>
ifB (decide (v15<0)) (
iW (v8+1) λv20=>
k19 v20 v3 (σ14.bump 3)) (
k19 v2 v8 (σ14.bump 2))) (z1u next1)) (
zf [tI] (z1j a0 Q v2) a1 (σ4.bump 5))
def z1n (next37:Int->Int->Mem->Prop) (v52:Int) (v53:Int) (σ54:Mem):Prop:=
next37 v52 v53 σ54
def z1o (a0:AV) (Q:AV->Mem->Prop) (v38:Int) (next57:Int->Mem->Prop) (v58:Int) (σ59:Mem):Prop:=
ifB (decide (v38<v58)) (
iW (v58-1) λv60=>
iW (v58-1) λv61=>
zd 1 a0 v61 λv62=>
ldI (σ59.bump 21) v62 λv63=>
zd 1 a0 v58 λv64=>
ldI (σ59.bump 21) v64 λv65=>
zd 1 a0 v58 λv66=>
stW 1 (σ59.bump 21) v66 (.int .i64 v63) λσ67=>
zd 1 a0 v60 λv68=>
stW 1 σ67 v68 (.int .i64 v65) λσ69=>
iW (v58-1) λv70=>
next57 v70 (σ69.bump 3)) (
Q (.tup []) (σ59.bump 3))
def z1s (a0:AV) (a2:Int) (a4:AV) (Q:AV->Mem->Prop) (next37:Int->Int->Mem->Prop) (v38:Int) (v39:Int) (σ40:Mem):Prop:=
ifB (decide (v38<v39)) (
iW (v38+v39) λv41=>
wrW .u64 v41 λv42=>
z3r (v42 / 2) λv43=>
iW v43 λv44=>
zd 1 a0 a2 λv45=>
ldI (σ40.bump 22) v45 λv46=>
zd 1 a0 v44 λv47=>
ldI (σ40.bump 22) v47 λv48=>
z2T PG a4 [.int .i64 v46,.int .i64 v48] (σ40.bump 22) λv49 σ50=>
zB .i64 v49 λv51=>
z9 [tI,tI] (λ(k55:Int->Int->Mem->Prop)=>
ifB (!(decide (v51<0))) (
iW (v44+1) λv56=>
k55 v56 v39 (σ50.bump 3)) (
k55 v38 v44 (σ50.bump 2))) (z1n next37)) (
zf [tI] (z1o a0 Q v38) a2 (σ40.bump 5))
def z1r (next80:Int->Int->Mem->Prop) (v96:Int) (v97:Int) (σ98:Mem):Prop:=
next80 v96 v97 σ98
def z1p (Q:AV->Mem->Prop) (σ104:Mem):Prop:=
Q (.tup []) σ104
def z1t (Q:AV->Mem->Prop) (σ108:Mem):Prop:=
Q (.tup []) σ108
def z0d (a0:AV) (a3:Int) (a4:AV) (Q:AV->Mem->Prop) (v74:Int) (v101:Int) (σ103:Mem):Prop:=
ifB (decide (v74<v101)) (
z9 [] (λ(k105:Mem->Prop)=>
ifB (decide (v101<a3)) (
z6 PG zb [a0,.int .i64 v74,.int .i64 v101,.int .i64 a3,a4] (σ103.bump 14) λv106 σ107=>
k105 σ107) (
k105 (σ103.bump 8))) (z1p Q)) (
z9 [] (λ(k109:Mem->Prop)=>
k109 (σ103.bump 8)) (z1t Q))
def z3L (Q:AV->Mem->Prop) (σ114:Mem):Prop:=
Q (.tup []) σ114
def z3x (Q:AV->Mem->Prop) (σ118:Mem):Prop:=
Q (.tup []) σ118
def z3W (a0:AV) (a3:Int) (a4:AV) (Q:AV->Mem->Prop) (v74:Int) (v101:Int) (σ113:Mem):Prop:=
ifB (decide (v74<v101)) (
z9 [] (λ(k115:Mem->Prop)=>
ifB (decide (v101<a3)) (
z6 PG zb [a0,.int .i64 v74,.int .i64 v101,.int .i64 a3,a4] (σ113.bump 14) λv116 σ117=>
k115 σ117) (
k115 (σ113.bump 8))) (z3L Q)) (
z9 [] (λ(k119:Mem->Prop)=>
k119 (σ113.bump 8)) (z3x Q))
def z0c (a0:AV) (a1:Int) (a3:Int) (a4:AV) (Q:AV->Mem->Prop) (v74:Int) (v81:Int) (v101:Int) (σ102:Mem):Prop:=
ifB (decide (a1<v81)) (
z9 [] (λ(k110:Mem->Prop)=>
ifB (decide (v81<v74)) (
z6 PG zb [a0,.int .i64 a1,.int .i64 v81,.int .i64 v74,a4] (σ102.bump 14) λv111 σ112=>
k110 σ112) (
k110 (σ102.bump 8))) (z0d a0 a3 a4 Q v74 v101)) (
z9 [] (λ(k120:Mem->Prop)=>
k120 (σ102.bump 8)) (z3W a0 a3 a4 Q v74 v101))
def z3w (Q:AV->Mem->Prop) (σ126:Mem):Prop:=
Q (.tup []) σ126
def z3z (Q:AV->Mem->Prop) (σ130:Mem):Prop:=
Q (.tup []) σ130
def z3A (a0:AV) (a3:Int) (a4:AV) (Q:AV->Mem->Prop) (v74:Int) (v101:Int) (σ125:Mem):Prop:=
ifB (decide (v74<v101)) (
z9 [] (λ(k127:Mem->Prop)=>
ifB (decide (v101<a3)) (
z6 PG zb [a0,.int .i64 v74,.int .i64 v101,.int .i64 a3,a4] (σ125.bump 14) λv128 σ129=>
k127 σ129) (
k127 (σ125.bump 8))) (z3w Q)) (
z9 [] (λ(k131:Mem->Prop)=>
k131 (σ125.bump 8)) (z3z Q))
def z3C (Q:AV->Mem->Prop) (σ136:Mem):Prop:=
Q (.tup []) σ136
def z3v (Q:AV->Mem->Prop) (σ140:Mem):Prop:=
Q (.tup []) σ140
def z3N (a0:AV) (a3:Int) (a4:AV) (Q:AV->Mem->Prop) (v74:Int) (v101:Int) (σ135:Mem):Prop:=
ifB (decide (v74<v101)) (
z9 [] (λ(k137:Mem->Prop)=>
ifB (decide (v101<a3)) (
z6 PG zb [a0,.int .i64 v74,.int .i64 v101,.int .i64 a3,a4] (σ135.bump 14) λv138 σ139=>
k137 σ139) (
k137 (σ135.bump 8))) (z3C Q)) (
z9 [] (λ(k141:Mem->Prop)=>
k141 (σ135.bump 8)) (z3v Q))
def z3G (a0:AV) (a1:Int) (a3:Int) (a4:AV) (Q:AV->Mem->Prop) (v74:Int) (v81:Int) (v101:Int) (σ124:Mem):Prop:=
ifB (decide (a1<v81)) (
z9 [] (λ(k132:Mem->Prop)=>
ifB (decide (v81<v74)) (
z6 PG zb [a0,.int .i64 a1,.int .i64 v81,.int .i64 v74,a4] (σ124.bump 14) λv133 σ134=>
k132 σ134) (
k132 (σ124.bump 8))) (z3A a0 a3 a4 Q v74 v101)) (
z9 [] (λ(k142:Mem->Prop)=>
k142 (σ124.bump 8)) (z3N a0 a3 a4 Q v74 v101))
def z1v (a0:AV) (a1:Int) (a2:Int) (a3:Int) (a4:AV) (Q:AV->Mem->Prop) (v74:Int) (v75:Int) (v79:Int) (next80:Int->Int->Mem->Prop) (v81:Int) (v82:Int) (σ83:Mem):Prop:=
ifB (decide (v81<v82)) (
iW (v81+v82) λv84=>
wrW .u64 v84 λv85=>
z3r (v85 / 2) λv86=>
iW v86 λv87=>
iW (v79-v87) λv88=>
zd 1 a0 v88 λv89=>
ldI (σ83.bump 24) v89 λv90=>
zd 1 a0 v87 λv91=>
ldI (σ83.bump 24) v91 λv92=>
z2T PG a4 [.int .i64 v90,.int .i64 v92] (σ83.bump 24) λv93 σ94=>
zB .i64 v93 λv95=>
z9 [tI,tI] (λ(k99:Int->Int->Mem->Prop)=>
ifB (!(decide (v95<0))) (
iW (v87+1) λv100=>
k99 v100 v82 (σ94.bump 3)) (
k99 v81 v87 (σ94.bump 2))) (z1r next80)) (
iW (v75-v81) λv101=>
ifB (decide (v81<a2)) (
z9 [] (λ(k121:Mem->Prop)=>
ifB (decide (a2<v101)) (
z6 PG z10 [a0,.int .i64 v81,.int .i64 a2,.int .i64 v101,a4] (σ83.bump 21) λv122 σ123=>
k121 σ123) (
k121 (σ83.bump 15))) (z0c a0 a1 a3 a4 Q v74 v81 v101)) (
z9 [] (λ(k143:Mem->Prop)=>
k143 (σ83.bump 15)) (z3G a0 a1 a3 a4 Q v74 v81 v101)))
def z1l (a0:AV) (a1:Int) (a2:Int) (a3:Int) (a4:AV) (Q:AV->Mem->Prop) (v74:Int) (v75:Int) (v76:Int) (v77:Int) (σ78:Mem):Prop:=
iW (v75-1) λv79=>
zf [tI,tI] (z1v a0 a1 a2 a3 a4 Q v74 v75 v79) v76 v77 (σ78.bump 3)
def z1Y (a0:AV) (a1:Int) (a2:Int) (a3:Int) (a4:AV) (σ:Mem) (Q:AV->Mem->Prop):Prop:=
iW (a2-a1) λv0=>
ifB (decide (v0=1)) (
zf [tI,tI] (z1k a0 a1 a4 Q) a2 a3 (σ.bump 8)) (
iW (a3-a2) λv36=>
ifB (decide (v36=1)) (
zf [tI,tI] (z1s a0 a2 a4 Q) a1 a2 (σ.bump 12)) (
iW (a1+a3) λv71=>
wrW .u64 v71 λv72=>
z3r (v72 / 2) λv73=>
iW v73 λv74=>
iW (v74+a2) λv75=>
z9 [tI,tI] (λ(k144:Int->Int->Mem->Prop)=>
ifB (decide (v74<a2)) (
iW (v75-a3) λv145=>
k144 v145 v74 (σ.bump 30)) (
k144 a1 a2 (σ.bump 28))) (z1l a0 a1 a2 a3 a4 Q v74 v75)))
theorem z4q {a0 a1 a2 a3 a4 σ Q} (h:σ.Live->z1Y a0 a1 a2 a3 a4 σ Q):z1 PG zb [a0,.int .i64 a1,.int .i64 a2,.int .i64 a3,a4] σ Q:=
 .of_sem [none,none,none,none,none,some ([0,1,4],[10,11]),none,none,none,none,none,some ([0,1,4],[10,11]),none,none,none,none,some ([0,10],[13]),none,none,none,none,none,none,none,none,none,none,some ([0,2,4],[14,15]),none,none,none,none,none,some ([0,2,4],[14,15]),none,none,none,none,some ([0,14],[17]),none,none,none,none,none,none,none,none,none,some ([0,1,2,3,4,18,19],[20,21]),none,none,none,none,none,none,some ([0,1,2,3,4,18,19,22],[20,21]),none,none,none,none,none,some ([0,1,2,3,4,18,19,22],[20,21]),none,none,none,none,some ([0,1,3,4,18,20,24],[]),none,none,some ([0,3,4,18,24],[]),none,none,some ([],[]),none] [(10,tI),(11,tI),(44,tI),(48,tI),(49,tI),(13,tI),(70,tI),(74,tI),(14,tI),(15,tI),(96,tI),(100,tI),(101,tI),(17,tI),(122,tI),(126,tI),(20,tI),(21,tI),(164,tI),(168,tI),(169,tI)] mixed (by kernel_rfl) (by kernel_rfl) h
/-! vitrine/vitrineref02.sum -/
def z9J (next0:Int->Int->Int->Int->Mem->Prop) (v4:Int) (v9:Int) (v10:Int) (v11:Int) (σ12:Mem):Prop:=
iW (v4+1) λv13=>
next0 v9 v10 v11 v13 (σ12.bump 3)
def z9H (a0:AV) (Q:AV->Mem->Prop) (next0:Int->Int->Int->Int->Mem->Prop) (v1:Int) (v2:Int) (v3:Int) (v4:Int) (σ5:Mem):Prop:=
zn a0 λv6=>
ifB (decide (v4<v6)) (
zd 1 a0 v4 λv7=>
ldI (σ5.bump 9) v7 λv8=>
z9 [tI,tI,tI] (λ(k14:Int->Int->Int->Mem->Prop)=>
ifB (decide (0<v8)) (
zd 1 a0 v4 λv15=>
ldI (σ5.bump 18) v15 λv16=>
iW (15-v16) λv17=>
zh8 .i64 1 v17 λv18=>
iW (v1+v18) λv19=>
iW (v2+1) λv20=>
zd 1 a0 v4 λv21=>
ldI (σ5.bump 28) v21 λv22=>
z3r (imax v3 v22) λv23=>
k14 v19 v20 v23 (σ5.bump 28)) (
k14 v1 v2 v3 (σ5.bump 9))) (z9J next0 v4)) (
Q (.tup [.int .i64 v1,.int .i64 v2,.int .i64 v3]) (σ5.bump 10))
def zdZ (a0:AV) (σ:Mem) (Q:AV->Mem->Prop):Prop:=
zf [tI,tI,tI,tI] (z9H a0 Q) 0 0 0 0 (σ.bump 7)
theorem zjj {a0 σ Q} (h:σ.Live->zdZ a0 σ Q):z1 PG zal [a0] σ Q:=
 .of_sem [none,none,none,none,none,none,some ([0],[5,6,7,8]),none,none,none,none,some ([0,8],[5,6,7]),none,none,none,none,none] [(5,tI),(6,tI),(7,tI),(8,tI),(18,tI),(24,tI),(34,tI)] mixed (by kernel_rfl) (by kernel_rfl) h
/-! slices.insertionSortCmpFunc[vitrine/huff.item] -/
def z01 (next1:Int->Mem->Prop) (v2:Int) (σ4:Mem):Prop:=
iW (v2+1) λv5=>
next1 v5 (σ4.bump 3)
def z07 (a0:AV) (a1:Int) (a3:AV) (k6:Mem->Prop) (next7:Int->Mem->Prop) (v8:Int) (σ9:Mem):Prop:=
ifB (decide (a1<v8)) (
zd 3 a0 v8 λv10=>
z3n 3 (σ9.bump 17) v10 λv11=>
iW (v8-1) λv12=>
zd 3 a0 v12 λv13=>
z3n 3 (σ9.bump 17) v13 λv14=>
z2T PG a3 [v11,v14] (σ9.bump 17) λv15 σ16=>
zB .i64 v15 λv17=>
ifB (decide (v17<0)) (
iW (v8-1) λv18=>
iW (v8-1) λv19=>
zd 3 a0 v19 λv20=>
z3n 3 (σ16.bump 18) v20 λv21=>
zd 3 a0 v8 λv22=>
z3n 3 (σ16.bump 18) v22 λv23=>
zd 3 a0 v8 λv24=>
stW 3 (σ16.bump 18) v24 v21 λσ25=>
zd 3 a0 v18 λv26=>
stW 3 σ25 v26 v23 λσ27=>
iW (v8-1) λv28=>
next7 v28 (σ27.bump 3)) (
k6 σ16)) (
k6 (σ9.bump 17))
def z02 (a0:AV) (a1:Int) (a2:Int) (a3:AV) (Q:AV->Mem->Prop) (next1:Int->Mem->Prop) (v2:Int) (σ3:Mem):Prop:=
ifB (decide (v2<a2)) (
z9 [] (λ(k6:Mem->Prop)=>
zf [tI] (z07 a0 a1 a3 k6) v2 (σ3.bump 5)) (z01 next1 v2)) (
Q (.tup []) (σ3.bump 3))
def z0i (a0:AV) (a1:Int) (a2:Int) (a3:AV) (σ:Mem) (Q:AV->Mem->Prop):Prop:=
iW (a1+1) λv0=>
zf [tI] (z02 a0 a1 a2 a3 Q) v0 (σ.bump 3)
theorem z22 {a0 a1 a2 a3 σ Q} (h:σ.Live->z0i a0 a1 a2 a3 σ Q):z1 PG zw [a0,.int .i64 a1,.int .i64 a2,a3] σ Q:=
 .of_sem [none,none,some ([0,1,2,3],[8]),none,none,none,none,some ([0,1,2,3,8],[]),some ([0,1,2,3,8],[9]),none,none,none,none,none,none] [(8,tI),(9,tI),(32,tI)] mixed (by kernel_rfl) (by kernel_rfl) h
/-! slices.symMergeCmpFunc[vitrine/huff.item] -/
def z0A (next1:Int->Int->Mem->Prop) (v16:Int) (v17:Int) (σ18:Mem):Prop:=
next1 v16 v17 σ18
def z0r (a0:AV) (Q:AV->Mem->Prop) (v2:Int) (next21:Int->Mem->Prop) (v22:Int) (σ23:Mem):Prop:=
iW (v2-1) λv24=>
ifB (decide (v22<v24)) (
iW (v22+1) λv25=>
iW (v22+1) λv26=>
zd 3 a0 v26 λv27=>
z3n 3 (σ23.bump 22) v27 λv28=>
zd 3 a0 v22 λv29=>
z3n 3 (σ23.bump 22) v29 λv30=>
zd 3 a0 v22 λv31=>
stW 3 (σ23.bump 22) v31 v28 λσ32=>
zd 3 a0 v25 λv33=>
stW 3 σ32 v33 v30 λσ34=>
iW (v22+1) λv35=>
next21 v35 (σ34.bump 3)) (
Q (.tup []) (σ23.bump 4))
def z0y (a0:AV) (a1:Int) (a4:AV) (Q:AV->Mem->Prop) (next1:Int->Int->Mem->Prop) (v2:Int) (v3:Int) (σ4:Mem):Prop:=
ifB (decide (v2<v3)) (
iW (v2+v3) λv5=>
wrW .u64 v5 λv6=>
z3r (v6 / 2) λv7=>
iW v7 λv8=>
zd 3 a0 v8 λv9=>
z3n 3 (σ4.bump 21) v9 λv10=>
zd 3 a0 a1 λv11=>
z3n 3 (σ4.bump 21) v11 λv12=>
z2T PG a4 [v10,v12] (σ4.bump 21) λv13 σ14=>
zB .i64 v13 λv15=>
z9 [tI,tI] (λ(k19:Int->Int->Mem->Prop)=>
ifB (decide (v15<0)) (
iW (v8+1) λv20=>
k19 v20 v3 (σ14.bump 3)) (
k19 v2 v8 (σ14.bump 2))) (z0A next1)) (
zf [tI] (z0r a0 Q v2) a1 (σ4.bump 5))
def z0s (next37:Int->Int->Mem->Prop) (v52:Int) (v53:Int) (σ54:Mem):Prop:=
next37 v52 v53 σ54
def z0t (a0:AV) (Q:AV->Mem->Prop) (v38:Int) (next57:Int->Mem->Prop) (v58:Int) (σ59:Mem):Prop:=
ifB (decide (v38<v58)) (
iW (v58-1) λv60=>
iW (v58-1) λv61=>
zd 3 a0 v61 λv62=>
z3n 3 (σ59.bump 21) v62 λv63=>
zd 3 a0 v58 λv64=>
z3n 3 (σ59.bump 21) v64 λv65=>
zd 3 a0 v58 λv66=>
stW 3 (σ59.bump 21) v66 v63 λσ67=>
zd 3 a0 v60 λv68=>
stW 3 σ67 v68 v65 λσ69=>
iW (v58-1) λv70=>
next57 v70 (σ69.bump 3)) (
Q (.tup []) (σ59.bump 3))
def z0w (a0:AV) (a2:Int) (a4:AV) (Q:AV->Mem->Prop) (next37:Int->Int->Mem->Prop) (v38:Int) (v39:Int) (σ40:Mem):Prop:=
ifB (decide (v38<v39)) (
iW (v38+v39) λv41=>
wrW .u64 v41 λv42=>
z3r (v42 / 2) λv43=>
iW v43 λv44=>
zd 3 a0 a2 λv45=>
z3n 3 (σ40.bump 22) v45 λv46=>
zd 3 a0 v44 λv47=>
z3n 3 (σ40.bump 22) v47 λv48=>
z2T PG a4 [v46,v48] (σ40.bump 22) λv49 σ50=>
zB .i64 v49 λv51=>
z9 [tI,tI] (λ(k55:Int->Int->Mem->Prop)=>
ifB (!(decide (v51<0))) (
iW (v44+1) λv56=>
k55 v56 v39 (σ50.bump 3)) (
k55 v38 v44 (σ50.bump 2))) (z0s next37)) (
zf [tI] (z0t a0 Q v38) a2 (σ40.bump 5))
def z0z (next80:Int->Int->Mem->Prop) (v96:Int) (v97:Int) (σ98:Mem):Prop:=
next80 v96 v97 σ98
def z0C (Q:AV->Mem->Prop) (σ104:Mem):Prop:=
Q (.tup []) σ104
def z0q (Q:AV->Mem->Prop) (σ108:Mem):Prop:=
Q (.tup []) σ108
def zK (a0:AV) (a3:Int) (a4:AV) (Q:AV->Mem->Prop) (v74:Int) (v101:Int) (σ103:Mem):Prop:=
ifB (decide (v74<v101)) (
z9 [] (λ(k105:Mem->Prop)=>
ifB (decide (v101<a3)) (
z6 PG z8 [a0,.int .i64 v74,.int .i64 v101,.int .i64 a3,a4] (σ103.bump 14) λv106 σ107=>
k105 σ107) (
k105 (σ103.bump 8))) (z0C Q)) (
z9 [] (λ(k109:Mem->Prop)=>
k109 (σ103.bump 8)) (z0q Q))
def z2d (Q:AV->Mem->Prop) (σ114:Mem):Prop:=
Q (.tup []) σ114
def z2n (Q:AV->Mem->Prop) (σ118:Mem):Prop:=
Q (.tup []) σ118
def z2y (a0:AV) (a3:Int) (a4:AV) (Q:AV->Mem->Prop) (v74:Int) (v101:Int) (σ113:Mem):Prop:=
ifB (decide (v74<v101)) (
z9 [] (λ(k115:Mem->Prop)=>
ifB (decide (v101<a3)) (
z6 PG z8 [a0,.int .i64 v74,.int .i64 v101,.int .i64 a3,a4] (σ113.bump 14) λv116 σ117=>
k115 σ117) (
k115 (σ113.bump 8))) (z2d Q)) (
z9 [] (λ(k119:Mem->Prop)=>
k119 (σ113.bump 8)) (z2n Q))
def zL (a0:AV) (a1:Int) (a3:Int) (a4:AV) (Q:AV->Mem->Prop) (v74:Int) (v81:Int) (v101:Int) (σ102:Mem):Prop:=
ifB (decide (a1<v81)) (
z9 [] (λ(k110:Mem->Prop)=>
ifB (decide (v81<v74)) (
z6 PG z8 [a0,.int .i64 a1,.int .i64 v81,.int .i64 v74,a4] (σ102.bump 14) λv111 σ112=>
k110 σ112) (
k110 (σ102.bump 8))) (zK a0 a3 a4 Q v74 v101)) (
z9 [] (λ(k120:Mem->Prop)=>
k120 (σ102.bump 8)) (z2y a0 a3 a4 Q v74 v101))
def z2q (Q:AV->Mem->Prop) (σ126:Mem):Prop:=
Q (.tup []) σ126
def z2g (Q:AV->Mem->Prop) (σ130:Mem):Prop:=
Q (.tup []) σ130
def z2c (a0:AV) (a3:Int) (a4:AV) (Q:AV->Mem->Prop) (v74:Int) (v101:Int) (σ125:Mem):Prop:=
ifB (decide (v74<v101)) (
z9 [] (λ(k127:Mem->Prop)=>
ifB (decide (v101<a3)) (
z6 PG z8 [a0,.int .i64 v74,.int .i64 v101,.int .i64 a3,a4] (σ125.bump 14) λv128 σ129=>
k127 σ129) (
k127 (σ125.bump 8))) (z2q Q)) (
z9 [] (λ(k131:Mem->Prop)=>
k131 (σ125.bump 8)) (z2g Q))
def z2b (Q:AV->Mem->Prop) (σ136:Mem):Prop:=
Q (.tup []) σ136
def z2o (Q:AV->Mem->Prop) (σ140:Mem):Prop:=
Q (.tup []) σ140
def z2k (a0:AV) (a3:Int) (a4:AV) (Q:AV->Mem->Prop) (v74:Int) (v101:Int) (σ135:Mem):Prop:=
ifB (decide (v74<v101)) (
z9 [] (λ(k137:Mem->Prop)=>
ifB (decide (v101<a3)) (
z6 PG z8 [a0,.int .i64 v74,.int .i64 v101,.int .i64 a3,a4] (σ135.bump 14) λv138 σ139=>
k137 σ139) (
k137 (σ135.bump 8))) (z2b Q)) (
z9 [] (λ(k141:Mem->Prop)=>
k141 (σ135.bump 8)) (z2o Q))
def z2h (a0:AV) (a1:Int) (a3:Int) (a4:AV) (Q:AV->Mem->Prop) (v74:Int) (v81:Int) (v101:Int) (σ124:Mem):Prop:=
ifB (decide (a1<v81)) (
z9 [] (λ(k132:Mem->Prop)=>
ifB (decide (v81<v74)) (
z6 PG z8 [a0,.int .i64 a1,.int .i64 v81,.int .i64 v74,a4] (σ124.bump 14) λv133 σ134=>
k132 σ134) (
k132 (σ124.bump 8))) (z2c a0 a3 a4 Q v74 v101)) (
z9 [] (λ(k142:Mem->Prop)=>
k142 (σ124.bump 8)) (z2k a0 a3 a4 Q v74 v101))
def z0u (a0:AV) (a1:Int) (a2:Int) (a3:Int) (a4:AV) (Q:AV->Mem->Prop) (v74:Int) (v75:Int) (v79:Int) (next80:Int->Int->Mem->Prop) (v81:Int) (v82:Int) (σ83:Mem):Prop:=
ifB (decide (v81<v82)) (
iW (v81+v82) λv84=>
wrW .u64 v84 λv85=>
z3r (v85 / 2) λv86=>
iW v86 λv87=>
iW (v79-v87) λv88=>
zd 3 a0 v88 λv89=>
z3n 3 (σ83.bump 24) v89 λv90=>
zd 3 a0 v87 λv91=>
z3n 3 (σ83.bump 24) v91 λv92=>
z2T PG a4 [v90,v92] (σ83.bump 24) λv93 σ94=>
zB .i64 v93 λv95=>
z9 [tI,tI] (λ(k99:Int->Int->Mem->Prop)=>
ifB (!(decide (v95<0))) (
iW (v87+1) λv100=>
k99 v100 v82 (σ94.bump 3)) (
k99 v81 v87 (σ94.bump 2))) (z0z next80)) (
iW (v75-v81) λv101=>
ifB (decide (v81<a2)) (
z9 [] (λ(k121:Mem->Prop)=>
ifB (decide (a2<v101)) (
z6 PG z06 [a0,.int .i64 v81,.int .i64 a2,.int .i64 v101,a4] (σ83.bump 21) λv122 σ123=>
k121 σ123) (
k121 (σ83.bump 15))) (zL a0 a1 a3 a4 Q v74 v81 v101)) (
z9 [] (λ(k143:Mem->Prop)=>
k143 (σ83.bump 15)) (z2h a0 a1 a3 a4 Q v74 v81 v101)))
def z0x (a0:AV) (a1:Int) (a2:Int) (a3:Int) (a4:AV) (Q:AV->Mem->Prop) (v74:Int) (v75:Int) (v76:Int) (v77:Int) (σ78:Mem):Prop:=
iW (v75-1) λv79=>
zf [tI,tI] (z0u a0 a1 a2 a3 a4 Q v74 v75 v79) v76 v77 (σ78.bump 3)
def z11 (a0:AV) (a1:Int) (a2:Int) (a3:Int) (a4:AV) (σ:Mem) (Q:AV->Mem->Prop):Prop:=
iW (a2-a1) λv0=>
ifB (decide (v0=1)) (
zf [tI,tI] (z0y a0 a1 a4 Q) a2 a3 (σ.bump 8)) (
iW (a3-a2) λv36=>
ifB (decide (v36=1)) (
zf [tI,tI] (z0w a0 a2 a4 Q) a1 a2 (σ.bump 12)) (
iW (a1+a3) λv71=>
wrW .u64 v71 λv72=>
z3r (v72 / 2) λv73=>
iW v73 λv74=>
iW (v74+a2) λv75=>
z9 [tI,tI] (λ(k144:Int->Int->Mem->Prop)=>
ifB (decide (v74<a2)) (
iW (v75-a3) λv145=>
k144 v145 v74 (σ.bump 30)) (
k144 a1 a2 (σ.bump 28))) (z0x a0 a1 a2 a3 a4 Q v74 v75)))
theorem z32 {a0 a1 a2 a3 a4 σ Q} (h:σ.Live->z11 a0 a1 a2 a3 a4 σ Q):z1 PG z8 [a0,.int .i64 a1,.int .i64 a2,.int .i64 a3,a4] σ Q:=
 .of_sem [none,none,none,none,none,some ([0,1,4],[10,11]),none,none,none,none,none,some ([0,1,4],[10,11]),none,none,none,none,some ([0,10],[13]),none,none,none,none,none,none,none,none,none,none,some ([0,2,4],[14,15]),none,none,none,none,none,some ([0,2,4],[14,15]),none,none,none,none,some ([0,14],[17]),none,none,none,none,none,none,none,none,none,some ([0,1,2,3,4,18,19],[20,21]),none,none,none,none,none,none,some ([0,1,2,3,4,18,19,22],[20,21]),none,none,none,none,none,some ([0,1,2,3,4,18,19,22],[20,21]),none,none,none,none,some ([0,1,3,4,18,20,24],[]),none,none,some ([0,3,4,18,24],[]),none,none,some ([],[]),none] [(10,tI),(11,tI),(49,tI),(13,tI),(14,tI),(15,tI),(101,tI),(17,tI),(20,tI),(21,tI),(169,tI)] mixed (by kernel_rfl) (by kernel_rfl) h
/-! slices.rotateCmpFunc[int] -/
def z0o (next2:Int->Int->Mem->Prop) (v6:Int) (v7:Int) (σ8:Mem):Prop:=
next2 v6 v7 σ8
def z1C (a0:AV) (a2:Int) (a4:AV) (Q:AV->Mem->Prop) (next2:Int->Int->Mem->Prop) (v3:Int) (v4:Int) (σ5:Mem):Prop:=
ifB (decide (v3≠v4)) (
z9 [tI,tI] (λ(k9:Int->Int->Mem->Prop)=>
ifB (decide (v4<v3)) (
iW (a2-v3) λv10=>
z6 PG zE [a0,.int .i64 v10,.int .i64 a2,.int .i64 v4,a4] (σ5.bump 14) λv11 σ12=>
iW (v3-v4) λv13=>
k9 v13 v4 (σ12.bump 4)) (
iW (a2-v3) λv14=>
iW (a2+v4) λv15=>
iW (v15-v3) λv16=>
z6 PG zE [a0,.int .i64 v14,.int .i64 v16,.int .i64 v3,a4] (σ5.bump 18) λv17 σ18=>
iW (v4-v3) λv19=>
k9 v3 v19 (σ18.bump 4))) (z0o next2)) (
iW (a2-v3) λv20=>
z6 PG zE [a0,.int .i64 v20,.int .i64 a2,.int .i64 v3,a4] (σ5.bump 11) λv21 σ22=>
Q (.tup []) σ22)
def z2v (a0:AV) (a1:Int) (a2:Int) (a3:Int) (a4:AV) (σ:Mem) (Q:AV->Mem->Prop):Prop:=
iW (a2-a1) λv0=>
iW (a3-a2) λv1=>
zf [tI,tI] (z1C a0 a2 a4 Q) v0 v1 (σ.bump 8)
theorem z54 {a0 a1 a2 a3 a4 σ Q} (h:σ.Live->z2v a0 a1 a2 a3 a4 σ Q):z1 PG z10 [a0,.int .i64 a1,.int .i64 a2,.int .i64 a3,a4] σ Q:=
 .of_sem [none,none,none,some ([0,2,4],[10,11]),none,none,none,none,some ([0,2,4],[10,11]),none,none,none,none,none] [(10,tI),(11,tI)] mixed (by kernel_rfl) (by kernel_rfl) h
/-! slices.rotateCmpFunc[vitrine/huff.item] -/
def zS (next2:Int->Int->Mem->Prop) (v6:Int) (v7:Int) (σ8:Mem):Prop:=
next2 v6 v7 σ8
def z0R (a0:AV) (a2:Int) (a4:AV) (Q:AV->Mem->Prop) (next2:Int->Int->Mem->Prop) (v3:Int) (v4:Int) (σ5:Mem):Prop:=
ifB (decide (v3≠v4)) (
z9 [tI,tI] (λ(k9:Int->Int->Mem->Prop)=>
ifB (decide (v4<v3)) (
iW (a2-v3) λv10=>
z6 PG zo [a0,.int .i64 v10,.int .i64 a2,.int .i64 v4,a4] (σ5.bump 14) λv11 σ12=>
iW (v3-v4) λv13=>
k9 v13 v4 (σ12.bump 4)) (
iW (a2-v3) λv14=>
iW (a2+v4) λv15=>
iW (v15-v3) λv16=>
z6 PG zo [a0,.int .i64 v14,.int .i64 v16,.int .i64 v3,a4] (σ5.bump 18) λv17 σ18=>
iW (v4-v3) λv19=>
k9 v3 v19 (σ18.bump 4))) (zS next2)) (
iW (a2-v3) λv20=>
z6 PG zo [a0,.int .i64 v20,.int .i64 a2,.int .i64 v3,a4] (σ5.bump 11) λv21 σ22=>
Q (.tup []) σ22)
def z1e (a0:AV) (a1:Int) (a2:Int) (a3:Int) (a4:AV) (σ:Mem) (Q:AV->Mem->Prop):Prop:=
iW (a2-a1) λv0=>
iW (a3-a2) λv1=>
zf [tI,tI] (z0R a0 a2 a4 Q) v0 v1 (σ.bump 8)
theorem z3o {a0 a1 a2 a3 a4 σ Q} (h:σ.Live->z1e a0 a1 a2 a3 a4 σ Q):z1 PG z06 [a0,.int .i64 a1,.int .i64 a2,.int .i64 a3,a4] σ Q:=
 .of_sem [none,none,none,some ([0,2,4],[10,11]),none,none,none,none,some ([0,2,4],[10,11]),none,none,none,none,none] [(10,tI),(11,tI)] mixed (by kernel_rfl) (by kernel_rfl) h
/-! slices.swapRangeCmpFunc[int] -/
def z1a (a0:AV) (a1:Int) (a2:Int) (a3:Int) (Q:AV->Mem->Prop) (next0:Int->Mem->Prop) (v1:Int) (σ2:Mem):Prop:=
ifB (decide (v1<a3)) (
iW (a1+v1) λv3=>
iW (a2+v1) λv4=>
iW (a2+v1) λv5=>
zd 1 a0 v5 λv6=>
ldI (σ2.bump 27) v6 λv7=>
iW (a1+v1) λv8=>
zd 1 a0 v8 λv9=>
ldI (σ2.bump 27) v9 λv10=>
zd 1 a0 v3 λv11=>
stW 1 (σ2.bump 27) v11 (.int .i64 v7) λσ12=>
zd 1 a0 v4 λv13=>
stW 1 σ12 v13 (.int .i64 v10) λσ14=>
iW (v1+1) λv15=>
next0 v15 (σ14.bump 3)) (
Q (.tup []) (σ2.bump 3))
def z1D (a0:AV) (a1:Int) (a2:Int) (a3:Int) (a4:AV) (σ:Mem) (Q:AV->Mem->Prop):Prop:=
zf [tI] (z1a a0 a1 a2 a3 Q) 0 (σ.bump 1)
theorem z41 {a0 a1 a2 a3 a4 σ Q} (h:σ.Live->z1D a0 a1 a2 a3 a4 σ Q):z1 PG zE [a0,.int .i64 a1,.int .i64 a2,.int .i64 a3,a4] σ Q:=
 .of_sem [none,none,some ([0,1,2,3],[10]),none,none,none,none,none] [(10,tI),(29,tI),(35,tI)] mixed (by kernel_rfl) (by kernel_rfl) h
/-! slices.swapRangeCmpFunc[vitrine/huff.item] -/
def z0m (a0:AV) (a1:Int) (a2:Int) (a3:Int) (Q:AV->Mem->Prop) (next0:Int->Mem->Prop) (v1:Int) (σ2:Mem):Prop:=
ifB (decide (v1<a3)) (
iW (a1+v1) λv3=>
iW (a2+v1) λv4=>
iW (a2+v1) λv5=>
zd 3 a0 v5 λv6=>
z3n 3 (σ2.bump 27) v6 λv7=>
iW (a1+v1) λv8=>
zd 3 a0 v8 λv9=>
z3n 3 (σ2.bump 27) v9 λv10=>
zd 3 a0 v3 λv11=>
stW 3 (σ2.bump 27) v11 v7 λσ12=>
zd 3 a0 v4 λv13=>
stW 3 σ12 v13 v10 λσ14=>
iW (v1+1) λv15=>
next0 v15 (σ14.bump 3)) (
Q (.tup []) (σ2.bump 3))
def z0P (a0:AV) (a1:Int) (a2:Int) (a3:Int) (a4:AV) (σ:Mem) (Q:AV->Mem->Prop):Prop:=
zf [tI] (z0m a0 a1 a2 a3 Q) 0 (σ.bump 1)
theorem z2M {a0 a1 a2 a3 a4 σ Q} (h:σ.Live->z0P a0 a1 a2 a3 a4 σ Q):z1 PG zo [a0,.int .i64 a1,.int .i64 a2,.int .i64 a3,a4] σ Q:=
 .of_sem [none,none,some ([0,1,2,3],[10]),none,none,none,none,none] [(10,tI)] mixed (by kernel_rfl) (by kernel_rfl) h
end Go.Vit
