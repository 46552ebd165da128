/- The functions, as printed conditions. -/
import Derived.Test.YtloeboiajgfigaaGreatVm2
import Derived.Test.YtloeboiajgfigaaGreatChecked
import Derived.KernelRfl
set_option linter.unusedVariables false
set_option linter.unusedSimpArgs false
set_option maxRecDepth 100000
namespace Go.Vit
open Go.Proofs
noncomputable abbrev PG:Program:=Tryz.prog
theorem mixed:PG.follows .mixedOrders=true:=by kernel_rfl
abbrev z6h:Nat:=4
abbrev zar:Nat:=5
abbrev z31:Nat:=7
abbrev z2X:Nat:=8
abbrev z6I:Nat:=9
abbrev z4A:Nat:=10
abbrev z9g:Nat:=11
abbrev z7N:Nat:=14
abbrev z8N:Nat:=15
abbrev z4r:Nat:=16
abbrev z5H:Nat:=17
abbrev zbN:Nat:=18
abbrev z51:Nat:=19
abbrev z5Q:Nat:=20
abbrev z4C:Nat:=21
abbrev z8D:Nat:=22
abbrev za5:Nat:=26
abbrev z0J:Nat:=27
abbrev z21:Nat:=28
abbrev z5I:Nat:=29
abbrev z1L:Nat:=30
abbrev z1s:Nat:=31
abbrev z11:Nat:=32
abbrev z0q:Nat:=33
abbrev z2i:Nat:=34
abbrev z2m:Nat:=35
abbrev z8:Nat:=36
abbrev z1V:Nat:=37
abbrev z7S:Nat:=38
abbrev z0x:Nat:=39
abbrev z2w:Nat:=40
abbrev z7g:Nat:=41
abbrev zg:Nat:=42
abbrev z1W:Nat:=43
abbrev z1k:Nat:=44
abbrev z0h:Nat:=45
abbrev zo:Nat:=46
abbrev z2U:Nat:=47
abbrev z7R:Nat:=48
abbrev z4y:Nat:=49
abbrev z6K:Nat:=50
abbrev z3N:Nat:=51
abbrev z3q:Nat:=52
abbrev z2f:Nat:=53
abbrev z23:Nat:=54
abbrev z8x:Nat:=57
abbrev z7I:Nat:=65
abbrev z4w:Nat:=66
abbrev zC:Nat:=67
abbrev z1j:Nat:=68
abbrev z14:Nat:=69
abbrev z2h:Nat:=70
abbrev z39:Nat:=71
abbrev z93:Nat:=72
abbrev z1r:Nat:=73
abbrev z3n:Nat:=74
abbrev zs:Nat:=75
abbrev z7J:Nat:=76
abbrev z2u:Nat:=77
abbrev z1X:Nat:=78
abbrev z1p:Nat:=79
abbrev z1e:Nat:=80
abbrev zR:Nat:=81
abbrev zH:Nat:=82
abbrev zK:Nat:=83
abbrev z6E:Nat:=84
abbrev z3A:Nat:=85
abbrev z1M:Nat:=86
abbrev z5W:Nat:=87
abbrev zV:Nat:=88
abbrev z3B:Nat:=89
abbrev z2q:Nat:=90
abbrev z3W:Nat:=91
abbrev zy:Nat:=92
abbrev zeN:Nat:=93
abbrev zm:Nat:=94
abbrev z3l:Nat:=95
abbrev zO:Nat:=96
abbrev zP:Nat:=97
abbrev z50:Nat:=98
abbrev z7E:Nat:=99
abbrev z8i:Nat:=101
abbrev z8W:Nat:=102
abbrev z1f:Nat:=103
abbrev z3C:Nat:=104
abbrev z22:Nat:=105
abbrev z3b:Nat:=106
abbrev z4d:Nat:=107
abbrev z2t:Nat:=108
abbrev z1H:Nat:=109
abbrev z7r:Nat:=111
abbrev z0M:Nat:=112
abbrev z04:Nat:=113
abbrev zl:Nat:=114
abbrev z7A:Nat:=115
abbrev z6H:Nat:=116
abbrev zr:Nat:=117
abbrev zb:Nat:=118
abbrev z7T:Nat:=119
abbrev zt:Nat:=120
abbrev z7:Nat:=121
abbrev z1c:Nat:=122
abbrev z09:Nat:=123
abbrev zD:Nat:=124
abbrev zp:Nat:=125
/-! vitrine/deflate.Runs -/
def z4x (next0:AV->Int->Mem->Prop) (v1:AV) (v2:Int) (σ8:Mem) (v15:Int) (σ16:Mem):Prop:=
z5x 2 (σ16.bump 5) (.ptr (σ8.next+5) 0) λv17=>
zG v17 2 (
z15 (σ16.bump 5) (σ16.next+2) (.rw (setAt [.int .i64 0,.int .i64 0] 0 v17.cells)) λσ18=>
apW 2 16 (σ16.next+3) σ18 v1 (.slice (σ16.next+2) 0 1 (.ex 1)) λv19 σ20=>
iW (v2+v15) λv21=>
next0 v19 v21 (σ20.bump 4))
def zbR (k22:Int->Mem->Prop) (v28:Int) (σ29:Mem):Prop:=
k22 v28 σ29
def zbS (k30:Int->Mem->Prop) (v35:Int) (σ36:Mem):Prop:=
k30 v35 σ36
def zbL (k30:Int->Mem->Prop) (v41:Int) (σ42:Mem):Prop:=
k30 v41 σ42
def zbV (k30:Int->Mem->Prop) (v44:Int) (σ45:Mem):Prop:=
k30 v44 σ45
def zcj (k22:Int->Mem->Prop) (v47:Int) (σ48:Mem):Prop:=
k22 v47 σ48
def zc0 (k49:Int->Mem->Prop) (v52:Int) (σ53:Mem):Prop:=
k49 v52 σ53
def zbw (k49:Int->Mem->Prop) (v58:Int) (σ59:Mem):Prop:=
k49 v58 σ59
def zbr (k49:Int->Mem->Prop) (v61:Int) (σ62:Mem):Prop:=
k49 v61 σ62
def zaQ (next0:AV->Int->Mem->Prop) (v1:AV) (v2:Int) (σ8:Mem) (v64:Int) (σ65:Mem):Prop:=
z5x 2 (σ65.bump 5) (.ptr (σ8.next+5) 0) λv66=>
zG v66 2 (
z15 (σ65.bump 5) (σ65.next+2) (.rw (setAt [.int .i64 0,.int .i64 0] 0 v66.cells)) λσ67=>
apW 2 16 (σ65.next+3) σ67 v1 (.slice (σ65.next+2) 0 1 (.ex 1)) λv68 σ69=>
iW (v2+v64) λv70=>
next0 v68 v70 (σ69.bump 4))
def zb4 (k71:Int->Mem->Prop) (v74:Int) (σ75:Mem):Prop:=
k71 v74 σ75
def zbh (k76:Int->Mem->Prop) (v81:Int) (σ82:Mem):Prop:=
k76 v81 σ82
def zaX (k76:Int->Mem->Prop) (v87:Int) (σ88:Mem):Prop:=
k76 v87 σ88
def zbD (k76:Int->Mem->Prop) (v90:Int) (σ91:Mem):Prop:=
k76 v90 σ91
def zbF (k71:Int->Mem->Prop) (v93:Int) (σ94:Mem):Prop:=
k71 v93 σ94
def zbI (k95:Int->Mem->Prop) (v98:Int) (σ99:Mem):Prop:=
k95 v98 σ99
def zax (k95:Int->Mem->Prop) (v104:Int) (σ105:Mem):Prop:=
k95 v104 σ105
def zaZ (k95:Int->Mem->Prop) (v107:Int) (σ108:Mem):Prop:=
k95 v107 σ108
def z7f (a0:AV) (next0:AV->Int->Mem->Prop) (v1:AV) (v2:Int) (v5:Int) (v7:Bool) (σ8:Mem):Prop:=
zz 1 a0 v2 λv9=>
ldI (σ8.bump 7) v9 λv10=>
z15 (σ8.bump 7) (σ8.next+5) (.rw [.int .i64 0,.int .i64 0]) λσ11=>
stW 2 σ11 (.ptr (σ8.next+5) 0) (.agg [.int .i64 v10,.int .i64 0]) λσ12=>
zz 1 a0 v2 λv13=>
ldI (σ12.bump 10) v13 λv14=>
ifB (decide (v14=0)) (
zd [tI] (λ(k22:Int->Mem->Prop)=>
ifB (decide (10<v5)) (
z4j (imin v5 138) λv23=>
iW (v23-11) λv24=>
stW 2 (σ12.bump 17) (.ptr (σ8.next+5) 0) (.agg [.int .i64 18,.int .i64 v24]) λσ25=>
k22 v23 σ25) (
zz 1 a0 v2 λv26=>
ldI (σ12.bump 20) v26 λv27=>
ifB (decide (v27=0)) (
zd [tI] (λ(k30:Int->Mem->Prop)=>
ifB (decide (2<v5)) (
iW (v5-3) λv31=>
stW 2 (σ12.bump 24) (.ptr (σ8.next+5) 0) (.agg [.int .i64 17,.int .i64 v31]) λσ32=>
k30 v5 σ32) (
zz 1 a0 v2 λv33=>
ldI (σ12.bump 33) v33 λv34=>
ifB (decide (v34≠0)) (
ifB v7 (
zd [tI] (λ(k37:Int->Mem->Prop)=>
ifB (decide (2<v5)) (
z4j (imin v5 6) λv38=>
iW (v38-3) λv39=>
stW 2 (σ12.bump 40) (.ptr (σ8.next+5) 0) (.agg [.int .i64 16,.int .i64 v39]) λσ40=>
k37 v38 σ40) (
k37 1 (σ12.bump 34))) (zbS k30)) (
zd [tI] (λ(k43:Int->Mem->Prop)=>
k43 1 (σ12.bump 34)) (zbL k30))) (
zd [tI] (λ(k46:Int->Mem->Prop)=>
k46 1 (σ12.bump 34)) (zbV k30)))) (zbR k22)) (
zd [tI] (λ(k49:Int->Mem->Prop)=>
zz 1 a0 v2 λv50=>
ldI (σ12.bump 33) v50 λv51=>
ifB (decide (v51≠0)) (
ifB v7 (
zd [tI] (λ(k54:Int->Mem->Prop)=>
ifB (decide (2<v5)) (
z4j (imin v5 6) λv55=>
iW (v55-3) λv56=>
stW 2 (σ12.bump 40) (.ptr (σ8.next+5) 0) (.agg [.int .i64 16,.int .i64 v56]) λσ57=>
k54 v55 σ57) (
k54 1 (σ12.bump 34))) (zc0 k49)) (
zd [tI] (λ(k60:Int->Mem->Prop)=>
k60 1 (σ12.bump 34)) (zbw k49))) (
zd [tI] (λ(k63:Int->Mem->Prop)=>
k63 1 (σ12.bump 34)) (zbr k49))) (zcj k22)))) (z4x next0 v1 v2 σ8)) (
zd [tI] (λ(k71:Int->Mem->Prop)=>
zz 1 a0 v2 λv72=>
ldI (σ12.bump 20) v72 λv73=>
ifB (decide (v73=0)) (
zd [tI] (λ(k76:Int->Mem->Prop)=>
ifB (decide (2<v5)) (
iW (v5-3) λv77=>
stW 2 (σ12.bump 24) (.ptr (σ8.next+5) 0) (.agg [.int .i64 17,.int .i64 v77]) λσ78=>
k76 v5 σ78) (
zz 1 a0 v2 λv79=>
ldI (σ12.bump 33) v79 λv80=>
ifB (decide (v80≠0)) (
ifB v7 (
zd [tI] (λ(k83:Int->Mem->Prop)=>
ifB (decide (2<v5)) (
z4j (imin v5 6) λv84=>
iW (v84-3) λv85=>
stW 2 (σ12.bump 40) (.ptr (σ8.next+5) 0) (.agg [.int .i64 16,.int .i64 v85]) λσ86=>
k83 v84 σ86) (
k83 1 (σ12.bump 34))) (zbh k76)) (
zd [tI] (λ(k89:Int->Mem->Prop)=>
k89 1 (σ12.bump 34)) (zaX k76))) (
zd [tI] (λ(k92:Int->Mem->Prop)=>
k92 1 (σ12.bump 34)) (zbD k76)))) (zb4 k71)) (
zd [tI] (λ(k95:Int->Mem->Prop)=>
zz 1 a0 v2 λv96=>
ldI (σ12.bump 33) v96 λv97=>
ifB (decide (v97≠0)) (
ifB v7 (
zd [tI] (λ(k100:Int->Mem->Prop)=>
ifB (decide (2<v5)) (
z4j (imin v5 6) λv101=>
iW (v101-3) λv102=>
stW 2 (σ12.bump 40) (.ptr (σ8.next+5) 0) (.agg [.int .i64 16,.int .i64 v102]) λσ103=>
k100 v101 σ103) (
k100 1 (σ12.bump 34))) (zbI k95)) (
zd [tI] (λ(k106:Int->Mem->Prop)=>
k106 1 (σ12.bump 34)) (zax k95))) (
zd [tI] (λ(k109:Int->Mem->Prop)=>
k109 1 (σ12.bump 34)) (zaZ k95))) (zbF k71))) (zaQ next0 v1 v2 σ8))
def z7h (a0:AV) (next0:AV->Int->Mem->Prop) (v1:AV) (v2:Int) (v5:Int) (σ6:Mem):Prop:=
zd [.b] (λ(k110:Bool->Mem->Prop)=>
ifB (decide (0<v2)) (
iW (v2-1) λv111=>
zz 1 a0 v111 λv112=>
ldI (σ6.bump 15) v112 λv113=>
zz 1 a0 v2 λv114=>
ldI (σ6.bump 15) v114 λv115=>
k110 (decide (v113=v115)) (σ6.bump 15)) (
k110 false (σ6.bump 15))) (z7f a0 next0 v1 v2 v5)
def z6U (a0:AV) (v2:Int) (k116:Int->Mem->Prop) (next117:Int->Mem->Prop) (v118:Int) (σ119:Mem):Prop:=
iW (v2+v118) λv120=>
zx a0 λv121=>
ifB (decide (v120<v121)) (
iW (v2+v118) λv122=>
zz 1 a0 v122 λv123=>
ldI (σ119.bump 19) v123 λv124=>
zz 1 a0 v2 λv125=>
ldI (σ119.bump 19) v125 λv126=>
ifB (decide (v124=v126)) (
iW (v118+1) λv127=>
next117 v127 (σ119.bump 22)) (
k116 v118 (σ119.bump 19))) (
k116 v118 (σ119.bump 19))
def z73 (a0:AV) (Q:AV->Mem->Prop) (next0:AV->Int->Mem->Prop) (v1:AV) (v2:Int) (σ3:Mem):Prop:=
zx a0 λv4=>
ifB (decide (v2<v4)) (
zd [tI] (λ(k116:Int->Mem->Prop)=>
zj [tI] (z6U a0 v2 k116) 1 (σ3.bump 5)) (z7h a0 next0 v1 v2)) (
Q v1 (σ3.bump 6))
def z9O (a0:AV) (σ:Mem) (Q:AV->Mem->Prop):Prop:=
zj [.v,tI] (z73 a0 Q) .nils 0 (σ.bump 3)
theorem ze2 {a0 σ Q} (h:σ.Live->z9O a0 σ Q):z1 PG z6K [a0] σ Q:=
 .of_sem [none,none,none,none,some ([0],[3,4]),none,none,none,none,some ([0,3,4],[5]),some ([0,3,4],[5]),none,none,none,none,some ([0,3,4,5],[6]),none,none,none,some ([0,3,4,7],[5]),none,none,none,some ([0,3,4,7],[5]),none,none,some ([0,3,4,7],[5]),none,none,none,none,none,none] [(4,tI),(5,tI),(24,tI),(28,tI),(40,tI),(44,tI),(6,.b),(50,tI),(56,tI),(71,tI),(84,tI)] mixed (by kernel_rfl) (by kernel_rfl) h
/-! vitrine/vitrineref05.Runs -/
/-! vitrine/deflate.Stored -/
def z5F (v0:AV) (next2:ByteArray->Bool->Mem->Prop) (v3:ByteArray) (v6:Int) (v7:Int) (σ8:Mem):Prop:=
z5 PG zg [v0,.int .i64 v7,.int .i64 3] (σ8.bump 3) λv9 σ10=>
wrW .u8 v6 λv11=>
z4j (v6 / 256) λv12=>
wrW .u8 v12 λv13=>
z4j (zB .xor .i64 (-1) v6) λv14=>
wrW .u8 v14 λv15=>
z4j (zB .xor .i64 (-1) v6) λv16=>
z4j (v16 / 256) λv17=>
wrW .u8 v17 λv18=>
z15 (σ10.bump 16) (σ10.next+13) (.rw [.int .u8 v11,.int .u8 v13,.int .u8 v15,.int .u8 v18]) λσ19=>
zeL σ19 (.slice (σ10.next+13) 0 4 (.ex 4)) λv20=>
z5 PG z1W [v0,.str v20] σ19 λv21 σ22=>
zi5 v3 0 v6 λv23=>
z5 PG z1W [v0,.str v23] (σ22.bump 5) λv24 σ25=>
zi5 v3 v6 v3.size λv26=>
next2 v26 (decide (v6<(v3.size:Int))) (σ25.bump 4)
def z6b (Q:AV->Mem->Prop) (v0:AV) (next2:ByteArray->Bool->Mem->Prop) (v3:ByteArray) (v4:Bool) (σ5:Mem):Prop:=
ifB v4 (
z4j (imin (v3.size:Int) 65535) λv6=>
zd [tI] (λ(k27:Int->Mem->Prop)=>
ifB (decide (v6<(v3.size:Int))) (
k27 0 (σ5.bump 13)) (
k27 1 (σ5.bump 12))) (z5F v0 next2 v3 v6)) (
z5 PG z1k [v0] (σ5.bump 4) λv28 σ29=>
z5t v28 λv30=>
Q (.str v30) σ29)
def z7W (a0:ByteArray) (σ:Mem) (Q:AV->Mem->Prop):Prop:=
z5 PG z7g [] (σ.bump 3) λv0 σ1=>
zj [.s,.b] (z6b Q v0) a0 true (σ1.bump 1)
theorem zbY {a0 σ Q} (h:σ.Live->z7W a0 σ Q):z1 PG z51 [.str a0] σ Q:=
 .of_sem [none,none,none,none,some ([3],[0,4]),none,none,none,none,none,none,none,some ([0,3,4,5],[6]),none,none,none,none,none,none] [(0,.s),(4,.b),(6,tI),(45,.s)] mixed (by kernel_rfl) (by kernel_rfl) h
/-! vitrine/vitrineref05.Stored -/
/-! vitrine/deflate.Fixed -/
def z8t (a0:ByteArray) (σ:Mem) (Q:AV->Mem->Prop):Prop:=
z15 (σ.bump 12) (σ.next+1) (.rw [.int .i64 8]) λσ0=>
z5 PG zo [.slice (σ.next+1) 0 1 (.ex 1),.int .i64 144] σ0 λv1 σ2=>
z15 σ2 (σ.next+3) (.rw [.int .i64 9]) λσ3=>
z5 PG zo [.slice (σ.next+3) 0 1 (.ex 1),.int .i64 112] σ3 λv4 σ5=>
z15 σ5 (σ.next+5) (.rw [.int .i64 7]) λσ6=>
z5 PG zo [.slice (σ.next+5) 0 1 (.ex 1),.int .i64 24] σ6 λv7 σ8=>
z15 σ8 (σ.next+7) (.rw [.int .i64 8]) λσ9=>
z5 PG zo [.slice (σ.next+7) 0 1 (.ex 1),.int .i64 8] σ9 λv10 σ11=>
zG v1 1 (
zG v4 1 (
zG v7 1 (
zG v10 1 (
z15 σ11 (σ.next+9) (.rw (setAt (setAt (setAt (setAt [.nils,.nils,.nils,.nils] 0 v1.cells) 1 v4.cells) 2 v7.cells) 3 v10.cells)) λσ12=>
z5 PG z0h [.slice (σ.next+9) 0 4 (.ex 4)] σ12 λv13 σ14=>
z5 PG z1s [v13] (σ14.bump 7) λv15 σ16=>
z6T v15 0 λv17=>
tpI v15 1 λv18=>
z15 (σ16.bump 8) σ16.next (.rw [.int .i64 5]) λσ19=>
z5 PG zo [.slice σ16.next 0 1 (.ex 1),.int .i64 32] σ19 λv20 σ21=>
z5 PG z1s [v20] σ21 λv22 σ23=>
z6T v22 0 λv24=>
tpI v22 1 λv25=>
z5 PG z7g [] (σ23.bump 2) λv26 σ27=>
z5 PG zg [v26,.int .i64 3,.int .i64 3] (σ27.bump 2) λv28 σ29=>
z5 PG z7R [.str a0] (σ29.bump 6) λv30 σ31=>
z5 PG z2U [v26,v30,v17,v24] σ31 λv32 σ33=>
z5 PG z1k [v26] (σ33.bump 3) λv34 σ35=>
z5t v34 λv36=>
Q (.str v36) σ35))))
theorem zcM {a0 σ Q} (h:σ.Live->z8t a0 σ Q):z1 PG z5Q [.str a0] σ Q:=
 .of_sem [none,none,none,none,none,none,none,none] [(23,tI),(29,tI),(40,.s)] mixed (by kernel_rfl) (by kernel_rfl) h
/-! vitrine/vitrineref05.Fixed -/
/-! vitrine/deflate.Deflate -/
def z3d (next11:ByteArray->Int->Mem->Prop) (v13:Int) (v17:ByteArray) (σ18:Mem):Prop:=
iW (v13+1) λv19=>
next11 v17 v19 (σ18.bump 2)
def z5n (Q:AV->Mem->Prop) (σ1:Mem) (v10:Int) (next11:ByteArray->Int->Mem->Prop) (v12:ByteArray) (v13:Int) (σ14:Mem):Prop:=
ifB (decide (v13<v10)) (
zz 1 (.slice (σ1.next+4) 0 2 (.ex 2)) v13 λv15=>
ldS (σ14.bump 4) v15 λv16=>
zd [.s] (λ(k20:ByteArray->Mem->Prop)=>
ifB (decide ((v16.size:Int)<(v12.size:Int))) (
k20 v16 (σ14.bump 11)) (
k20 v12 (σ14.bump 9))) (z3d next11 v13)) (
Q (.str v12) (σ14.bump 3))
def z7c (a0:ByteArray) (σ:Mem) (Q:AV->Mem->Prop):Prop:=
z5 PG z51 [.str a0] (σ.bump 4) λv0 σ1=>
z5t v0 λv2=>
z5 PG z5Q [.str a0] (σ1.bump 7) λv3 σ4=>
z5t v3 λv5=>
z5 PG z4C [.str a0] σ4 λv6 σ7=>
z5t v6 λv8=>
z15 σ7 (σ1.next+4) (.rw [.str v5,.str v8]) λσ9=>
zx (.slice (σ1.next+4) 0 2 (.ex 2)) λv10=>
zj [.s,tI] (z5n Q σ1 v10) v2 0 σ9
theorem zaH {a0 σ Q} (h:σ.Live->z7c a0 σ Q):z1 PG z4A [.str a0] σ Q:=
 .of_sem [none,none,none,none,some ([12,13],[3,14]),none,none,none,none,none,some ([12,13,14],[3]),none,none,none] [(7,.s),(3,.s),(9,.s),(11,.s),(14,tI),(17,.s)] mixed (by kernel_rfl) (by kernel_rfl) h
/-! vitrine/bits.New -/
def zfe (σ:Mem) (Q:AV->Mem->Prop):Prop:=
zfU (.agg [.nils,.int .i64 0,.int .i64 0]) (
z15 (σ.bump 4) (σ.next+2) (.rw [.nils,.int .i64 0,.int .i64 0]) λσ0=>
Q (.ptr (σ.next+2) 0) σ0)
theorem ziV {σ Q} (h:σ.Live->zfe σ Q):z1 PG z7g [] σ Q:=
 .of_sem [none,none] [] mixed (by kernel_rfl) (by kernel_rfl) h
/-! (*vitrine/bits.Writer).Bits -/
def z4N (a0:AV) (Q:AV->Mem->Prop) (next14:Mem->Prop) (σ15:Mem):Prop:=
lfI 2 (σ15.bump 5) a0 λv16=>
ifB (decide (8<=v16)) (
lfW 0 (σ15.bump 20) a0 λv17=>
lfI 1 (σ15.bump 20) a0 λv18=>
wrW .u8 v18 λv19=>
z15 (σ15.bump 20) (σ15.next+15) (.rw [.int .u8 v19]) λσ20=>
apW 1 1 (σ15.next+16) σ20 v17 (.slice (σ15.next+15) 0 1 (.ex 1)) λv21 σ22=>
nfW 0 a0 λv23=>
stW 1 σ22 v23 v21 λσ24=>
lfI 1 (σ24.bump 8) a0 λv25=>
z4j (v25 / 256) λv26=>
nfW 1 a0 λv27=>
stW 1 (σ24.bump 8) v27 (.int .i64 v26) λσ28=>
lfI 2 (σ28.bump 8) a0 λv29=>
iW (v29-8) λv30=>
nfW 2 a0 λv31=>
stW 1 (σ28.bump 8) v31 (.int .i64 v30) λσ32=>
next14 σ32) (
Q (.tup []) (σ15.bump 5))
def z6u (a0:AV) (a1:Int) (a2:Int) (σ:Mem) (Q:AV->Mem->Prop):Prop:=
eqW .ptr a0 .nilp λv0=>
ifB v0 (
Q (.tup []) (σ.bump 10)) (
ifB (decide (a2<0)) (
Q (.tup []) (σ.bump 10)) (
ifB (decide (24<a2)) (
Q (.tup []) (σ.bump 10)) (
lfI 1 (σ.bump 28) a0 λv1=>
zgu .i64 1 a2 λv2=>
iW (v2-1) λv3=>
z4j (zB .and .i64 a1 v3) λv4=>
lfI 2 (σ.bump 28) a0 λv5=>
zgu .i64 v4 v5 λv6=>
z4j (zB .or .i64 v1 v6) λv7=>
nfW 1 a0 λv8=>
stW 1 (σ.bump 28) v8 (.int .i64 v7) λσ9=>
lfI 2 (σ9.bump 9) a0 λv10=>
iW (v10+a2) λv11=>
nfW 2 a0 λv12=>
stW 1 (σ9.bump 9) v12 (.int .i64 v11) λσ13=>
zj [] (z4N a0 Q) σ13)))
theorem zak {a0 a1 a2 σ Q} (h:σ.Live->z6u a0 a1 a2 σ Q):z1 PG zg [a0,.int .i64 a1,.int .i64 a2] σ Q:=
 .of_sem [none,none,none,none,none,some ([0],[]),none,none,none,none,none,none] [(19,tI),(28,tI),(36,tI),(44,tI),(61,tI),(70,tI),(49,tI)] mixed (by kernel_rfl) (by kernel_rfl) h
/-! (*vitrine/bits.Writer).Bytes -/
def z5Z (a0:AV) (a1:ByteArray) (σ:Mem) (Q:AV->Mem->Prop):Prop:=
eqW .ptr a0 .nilp λv0=>
ifB v0 (
Q (.tup []) (σ.bump 2)) (
lfI 2 (σ.bump 10) a0 λv1=>
iW (8-v1) λv2=>
zhX v2 8 λv3=>
z5 PG zg [a0,.int .i64 0,.int .i64 v3] (σ.bump 10) λv4 σ5=>
lfW 0 (σ5.bump 10) a0 λv6=>
apW 1 1 (σ5.next+6) (σ5.bump 10) v6 (.str a1) λv7 σ8=>
nfW 0 a0 λv9=>
stW 1 σ8 v9 v7 λσ10=>
Q (.tup []) σ10)
theorem z9n {a0 a1 σ Q} (h:σ.Live->z5Z a0 a1 σ Q):z1 PG z1W [a0,.str a1] σ Q:=
 .of_sem [none,none,none,none] [(10,tI)] mixed (by kernel_rfl) (by kernel_rfl) h
/-! (*vitrine/bits.Writer).Text -/
def z8G (Q:AV->Mem->Prop) (v4:ByteArray) (σ5:Mem):Prop:=
Q (.str v4) (σ5.bump 2)
def z6z (a0:AV) (σ:Mem) (Q:AV->Mem->Prop):Prop:=
eqW .ptr a0 .nilp λv0=>
ifB v0 (
Q (.str ⟨#[]⟩) (σ.bump 4)) (
lfW 0 (σ.bump 9) a0 λv1=>
zeL (σ.bump 9) v1 λv2=>
lfI 2 (σ.bump 14) a0 λv3=>
zd [.s] (λ(k6:ByteArray->Mem->Prop)=>
ifB (decide (0<v3)) (
lfI 1 (σ.bump 24) a0 λv7=>
wrW .u8 v7 λv8=>
z15 (σ.bump 24) (σ.next+20) (.rw [.int .u8 v8]) λσ9=>
zeL σ9 (.slice (σ.next+20) 0 1 (.ex 1)) λv10=>
zqo v2 v10 λv11=>
k6 v11 σ9) (
k6 v2 (σ.bump 14))) (z8G Q))
theorem zam {a0 σ Q} (h:σ.Live->z6z a0 σ Q):z1 PG z1k [a0] σ Q:=
 .of_sem [none,none,none,none,none,none,some ([],[3]),none,none] [(3,.s),(14,tI),(20,tI)] mixed (by kernel_rfl) (by kernel_rfl) h
/-! (*vitrine/vitrineref01.Writer).Bits -/
def z4p (a0:AV) (a1:Int) (next0:Int->Mem->Prop) (v1:Int) (σ5:Mem):Prop:=
lfW 0 (σ5.bump 34) a0 λv6=>
lfI 1 (σ5.bump 34) a0 λv7=>
zgH .i64 v7 8 λv8=>
lfW 0 (σ5.bump 34) a0 λv9=>
lfI 1 (σ5.bump 34) a0 λv10=>
zgH .i64 v10 8 λv11=>
zz 1 v9 v11 λv12=>
ldU (σ5.bump 34) v12 λv13=>
zlg .i64 a1 v1 λv14=>
z4j (zB .and .i64 v14 1) λv15=>
wrW .u8 v15 λv16=>
lfI 1 (σ5.bump 34) a0 λv17=>
zhX v17 8 λv18=>
zgu .u8 v16 v18 λv19=>
z4j (zB .or .u8 v13 v19) λv20=>
zz 1 v6 v8 λv21=>
stW 1 (σ5.bump 34) v21 (.int .u8 v20) λσ22=>
lfI 1 (σ22.bump 9) a0 λv23=>
iW (v23+1) λv24=>
nfW 1 a0 λv25=>
stW 1 (σ22.bump 9) v25 (.int .i64 v24) λσ26=>
iW (v1+1) λv27=>
next0 v27 (σ26.bump 3)
def z4o (a0:AV) (a1:Int) (a2:Int) (Q:AV->Mem->Prop) (next0:Int->Mem->Prop) (v1:Int) (σ2:Mem):Prop:=
ifB (decide (v1<a2)) (
lfI 1 (σ2.bump 9) a0 λv3=>
zhX v3 8 λv4=>
zd [] (λ(k28:Mem->Prop)=>
ifB (decide (v4=0)) (
lfW 0 (σ2.bump 19) a0 λv29=>
z15 (σ2.bump 19) (σ2.next+14) (.rw [.int .u8 0]) λσ30=>
apW 1 1 (σ2.next+15) σ30 v29 (.slice (σ2.next+14) 0 1 (.ex 1)) λv31 σ32=>
nfW 0 a0 λv33=>
stW 1 σ32 v33 v31 λσ34=>
k28 σ34) (
k28 (σ2.bump 9))) (z4p a0 a1 next0 v1)) (
Q (.tup []) (σ2.bump 3))
def z60 (a0:AV) (a1:Int) (a2:Int) (σ:Mem) (Q:AV->Mem->Prop):Prop:=
ifB (decide (a2<0)) (
Q (.tup []) (σ.bump 6)) (
ifB (decide (24<a2)) (
Q (.tup []) (σ.bump 6)) (
zj [tI] (z4o a0 a1 a2 Q) 0 (σ.bump 7)))
theorem z9s {a0 a1 a2 σ Q} (h:σ.Live->z60 a0 a1 a2 σ Q):z1 PG z23 [a0,.int .i64 a1,.int .i64 a2] σ Q:=
 .of_sem [none,none,none,none,some ([0,1,2],[6]),none,none,none,none,some ([0,1,2,6],[]),none,none,none,none] [(6,tI),(21,tI),(40,tI),(49,tI),(52,tU),(61,tI),(70,tI)] mixed (by kernel_rfl) (by kernel_rfl) h
/-! (*vitrine/vitrineref01.Writer).Bytes -/
/-! (*vitrine/vitrineref01.Writer).Text -/
/-! slices.Concat[[]int,int] -/
def z2c (next1:Int->Int->Mem->Prop) (v3:Int) (v8:Int) (σ9:Mem):Prop:=
iW (v3+1) λv10=>
next1 v8 v10 (σ9.bump 2)
def z2b (a0:AV) (Q:AV->Mem->Prop) (v14:Int) (next15:AV->Int->Mem->Prop) (v16:AV) (v17:Int) (σ18:Mem):Prop:=
ifB (decide (v17<v14)) (
zz 1 a0 v17 λv19=>
ldW (σ18.bump 4) v19 λv20=>
apW 1 8 (σ18.next+6) (σ18.bump 8) v16 v20 λv21 σ22=>
iW (v17+1) λv23=>
next15 v21 v23 (σ22.bump 2)) (
Q v16 (σ18.bump 3))
def z2e (a0:AV) (Q:AV->Mem->Prop) (v0:Int) (next1:Int->Int->Mem->Prop) (v2:Int) (v3:Int) (σ4:Mem):Prop:=
ifB (decide (v3<v0)) (
zz 1 a0 v3 λv5=>
ldW (σ4.bump 4) v5 λv6=>
zx v6 λv7=>
iW (v2+v7) λv8=>
zd [] (λ(k11:Mem->Prop)=>
ifB (decide (v8<0)) (
False) (
k11 (σ4.bump 11))) (z2c next1 v3 v8)) (
z5 PG z1M [.nils,.int .i64 v2] (σ4.bump 4) λv12 σ13=>
zx a0 λv14=>
zj [.v,tI] (z2b a0 Q v14) v12 0 (σ13.bump 3))
def z37 (a0:AV) (σ:Mem) (Q:AV->Mem->Prop):Prop:=
zx a0 λv0=>
zj [tI,tI] (z2e a0 Q v0) 0 0 (σ.bump 5)
theorem z6c {a0 σ Q} (h:σ.Live->z37 a0 σ Q):z1 PG z0h [a0] σ Q:=
 .of_sem [none,none,none,none,some ([0,9,10],[3,11]),none,none,none,none,none,none,some ([0,3,9,10,11],[]),none,none,none,none,none,some ([25,26],[6,27]),none,none,none,none,none,none,none] [(3,tI),(11,tI),(27,tI)] mixed (by kernel_rfl) (by kernel_rfl) h
/-! slices.Repeat[[]int,int] -/
def z57 (Q:AV->Mem->Prop) (σ8:Mem) (v9:Int) (next13:Int->Mem->Prop) (v14:Int) (σ15:Mem):Prop:=
zx (.slice (σ8.next+2) 0 (Int.toNat v9) (.ex (Int.toNat v9))) λv16=>
ifB (decide (v14<v16)) (
zcJ 1 (.slice (σ8.next+2) 0 (Int.toNat v9) (.ex (Int.toNat v9))) (some v14) none λv17=>
zcJ 1 (.slice (σ8.next+2) 0 (Int.toNat v9) (.ex (Int.toNat v9))) none (some v14) λv18=>
cpW 1 (σ15.bump 14) v17 v18 λv19 σ20=>
iW (v14+v19) λv21=>
next13 v21 σ20) (
Q (.slice (σ8.next+2) 0 (Int.toNat v9) (.ex (Int.toNat v9))) (σ15.bump 6))
def z5b (a0:AV) (Q:AV->Mem->Prop) (v7:Int) (σ8:Mem):Prop:=
iW v7 λv9=>
zeH 8 v9 v9 (
z15 (σ8.bump 4) (σ8.next+2) (.rw (repl (Int.toNat v9) [.int .i64 0])) λσ10=>
cpW 1 (σ10.bump 4) (.slice (σ8.next+2) 0 (Int.toNat v9) (.ex (Int.toNat v9))) a0 λv11 σ12=>
zj [tI] (z57 Q σ8 v9) v11 σ12)
def z29 (Q:AV->Mem->Prop) (σ23:Mem) (v24:Int) (next28:Int->Mem->Prop) (v29:Int) (σ30:Mem):Prop:=
zx (.slice (σ23.next+2) 0 (Int.toNat v24) (.ex (Int.toNat v24))) λv31=>
ifB (decide (v29<v31)) (
zcJ 1 (.slice (σ23.next+2) 0 (Int.toNat v24) (.ex (Int.toNat v24))) (some v29) none λv32=>
zcJ 1 (.slice (σ23.next+2) 0 (Int.toNat v24) (.ex (Int.toNat v24))) none (some v29) λv33=>
cpW 1 (σ30.bump 14) v32 v33 λv34 σ35=>
iW (v29+v34) λv36=>
next28 v36 σ35) (
Q (.slice (σ23.next+2) 0 (Int.toNat v24) (.ex (Int.toNat v24))) (σ30.bump 6))
def z28 (a0:AV) (Q:AV->Mem->Prop) (v7:Int) (σ23:Mem):Prop:=
iW v7 λv24=>
zeH 8 v24 v24 (
z15 (σ23.bump 4) (σ23.next+2) (.rw (repl (Int.toNat v24) [.int .i64 0])) λσ25=>
cpW 1 (σ25.bump 4) (.slice (σ23.next+2) 0 (Int.toNat v24) (.ex (Int.toNat v24))) a0 λv26 σ27=>
zj [tI] (z29 Q σ23 v24) v26 σ27)
def z26 (a0:AV) (a1:Int) (Q:AV->Mem->Prop) (σ0:Mem):Prop:=
zx a0 λv1=>
wrW .u64 v1 λv2=>
wrW .u64 a1 λv3=>
z5 PG z5W [.int .u64 v2,.int .u64 v3] (σ0.bump 11) λv4 σ5=>
z6T v4 0 λa=>zq .u64 a λv6=>
z6T v4 1 λa=>zq .u64 a λv7=>
ifB (decide (0<v6)) (
zd [] (λ(k22:Mem->Prop)=>
False) (z5b a0 Q v7)) (
zd [] (λ(k37:Mem->Prop)=>
ifB (decide (9223372036854775807<v7)) (
False) (
k37 (σ5.bump 6))) (z28 a0 Q v7))
def z35 (a0:AV) (a1:Int) (σ:Mem) (Q:AV->Mem->Prop):Prop:=
zd [] (λ(k38:Mem->Prop)=>
ifB (decide (a1<0)) (
False) (
k38 (σ.bump 3))) (z26 a0 a1 Q)
theorem z5S {a0 a1 σ Q} (h:σ.Live->z35 a0 a1 σ Q):z1 PG zo [a0,.int .i64 a1] σ Q:=
 .of_sem [none,none,some ([0,1],[]),none,none,none,some ([0,6],[]),none,none,none,none,some ([7],[8]),none,none,none,none,none] [(19,(.i .u64)),(20,(.i .u64)),(8,tI)] mixed (by kernel_rfl) (by kernel_rfl) h
/-! vitrine/huff.Make -/
def z9B (next15:Int->Mem->Prop) (v16:Int) (σ20:Mem):Prop:=
iW (v16+1) λv21=>
next15 v21 (σ20.bump 2)
def z9V (Q:AV->Mem->Prop) (σ3:Mem) (σ34:Mem):Prop:=
Q (.tup [.ptr (σ3.next+8) 0,.int .i64 0]) (σ34.bump 3)
def z9F (Q:AV->Mem->Prop) (σ:Mem) (σ3:Mem) (v13:AV) (v14:Int) (next15:Int->Mem->Prop) (v16:Int) (σ17:Mem):Prop:=
ifB (decide (v16<v14)) (
zz 1 v13 v16 λv18=>
ldI (σ17.bump 6) v18 λv19=>
zd [] (λ(k22:Mem->Prop)=>
ifB (decide (0<v19)) (
lfW 18 (σ17.bump 19) (.ptr (σ3.next+8) 0) λv23=>
z15 (σ17.bump 19) (σ17.next+14) (.rw [.int .i64 v16]) λσ24=>
apW 1 8 (σ17.next+15) σ24 v23 (.slice (σ17.next+14) 0 1 (.ex 1)) λv25 σ26=>
nfW 18 (.ptr (σ3.next+8) 0) λv27=>
stW 1 σ26 v27 v25 λσ28=>
k22 σ28) (
k22 (σ17.bump 8))) (z9B next15 v16)) (
lfW 18 (σ17.bump 7) (.ptr (σ3.next+8) 0) λv29=>
z5 PG zs [v29,.func z7J [.ptr σ.next 0]] (σ17.bump 7) λv30 σ31=>
lfW 18 (σ31.bump 6) (.ptr (σ3.next+8) 0) λv32=>
zx v32 λv33=>
zd [] (λ(k35:Mem->Prop)=>
ifB (decide (v33<2)) (
lfW 18 (σ31.bump 15) (.ptr (σ3.next+8) 0) λv36=>
zx v36 λv37=>
nfW 19 (.ptr (σ3.next+8) 0) λv38=>
stW 1 (σ31.bump 15) v38 (.int .i64 v37) λσ39=>
k35 σ39) (
k35 (σ31.bump 6))) (z9V Q σ3))
def zdX (a0:AV) (σ:Mem) (Q:AV->Mem->Prop):Prop:=
zfU a0 (
z15 (σ.bump 3) σ.next (.rw a0.cells) λσ0=>
ldW (σ0.bump 7) (.ptr σ.next 0) λv1=>
z5 PG z93 [v1] (σ0.bump 7) λv2 σ3=>
z6T v2 0 λv4=>
tpI v2 1 λv5=>
ifB (decide (v5≠0)) (
Q (.tup [.nilp,.int .i64 v5]) (σ3.bump 5)) (
ldW (σ3.bump 10) (.ptr σ.next 0) λv6=>
ldW (σ3.bump 10) (.ptr σ.next 0) λv7=>
z5 PG z1r [v6] (σ3.bump 10) λv8 σ9=>
zgF.sameW (σ3.bump 10) σ9 (.ptr σ.next 0) (
z5 PG z3n [v7] σ9 λv10 σ11=>
zG v8 1 (
zG v4 1 (
zG v10 16 (
zfU (.agg (setAt (setAt (setAt (setAt ([.nils,.nils]++List.replicate 16 (.int .i64 0)++[.nils]++[.int .i64 0]) 0 v8.cells) 1 v4.cells) 2 v10.cells) 19 [.int .i64 15])) (
z15 σ11 (σ3.next+8) (.rw (setAt (setAt (setAt (setAt ([.nils,.nils]++List.replicate 16 (.int .i64 0)++[.nils]++[.int .i64 0]) 0 v8.cells) 1 v4.cells) 2 v10.cells) 19 [.int .i64 15])) λσ12=>
ldW (σ12.bump 3) (.ptr σ.next 0) λv13=>
zx v13 λv14=>
zj [tI] (z9F Q σ σ3 v13 v14) 0 (σ12.bump 3))))))))
theorem zhW {a0 σ Q} (h:σ.Live->zdX a0 σ Q):z1 PG z1s [a0] σ Q:=
 .of_sem [none,none,none,none,none,none,none,none,some ([1,6,24,25],[26]),none,none,none,none,none,some ([1,6,24,25,26],[]),none,none,none,none,some ([6],[]),none,none] [(13,tI),(26,tI),(30,tI)] mixed (by kernel_rfl) (by kernel_rfl) h
/-! vitrine/deflate.symbols -/
def z5o (next2:Int->Mem->Prop) (v3:Int) (σ5:Mem):Prop:=
iW (v3+1) λv6=>
next2 v6 (σ5.bump 2)
def z5h (a1:AV) (a2:AV) (a3:AV) (Q:AV->Mem->Prop) (σ:Mem) (v1:Int) (next2:Int->Mem->Prop) (v3:Int) (σ4:Mem):Prop:=
ifB (decide (v3<v1)) (
zd [] (λ(k7:Mem->Prop)=>
zz 3 a1 v3 λv8=>
z5x 3 (σ4.bump 5) v8 λv9=>
z15 (σ4.bump 5) (σ4.next+3) (.rw [.int .i64 0,.int .i64 0,.int .i64 0]) λσ10=>
stW 3 σ10 (.ptr (σ4.next+3) 0) v9 λσ11=>
z6C 1 (.ptr (σ4.next+3) 0) λv12=>
ldI (σ11.bump 3) v12 λv13=>
ifB (decide (v13=0)) (
z6C 0 (.ptr (σ4.next+3) 0) λv14=>
ldI (σ11.bump 9) v14 λv15=>
z3m PG (.func zV [.ptr σ.next 0]) [a2,.agg [.int .i64 v15,.int .i64 0,.int .i64 0]] (σ11.bump 9) λv16 σ17=>
k7 σ17) (
z6C 1 (.ptr (σ4.next+3) 0) λv18=>
ldI (σ11.bump 9) v18 λv19=>
z5 PG z3B [.int .i64 v19] (σ11.bump 9) λv20 σ21=>
z3m PG (.func zV [.ptr σ.next 0]) [a2,v20] σ21 λv22 σ23=>
z6C 2 (.ptr (σ4.next+3) 0) λv24=>
ldI (σ23.bump 6) v24 λv25=>
z5 PG z2q [.int .i64 v25] (σ23.bump 6) λv26 σ27=>
z3m PG (.func zV [.ptr σ.next 0]) [a3,v26] σ27 λv28 σ29=>
k7 σ29)) (z5o next2 v3)) (
z3m PG (.func zV [.ptr σ.next 0]) [a2,.agg [.int .i64 256,.int .i64 0,.int .i64 0]] (σ4.bump 5) λv30 σ31=>
Q (.tup []) σ31)
def z7a (a0:AV) (a1:AV) (a2:AV) (a3:AV) (σ:Mem) (Q:AV->Mem->Prop):Prop:=
zfU a0 (
z15 (σ.bump 1) σ.next (.rw a0.cells) λσ0=>
zx a1 λv1=>
zj [tI] (z5h a1 a2 a3 Q σ v1) 0 (σ0.bump 5))
theorem zbz {a0 a1 a2 a3 σ Q} (h:σ.Live->z7a a0 a1 a2 a3 σ Q):z1 PG z2U [a0,a1,a2,a3] σ Q:=
 .of_sem [none,none,none,none,some ([2,3,8,12,13],[14]),none,none,some ([2,3,8,12,13,14],[]),none,none,none,none,none,none,none,none] [(14,tI),(19,tI),(24,tI),(30,tI),(36,tI)] mixed (by kernel_rfl) (by kernel_rfl) h
/-! vitrine/lz.Tokens -/
def z9T (next4:AV->Int->Mem->Prop) (v9:AV) (v10:Int) (σ11:Mem):Prop:=
next4 v9 v10 σ11
def z9L (σ:Mem) (σ0:Mem) (v5:AV) (v6:Int) (k12:AV->Int->Mem->Prop) (v15:Int) (v16:Int) (σ17:Mem):Prop:=
ifB (decide (v15<3)) (
ldS (σ17.bump 11) (.ptr σ.next 0) λv18=>
z56 v18 v6 λv19=>
iW v19 λv20=>
zG (.agg [.int .i64 v20,.int .i64 0,.int .i64 0]) 3 (
z15 (σ17.bump 11) (σ17.next+8) (.rw [.int .i64 v20,.int .i64 0,.int .i64 0]) λσ21=>
apW 3 24 (σ17.next+9) σ21 v5 (.slice (σ17.next+8) 0 1 (.ex 1)) λv22 σ23=>
z3m PG (.func z3W [.ptr σ.next 0,.ptr (σ0.next+2) 0]) [.int .i64 v6,.int .i64 1] (σ23.bump 3) λv24 σ25=>
iW (v6+1) λv26=>
k12 v22 v26 (σ25.bump 3))) (
zG (.agg [.int .i64 0,.int .i64 v15,.int .i64 v16]) 3 (
z15 (σ17.bump 9) (σ17.next+6) (.rw [.int .i64 0,.int .i64 v15,.int .i64 v16]) λσ27=>
apW 3 24 (σ17.next+7) σ27 v5 (.slice (σ17.next+6) 0 1 (.ex 1)) λv28 σ29=>
z3m PG (.func z3W [.ptr σ.next 0,.ptr (σ0.next+2) 0]) [.int .i64 v6,.int .i64 v15] (σ29.bump 4) λv30 σ31=>
iW (v6+v15) λv32=>
k12 v28 v32 (σ31.bump 4)))
def z9I (k33:Int->Int->Mem->Prop) (v41:Int) (v42:Int) (σ43:Mem):Prop:=
k33 v41 v42 σ43
def z9Q (k44:Int->Int->Mem->Prop) (next45:Int->Int->Int->Mem->Prop) (v48:Int) (v55:Int) (v56:Int) (σ57:Mem):Prop:=
ifB (decide (v55=258)) (
k44 v55 v56 (σ57.bump 2)) (
iW (v48-1) λv58=>
next45 v55 v56 v58 (σ57.bump 5))
def z9D (v6:Int) (v38:AV) (k44:Int->Int->Mem->Prop) (next45:Int->Int->Int->Mem->Prop) (v46:Int) (v47:Int) (v48:Int) (v53:Int) (σ54:Mem):Prop:=
zd [tI,tI] (λ(k59:Int->Int->Mem->Prop)=>
ifB (decide (v46<v53)) (
zz 1 v38 v48 λv60=>
ldI (σ54.bump 12) v60 λv61=>
iW (v6-v61) λv62=>
k59 v53 v62 (σ54.bump 12)) (
k59 v46 v47 (σ54.bump 3))) (z9Q k44 next45 v48)
def z9K (σ:Mem) (v6:Int) (v38:AV) (v48:Int) (k63:Int->Mem->Prop) (next64:Int->Mem->Prop) (v65:Int) (σ66:Mem):Prop:=
ifB (decide (v65<258)) (
iW (v6+v65) λv67=>
ldS (σ66.bump 26) (.ptr σ.next 0) λv68=>
ifB (decide (v67<(v68.size:Int))) (
ldS (σ66.bump 26) (.ptr σ.next 0) λv69=>
iW (v6+v65) λv70=>
z56 v69 v70 λv71=>
ldS (σ66.bump 26) (.ptr σ.next 0) λv72=>
zz 1 v38 v48 λv73=>
ldI (σ66.bump 26) v73 λv74=>
iW (v74+v65) λv75=>
z56 v72 v75 λv76=>
ifB (decide (v71=v76)) (
iW (v65+1) λv77=>
next64 v77 (σ66.bump 29)) (
k63 v65 (σ66.bump 26))) (
k63 v65 (σ66.bump 26))) (
k63 v65 (σ66.bump 26))
def z9x (σ:Mem) (v6:Int) (v38:AV) (k44:Int->Int->Mem->Prop) (next45:Int->Int->Int->Mem->Prop) (v46:Int) (v47:Int) (v48:Int) (σ49:Mem):Prop:=
ifB (decide (0<=v48)) (
zz 1 v38 v48 λv50=>
ldI (σ49.bump 11) v50 λv51=>
iW (v6-v51) λv52=>
ifB (decide (v52<=512)) (
zd [tI] (λ(k63:Int->Mem->Prop)=>
zj [tI] (z9K σ v6 v38 v48 k63) 3 (σ49.bump 12)) (z9D v6 v38 k44 next45 v46 v47 v48)) (
k44 v46 v47 (σ49.bump 11))) (
k44 v46 v47 (σ49.bump 11))
def z9W (Q:AV->Mem->Prop) (σ:Mem) (σ0:Mem) (next4:AV->Int->Mem->Prop) (v5:AV) (v6:Int) (σ7:Mem):Prop:=
ldS (σ7.bump 4) (.ptr σ.next 0) λv8=>
ifB (decide (v6<(v8.size:Int))) (
zd [.v,tI] (λ(k12:AV->Int->Mem->Prop)=>
iW (v6+3) λv13=>
ldS (σ7.bump 11) (.ptr σ.next 0) λv14=>
zd [tI,tI] (λ(k33:Int->Int->Mem->Prop)=>
ifB (decide (v13<=(v14.size:Int))) (
ldW (σ7.bump 19) (.ptr (σ0.next+2) 0) λv34=>
ldS (σ7.bump 19) (.ptr σ.next 0) λv35=>
iW (v6+3) λv36=>
zi5 v35 v6 v36 λv37=>
znX (σ7.bump 19) .nils false v34 (.str v37) λv38=>
zx v38 λv39=>
iW (v39-1) λv40=>
zd [tI,tI] (λ(k44:Int->Int->Mem->Prop)=>
zj [tI,tI,tI] (z9x σ v6 v38 k44) 0 0 v40 (σ7.bump 23)) (z9I k33)) (
k33 0 0 (σ7.bump 11))) (z9L σ σ0 v5 v6 k12)) (z9T next4)) (
Q v5 (σ7.bump 6))
def zdE (a0:ByteArray) (σ:Mem) (Q:AV->Mem->Prop):Prop:=
z15 (σ.bump 2) σ.next (.rw [.str a0]) λσ0=>
z15 (σ0.bump 4) (σ0.next+1) (.map [] 0) λσ1=>
z15 σ1 (σ0.next+2) (.rw [.nilm]) λσ2=>
stW 1 σ2 (.ptr (σ0.next+2) 0) (.map (σ0.next+1)) λσ3=>
zj [.v,tI] (z9W Q σ σ0) .nils 0 (σ3.bump 3)
theorem zhC {a0 σ Q} (h:σ.Live->zdE a0 σ Q):z1 PG z7R [.str a0] σ Q:=
 .of_sem [none,none,none,none,none,none,some ([1,4,5],[3,6]),none,none,some ([1,4,5],[3,6]),none,none,some ([1,3,4,5,6],[7,8]),none,none,some ([1,3,4,5,6],[7,8]),some ([1,3,4,5,6,9],[7,8,10]),none,none,none,none,some ([1,3,4,5,6,7,8,9,10],[11]),some ([1,3,4,5,6,7,8,9,10],[11]),none,none,none,none,none,some ([1,3,4,5,6,9,10],[7,8]),none,none,none,none,none,none,none,none,none,none,none,none,none] [(6,tI),(15,.s),(7,tI),(8,tI),(20,.s),(24,.s),(10,tI),(40,tI),(11,tI),(52,.s),(57,.s),(62,.s),(66,tI),(82,tI),(89,.s)] mixed (by kernel_rfl) (by kernel_rfl) h
/-! vitrine/vitrineref03.Fixed -/
def z84 (next0:AV->Int->Mem->Prop) (v2:Int) (v4:AV) (σ5:Mem):Prop:=
iW (v2+1) λv6=>
next0 v4 v6 (σ5.bump 3)
def z3z (next0:AV->Int->Mem->Prop) (v2:Int) (v11:AV) (σ12:Mem):Prop:=
iW (v2+1) λv13=>
next0 v11 v13 (σ12.bump 3)
def z53 (k14:AV->Mem->Prop) (v18:AV) (σ19:Mem):Prop:=
k14 v18 σ19
def z7Z (Q:AV->Mem->Prop) (v1:AV) (next27:AV->Int->Mem->Prop) (v28:AV) (v29:Int) (σ30:Mem):Prop:=
ifB (decide (v29<32)) (
z15 (σ30.bump 6) (σ30.next+3) (.rw [.int .i64 5]) λσ31=>
apW 1 8 (σ30.next+4) σ31 v28 (.slice (σ30.next+3) 0 1 (.ex 1)) λv32 σ33=>
iW (v29+1) λv34=>
next27 v32 v34 (σ33.bump 3)) (
Q (.tup [v1,v28]) (σ30.bump 6))
def z87 (Q:AV->Mem->Prop) (next0:AV->Int->Mem->Prop) (v1:AV) (v2:Int) (σ3:Mem):Prop:=
ifB (decide (v2<288)) (
ifB (decide (v2<144)) (
zd [.v] (λ(k7:AV->Mem->Prop)=>
z15 (σ3.bump 13) (σ3.next+10) (.rw [.int .i64 8]) λσ8=>
apW 1 8 (σ3.next+11) σ8 v1 (.slice (σ3.next+10) 0 1 (.ex 1)) λv9 σ10=>
k7 v9 σ10) (z84 next0 v2)) (
zd [.v] (λ(k14:AV->Mem->Prop)=>
ifB (decide (280<=v2)) (
z15 (σ3.bump 13) (σ3.next+10) (.rw [.int .i64 8]) λσ15=>
apW 1 8 (σ3.next+11) σ15 v1 (.slice (σ3.next+10) 0 1 (.ex 1)) λv16 σ17=>
k14 v16 σ17) (
zd [.v] (λ(k20:AV->Mem->Prop)=>
ifB (decide (v2<256)) (
z15 (σ3.bump 16) (σ3.next+13) (.rw [.int .i64 9]) λσ21=>
apW 1 8 (σ3.next+14) σ21 v1 (.slice (σ3.next+13) 0 1 (.ex 1)) λv22 σ23=>
k20 v22 σ23) (
z15 (σ3.bump 16) (σ3.next+13) (.rw [.int .i64 7]) λσ24=>
apW 1 8 (σ3.next+14) σ24 v1 (.slice (σ3.next+13) 0 1 (.ex 1)) λv25 σ26=>
k20 v25 σ26)) (z53 k14))) (z3z next0 v2))) (
zj [.v,tI] (z7Z Q v1) .nils 0 (σ3.bump 3))
def zaJ (σ:Mem) (Q:AV->Mem->Prop):Prop:=
zj [.v,tI] (z87 Q) .nils 0 (σ.bump 5)
theorem zeO {σ Q} (h:σ.Live->zaJ σ Q):z1 PG z7S [] σ Q:=
 .of_sem [none,none,none,none,none,some ([3],[2,4]),none,none,none,none,none,some ([3,4],[2]),none,none,some ([3,4],[2]),none,none,none,none,none,some ([2],[3,5]),none,none,none,none,none,none] [(4,tI),(5,tI)] mixed (by kernel_rfl) (by kernel_rfl) h
/-! vitrine/vitrineref02.Make -/
def zcG (a0:AV) (σ:Mem) (Q:AV->Mem->Prop):Prop:=
z5 PG z7E [a0] (σ.bump 9) λv0 σ1=>
z6T v0 0 λv2=>
tpI v0 1 λv3=>
ifB (decide (v3≠0)) (
Q (.tup [.nilp,.int .i64 v3]) (σ1.bump 5)) (
apW 1 8 (σ1.next+5) (σ1.bump 11) .nils a0 λv4 σ5=>
zG v4 1 (
zG v2 1 (
zfU (.agg (setAt (setAt [.nils,.nils] 0 v4.cells) 1 v2.cells)) (
z15 σ5 (σ1.next+8) (.rw (setAt (setAt [.nils,.nils] 0 v4.cells) 1 v2.cells)) λσ6=>
Q (.tup [.ptr (σ1.next+8) 0,.int .i64 0]) σ6))))
theorem zgC {a0 σ Q} (h:σ.Live->zcG a0 σ Q):z1 PG z8x [a0] σ Q:=
 .of_sem [none,none,none,none,none,none,none] [(11,tI)] mixed (by kernel_rfl) (by kernel_rfl) h
/-! vitrine/vitrineref05.lay -/
/-! vitrine/vitrineref04.Tokens -/
/-! vitrine/deflate.lengths -/
def z5e (next5:Int->Mem->Prop) (v6:Int) (σ14:Mem):Prop:=
iW (v6+1) λv15=>
next5 v15 (σ14.bump 2)
def z5l (a0:AV) (Q:AV->Mem->Prop) (σ:Mem) (σ0:Mem) (v4:Int) (next5:Int->Mem->Prop) (v6:Int) (σ7:Mem):Prop:=
ifB (decide (v6<v4)) (
zz 3 a0 v6 λv8=>
z5x 3 (σ7.bump 5) v8 λv9=>
z15 (σ7.bump 5) (σ7.next+3) (.rw [.int .i64 0,.int .i64 0,.int .i64 0]) λσ10=>
stW 3 σ10 (.ptr (σ7.next+3) 0) v9 λσ11=>
z6C 1 (.ptr (σ7.next+3) 0) λv12=>
ldI (σ11.bump 3) v12 λv13=>
zd [] (λ(k16:Mem->Prop)=>
ifB (decide (v13=0)) (
z6C 0 (.ptr (σ7.next+3) 0) λv17=>
ldI (σ11.bump 10) v17 λv18=>
z3F 286 1 (.ptr (σ.next+2) 0) v18 λv19=>
ldI (σ11.bump 10) v19 λv20=>
iW (v20+1) λv21=>
z3F 286 1 (.ptr (σ.next+2) 0) v18 λv22=>
stW 1 (σ11.bump 10) v22 (.int .i64 v21) λσ23=>
k16 σ23) (
z6C 1 (.ptr (σ7.next+3) 0) λv24=>
ldI (σ11.bump 12) v24 λv25=>
z5 PG z3B [.int .i64 v25] (σ11.bump 12) λv26 σ27=>
zqf 0 none v26 λa=>zq .i64 a λv28=>
z3F 286 1 (.ptr (σ.next+2) 0) v28 λv29=>
ldI σ27 v29 λv30=>
iW (v30+1) λv31=>
z3F 286 1 (.ptr (σ.next+2) 0) v28 λv32=>
stW 1 σ27 v32 (.int .i64 v31) λσ33=>
z6C 2 (.ptr (σ7.next+3) 0) λv34=>
ldI (σ33.bump 9) v34 λv35=>
z5 PG z2q [.int .i64 v35] (σ33.bump 9) λv36 σ37=>
zqf 0 none v36 λa=>zq .i64 a λv38=>
z3F 30 1 (.ptr σ0.next 0) v38 λv39=>
ldI σ37 v39 λv40=>
iW (v40+1) λv41=>
z3F 30 1 (.ptr σ0.next 0) v38 λv42=>
stW 1 σ37 v42 (.int .i64 v41) λσ43=>
k16 σ43)) (z5e next5 v6)) (
zom 286 1 (.ptr (σ.next+2) 0) none none λv44=>
z5 PG z3N [.int .i64 15,v44] (σ7.bump 8) λv45 σ46=>
z6T v45 0 λv47=>
tpI v45 1 λv48=>
zom 30 1 (.ptr σ0.next 0) none none λv49=>
z5 PG z3N [.int .i64 15,v49] (σ46.bump 7) λv50 σ51=>
z6T v50 0 λv52=>
tpI v50 1 λv53=>
z5 PG z3q [v47,.int .i64 257] (σ51.bump 6) λv54 σ55=>
z5 PG z3q [v52,.int .i64 1] σ55 λv56 σ57=>
Q (.tup [v54,v56]) σ57)
def z75 (a0:AV) (σ:Mem) (Q:AV->Mem->Prop):Prop:=
z15 (σ.bump 3) (σ.next+2) (.rw (List.replicate 286 (.int .i64 0))) λσ0=>
z15 (σ0.bump 1) σ0.next (.rw (List.replicate 30 (.int .i64 0))) λσ1=>
z3F 286 1 (.ptr (σ.next+2) 0) 256 λv2=>
stW 1 (σ1.bump 2) v2 (.int .i64 1) λσ3=>
zx a0 λv4=>
zj [tI] (z5l a0 Q σ σ0 v4) 0 (σ3.bump 3)
theorem zbm {a0 σ Q} (h:σ.Live->z75 a0 σ Q):z1 PG z4y [a0] σ Q:=
 .of_sem [none,none,none,none,none,none,some ([4,5,13,14],[15]),none,none,none,none,none,some ([4,5,13,14,15],[]),none,none,none,none,none,none,none] [(15,tI),(20,tI),(23,tI),(25,tI),(29,tI),(31,tI),(33,tI),(37,tI),(39,tI),(41,tI),(49,tI),(54,tI)] mixed (by kernel_rfl) (by kernel_rfl) h
/-! (*vitrine/huff.Table).Lay -/
def z5J (a0:AV) (a1:AV) (a2:Int) (Q:AV->Mem->Prop) (next15:Int->Mem->Prop) (v16:Int) (σ17:Mem):Prop:=
ifB (decide (0<=v16)) (
lfW 1 (σ17.bump 13) a0 λv18=>
zz 1 v18 a2 λv19=>
ldI (σ17.bump 13) v19 λv20=>
zlg .i64 v20 v16 λv21=>
z5 PG zg [a1,.int .i64 v21,.int .i64 1] (σ17.bump 13) λv22 σ23=>
iW (v16-1) λv24=>
next15 v24 (σ23.bump 3)) (
Q (.int .i64 0) (σ17.bump 3))
def z7X (a0:AV) (a1:AV) (a2:Int) (σ:Mem) (Q:AV->Mem->Prop):Prop:=
eqW .ptr a0 .nilp λv0=>
ifB v0 (
Q (.int .i64 2) (σ.bump 9)) (
eqW .ptr a1 .nilp λv1=>
ifB v1 (
Q (.int .i64 2) (σ.bump 9)) (
ifB (decide (a2<0)) (
Q (.int .i64 1) (σ.bump 31)) (
z8h a0 λv2=>
z6C 0 v2 λv3=>
ldW (σ.bump 30) v3 λv4=>
zx v4 λv5=>
ifB (decide (v5<=a2)) (
Q (.int .i64 1) (σ.bump 31)) (
z8h a0 λv6=>
z6C 0 v6 λv7=>
ldW (σ.bump 30) v7 λv8=>
zz 1 v8 a2 λv9=>
ldI (σ.bump 30) v9 λv10=>
ifB (decide (v10=0)) (
Q (.int .i64 1) (σ.bump 31)) (
lfW 0 (σ.bump 39) a0 λv11=>
zz 1 v11 a2 λv12=>
ldI (σ.bump 39) v12 λv13=>
iW (v13-1) λv14=>
zj [tI] (z5J a0 a1 a2 Q) v14 (σ.bump 39))))))
theorem zcf {a0 a1 a2 σ Q} (h:σ.Live->z7X a0 a1 a2 σ Q):z1 PG z2f [a0,a1,.int .i64 a2] σ Q:=
 .of_sem [none,none,none,none,none,none,none,none,none,none,some ([0,1,2],[7]),none,none,none,none,none,none] [(34,tI),(43,tI),(7,tI),(56,tI)] mixed (by kernel_rfl) (by kernel_rfl) h
/-! vitrine/vitrineref05.length -/
/-! vitrine/vitrineref05.distance -/
/-! (*vitrine/vitrineref02.Table).Lay -/
def z5r (a0:AV) (a1:AV) (a2:Int) (Q:AV->Mem->Prop) (next13:Int->Mem->Prop) (v14:Int) (σ15:Mem):Prop:=
ifB (decide (0<=v14)) (
lfW 1 (σ15.bump 13) a0 λv16=>
zz 1 v16 a2 λv17=>
ldI (σ15.bump 13) v17 λv18=>
zlg .i64 v18 v14 λv19=>
z5 PG z23 [a1,.int .i64 v19,.int .i64 1] (σ15.bump 13) λv20 σ21=>
iW (v14-1) λv22=>
next13 v22 (σ21.bump 3)) (
Q (.int .i64 0) (σ15.bump 3))
def z7q (a0:AV) (a1:AV) (a2:Int) (σ:Mem) (Q:AV->Mem->Prop):Prop:=
ifB (decide (a2<0)) (
Q (.int .i64 1) (σ.bump 23)) (
z8h a0 λv0=>
z6C 0 v0 λv1=>
ldW (σ.bump 22) v1 λv2=>
zx v2 λv3=>
ifB (decide (v3<=a2)) (
Q (.int .i64 1) (σ.bump 23)) (
z8h a0 λv4=>
z6C 0 v4 λv5=>
ldW (σ.bump 22) v5 λv6=>
zz 1 v6 a2 λv7=>
ldI (σ.bump 22) v7 λv8=>
ifB (decide (v8=0)) (
Q (.int .i64 1) (σ.bump 23)) (
lfW 0 (σ.bump 31) a0 λv9=>
zz 1 v9 a2 λv10=>
ldI (σ.bump 31) v10 λv11=>
iW (v11-1) λv12=>
zj [tI] (z5r a0 a1 a2 Q) v12 (σ.bump 31))))
theorem zbs {a0 a1 a2 σ Q} (h:σ.Live->z7q a0 a1 a2 σ Q):z1 PG z4w [a0,a1,.int .i64 a2] σ Q:=
 .of_sem [none,none,none,none,none,none,some ([0,1,2],[7]),none,none,none,none,none,none] [(26,tI),(35,tI),(7,tI),(48,tI)] mixed (by kernel_rfl) (by kernel_rfl) h
/-! vitrine/bits.Read -/
def zdz (a0:ByteArray) (σ:Mem) (Q:AV->Mem->Prop):Prop:=
zfU (.agg [.str a0,.int .i64 0,.int .i64 0]) (
z15 (σ.bump 5) (σ.next+3) (.rw [.str a0,.int .i64 0,.int .i64 0]) λσ0=>
Q (.ptr (σ.next+3) 0) σ0)
theorem zgJ {a0 σ Q} (h:σ.Live->zdz a0 σ Q):z1 PG za5 [.str a0] σ Q:=
 .of_sem [none,none] [] mixed (by kernel_rfl) (by kernel_rfl) h
/-! (*vitrine/huff.Table).Next -/
def z5j (a0:AV) (a1:AV) (Q:AV->Mem->Prop) (next2:Int->Int->Int->Int->Mem->Prop) (v3:Int) (v4:Int) (v5:Int) (v6:Int) (σ7:Mem):Prop:=
lfI 19 (σ7.bump 6) a0 λv8=>
ifB (decide (v6<=v8)) (
z5 PG zC [a1,.int .i64 1] (σ7.bump 13) λv9 σ10=>
tpI v9 0 λv11=>
tpI v9 1 λv12=>
ifB (decide (v12≠0)) (
Q (.tup [.int .i64 0,.int .i64 v12]) (σ10.bump 5)) (
iW (v3*2) λv13=>
z4j (zB .or .i64 v13 v11) λv14=>
iW (v4*2) λv15=>
iW (v14-v15) λv16=>
nfW 2 a0 λv17=>
z3F 16 1 v17 v6 λv18=>
ldI (σ10.bump 22) v18 λv19=>
ifB (decide (v16<v19)) (
lfW 18 (σ10.bump 33) a0 λv20=>
iW (v5+v16) λv21=>
zz 1 v20 v21 λv22=>
ldI (σ10.bump 33) v22 λv23=>
Q (.tup [.int .i64 v23,.int .i64 0]) (σ10.bump 33)) (
nfW 2 a0 λv24=>
z3F 16 1 v24 v6 λv25=>
ldI (σ10.bump 31) v25 λv26=>
iW (v15+v26) λv27=>
nfW 2 a0 λv28=>
z3F 16 1 v28 v6 λv29=>
ldI (σ10.bump 40) v29 λv30=>
iW (v5+v30) λv31=>
iW (v6+1) λv32=>
next2 v14 v27 v31 v32 (σ10.bump 43)))) (
Q (.tup [.int .i64 0,.int .i64 12]) (σ7.bump 8))
def z72 (a0:AV) (a1:AV) (σ:Mem) (Q:AV->Mem->Prop):Prop:=
eqW .ptr a0 .nilp λv0=>
ifB v0 (
Q (.tup [.int .i64 0,.int .i64 2]) (σ.bump 10)) (
eqW .ptr a1 .nilp λv1=>
ifB v1 (
Q (.tup [.int .i64 0,.int .i64 2]) (σ.bump 10)) (
zj [tI,tI,tI,tI] (z5j a0 a1 Q) 0 0 0 1 (σ.bump 12)))
theorem zbq {a0 a1 σ Q} (h:σ.Live->z72 a0 a1 σ Q):z1 PG z11 [a0,a1] σ Q:=
 .of_sem [none,none,none,none,none,none,none,some ([0,1],[6,7,8,9]),none,none,none,none,none,none,none,none,none,none,none,none,none,none,none,none,none] [(6,tI),(7,tI),(8,tI),(9,tI),(23,tI),(30,tI),(31,tI),(50,tI),(60,tI),(67,tI),(75,tI)] mixed (by kernel_rfl) (by kernel_rfl) h
/-! (*vitrine/bits.Reader).Left -/
def z6D (a0:AV) (σ:Mem) (Q:AV->Mem->Prop):Prop:=
eqW .ptr a0 .nilp λv0=>
ifB v0 (
Q (.int .i64 0) (σ.bump 4)) (
lfS 0 (σ.bump 15) a0 λv1=>
iW (8*(v1.size:Int)) λv2=>
lfI 2 (σ.bump 15) a0 λv3=>
iW (v2+v3) λv4=>
Q (.int .i64 v4) (σ.bump 15))
theorem zad {a0 σ Q} (h:σ.Live->z6D a0 σ Q):z1 PG z2m [a0] σ Q:=
 .of_sem [none,none,none,none,none] [(8,.s),(14,tI)] mixed (by kernel_rfl) (by kernel_rfl) h
/-! math/bits.Mul -/
def z8R (a0:Int) (a1:Int) (σ:Mem) (Q:AV->Mem->Prop):Prop:=
z5 PG z7r [.int .u64 a0,.int .u64 a1] (σ.bump 10) λv0 σ1=>
z6T v0 0 λa=>zq .u64 a λv2=>
z6T v0 1 λa=>zq .u64 a λv3=>
Q (.tup [.int .u64 v2,.int .u64 v3]) (σ1.bump 4)
theorem zcS {a0 a1 σ Q} (h:σ.Live->z8R a0 a1 σ Q):z1 PG z5W [.int .u64 a0,.int .u64 a1] σ Q:=
 .of_sem [none,none,none,none,none,none] [(16,(.i .u32)),(17,(.i .u32)),(26,(.i .u64)),(27,(.i .u64))] mixed (by kernel_rfl) (by kernel_rfl) h
/-! vitrine/huff.Codes -/
def z8n (next12:Int->Mem->Prop) (v13:Int) (σ17:Mem):Prop:=
iW (v13+1) λv18=>
next12 v18 (σ17.bump 2)
def z95 (a0:AV) (Q:AV->Mem->Prop) (σ1:Mem) (σ8:Mem) (v9:Int) (v11:Int) (next12:Int->Mem->Prop) (v13:Int) (σ14:Mem):Prop:=
ifB (decide (v13<v11)) (
zz 1 a0 v13 λv15=>
ldI (σ14.bump 6) v15 λv16=>
zd [] (λ(k19:Mem->Prop)=>
ifB (decide (0<v16)) (
z3F 16 1 (.ptr (σ1.next+5) 0) v16 λv20=>
ldI (σ14.bump 15) v20 λv21=>
zz 1 (.slice (σ8.next+2) 0 (Int.toNat v9) (.ex (Int.toNat v9))) v13 λv22=>
stW 1 (σ14.bump 15) v22 (.int .i64 v21) λσ23=>
z3F 16 1 (.ptr (σ1.next+5) 0) v16 λv24=>
ldI (σ23.bump 6) v24 λv25=>
iW (v25+1) λv26=>
z3F 16 1 (.ptr (σ1.next+5) 0) v16 λv27=>
stW 1 (σ23.bump 6) v27 (.int .i64 v26) λσ28=>
k19 σ28) (
k19 (σ14.bump 8))) (z8n next12 v13)) (
Q (.tup [.slice (σ8.next+2) 0 (Int.toNat v9) (.ex (Int.toNat v9)),.int .i64 0]) (σ14.bump 4))
def zco (a0:AV) (σ:Mem) (Q:AV->Mem->Prop):Prop:=
z5 PG z8i [a0] (σ.bump 5) λv0 σ1=>
zq .i64 v0 λv2=>
ifB (decide (v2≠0)) (
Q (.tup [.nils,.int .i64 v2]) (σ1.bump 5)) (
z5 PG z3n [a0] (σ1.bump 7) λv3 σ4=>
z5 PG z8W [v3] σ4 λv5 σ6=>
z15 σ6 (σ1.next+5) (.rw (List.replicate 16 (.int .i64 0))) λσ7=>
stW 16 σ7 (.ptr (σ1.next+5) 0) v5 λσ8=>
zx a0 λv9=>
zeH 8 v9 v9 (
z15 (σ8.bump 4) (σ8.next+2) (.rw (repl (Int.toNat v9) [.int .i64 0])) λσ10=>
zx a0 λv11=>
zj [tI] (z95 a0 Q σ1 σ8 v9 v11) 0 (σ10.bump 3)))
theorem zgr {a0 σ Q} (h:σ.Live->zco a0 σ Q):z1 PG z93 [a0] σ Q:=
 .of_sem [none,none,none,none,none,none,none,none,none,some ([5,6,20,21],[22]),none,none,none,none,none,some ([5,6,20,21,22],[]),none,none,none,none] [(10,tI),(22,tI),(26,tI),(33,tI),(37,tI)] mixed (by kernel_rfl) (by kernel_rfl) h
/-! slices.Clone[[]int,int] -/
def z3p (a0:AV) (σ:Mem) (Q:AV->Mem->Prop):Prop:=
eqW .sl a0 .nils λv0=>
ifB v0 (
Q .nils (σ.bump 4)) (
z15 (σ.bump 7) (σ.next+3) (.rw []) λσ1=>
apW 1 8 (σ.next+5) σ1 (.slice (σ.next+3) 0 0 (.ex 0)) a0 λv2 σ3=>
Q v2 σ3)
theorem z6j {a0 σ Q} (h:σ.Live->z3p a0 σ Q):z1 PG z1r [a0] σ Q:=
 .of_sem [none,none,none,none,none] [] mixed (by kernel_rfl) (by kernel_rfl) h
/-! vitrine/huff.counted -/
def z6X (next3:Int->Mem->Prop) (v4:Int) (σ8:Mem):Prop:=
iW (v4+1) λv9=>
next3 v9 (σ8.bump 2)
def z71 (a0:AV) (Q:AV->Mem->Prop) (σ:Mem) (σ0:Mem) (v2:Int) (next3:Int->Mem->Prop) (v4:Int) (σ5:Mem):Prop:=
ifB (decide (v4<v2)) (
zz 1 a0 v4 λv6=>
ldI (σ5.bump 4) v6 λv7=>
zd [] (λ(k10:Mem->Prop)=>
ifB (decide (0<v7)) (
z3F 16 1 (.ptr σ0.next 0) v7 λv11=>
ldI (σ5.bump 12) v11 λv12=>
iW (v12+1) λv13=>
z3F 16 1 (.ptr σ0.next 0) v7 λv14=>
stW 1 (σ5.bump 12) v14 (.int .i64 v13) λσ15=>
k10 σ15) (
k10 (σ5.bump 6))) (z6X next3 v4)) (
z5x 16 (σ5.bump 3) (.ptr σ0.next 0) λv16=>
stW 16 (σ5.bump 3) (.ptr σ.next 0) v16 λσ17=>
z5x 16 σ17 (.ptr σ.next 0) λv18=>
Q v18 σ17)
def z9A (a0:AV) (σ:Mem) (Q:AV->Mem->Prop):Prop:=
z15 (σ.bump 1) σ.next (.rw (List.replicate 16 (.int .i64 0))) λσ0=>
z15 (σ0.bump 1) σ0.next (.rw (List.replicate 16 (.int .i64 0))) λσ1=>
zx a0 λv2=>
zj [tI] (z71 a0 Q σ σ0 v2) 0 (σ1.bump 3)
theorem ze9 {a0 σ Q} (h:σ.Live->z9A a0 σ Q):z1 PG z3n [a0] σ Q:=
 .of_sem [none,none,none,none,some ([2,3,6,7],[8]),none,none,none,none,none,some ([2,3,6,7,8],[]),none,none,none] [(8,tI),(11,tI),(16,tI)] mixed (by kernel_rfl) (by kernel_rfl) h
/-! slices.SortStableFunc[[]int,int] -/
def z01 (a0:AV) (a1:AV) (σ:Mem) (Q:AV->Mem->Prop):Prop:=
zx a0 λv0=>
z5 PG z1f [a0,.int .i64 v0,a1] (σ.bump 5) λv1 σ2=>
Q (.tup []) σ2
theorem z18 {a0 a1 σ Q} (h:σ.Live->z01 a0 a1 σ Q):z1 PG zs [a0,a1] σ Q:=
 .of_sem [none] [] mixed (by kernel_rfl) (by kernel_rfl) h
/-! vitrine/huff.Make$1 -/
def zaT (a0:Int) (a1:Int) (a2:AV) (σ:Mem) (Q:AV->Mem->Prop):Prop:=
ldW (σ.bump 11) a2 λv0=>
zz 1 v0 a0 λv1=>
ldI (σ.bump 11) v1 λv2=>
ldW (σ.bump 11) a2 λv3=>
zz 1 v3 a1 λv4=>
ldI (σ.bump 11) v4 λv5=>
z5 PG z2u [.int .i64 v2,.int .i64 v5] (σ.bump 11) λv6 σ7=>
zq .i64 v6 λv8=>
Q (.int .i64 v8) σ7
theorem zeS {a0 a1 a2 σ Q} (h:σ.Live->zaT a0 a1 a2 σ Q):z1 PG z7J [.int .i64 a0,.int .i64 a1,a2] σ Q:=
 .of_sem [none,none] [(9,tI),(13,tI),(14,tI)] mixed (by kernel_rfl) (by kernel_rfl) h
/-! cmp.Compare[int] -/
def z6q (a0:Int) (a1:Int) (σ:Mem) (Q:AV->Mem->Prop):Prop:=
z5 PG z3C [.int .i64 a0] (σ.bump 4) λv0 σ1=>
z70 v0 λv2=>
z5 PG z3C [.int .i64 a1] (σ1.bump 3) λv3 σ4=>
z70 v3 λv5=>
ifB v2 (
ifB v5 (
Q (.int .i64 0) (σ4.bump 3)) (
Q (.int .i64 (-1)) (σ4.bump 3))) (
ifB v5 (
Q (.int .i64 1) (σ4.bump 3)) (
ifB (decide (a0<a1)) (
Q (.int .i64 (-1)) (σ4.bump 6)) (
ifB (decide (a1<a0)) (
Q (.int .i64 1) (σ4.bump 9)) (
Q (.int .i64 0) (σ4.bump 9)))))
theorem zac {a0 a1 σ Q} (h:σ.Live->z6q a0 a1 σ Q):z1 PG z2u [.int .i64 a0,.int .i64 a1] σ Q:=
 .of_sem [none,none,none,none,none,none,none,none,none,none,none,none,none,none,none,none,none,none,none] [(8,.b),(10,.b)] mixed (by kernel_rfl) (by kernel_rfl) h
/-! vitrine/deflate.symbols$1 -/
def z5z (a0:AV) (a1:AV) (a2:AV) (σ:Mem) (Q:AV->Mem->Prop):Prop:=
zfU a1 (
z15 (σ.bump 1) σ.next (.rw a1.cells) λσ0=>
ldW (σ0.bump 5) a2 λv1=>
z6C 0 (.ptr σ.next 0) λv2=>
ldI (σ0.bump 5) v2 λv3=>
z5 PG z2f [a0,v1,.int .i64 v3] (σ0.bump 5) λv4 σ5=>
zq .i64 v4 λv6=>
ldW (σ5.bump 6) a2 λv7=>
z6C 1 (.ptr σ.next 0) λv8=>
ldI (σ5.bump 6) v8 λv9=>
z6C 2 (.ptr σ.next 0) λv10=>
ldI (σ5.bump 6) v10 λv11=>
z5 PG zg [v7,.int .i64 v9,.int .i64 v11] (σ5.bump 6) λv12 σ13=>
Q (.tup []) σ13)
theorem z9p {a0 a1 a2 σ Q} (h:σ.Live->z5z a0 a1 a2 σ Q):z1 PG zV [a0,a1,a2] σ Q:=
 .of_sem [none,none,none] [(8,tI),(9,tI),(12,tI),(14,tI)] mixed (by kernel_rfl) (by kernel_rfl) h
/-! vitrine/deflate.length -/
def z68 (Q:AV->Mem->Prop) (σ:Mem) (v7:Int) (next8:Int->Mem->Prop) (v9:Int) (σ10:Mem):Prop:=
zlg .i64 v7 v9 λv11=>
ifB (decide (8<=v11)) (
iW (v9+1) λv12=>
next8 v12 (σ10.bump 7)) (
iW (4*v9) λv13=>
iW (257+v13) λv14=>
zlg .i64 v7 v9 λv15=>
iW (v14+v15) λv16=>
zgu .i64 1 v9 λv17=>
iW (v17-1) λv18=>
z4j (zB .and .i64 v7 v18) λv19=>
stW 3 (σ10.bump 19) (.ptr σ.next 0) (.agg [.int .i64 v16,.int .i64 v19,.int .i64 v9]) λσ20=>
z5x 3 σ20 (.ptr σ.next 0) λv21=>
Q v21 σ20)
def z7V (a0:Int) (σ:Mem) (Q:AV->Mem->Prop):Prop:=
z15 (σ.bump 1) σ.next (.rw [.int .i64 0,.int .i64 0,.int .i64 0]) λσ0=>
ifB (decide (a0=258)) (
stW 3 (σ0.bump 5) (.ptr σ.next 0) (.agg [.int .i64 285,.int .i64 0,.int .i64 0]) λσ1=>
z5x 3 σ1 (.ptr σ.next 0) λv2=>
Q v2 σ1) (
ifB (decide (a0<11)) (
iW (257+a0) λv3=>
iW (v3-3) λv4=>
stW 3 (σ0.bump 11) (.ptr σ.next 0) (.agg [.int .i64 v4,.int .i64 0,.int .i64 0]) λσ5=>
z5x 3 σ5 (.ptr σ.next 0) λv6=>
Q v6 σ5) (
iW (a0-3) λv7=>
zj [tI] (z68 Q σ v7) 0 (σ0.bump 10)))
theorem zch {a0 σ Q} (h:σ.Live->z7V a0 σ Q):z1 PG z3B [.int .i64 a0] σ Q:=
 .of_sem [none,none,none,none,none,none,none,none,none,none,none,some ([0,2],[3]),none,none,none,none,none] [(3,tI)] mixed (by kernel_rfl) (by kernel_rfl) h
/-! vitrine/deflate.distance -/
def z4J (Q:AV->Mem->Prop) (σ:Mem) (v1:Int) (next4:Int->Mem->Prop) (v5:Int) (σ6:Mem):Prop:=
zlg .i64 v1 v5 λv7=>
ifB (decide (4<=v7)) (
iW (v5+1) λv8=>
next4 v8 (σ6.bump 7)) (
iW (2*v5) λv9=>
zlg .i64 v1 v5 λv10=>
iW (v9+v10) λv11=>
zgu .i64 1 v5 λv12=>
iW (v12-1) λv13=>
z4j (zB .and .i64 v1 v13) λv14=>
stW 3 (σ6.bump 18) (.ptr σ.next 0) (.agg [.int .i64 v11,.int .i64 v14,.int .i64 v5]) λσ15=>
z5x 3 σ15 (.ptr σ.next 0) λv16=>
Q v16 σ15)
def z6t (a0:Int) (σ:Mem) (Q:AV->Mem->Prop):Prop:=
z15 (σ.bump 1) σ.next (.rw [.int .i64 0,.int .i64 0,.int .i64 0]) λσ0=>
iW (a0-1) λv1=>
ifB (decide (v1<4)) (
stW 3 (σ0.bump 8) (.ptr σ.next 0) (.agg [.int .i64 v1,.int .i64 0,.int .i64 0]) λσ2=>
z5x 3 σ2 (.ptr σ.next 0) λv3=>
Q v3 σ2) (
zj [tI] (z4J Q σ v1) 0 (σ0.bump 6))
theorem za3 {a0 σ Q} (h:σ.Live->z6t a0 σ Q):z1 PG z2q [.int .i64 a0] σ Q:=
 .of_sem [none,none,none,none,none,none,none,some ([0,2],[3]),none,none,none,none,none] [(3,tI)] mixed (by kernel_rfl) (by kernel_rfl) h
/-! vitrine/lz.Tokens$1 -/
def zcN (Q:AV->Mem->Prop) (σ0:Mem):Prop:=
Q (.tup []) σ0
def z88 (a0:Int) (a1:Int) (a2:AV) (a3:AV) (k1:Mem->Prop) (next2:Int->Mem->Prop) (v3:Int) (σ4:Mem):Prop:=
iW (a0+a1) λv5=>
ifB (decide (v3<v5)) (
iW (v3+3) λv6=>
ldS (σ4.bump 12) a2 λv7=>
ifB (decide (v6<=(v7.size:Int))) (
ldS (σ4.bump 18) a2 λv8=>
iW (v3+3) λv9=>
zi5 v8 v3 v9 λv10=>
ldW (σ4.bump 27) a3 λv11=>
ldW (σ4.bump 27) a3 λv12=>
znX (σ4.bump 27) .nils false v12 (.str v10) λv13=>
z15 (σ4.bump 27) (σ4.next+24) (.rw [.int .i64 v3]) λσ14=>
apW 1 8 (σ4.next+25) σ14 v13 (.slice (σ4.next+24) 0 1 (.ex 1)) λv15 σ16=>
zgF.sameW σ14 σ16 a3 (
zqE σ16 v11 (.str v10) v15 λσ17=>
iW (v3+1) λv18=>
next2 v18 (σ17.bump 3))) (
k1 (σ4.bump 12))) (
k1 (σ4.bump 12))
def zbu (a0:Int) (a1:Int) (a2:AV) (a3:AV) (σ:Mem) (Q:AV->Mem->Prop):Prop:=
zd [] (λ(k1:Mem->Prop)=>
zj [tI] (z88 a0 a1 a2 a3 k1) a0 (σ.bump 2)) (zcN Q)
theorem zeA {a0 a1 a2 a3 σ Q} (h:σ.Live->zbu a0 a1 a2 a3 σ Q):z1 PG z3W [.int .i64 a0,.int .i64 a1,a2,a3] σ Q:=
 .of_sem [none,some ([],[]),some ([0,1,2,3],[6]),none,none,none,none,none,none] [(6,tI),(17,.s),(23,.s)] mixed (by kernel_rfl) (by kernel_rfl) h
/-! vitrine/vitrineref02.Codes -/
def z7U (next10:Int->Int->Int->Mem->Prop) (v13:Int) (v16:Int) (v17:Int) (σ18:Mem):Prop:=
iW (v13+1) λv19=>
next10 v16 v17 v19 (σ18.bump 3)
def z58 (σ1:Mem) (v3:Int) (v8:Int) (v13:Int) (k20:Int->Int->Mem->Prop) (v23:Int) (σ24:Mem):Prop:=
zz 1 (.slice (σ1.next+4) 0 (Int.toNat v3) (.ex (Int.toNat v3))) v13 λv25=>
stW 1 (σ24.bump 5) v25 (.int .i64 v23) λσ26=>
k20 v23 v8 (σ26.bump 2)
def z8a (a0:AV) (σ1:Mem) (v3:Int) (next5:Int->Int->Int->Mem->Prop) (v8:Int) (next10:Int->Int->Int->Mem->Prop) (v11:Int) (v12:Int) (v13:Int) (σ14:Mem):Prop:=
zx a0 λv15=>
ifB (decide (v13<v15)) (
zd [tI,tI] (λ(k20:Int->Int->Mem->Prop)=>
zz 1 a0 v13 λv21=>
ldI (σ14.bump 10) v21 λv22=>
ifB (decide (v22≠v8)) (
k20 v11 v12 (σ14.bump 10)) (
zd [tI] (λ(k27:Int->Mem->Prop)=>
ifB (decide (0<v12)) (
iW (v11+1) λv28=>
iW (v8-v12) λv29=>
zgu .i64 v28 v29 λv30=>
k27 v30 (σ14.bump 19)) (
k27 v11 (σ14.bump 12))) (z58 σ1 v3 v8 v13 k20))) (z7U next10 v13)) (
iW (v8+1) λv31=>
next5 v11 v12 v31 (σ14.bump 7))
def z8c (a0:AV) (Q:AV->Mem->Prop) (σ1:Mem) (v3:Int) (next5:Int->Int->Int->Mem->Prop) (v6:Int) (v7:Int) (v8:Int) (σ9:Mem):Prop:=
ifB (decide (v8<=15)) (
zj [tI,tI,tI] (z8a a0 σ1 v3 next5 v8) v6 v7 0 (σ9.bump 3)) (
Q (.tup [.slice (σ1.next+4) 0 (Int.toNat v3) (.ex (Int.toNat v3)),.int .i64 0]) (σ9.bump 5))
def zbx (a0:AV) (σ:Mem) (Q:AV->Mem->Prop):Prop:=
z5 PG z7A [a0] (σ.bump 5) λv0 σ1=>
zq .i64 v0 λv2=>
ifB (decide (v2≠0)) (
Q (.tup [.nils,.int .i64 v2]) (σ1.bump 5)) (
zx a0 λv3=>
zeH 8 v3 v3 (
z15 (σ1.bump 6) (σ1.next+4) (.rw (repl (Int.toNat v3) [.int .i64 0])) λσ4=>
zj [tI,tI,tI] (z8c a0 Q σ1 v3) 0 0 1 (σ4.bump 3)))
theorem zeE {a0 σ Q} (h:σ.Live->zbx a0 σ Q):z1 PG z7E [a0] σ Q:=
 .of_sem [none,none,none,none,none,none,none,none,none,none,some ([0,5],[6,7,8]),none,none,none,none,none,some ([0,5,8],[6,7,9]),none,none,some ([0,5,8,9],[6,7]),none,none,none,some ([0,5,8,9],[6]),none,none,none,none,none,none] [(11,tI),(6,tI),(7,tI),(8,tI),(9,tI),(31,tI)] mixed (by kernel_rfl) (by kernel_rfl) h
/-! slices.ContainsFunc[[]int,int] -/
def z1t (a0:AV) (a1:AV) (σ:Mem) (Q:AV->Mem->Prop):Prop:=
z5 PG z0M [a0,a1] (σ.bump 6) λv0 σ1=>
zq .i64 v0 λv2=>
Q (.bool (decide (0<=v2))) σ1
theorem z3Y {a0 a1 σ Q} (h:σ.Live->z1t a0 a1 σ Q):z1 PG zy [a0,a1] σ Q:=
 .of_sem [none,none] [(7,tI)] mixed (by kernel_rfl) (by kernel_rfl) h
/-! vitrine/huff.Limit$1 -/
def z9E (a0:Int) (σ:Mem) (Q:AV->Mem->Prop):Prop:=
ifB (decide (a0<0)) (
Q (.bool true) (σ.bump 8)) (
Q (.bool (decide (1000000000<a0))) (σ.bump 8))
theorem zdg {a0 σ Q} (h:σ.Live->z9E a0 σ Q):z1 PG zeN [.int .i64 a0] σ Q:=
 .of_sem [none,none] [] mixed (by kernel_rfl) (by kernel_rfl) h
/-! vitrine/vitrineref03.Distance -/
def z5E (a0:Int) (Q:AV->Mem->Prop) (next0:Int->Int->Mem->Prop) (v1:Int) (v2:Int) (σ3:Mem):Prop:=
ifB (decide (v2<a0)) (
z5 PG z1H [.int .i64 v2] (σ3.bump 9) λv4 σ5=>
zq .i64 v4 λv6=>
zgu .i64 1 v6 λv7=>
iW (v1+v7) λv8=>
iW (v2+1) λv9=>
next0 v8 v9 (σ5.bump 3)) (
z5 PG z1H [.int .i64 a0] (σ3.bump 8) λv10 σ11=>
zq .i64 v10 λv12=>
Q (.tup [.int .i64 v1,.int .i64 v12]) σ11)
def z81 (a0:Int) (σ:Mem) (Q:AV->Mem->Prop):Prop:=
zj [tI,tI] (z5E a0 Q) 1 0 (σ.bump 4)
theorem zce {a0 σ Q} (h:σ.Live->z81 a0 σ Q):z1 PG z3A [.int .i64 a0] σ Q:=
 .of_sem [none,none,none,none,some ([0],[4,5]),none,none,none,none,none,none] [(4,tI),(5,tI),(13,tI),(18,tI)] mixed (by kernel_rfl) (by kernel_rfl) h
/-! vitrine/vitrineref02.row -/
/-! (*vitrine/bits.Reader).Bits -/
def z4R (a0:AV) (a1:Int) (Q:AV->Mem->Prop) (next4:Mem->Prop) (σ5:Mem):Prop:=
lfI 2 (σ5.bump 6) a0 λv6=>
ifB (decide (v6<a1)) (
lfI 1 (σ5.bump 25) a0 λv7=>
lfS 0 (σ5.bump 25) a0 λv8=>
z56 v8 0 λv9=>
iW v9 λv10=>
lfI 2 (σ5.bump 25) a0 λv11=>
zgu .i64 v10 v11 λv12=>
z4j (zB .or .i64 v7 v12) λv13=>
nfW 1 a0 λv14=>
stW 1 (σ5.bump 25) v14 (.int .i64 v13) λσ15=>
lfI 2 (σ15.bump 8) a0 λv16=>
iW (v16+8) λv17=>
nfW 2 a0 λv18=>
stW 1 (σ15.bump 8) v18 (.int .i64 v17) λσ19=>
lfS 0 (σ19.bump 9) a0 λv20=>
zi5 v20 1 v20.size λv21=>
nfW 0 a0 λv22=>
stW 1 (σ19.bump 9) v22 (.str v21) λσ23=>
next4 σ23) (
lfI 1 (σ5.bump 15) a0 λv24=>
zgu .i64 1 a1 λv25=>
iW (v25-1) λv26=>
z4j (zB .and .i64 v24 v26) λv27=>
lfI 1 (σ5.bump 24) a0 λv28=>
zlg .i64 v28 a1 λv29=>
nfW 1 a0 λv30=>
stW 1 (σ5.bump 24) v30 (.int .i64 v29) λσ31=>
lfI 2 (σ31.bump 9) a0 λv32=>
iW (v32-a1) λv33=>
nfW 2 a0 λv34=>
stW 1 (σ31.bump 9) v34 (.int .i64 v33) λσ35=>
Q (.tup [.int .i64 v27,.int .i64 0]) (σ35.bump 3))
def z6B (a0:AV) (a1:Int) (σ:Mem) (Q:AV->Mem->Prop):Prop:=
eqW .ptr a0 .nilp λv0=>
ifB v0 (
Q (.tup [.int .i64 0,.int .i64 2]) (σ.bump 7)) (
ifB (decide (a1<0)) (
Q (.tup [.int .i64 0,.int .i64 1]) (σ.bump 14)) (
ifB (decide (24<a1)) (
Q (.tup [.int .i64 0,.int .i64 1]) (σ.bump 14)) (
z5 PG z2m [a0] (σ.bump 17) λv1 σ2=>
zq .i64 v1 λv3=>
ifB (decide (v3<a1)) (
Q (.tup [.int .i64 0,.int .i64 3]) (σ2.bump 2)) (
zj [] (z4R a0 a1 Q) σ2))))
theorem za7 {a0 a1 σ Q} (h:σ.Live->z6B a0 a1 σ Q):z1 PG zC [a0,.int .i64 a1] σ Q:=
 .of_sem [none,none,none,none,none,none,none,none,none,none,none,none,some ([0,1],[]),none,none,none,none,none,none,none,none,none,none] [(20,tI),(25,tI),(31,tI),(35,.s),(41,tI),(49,tI),(57,.s),(64,tI),(72,tI),(80,tI)] mixed (by kernel_rfl) (by kernel_rfl) h
/-! (*vitrine/inflate.stream).pair -/
def z4O (a0:AV) (σ:Mem) (Q:AV->Mem->Prop):Prop:=
lfW 0 (σ.bump 12) a0 λv0=>
z5 PG z14 [v0,.int .i64 2] (σ.bump 12) λv1 σ2=>
tpS v1 0 λv3=>
tpI v1 1 λv4=>
ifB (decide (v4≠0)) (
Q (.tup [.int .i64 0,.int .i64 v4]) (σ2.bump 5)) (
z56 v3 0 λv5=>
iW v5 λv6=>
z56 v3 1 λv7=>
iW v7 λv8=>
iW (v8*256) λv9=>
z4j (zB .or .i64 v6 v9) λv10=>
Q (.tup [.int .i64 v10,.int .i64 0]) (σ2.bump 12))
theorem z8f {a0 σ Q} (h:σ.Live->z4O a0 σ Q):z1 PG z1j [a0] σ Q:=
 .of_sem [none,none,none,none,none,none] [(12,.s),(13,tI)] mixed (by kernel_rfl) (by kernel_rfl) h
/-! (*vitrine/bits.Reader).Bytes -/
def z66 (a0:AV) (a1:Int) (σ:Mem) (Q:AV->Mem->Prop):Prop:=
eqW .ptr a0 .nilp λv0=>
ifB v0 (
Q (.tup [.str ⟨#[]⟩,.int .i64 2]) (σ.bump 7)) (
ifB (decide (a1<0)) (
Q (.tup [.str ⟨#[]⟩,.int .i64 1]) (σ.bump 10)) (
nfW 1 a0 λv1=>
stW 1 (σ.bump 16) v1 (.int .i64 0) λσ2=>
nfW 2 a0 λv3=>
stW 1 σ2 v3 (.int .i64 0) λσ4=>
lfS 0 (σ4.bump 7) a0 λv5=>
ifB (decide ((v5.size:Int)<a1)) (
Q (.tup [.str ⟨#[]⟩,.int .i64 3]) (σ4.bump 9)) (
lfS 0 (σ4.bump 14) a0 λv6=>
zi5 v6 0 a1 λv7=>
lfS 0 (σ4.bump 24) a0 λv8=>
zi5 v8 a1 v8.size λv9=>
nfW 0 a0 λv10=>
stW 1 (σ4.bump 24) v10 (.str v9) λσ11=>
Q (.tup [.str v7,.int .i64 0]) (σ11.bump 3))))
theorem z9q {a0 a1 σ Q} (h:σ.Live->z66 a0 a1 σ Q):z1 PG z14 [a0,.int .i64 a1] σ Q:=
 .of_sem [none,none,none,none,none,none,none,none,none,none,none,none,none,none,none] [(23,.s),(29,.s),(36,.s)] mixed (by kernel_rfl) (by kernel_rfl) h
/-! (*vitrine/inflate.stream).small -/
def z3u (a0:AV) (Q:AV->Mem->Prop) (σ:Mem) (v2:AV) (v3:Int) (next4:Int->Mem->Prop) (v5:Int) (σ6:Mem):Prop:=
ifB (decide (v5<v3)) (
zz 1 v2 v5 λv7=>
ldI (σ6.bump 4) v7 λv8=>
lfW 0 (σ6.bump 14) a0 λv9=>
z5 PG zC [v9,.int .i64 3] (σ6.bump 14) λv10 σ11=>
tpI v10 0 λv12=>
tpI v10 1 λv13=>
ifB (decide (v13≠0)) (
Q (.tup [.nilp,.int .i64 v13]) (σ11.bump 5)) (
z3F 19 1 (.ptr (σ.next+2) 0) v8 λv14=>
stW 1 (σ11.bump 6) v14 (.int .i64 v12) λσ15=>
iW (v5+1) λv16=>
next4 v16 (σ15.bump 2))) (
zom 19 1 (.ptr (σ.next+2) 0) none none λv17=>
z5 PG z1s [v17] (σ6.bump 7) λv18 σ19=>
z6T v18 0 λv20=>
tpI v18 1 λv21=>
Q (.tup [v20,.int .i64 v21]) σ19)
def z4q (a0:AV) (a1:Int) (σ:Mem) (Q:AV->Mem->Prop):Prop:=
z15 (σ.bump 3) (σ.next+2) (.rw (List.replicate 19 (.int .i64 0))) λσ0=>
z15 (σ0.bump 5) σ0.next (.rw [.int .i64 16,.int .i64 17,.int .i64 18,.int .i64 0,.int .i64 8,.int .i64 7,.int .i64 9,.int .i64 6,.int .i64 10,.int .i64 5,.int .i64 11,.int .i64 4,.int .i64 12,.int .i64 3,.int .i64 13,.int .i64 2,.int .i64 14,.int .i64 1,.int .i64 15]) λσ1=>
zcJ 1 (.slice σ0.next 0 19 (.ex 19)) none (some a1) λv2=>
zx v2 λv3=>
zj [tI] (z3u a0 Q σ v2 v3) 0 σ1
theorem z7P {a0 a1 σ Q} (h:σ.Live->z4q a0 a1 σ Q):z1 PG z2h [a0,.int .i64 a1] σ Q:=
 .of_sem [none,none,none,none,some ([0,6,13,14],[15]),none,none,none,none,none,none,none,none,none,none,none] [(15,tI),(18,tI),(25,tI),(26,tI),(37,tI)] mixed (by kernel_rfl) (by kernel_rfl) h
/-! (*vitrine/inflate.stream).run -/
def z5i (a0:AV) (a1:AV) (a2:AV) (σ:Mem) (Q:AV->Mem->Prop):Prop:=
lfW 0 (σ.bump 14) a0 λv0=>
z5 PG z11 [a1,v0] (σ.bump 14) λv1 σ2=>
tpI v1 0 λv3=>
tpI v1 1 λv4=>
ifB (decide (v4≠0)) (
Q (.tup [.int .i64 v3,.int .i64 1,.int .i64 v4]) (σ2.bump 11)) (
ifB (decide (v3<16)) (
Q (.tup [.int .i64 v3,.int .i64 1,.int .i64 v4]) (σ2.bump 11)) (
ifB (decide (v3=16)) (
zx a2 λv5=>
ifB (decide (v5=0)) (
Q (.tup [.int .i64 0,.int .i64 0,.int .i64 12]) (σ2.bump 16)) (
iW (v3-16) λv6=>
zhw 3 1 none (.agg [.int .i64 2,.int .i64 3,.int .i64 7]) v6 λa=>zq .i64 a λv7=>
lfW 0 (σ2.bump 29) a0 λv8=>
z5 PG zC [v8,.int .i64 v7] (σ2.bump 29) λv9 σ10=>
tpI v9 0 λv11=>
tpI v9 1 λv12=>
iW (v3-16) λv13=>
zhw 3 1 none (.agg [.int .i64 3,.int .i64 3,.int .i64 11]) v13 λa=>zq .i64 a λv14=>
iW (v11+v14) λv15=>
ifB (decide (v3=16)) (
zx a2 λv16=>
iW (v16-1) λv17=>
zz 1 a2 v17 λv18=>
ldI (σ10.bump 20) v18 λv19=>
Q (.tup [.int .i64 v19,.int .i64 v15,.int .i64 v12]) (σ10.bump 20)) (
Q (.tup [.int .i64 0,.int .i64 v15,.int .i64 v12]) (σ10.bump 14)))) (
iW (v3-16) λv20=>
zhw 3 1 none (.agg [.int .i64 2,.int .i64 3,.int .i64 7]) v20 λa=>zq .i64 a λv21=>
lfW 0 (σ2.bump 29) a0 λv22=>
z5 PG zC [v22,.int .i64 v21] (σ2.bump 29) λv23 σ24=>
tpI v23 0 λv25=>
tpI v23 1 λv26=>
iW (v3-16) λv27=>
zhw 3 1 none (.agg [.int .i64 3,.int .i64 3,.int .i64 11]) v27 λa=>zq .i64 a λv28=>
iW (v25+v28) λv29=>
ifB (decide (v3=16)) (
zx a2 λv30=>
iW (v30-1) λv31=>
zz 1 a2 v31 λv32=>
ldI (σ24.bump 20) v32 λv33=>
Q (.tup [.int .i64 v33,.int .i64 v29,.int .i64 v26]) (σ24.bump 20)) (
Q (.tup [.int .i64 0,.int .i64 v29,.int .i64 v26]) (σ24.bump 14)))))
theorem z9a {a0 a1 a2 σ Q} (h:σ.Live->z5i a0 a1 a2 σ Q):z1 PG z39 [a0,a1,a2] σ Q:=
 .of_sem [none,none,none,none,none,none,none,none,none,none,none,none,none,none,none] [(21,tI),(22,tI),(41,tI),(49,tI),(50,tI),(55,tI),(64,tI)] mixed (by kernel_rfl) (by kernel_rfl) h
/-! (*vitrine/inflate.stream).length -/
def z4b (a0:AV) (a1:Int) (σ:Mem) (Q:AV->Mem->Prop):Prop:=
iW (a1-257) λv0=>
ifB (decide (285<a1)) (
Q (.tup [.int .i64 0,.int .i64 12]) (σ.bump 10)) (
ifB (decide (a1=285)) (
Q (.tup [.int .i64 258,.int .i64 0]) (σ.bump 13)) (
ifB (decide (v0<8)) (
iW (v0+3) λv1=>
Q (.tup [.int .i64 v1,.int .i64 0]) (σ.bump 18)) (
zgH .i64 v0 4 λv2=>
iW (v2-1) λv3=>
lfW 0 (σ.bump 29) a0 λv4=>
z5 PG zC [v4,.int .i64 v3] (σ.bump 29) λv5 σ6=>
tpI v5 0 λv7=>
tpI v5 1 λv8=>
zhX v0 4 λv9=>
iW (4+v9) λv10=>
zgu .i64 v10 v3 λv11=>
iW (v11+3) λv12=>
iW (v12+v7) λv13=>
Q (.tup [.int .i64 v13,.int .i64 v8]) (σ6.bump 11))))
theorem z7p {a0 a1 σ Q} (h:σ.Live->z4b a0 a1 σ Q):z1 PG z1X [a0,.int .i64 a1] σ Q:=
 .of_sem [none,none,none,none,none,none,none,none,none,none,none,none,none,none,none] [(33,tI),(34,tI)] mixed (by kernel_rfl) (by kernel_rfl) h
/-! (*vitrine/inflate.stream).distance -/
def z3x (a0:AV) (a1:Int) (σ:Mem) (Q:AV->Mem->Prop):Prop:=
ifB (decide (29<a1)) (
Q (.tup [.int .i64 0,.int .i64 12]) (σ.bump 7)) (
ifB (decide (a1<4)) (
iW (a1+1) λv0=>
Q (.tup [.int .i64 v0,.int .i64 0]) (σ.bump 12)) (
zgH .i64 a1 2 λv1=>
iW (v1-1) λv2=>
lfW 0 (σ.bump 23) a0 λv3=>
z5 PG zC [v3,.int .i64 v2] (σ.bump 23) λv4 σ5=>
tpI v4 0 λv6=>
tpI v4 1 λv7=>
zhX a1 2 λv8=>
iW (2+v8) λv9=>
zgu .i64 v9 v2 λv10=>
iW (v10+1) λv11=>
iW (v11+v6) λv12=>
Q (.tup [.int .i64 v12,.int .i64 v7]) (σ5.bump 11)))
theorem z6i {a0 a1 σ Q} (h:σ.Live->z3x a0 a1 σ Q):z1 PG z1p [a0,.int .i64 a1] σ Q:=
 .of_sem [none,none,none,none,none,none,none,none,none,none,none] [(27,tI),(28,tI)] mixed (by kernel_rfl) (by kernel_rfl) h
/-! math/bits.Mul32 -/
/-! math/bits.Mul64 -/
def z6W (a0:Int) (a1:Int) (σ:Mem) (Q:AV->Mem->Prop):Prop:=
z4j (zB .and .u64 a0 4294967295) λv0=>
z4j (a0 / 4294967296) λv1=>
z4j (zB .and .u64 a1 4294967295) λv2=>
z4j (a1 / 4294967296) λv3=>
wrW .u64 (v0*v2) λv4=>
wrW .u64 (v1*v2) λv5=>
z4j (v4 / 4294967296) λv6=>
wrW .u64 (v5+v6) λv7=>
z4j (zB .and .u64 v7 4294967295) λv8=>
z4j (v7 / 4294967296) λv9=>
wrW .u64 (v0*v3) λv10=>
wrW .u64 (v8+v10) λv11=>
wrW .u64 (v1*v3) λv12=>
wrW .u64 (v12+v9) λv13=>
z4j (v11 / 4294967296) λv14=>
wrW .u64 (v13+v14) λv15=>
wrW .u64 (a0*a1) λv16=>
Q (.tup [.int .u64 v15,.int .u64 v16]) (σ.bump 50)
theorem zaw {a0 a1 σ Q} (h:σ.Live->z6W a0 a1 σ Q):z1 PG z7r [.int .u64 a0,.int .u64 a1] σ Q:=
 .of_sem [none,none,none,none,none,none,none,none,none,none,none,none] [] mixed (by kernel_rfl) (by kernel_rfl) h
/-! vitrine/huff.Check -/
def z8v (Q:AV->Mem->Prop) (σ2:Mem) (v8:AV) (next9:Int->Int->Int->Mem->Prop) (v10:Int) (v11:Int) (v12:Int) (σ13:Mem):Prop:=
ifB (decide (v12<16)) (
zhw 16 1 none v8 v12 λa=>zq .i64 a λv14=>
iW (15-v12) λv15=>
zgu .i64 v14 v15 λv16=>
iW (v10+v16) λv17=>
iW (v11+v14) λv18=>
iW (v12+1) λv19=>
next9 v17 v18 v19 (σ13.bump 18)) (
ifB (decide (32768<v10)) (
Q (.int .i64 10) (σ13.bump 5)) (
ifB (decide (v10<32768)) (
ifB (decide (0<v11)) (
ifB (decide (1<v11)) (
Q (.int .i64 11) (σ13.bump 21)) (
z3F 16 1 (.ptr (σ2.next+2) 0) 1 λv20=>
ldI (σ13.bump 20) v20 λv21=>
ifB (decide (v21=0)) (
Q (.int .i64 11) (σ13.bump 21)) (
Q (.int .i64 0) (σ13.bump 21)))) (
Q (.int .i64 0) (σ13.bump 21))) (
Q (.int .i64 0) (σ13.bump 21))))
def zcz (a0:AV) (σ:Mem) (Q:AV->Mem->Prop):Prop:=
zx a0 λv0=>
ifB (decide (288<v0)) (
Q (.int .i64 1) (σ.bump 9)) (
z5 PG zy [a0,.func 116 []] (σ.bump 8) λv1 σ2=>
z70 v1 λv3=>
ifB v3 (
Q (.int .i64 1) (σ2.bump 1)) (
z5 PG z3n [a0] (σ2.bump 4) λv4 σ5=>
z15 σ5 (σ2.next+2) (.rw (List.replicate 16 (.int .i64 0))) λσ6=>
stW 16 σ6 (.ptr (σ2.next+2) 0) v4 λσ7=>
z5x 16 (σ7.bump 4) (.ptr (σ2.next+2) 0) λv8=>
zj [tI,tI,tI] (z8v Q σ2 v8) 0 0 0 (σ7.bump 4)))
theorem zfs {a0 σ Q} (h:σ.Live->zcz a0 σ Q):z1 PG z8i [a0] σ Q:=
 .of_sem [none,none,none,none,none,none,none,none,some ([3,17],[4,5,18]),none,none,none,none,none,none,none,none,none,none,none,none,none,none,none] [(13,.b),(4,tI),(5,tI),(18,tI),(21,tI),(47,tI)] mixed (by kernel_rfl) (by kernel_rfl) h
/-! vitrine/huff.first -/
def z8m (Q:AV->Mem->Prop) (σ:Mem) (σ1:Mem) (next3:Int->Mem->Prop) (v4:Int) (σ5:Mem):Prop:=
ifB (decide (v4<=15)) (
iW (v4-1) λv6=>
z3F 16 1 (.ptr σ1.next 0) v6 λv7=>
ldI (σ5.bump 15) v7 λv8=>
iW (v4-1) λv9=>
z3F 16 1 (.ptr σ.next 0) v9 λv10=>
ldI (σ5.bump 15) v10 λv11=>
iW (v8+v11) λv12=>
iW (v12*2) λv13=>
z3F 16 1 (.ptr σ1.next 0) v4 λv14=>
stW 1 (σ5.bump 15) v14 (.int .i64 v13) λσ15=>
iW (v4+1) λv16=>
next3 v16 (σ15.bump 3)) (
z5x 16 (σ5.bump 4) (.ptr σ1.next 0) λv17=>
stW 16 (σ5.bump 4) (.ptr (σ.next+1) 0) v17 λσ18=>
z5x 16 σ18 (.ptr (σ.next+1) 0) λv19=>
Q v19 σ18)
def zcB (a0:AV) (σ:Mem) (Q:AV->Mem->Prop):Prop:=
zfU a0 (
z15 (σ.bump 2) σ.next (.rw a0.cells) λσ0=>
z15 σ0 (σ.next+1) (.rw (List.replicate 16 (.int .i64 0))) λσ1=>
z15 (σ1.bump 1) σ1.next (.rw (List.replicate 16 (.int .i64 0))) λσ2=>
zj [tI] (z8m Q σ σ1) 2 (σ2.bump 1))
theorem zfQ {a0 σ Q} (h:σ.Live->zcB a0 σ Q):z1 PG z8W [a0] σ Q:=
 .of_sem [none,none,none,none,some ([1,2,3],[4]),none,none,none,none,none,none] [(4,tI),(13,tI),(17,tI)] mixed (by kernel_rfl) (by kernel_rfl) h
/-! slices.stableCmpFunc[int] -/
def z1R (next9:Int->Mem->Prop) (v10:Int) (σ23:Mem):Prop:=
iW (v10*2) λv24=>
next9 v24 (σ23.bump 3)
def z1S (a0:AV) (a1:Int) (a2:AV) (next9:Int->Mem->Prop) (v10:Int) (next13:Int->Int->Mem->Prop) (v14:Int) (v15:Int) (σ16:Mem):Prop:=
ifB (decide (v15<=a1)) (
iW (v14+v10) λv17=>
z5 PG zb [a0,.int .i64 v14,.int .i64 v17,.int .i64 v15,a2] (σ16.bump 11) λv18 σ19=>
iW (2*v10) λv20=>
iW (v15+v20) λv21=>
next13 v15 v21 (σ19.bump 7)) (
iW (v14+v10) λv22=>
zd [] (λ(k25:Mem->Prop)=>
ifB (decide (v22<a1)) (
z5 PG zb [a0,.int .i64 v14,.int .i64 v22,.int .i64 a1,a2] (σ16.bump 16) λv26 σ27=>
k25 σ27) (
k25 (σ16.bump 10))) (z1R next9 v10))
def z0p (a0:AV) (a1:Int) (a2:AV) (Q:AV->Mem->Prop) (next9:Int->Mem->Prop) (v10:Int) (σ11:Mem):Prop:=
ifB (decide (v10<a1)) (
iW (2*v10) λv12=>
zj [tI,tI] (z1S a0 a1 a2 next9 v10) 0 v12 (σ11.bump 7)) (
Q (.tup []) (σ11.bump 3))
def z0r (a0:AV) (a1:Int) (a2:AV) (Q:AV->Mem->Prop) (next0:Int->Int->Mem->Prop) (v1:Int) (v2:Int) (σ3:Mem):Prop:=
ifB (decide (v2<=a1)) (
z5 PG zr [a0,.int .i64 v1,.int .i64 v2,a2] (σ3.bump 8) λv4 σ5=>
iW (v2+20) λv6=>
next0 v2 v6 (σ5.bump 6)) (
z5 PG zr [a0,.int .i64 v1,.int .i64 a1,a2] (σ3.bump 8) λv7 σ8=>
zj [tI] (z0p a0 a1 a2 Q) 20 σ8)
def z16 (a0:AV) (a1:Int) (a2:AV) (σ:Mem) (Q:AV->Mem->Prop):Prop:=
zj [tI,tI] (z0r a0 a1 a2 Q) 0 20 (σ.bump 4)
theorem z2s {a0 a1 a2 σ Q} (h:σ.Live->z16 a0 a1 a2 σ Q):z1 PG z1f [a0,.int .i64 a1,a2] σ Q:=
 .of_sem [none,none,none,some ([0,1,2,6],[7,8]),none,none,none,none,none,none,none,none,some ([0,1,2],[6]),none,none,none,none,none,some ([0,1,2,6],[7,8]),none,none,none,none,none,none,none,none,some ([0,1,2,6],[]),none,none] [(6,tI),(7,tI),(8,tI)] mixed (by kernel_rfl) (by kernel_rfl) h
/-! cmp.isNaN[int] -/
def z89 (a0:Int) (σ:Mem) (Q:AV->Mem->Prop):Prop:=
Q (.bool (decide (a0≠a0))) (σ.bump 5)
theorem zc3 {a0 σ Q} (h:σ.Live->z89 a0 σ Q):z1 PG z3C [.int .i64 a0] σ Q:=
 .of_sem [none,none] [] mixed (by kernel_rfl) (by kernel_rfl) h
/-! vitrine/vitrineref02.Check -/
def z83 (a0:AV) (Q:AV->Mem->Prop) (next1:Int->Mem->Prop) (v2:Int) (σ3:Mem):Prop:=
zx a0 λv4=>
ifB (decide (v2<v4)) (
zz 1 a0 v2 λv5=>
ldI (σ3.bump 16) v5 λv6=>
ifB (decide (v6<0)) (
Q (.int .i64 1) (σ3.bump 17)) (
zz 1 a0 v2 λv7=>
ldI (σ3.bump 16) v7 λv8=>
ifB (decide (15<v8)) (
Q (.int .i64 1) (σ3.bump 17)) (
iW (v2+1) λv9=>
next1 v9 (σ3.bump 19)))) (
z5 PG z7T [a0] (σ3.bump 13) λv10 σ11=>
tpI v10 0 λv12=>
tpI v10 1 λv13=>
tpI v10 2 λv14=>
ifB (decide (32768<v12)) (
Q (.int .i64 10) (σ11.bump 3)) (
ifB (decide (v12<32768)) (
ifB (decide (0<v13)) (
ifB (decide (v13=1)) (
ifB (!(decide (v14=1))) (
Q (.int .i64 11) (σ11.bump 18)) (
Q (.int .i64 0) (σ11.bump 18))) (
Q (.int .i64 11) (σ11.bump 18))) (
Q (.int .i64 0) (σ11.bump 18))) (
Q (.int .i64 0) (σ11.bump 18))))
def zaA (a0:AV) (σ:Mem) (Q:AV->Mem->Prop):Prop:=
zx a0 λv0=>
ifB (decide (288<v0)) (
Q (.int .i64 1) (σ.bump 5)) (
zj [tI] (z83 a0 Q) 0 (σ.bump 5))
theorem zeD {a0 σ Q} (h:σ.Live->zaA a0 σ Q):z1 PG z7A [a0] σ Q:=
 .of_sem [none,none,none,none,none,none,some ([0],[3]),none,none,none,none,none,none,none,none,none,none,none,none,none,none,none] [(3,tI),(19,tI),(25,tI),(31,tI),(32,tI),(33,tI)] mixed (by kernel_rfl) (by kernel_rfl) h
/-! slices.IndexFunc[[]int,int] -/
def z1G (a0:AV) (a1:AV) (Q:AV->Mem->Prop) (v0:Int) (next1:Int->Mem->Prop) (v2:Int) (σ3:Mem):Prop:=
ifB (decide (v2<v0)) (
zz 1 a0 v2 λv4=>
ldI (σ3.bump 9) v4 λv5=>
z3m PG a1 [.int .i64 v5] (σ3.bump 9) λv6 σ7=>
z70 v6 λv8=>
ifB v8 (
Q (.int .i64 v2) (σ7.bump 2)) (
iW (v2+1) λv9=>
next1 v9 (σ7.bump 2))) (
Q (.int .i64 (-1)) (σ3.bump 2))
def z2a (a0:AV) (a1:AV) (σ:Mem) (Q:AV->Mem->Prop):Prop:=
zx a0 λv0=>
zj [tI] (z1G a0 a1 Q v0) 0 (σ.bump 4)
theorem z4Y {a0 a1 σ Q} (h:σ.Live->z2a a0 a1 σ Q):z1 PG z0M [a0,a1] σ Q:=
 .of_sem [none,none,none,some ([0,1,7],[8]),none,none,none,none,none,none,none,none,none] [(8,tI),(15,tI),(16,.b)] mixed (by kernel_rfl) (by kernel_rfl) h
/-! slices.stableCmpFunc[vitrine/huff.item] -/
def z0V (next9:Int->Mem->Prop) (v10:Int) (σ23:Mem):Prop:=
iW (v10*2) λv24=>
next9 v24 (σ23.bump 3)
def z0X (a0:AV) (a1:Int) (a2:AV) (next9:Int->Mem->Prop) (v10:Int) (next13:Int->Int->Mem->Prop) (v14:Int) (v15:Int) (σ16:Mem):Prop:=
ifB (decide (v15<=a1)) (
iW (v14+v10) λv17=>
z5 PG z7 [a0,.int .i64 v14,.int .i64 v17,.int .i64 v15,a2] (σ16.bump 11) λv18 σ19=>
iW (2*v10) λv20=>
iW (v15+v20) λv21=>
next13 v15 v21 (σ19.bump 7)) (
iW (v14+v10) λv22=>
zd [] (λ(k25:Mem->Prop)=>
ifB (decide (v22<a1)) (
z5 PG z7 [a0,.int .i64 v14,.int .i64 v22,.int .i64 a1,a2] (σ16.bump 16) λv26 σ27=>
k25 σ27) (
k25 (σ16.bump 10))) (z0V next9 v10))
def z0Y (a0:AV) (a1:Int) (a2:AV) (Q:AV->Mem->Prop) (next9:Int->Mem->Prop) (v10:Int) (σ11:Mem):Prop:=
ifB (decide (v10<a1)) (
iW (2*v10) λv12=>
zj [tI,tI] (z0X a0 a1 a2 next9 v10) 0 v12 (σ11.bump 7)) (
Q (.tup []) (σ11.bump 3))
def z0Z (a0:AV) (a1:Int) (a2:AV) (Q:AV->Mem->Prop) (next0:Int->Int->Mem->Prop) (v1:Int) (v2:Int) (σ3:Mem):Prop:=
ifB (decide (v2<=a1)) (
z5 PG zt [a0,.int .i64 v1,.int .i64 v2,a2] (σ3.bump 8) λv4 σ5=>
iW (v2+20) λv6=>
next0 v2 v6 (σ5.bump 6)) (
z5 PG zt [a0,.int .i64 v1,.int .i64 a1,a2] (σ3.bump 8) λv7 σ8=>
zj [tI] (z0Y a0 a1 a2 Q) 20 σ8)
def z1m (a0:AV) (a1:Int) (a2:AV) (σ:Mem) (Q:AV->Mem->Prop):Prop:=
zj [tI,tI] (z0Z a0 a1 a2 Q) 0 20 (σ.bump 4)
theorem z3S {a0 a1 a2 σ Q} (h:σ.Live->z1m a0 a1 a2 σ Q):z1 PG z04 [a0,.int .i64 a1,a2] σ Q:=
 .of_sem [none,none,none,some ([0,1,2,6],[7,8]),none,none,none,none,none,none,none,none,some ([0,1,2],[6]),none,none,none,none,none,some ([0,1,2,6],[7,8]),none,none,none,none,none,none,none,none,some ([0,1,2,6],[]),none,none] [(6,tI),(7,tI),(8,tI)] mixed (by kernel_rfl) (by kernel_rfl) h
/-! vitrine/vitrineref03.lengthBits -/
def z6A (a0:Int) (σ:Mem) (Q:AV->Mem->Prop):Prop:=
ifB (decide (a0<265)) (
Q (.int .i64 0) (σ.bump 8)) (
ifB (decide (a0=285)) (
Q (.int .i64 0) (σ.bump 8)) (
iW (a0-261) λv0=>
zgH .i64 v0 4 λv1=>
Q (.int .i64 v1) (σ.bump 11)))
theorem zaf {a0 σ Q} (h:σ.Live->z6A a0 σ Q):z1 PG z2t [.int .i64 a0] σ Q:=
 .of_sem [none,none,none,none,none] [] mixed (by kernel_rfl) (by kernel_rfl) h
/-! vitrine/vitrineref03.distanceBits -/
def z5f (a0:Int) (σ:Mem) (Q:AV->Mem->Prop):Prop:=
ifB (decide (a0<4)) (
Q (.int .i64 0) (σ.bump 4)) (
zgH .i64 a0 2 λv0=>
iW (v0-1) λv1=>
Q (.int .i64 v1) (σ.bump 7))
theorem z98 {a0 σ Q} (h:σ.Live->z5f a0 σ Q):z1 PG z1H [.int .i64 a0] σ Q:=
 .of_sem [none,none,none,none,none] [] mixed (by kernel_rfl) (by kernel_rfl) h
/-! vitrine/huff.Check$1 -/
def z9z (a0:Int) (σ:Mem) (Q:AV->Mem->Prop):Prop:=
ifB (decide (a0<0)) (
Q (.bool true) (σ.bump 8)) (
Q (.bool (decide (15<a0))) (σ.bump 8))
theorem zdc {a0 σ Q} (h:σ.Live->z9z a0 σ Q):z1 PG z6H [.int .i64 a0] σ Q:=
 .of_sem [none,none] [] mixed (by kernel_rfl) (by kernel_rfl) h
/-! slices.insertionSortCmpFunc[int] -/
def z0T (next1:Int->Mem->Prop) (v2:Int) (σ4:Mem):Prop:=
iW (v2+1) λv5=>
next1 v5 (σ4.bump 3)
def z0Q (a0:AV) (a1:Int) (a3:AV) (k6:Mem->Prop) (next7:Int->Mem->Prop) (v8:Int) (σ9:Mem):Prop:=
ifB (decide (a1<v8)) (
zz 1 a0 v8 λv10=>
ldI (σ9.bump 17) v10 λv11=>
iW (v8-1) λv12=>
zz 1 a0 v12 λv13=>
ldI (σ9.bump 17) v13 λv14=>
z3m PG a3 [.int .i64 v11,.int .i64 v14] (σ9.bump 17) λv15 σ16=>
zq .i64 v15 λv17=>
ifB (decide (v17<0)) (
iW (v8-1) λv18=>
iW (v8-1) λv19=>
zz 1 a0 v19 λv20=>
ldI (σ16.bump 18) v20 λv21=>
zz 1 a0 v8 λv22=>
ldI (σ16.bump 18) v22 λv23=>
zz 1 a0 v8 λv24=>
stW 1 (σ16.bump 18) v24 (.int .i64 v21) λσ25=>
zz 1 a0 v18 λv26=>
stW 1 σ25 v26 (.int .i64 v23) λσ27=>
iW (v8-1) λv28=>
next7 v28 (σ27.bump 3)) (
k6 σ16)) (
k6 (σ9.bump 17))
def zQ (a0:AV) (a1:Int) (a2:Int) (a3:AV) (Q:AV->Mem->Prop) (next1:Int->Mem->Prop) (v2:Int) (σ3:Mem):Prop:=
ifB (decide (v2<a2)) (
zd [] (λ(k6:Mem->Prop)=>
zj [tI] (z0Q a0 a1 a3 k6) v2 (σ3.bump 5)) (z0T next1 v2)) (
Q (.tup []) (σ3.bump 3))
def z00 (a0:AV) (a1:Int) (a2:Int) (a3:AV) (σ:Mem) (Q:AV->Mem->Prop):Prop:=
iW (a1+1) λv0=>
zj [tI] (zQ a0 a1 a2 a3 Q) v0 (σ.bump 3)
theorem z13 {a0 a1 a2 a3 σ Q} (h:σ.Live->z00 a0 a1 a2 a3 σ Q):z1 PG zr [a0,.int .i64 a1,.int .i64 a2,a3] σ Q:=
 .of_sem [none,none,some ([0,1,2,3],[8]),none,none,none,none,some ([0,1,2,3,8],[]),some ([0,1,2,3,8],[9]),none,none,none,none,none,none] [(8,tI),(9,tI),(26,tI),(31,tI),(32,tI),(46,tI),(50,tI)] mixed (by kernel_rfl) (by kernel_rfl) h
/-! slices.symMergeCmpFunc[int] -/
def z1v (next1:Int->Int->Mem->Prop) (v16:Int) (v17:Int) (σ18:Mem):Prop:=
next1 v16 v17 σ18
def z1y (a0:AV) (Q:AV->Mem->Prop) (v2:Int) (next21:Int->Mem->Prop) (v22:Int) (σ23:Mem):Prop:=
iW (v2-1) λv24=>
ifB (decide (v22<v24)) (
iW (v22+1) λv25=>
iW (v22+1) λv26=>
zz 1 a0 v26 λv27=>
ldI (σ23.bump 22) v27 λv28=>
zz 1 a0 v22 λv29=>
ldI (σ23.bump 22) v29 λv30=>
zz 1 a0 v22 λv31=>
stW 1 (σ23.bump 22) v31 (.int .i64 v28) λσ32=>
zz 1 a0 v25 λv33=>
stW 1 σ32 v33 (.int .i64 v30) λσ34=>
iW (v22+1) λv35=>
next21 v35 (σ34.bump 3)) (
Q (.tup []) (σ23.bump 4))
def z1w (a0:AV) (a1:Int) (a4:AV) (Q:AV->Mem->Prop) (next1:Int->Int->Mem->Prop) (v2:Int) (v3:Int) (σ4:Mem):Prop:=
ifB (decide (v2<v3)) (
iW (v2+v3) λv5=>
wrW .u64 v5 λv6=>
z4j (v6 / 2) λv7=>
iW v7 λv8=>
zz 1 a0 v8 λv9=>
ldI (σ4.bump 21) v9 λv10=>
zz 1 a0 a1 λv11=>
ldI (σ4.bump 21) v11 λv12=>
z3m PG a4 [.int .i64 v10,.int .i64 v12] (σ4.bump 21) λv13 σ14=>
zq .i64 v13 λv15=>
zd [tI,tI] (λ(k19:Int->Int->Mem->Prop)=>
ifB (decide (v15<0)) (
iW (v8+1) λv20=>
k19 v20 v3 (σ14.bump 3)) (
k19 v2 v8 (σ14.bump 2))) (z1v next1)) (
zj [tI] (z1y a0 Q v2) a1 (σ4.bump 5))
def z1z (next37:Int->Int->Mem->Prop) (v52:Int) (v53:Int) (σ54:Mem):Prop:=
next37 v52 v53 σ54
def z1E (a0:AV) (Q:AV->Mem->Prop) (v38:Int) (next57:Int->Mem->Prop) (v58:Int) (σ59:Mem):Prop:=
ifB (decide (v38<v58)) (
iW (v58-1) λv60=>
iW (v58-1) λv61=>
zz 1 a0 v61 λv62=>
ldI (σ59.bump 21) v62 λv63=>
zz 1 a0 v58 λv64=>
ldI (σ59.bump 21) v64 λv65=>
zz 1 a0 v58 λv66=>
stW 1 (σ59.bump 21) v66 (.int .i64 v63) λσ67=>
zz 1 a0 v60 λv68=>
stW 1 σ67 v68 (.int .i64 v65) λσ69=>
iW (v58-1) λv70=>
next57 v70 (σ69.bump 3)) (
Q (.tup []) (σ59.bump 3))
def z1u (a0:AV) (a2:Int) (a4:AV) (Q:AV->Mem->Prop) (next37:Int->Int->Mem->Prop) (v38:Int) (v39:Int) (σ40:Mem):Prop:=
ifB (decide (v38<v39)) (
iW (v38+v39) λv41=>
wrW .u64 v41 λv42=>
z4j (v42 / 2) λv43=>
iW v43 λv44=>
zz 1 a0 a2 λv45=>
ldI (σ40.bump 22) v45 λv46=>
zz 1 a0 v44 λv47=>
ldI (σ40.bump 22) v47 λv48=>
z3m PG a4 [.int .i64 v46,.int .i64 v48] (σ40.bump 22) λv49 σ50=>
zq .i64 v49 λv51=>
zd [tI,tI] (λ(k55:Int->Int->Mem->Prop)=>
ifB (!(decide (v51<0))) (
iW (v44+1) λv56=>
k55 v56 v39 (σ50.bump 3)) (
k55 v38 v44 (σ50.bump 2))) (z1z next37)) (
zj [tI] (z1E a0 Q v38) a2 (σ40.bump 5))
def z1F (next80:Int->Int->Mem->Prop) (v96:Int) (v97:Int) (σ98:Mem):Prop:=
next80 v96 v97 σ98
def z1B (Q:AV->Mem->Prop) (σ104:Mem):Prop:=
Q (.tup []) σ104
def z1x (Q:AV->Mem->Prop) (σ108:Mem):Prop:=
Q (.tup []) σ108
def z0f (a0:AV) (a3:Int) (a4:AV) (Q:AV->Mem->Prop) (v74:Int) (v101:Int) (σ103:Mem):Prop:=
ifB (decide (v74<v101)) (
zd [] (λ(k105:Mem->Prop)=>
ifB (decide (v101<a3)) (
z5 PG zb [a0,.int .i64 v74,.int .i64 v101,.int .i64 a3,a4] (σ103.bump 14) λv106 σ107=>
k105 σ107) (
k105 (σ103.bump 8))) (z1B Q)) (
zd [] (λ(k109:Mem->Prop)=>
k109 (σ103.bump 8)) (z1x Q))
def z40 (Q:AV->Mem->Prop) (σ114:Mem):Prop:=
Q (.tup []) σ114
def z3X (Q:AV->Mem->Prop) (σ118:Mem):Prop:=
Q (.tup []) σ118
def z4i (a0:AV) (a3:Int) (a4:AV) (Q:AV->Mem->Prop) (v74:Int) (v101:Int) (σ113:Mem):Prop:=
ifB (decide (v74<v101)) (
zd [] (λ(k115:Mem->Prop)=>
ifB (decide (v101<a3)) (
z5 PG zb [a0,.int .i64 v74,.int .i64 v101,.int .i64 a3,a4] (σ113.bump 14) λv116 σ117=>
k115 σ117) (
k115 (σ113.bump 8))) (z40 Q)) (
zd [] (λ(k119:Mem->Prop)=>
k119 (σ113.bump 8)) (z3X Q))
def z0g (a0:AV) (a1:Int) (a3:Int) (a4:AV) (Q:AV->Mem->Prop) (v74:Int) (v81:Int) (v101:Int) (σ102:Mem):Prop:=
ifB (decide (a1<v81)) (
zd [] (λ(k110:Mem->Prop)=>
ifB (decide (v81<v74)) (
z5 PG zb [a0,.int .i64 a1,.int .i64 v81,.int .i64 v74,a4] (σ102.bump 14) λv111 σ112=>
k110 σ112) (
k110 (σ102.bump 8))) (z0f a0 a3 a4 Q v74 v101)) (
zd [] (λ(k120:Mem->Prop)=>
k120 (σ102.bump 8)) (z4i a0 a3 a4 Q v74 v101))
def z4g (Q:AV->Mem->Prop) (σ126:Mem):Prop:=
Q (.tup []) σ126
def z49 (Q:AV->Mem->Prop) (σ130:Mem):Prop:=
Q (.tup []) σ130
def z48 (a0:AV) (a3:Int) (a4:AV) (Q:AV->Mem->Prop) (v74:Int) (v101:Int) (σ125:Mem):Prop:=
ifB (decide (v74<v101)) (
zd [] (λ(k127:Mem->Prop)=>
ifB (decide (v101<a3)) (
z5 PG zb [a0,.int .i64 v74,.int .i64 v101,.int .i64 a3,a4] (σ125.bump 14) λv128 σ129=>
k127 σ129) (
k127 (σ125.bump 8))) (z4g Q)) (
zd [] (λ(k131:Mem->Prop)=>
k131 (σ125.bump 8)) (z49 Q))
def z4e (Q:AV->Mem->Prop) (σ136:Mem):Prop:=
Q (.tup []) σ136
def z45 (Q:AV->Mem->Prop) (σ140:Mem):Prop:=
Q (.tup []) σ140
def z46 (a0:AV) (a3:Int) (a4:AV) (Q:AV->Mem->Prop) (v74:Int) (v101:Int) (σ135:Mem):Prop:=
ifB (decide (v74<v101)) (
zd [] (λ(k137:Mem->Prop)=>
ifB (decide (v101<a3)) (
z5 PG zb [a0,.int .i64 v74,.int .i64 v101,.int .i64 a3,a4] (σ135.bump 14) λv138 σ139=>
k137 σ139) (
k137 (σ135.bump 8))) (z4e Q)) (
zd [] (λ(k141:Mem->Prop)=>
k141 (σ135.bump 8)) (z45 Q))
def z4f (a0:AV) (a1:Int) (a3:Int) (a4:AV) (Q:AV->Mem->Prop) (v74:Int) (v81:Int) (v101:Int) (σ124:Mem):Prop:=
ifB (decide (a1<v81)) (
zd [] (λ(k132:Mem->Prop)=>
ifB (decide (v81<v74)) (
z5 PG zb [a0,.int .i64 a1,.int .i64 v81,.int .i64 v74,a4] (σ124.bump 14) λv133 σ134=>
k132 σ134) (
k132 (σ124.bump 8))) (z48 a0 a3 a4 Q v74 v101)) (
zd [] (λ(k142:Mem->Prop)=>
k142 (σ124.bump 8)) (z46 a0 a3 a4 Q v74 v101))
def z1A (a0:AV) (a1:Int) (a2:Int) (a3:Int) (a4:AV) (Q:AV->Mem->Prop) (v74:Int) (v75:Int) (v79:Int) (next80:Int->Int->Mem->Prop) (v81:Int) (v82:Int) (σ83:Mem):Prop:=
ifB (decide (v81<v82)) (
iW (v81+v82) λv84=>
wrW .u64 v84 λv85=>
z4j (v85 / 2) λv86=>
iW v86 λv87=>
iW (v79-v87) λv88=>
zz 1 a0 v88 λv89=>
ldI (σ83.bump 24) v89 λv90=>
zz 1 a0 v87 λv91=>
ldI (σ83.bump 24) v91 λv92=>
z3m PG a4 [.int .i64 v90,.int .i64 v92] (σ83.bump 24) λv93 σ94=>
zq .i64 v93 λv95=>
zd [tI,tI] (λ(k99:Int->Int->Mem->Prop)=>
ifB (!(decide (v95<0))) (
iW (v87+1) λv100=>
k99 v100 v82 (σ94.bump 3)) (
k99 v81 v87 (σ94.bump 2))) (z1F next80)) (
iW (v75-v81) λv101=>
ifB (decide (v81<a2)) (
zd [] (λ(k121:Mem->Prop)=>
ifB (decide (a2<v101)) (
z5 PG z1c [a0,.int .i64 v81,.int .i64 a2,.int .i64 v101,a4] (σ83.bump 21) λv122 σ123=>
k121 σ123) (
k121 (σ83.bump 15))) (z0g a0 a1 a3 a4 Q v74 v81 v101)) (
zd [] (λ(k143:Mem->Prop)=>
k143 (σ83.bump 15)) (z4f a0 a1 a3 a4 Q v74 v81 v101)))
def z1C (a0:AV) (a1:Int) (a2:Int) (a3:Int) (a4:AV) (Q:AV->Mem->Prop) (v74:Int) (v75:Int) (v76:Int) (v77:Int) (σ78:Mem):Prop:=
iW (v75-1) λv79=>
zj [tI,tI] (z1A a0 a1 a2 a3 a4 Q v74 v75 v79) v76 v77 (σ78.bump 3)
def z25 (a0:AV) (a1:Int) (a2:Int) (a3:Int) (a4:AV) (σ:Mem) (Q:AV->Mem->Prop):Prop:=
iW (a2-a1) λv0=>
ifB (decide (v0=1)) (
zj [tI,tI] (z1w a0 a1 a4 Q) a2 a3 (σ.bump 8)) (
iW (a3-a2) λv36=>
ifB (decide (v36=1)) (
zj [tI,tI] (z1u a0 a2 a4 Q) a1 a2 (σ.bump 12)) (
iW (a1+a3) λv71=>
wrW .u64 v71 λv72=>
z4j (v72 / 2) λv73=>
iW v73 λv74=>
iW (v74+a2) λv75=>
zd [tI,tI] (λ(k144:Int->Int->Mem->Prop)=>
ifB (decide (v74<a2)) (
iW (v75-a3) λv145=>
k144 v145 v74 (σ.bump 30)) (
k144 a1 a2 (σ.bump 28))) (z1C a0 a1 a2 a3 a4 Q v74 v75)))
theorem z4Q {a0 a1 a2 a3 a4 σ Q} (h:σ.Live->z25 a0 a1 a2 a3 a4 σ Q):z1 PG zb [a0,.int .i64 a1,.int .i64 a2,.int .i64 a3,a4] σ Q:=
 .of_sem [none,none,none,none,none,some ([0,1,4],[10,11]),none,none,none,none,none,some ([0,1,4],[10,11]),none,none,none,none,some ([0,10],[13]),none,none,none,none,none,none,none,none,none,none,some ([0,2,4],[14,15]),none,none,none,none,none,some ([0,2,4],[14,15]),none,none,none,none,some ([0,14],[17]),none,none,none,none,none,none,none,none,none,some ([0,1,2,3,4,18,19],[20,21]),none,none,none,none,none,none,some ([0,1,2,3,4,18,19,22],[20,21]),none,none,none,none,none,some ([0,1,2,3,4,18,19,22],[20,21]),none,none,none,none,some ([0,1,3,4,18,20,24],[]),none,none,some ([0,3,4,18,24],[]),none,none,some ([],[]),none] [(10,tI),(11,tI),(44,tI),(48,tI),(49,tI),(13,tI),(70,tI),(74,tI),(14,tI),(15,tI),(96,tI),(100,tI),(101,tI),(17,tI),(122,tI),(126,tI),(20,tI),(21,tI),(164,tI),(168,tI),(169,tI)] mixed (by kernel_rfl) (by kernel_rfl) h
/-! vitrine/vitrineref02.sum -/
def z9C (next0:Int->Int->Int->Int->Mem->Prop) (v4:Int) (v9:Int) (v10:Int) (v11:Int) (σ12:Mem):Prop:=
iW (v4+1) λv13=>
next0 v9 v10 v11 v13 (σ12.bump 3)
def z9N (a0:AV) (Q:AV->Mem->Prop) (next0:Int->Int->Int->Int->Mem->Prop) (v1:Int) (v2:Int) (v3:Int) (v4:Int) (σ5:Mem):Prop:=
zx a0 λv6=>
ifB (decide (v4<v6)) (
zz 1 a0 v4 λv7=>
ldI (σ5.bump 9) v7 λv8=>
zd [tI,tI,tI] (λ(k14:Int->Int->Int->Mem->Prop)=>
ifB (decide (0<v8)) (
zz 1 a0 v4 λv15=>
ldI (σ5.bump 18) v15 λv16=>
iW (15-v16) λv17=>
zgu .i64 1 v17 λv18=>
iW (v1+v18) λv19=>
iW (v2+1) λv20=>
zz 1 a0 v4 λv21=>
ldI (σ5.bump 28) v21 λv22=>
z4j (imax v3 v22) λv23=>
k14 v19 v20 v23 (σ5.bump 28)) (
k14 v1 v2 v3 (σ5.bump 9))) (z9C next0 v4)) (
Q (.tup [.int .i64 v1,.int .i64 v2,.int .i64 v3]) (σ5.bump 10))
def ze5 (a0:AV) (σ:Mem) (Q:AV->Mem->Prop):Prop:=
zj [tI,tI,tI,tI] (z9N a0 Q) 0 0 0 0 (σ.bump 7)
theorem zhe {a0 σ Q} (h:σ.Live->ze5 a0 σ Q):z1 PG z7T [a0] σ Q:=
 .of_sem [none,none,none,none,none,none,some ([0],[5,6,7,8]),none,none,none,none,some ([0,8],[5,6,7]),none,none,none,none,none] [(5,tI),(6,tI),(7,tI),(8,tI),(18,tI),(24,tI),(34,tI)] mixed (by kernel_rfl) (by kernel_rfl) h
/-! slices.insertionSortCmpFunc[vitrine/huff.item] -/
def z03 (next1:Int->Mem->Prop) (v2:Int) (σ4:Mem):Prop:=
iW (v2+1) λv5=>
next1 v5 (σ4.bump 3)
def z05 (a0:AV) (a1:Int) (a3:AV) (k6:Mem->Prop) (next7:Int->Mem->Prop) (v8:Int) (σ9:Mem):Prop:=
ifB (decide (a1<v8)) (
zz 3 a0 v8 λv10=>
z5x 3 (σ9.bump 17) v10 λv11=>
iW (v8-1) λv12=>
zz 3 a0 v12 λv13=>
z5x 3 (σ9.bump 17) v13 λv14=>
z3m PG a3 [v11,v14] (σ9.bump 17) λv15 σ16=>
zq .i64 v15 λv17=>
ifB (decide (v17<0)) (
iW (v8-1) λv18=>
iW (v8-1) λv19=>
zz 3 a0 v19 λv20=>
z5x 3 (σ16.bump 18) v20 λv21=>
zz 3 a0 v8 λv22=>
z5x 3 (σ16.bump 18) v22 λv23=>
zz 3 a0 v8 λv24=>
stW 3 (σ16.bump 18) v24 v21 λσ25=>
zz 3 a0 v18 λv26=>
stW 3 σ25 v26 v23 λσ27=>
iW (v8-1) λv28=>
next7 v28 (σ27.bump 3)) (
k6 σ16)) (
k6 (σ9.bump 17))
def z07 (a0:AV) (a1:Int) (a2:Int) (a3:AV) (Q:AV->Mem->Prop) (next1:Int->Mem->Prop) (v2:Int) (σ3:Mem):Prop:=
ifB (decide (v2<a2)) (
zd [] (λ(k6:Mem->Prop)=>
zj [tI] (z05 a0 a1 a3 k6) v2 (σ3.bump 5)) (z03 next1 v2)) (
Q (.tup []) (σ3.bump 3))
def z0m (a0:AV) (a1:Int) (a2:Int) (a3:AV) (σ:Mem) (Q:AV->Mem->Prop):Prop:=
iW (a1+1) λv0=>
zj [tI] (z07 a0 a1 a2 a3 Q) v0 (σ.bump 3)
theorem z2j {a0 a1 a2 a3 σ Q} (h:σ.Live->z0m a0 a1 a2 a3 σ Q):z1 PG zt [a0,.int .i64 a1,.int .i64 a2,a3] σ Q:=
 .of_sem [none,none,some ([0,1,2,3],[8]),none,none,none,none,some ([0,1,2,3,8],[]),some ([0,1,2,3,8],[9]),none,none,none,none,none,none] [(8,tI),(9,tI),(32,tI)] mixed (by kernel_rfl) (by kernel_rfl) h
/-! slices.symMergeCmpFunc[vitrine/huff.item] -/
def z0v (next1:Int->Int->Mem->Prop) (v16:Int) (v17:Int) (σ18:Mem):Prop:=
next1 v16 v17 σ18
def z0H (a0:AV) (Q:AV->Mem->Prop) (v2:Int) (next21:Int->Mem->Prop) (v22:Int) (σ23:Mem):Prop:=
iW (v2-1) λv24=>
ifB (decide (v22<v24)) (
iW (v22+1) λv25=>
iW (v22+1) λv26=>
zz 3 a0 v26 λv27=>
z5x 3 (σ23.bump 22) v27 λv28=>
zz 3 a0 v22 λv29=>
z5x 3 (σ23.bump 22) v29 λv30=>
zz 3 a0 v22 λv31=>
stW 3 (σ23.bump 22) v31 v28 λσ32=>
zz 3 a0 v25 λv33=>
stW 3 σ32 v33 v30 λσ34=>
iW (v22+1) λv35=>
next21 v35 (σ34.bump 3)) (
Q (.tup []) (σ23.bump 4))
def z0B (a0:AV) (a1:Int) (a4:AV) (Q:AV->Mem->Prop) (next1:Int->Int->Mem->Prop) (v2:Int) (v3:Int) (σ4:Mem):Prop:=
ifB (decide (v2<v3)) (
iW (v2+v3) λv5=>
wrW .u64 v5 λv6=>
z4j (v6 / 2) λv7=>
iW v7 λv8=>
zz 3 a0 v8 λv9=>
z5x 3 (σ4.bump 21) v9 λv10=>
zz 3 a0 a1 λv11=>
z5x 3 (σ4.bump 21) v11 λv12=>
z3m PG a4 [v10,v12] (σ4.bump 21) λv13 σ14=>
zq .i64 v13 λv15=>
zd [tI,tI] (λ(k19:Int->Int->Mem->Prop)=>
ifB (decide (v15<0)) (
iW (v8+1) λv20=>
k19 v20 v3 (σ14.bump 3)) (
k19 v2 v8 (σ14.bump 2))) (z0v next1)) (
zj [tI] (z0H a0 Q v2) a1 (σ4.bump 5))
def z0D (next37:Int->Int->Mem->Prop) (v52:Int) (v53:Int) (σ54:Mem):Prop:=
next37 v52 v53 σ54
def z0G (a0:AV) (Q:AV->Mem->Prop) (v38:Int) (next57:Int->Mem->Prop) (v58:Int) (σ59:Mem):Prop:=
ifB (decide (v38<v58)) (
iW (v58-1) λv60=>
iW (v58-1) λv61=>
zz 3 a0 v61 λv62=>
z5x 3 (σ59.bump 21) v62 λv63=>
zz 3 a0 v58 λv64=>
z5x 3 (σ59.bump 21) v64 λv65=>
zz 3 a0 v58 λv66=>
stW 3 (σ59.bump 21) v66 v63 λσ67=>
zz 3 a0 v60 λv68=>
stW 3 σ67 v68 v65 λσ69=>
iW (v58-1) λv70=>
next57 v70 (σ69.bump 3)) (
Q (.tup []) (σ59.bump 3))
def z0K (a0:AV) (a2:Int) (a4:AV) (Q:AV->Mem->Prop) (next37:Int->Int->Mem->Prop) (v38:Int) (v39:Int) (σ40:Mem):Prop:=
ifB (decide (v38<v39)) (
iW (v38+v39) λv41=>
wrW .u64 v41 λv42=>
z4j (v42 / 2) λv43=>
iW v43 λv44=>
zz 3 a0 a2 λv45=>
z5x 3 (σ40.bump 22) v45 λv46=>
zz 3 a0 v44 λv47=>
z5x 3 (σ40.bump 22) v47 λv48=>
z3m PG a4 [v46,v48] (σ40.bump 22) λv49 σ50=>
zq .i64 v49 λv51=>
zd [tI,tI] (λ(k55:Int->Int->Mem->Prop)=>
ifB (!(decide (v51<0))) (
iW (v44+1) λv56=>
k55 v56 v39 (σ50.bump 3)) (
k55 v38 v44 (σ50.bump 2))) (z0D next37)) (
zj [tI] (z0G a0 Q v38) a2 (σ40.bump 5))
def z0I (next80:Int->Int->Mem->Prop) (v96:Int) (v97:Int) (σ98:Mem):Prop:=
next80 v96 v97 σ98
def z0F (Q:AV->Mem->Prop) (σ104:Mem):Prop:=
Q (.tup []) σ104
def z0C (Q:AV->Mem->Prop) (σ108:Mem):Prop:=
Q (.tup []) σ108
def zN (a0:AV) (a3:Int) (a4:AV) (Q:AV->Mem->Prop) (v74:Int) (v101:Int) (σ103:Mem):Prop:=
ifB (decide (v74<v101)) (
zd [] (λ(k105:Mem->Prop)=>
ifB (decide (v101<a3)) (
z5 PG z7 [a0,.int .i64 v74,.int .i64 v101,.int .i64 a3,a4] (σ103.bump 14) λv106 σ107=>
k105 σ107) (
k105 (σ103.bump 8))) (z0F Q)) (
zd [] (λ(k109:Mem->Prop)=>
k109 (σ103.bump 8)) (z0C Q))
def z2R (Q:AV->Mem->Prop) (σ114:Mem):Prop:=
Q (.tup []) σ114
def z2B (Q:AV->Mem->Prop) (σ118:Mem):Prop:=
Q (.tup []) σ118
def z2Y (a0:AV) (a3:Int) (a4:AV) (Q:AV->Mem->Prop) (v74:Int) (v101:Int) (σ113:Mem):Prop:=
ifB (decide (v74<v101)) (
zd [] (λ(k115:Mem->Prop)=>
ifB (decide (v101<a3)) (
z5 PG z7 [a0,.int .i64 v74,.int .i64 v101,.int .i64 a3,a4] (σ113.bump 14) λv116 σ117=>
k115 σ117) (
k115 (σ113.bump 8))) (z2R Q)) (
zd [] (λ(k119:Mem->Prop)=>
k119 (σ113.bump 8)) (z2B Q))
def zM (a0:AV) (a1:Int) (a3:Int) (a4:AV) (Q:AV->Mem->Prop) (v74:Int) (v81:Int) (v101:Int) (σ102:Mem):Prop:=
ifB (decide (a1<v81)) (
zd [] (λ(k110:Mem->Prop)=>
ifB (decide (v81<v74)) (
z5 PG z7 [a0,.int .i64 a1,.int .i64 v81,.int .i64 v74,a4] (σ102.bump 14) λv111 σ112=>
k110 σ112) (
k110 (σ102.bump 8))) (zN a0 a3 a4 Q v74 v101)) (
zd [] (λ(k120:Mem->Prop)=>
k120 (σ102.bump 8)) (z2Y a0 a3 a4 Q v74 v101))
def z2G (Q:AV->Mem->Prop) (σ126:Mem):Prop:=
Q (.tup []) σ126
def z2J (Q:AV->Mem->Prop) (σ130:Mem):Prop:=
Q (.tup []) σ130
def z2O (a0:AV) (a3:Int) (a4:AV) (Q:AV->Mem->Prop) (v74:Int) (v101:Int) (σ125:Mem):Prop:=
ifB (decide (v74<v101)) (
zd [] (λ(k127:Mem->Prop)=>
ifB (decide (v101<a3)) (
z5 PG z7 [a0,.int .i64 v74,.int .i64 v101,.int .i64 a3,a4] (σ125.bump 14) λv128 σ129=>
k127 σ129) (
k127 (σ125.bump 8))) (z2G Q)) (
zd [] (λ(k131:Mem->Prop)=>
k131 (σ125.bump 8)) (z2J Q))
def z2D (Q:AV->Mem->Prop) (σ136:Mem):Prop:=
Q (.tup []) σ136
def z2M (Q:AV->Mem->Prop) (σ140:Mem):Prop:=
Q (.tup []) σ140
def z2P (a0:AV) (a3:Int) (a4:AV) (Q:AV->Mem->Prop) (v74:Int) (v101:Int) (σ135:Mem):Prop:=
ifB (decide (v74<v101)) (
zd [] (λ(k137:Mem->Prop)=>
ifB (decide (v101<a3)) (
z5 PG z7 [a0,.int .i64 v74,.int .i64 v101,.int .i64 a3,a4] (σ135.bump 14) λv138 σ139=>
k137 σ139) (
k137 (σ135.bump 8))) (z2D Q)) (
zd [] (λ(k141:Mem->Prop)=>
k141 (σ135.bump 8)) (z2M Q))
def z2K (a0:AV) (a1:Int) (a3:Int) (a4:AV) (Q:AV->Mem->Prop) (v74:Int) (v81:Int) (v101:Int) (σ124:Mem):Prop:=
ifB (decide (a1<v81)) (
zd [] (λ(k132:Mem->Prop)=>
ifB (decide (v81<v74)) (
z5 PG z7 [a0,.int .i64 a1,.int .i64 v81,.int .i64 v74,a4] (σ124.bump 14) λv133 σ134=>
k132 σ134) (
k132 (σ124.bump 8))) (z2O a0 a3 a4 Q v74 v101)) (
zd [] (λ(k142:Mem->Prop)=>
k142 (σ124.bump 8)) (z2P a0 a3 a4 Q v74 v101))
def z0w (a0:AV) (a1:Int) (a2:Int) (a3:Int) (a4:AV) (Q:AV->Mem->Prop) (v74:Int) (v75:Int) (v79:Int) (next80:Int->Int->Mem->Prop) (v81:Int) (v82:Int) (σ83:Mem):Prop:=
ifB (decide (v81<v82)) (
iW (v81+v82) λv84=>
wrW .u64 v84 λv85=>
z4j (v85 / 2) λv86=>
iW v86 λv87=>
iW (v79-v87) λv88=>
zz 3 a0 v88 λv89=>
z5x 3 (σ83.bump 24) v89 λv90=>
zz 3 a0 v87 λv91=>
z5x 3 (σ83.bump 24) v91 λv92=>
z3m PG a4 [v90,v92] (σ83.bump 24) λv93 σ94=>
zq .i64 v93 λv95=>
zd [tI,tI] (λ(k99:Int->Int->Mem->Prop)=>
ifB (!(decide (v95<0))) (
iW (v87+1) λv100=>
k99 v100 v82 (σ94.bump 3)) (
k99 v81 v87 (σ94.bump 2))) (z0I next80)) (
iW (v75-v81) λv101=>
ifB (decide (v81<a2)) (
zd [] (λ(k121:Mem->Prop)=>
ifB (decide (a2<v101)) (
z5 PG z09 [a0,.int .i64 v81,.int .i64 a2,.int .i64 v101,a4] (σ83.bump 21) λv122 σ123=>
k121 σ123) (
k121 (σ83.bump 15))) (zM a0 a1 a3 a4 Q v74 v81 v101)) (
zd [] (λ(k143:Mem->Prop)=>
k143 (σ83.bump 15)) (z2K a0 a1 a3 a4 Q v74 v81 v101)))
def z0A (a0:AV) (a1:Int) (a2:Int) (a3:Int) (a4:AV) (Q:AV->Mem->Prop) (v74:Int) (v75:Int) (v76:Int) (v77:Int) (σ78:Mem):Prop:=
iW (v75-1) λv79=>
zj [tI,tI] (z0w a0 a1 a2 a3 a4 Q v74 v75 v79) v76 v77 (σ78.bump 3)
def z12 (a0:AV) (a1:Int) (a2:Int) (a3:Int) (a4:AV) (σ:Mem) (Q:AV->Mem->Prop):Prop:=
iW (a2-a1) λv0=>
ifB (decide (v0=1)) (
zj [tI,tI] (z0B a0 a1 a4 Q) a2 a3 (σ.bump 8)) (
iW (a3-a2) λv36=>
ifB (decide (v36=1)) (
zj [tI,tI] (z0K a0 a2 a4 Q) a1 a2 (σ.bump 12)) (
iW (a1+a3) λv71=>
wrW .u64 v71 λv72=>
z4j (v72 / 2) λv73=>
iW v73 λv74=>
iW (v74+a2) λv75=>
zd [tI,tI] (λ(k144:Int->Int->Mem->Prop)=>
ifB (decide (v74<a2)) (
iW (v75-a3) λv145=>
k144 v145 v74 (σ.bump 30)) (
k144 a1 a2 (σ.bump 28))) (z0A a0 a1 a2 a3 a4 Q v74 v75)))
theorem z3r {a0 a1 a2 a3 a4 σ Q} (h:σ.Live->z12 a0 a1 a2 a3 a4 σ Q):z1 PG z7 [a0,.int .i64 a1,.int .i64 a2,.int .i64 a3,a4] σ Q:=
 .of_sem [none,none,none,none,none,some ([0,1,4],[10,11]),none,none,none,none,none,some ([0,1,4],[10,11]),none,none,none,none,some ([0,10],[13]),none,none,none,none,none,none,none,none,none,none,some ([0,2,4],[14,15]),none,none,none,none,none,some ([0,2,4],[14,15]),none,none,none,none,some ([0,14],[17]),none,none,none,none,none,none,none,none,none,some ([0,1,2,3,4,18,19],[20,21]),none,none,none,none,none,none,some ([0,1,2,3,4,18,19,22],[20,21]),none,none,none,none,none,some ([0,1,2,3,4,18,19,22],[20,21]),none,none,none,none,some ([0,1,3,4,18,20,24],[]),none,none,some ([0,3,4,18,24],[]),none,none,some ([],[]),none] [(10,tI),(11,tI),(49,tI),(13,tI),(14,tI),(15,tI),(101,tI),(17,tI),(20,tI),(21,tI),(169,tI)] mixed (by kernel_rfl) (by kernel_rfl) h
/-! slices.rotateCmpFunc[int] -/
def z0t (next2:Int->Int->Mem->Prop) (v6:Int) (v7:Int) (σ8:Mem):Prop:=
next2 v6 v7 σ8
def z1N (a0:AV) (a2:Int) (a4:AV) (Q:AV->Mem->Prop) (next2:Int->Int->Mem->Prop) (v3:Int) (v4:Int) (σ5:Mem):Prop:=
ifB (decide (v3≠v4)) (
zd [tI,tI] (λ(k9:Int->Int->Mem->Prop)=>
ifB (decide (v4<v3)) (
iW (a2-v3) λv10=>
z5 PG zD [a0,.int .i64 v10,.int .i64 a2,.int .i64 v4,a4] (σ5.bump 14) λv11 σ12=>
iW (v3-v4) λv13=>
k9 v13 v4 (σ12.bump 4)) (
iW (a2-v3) λv14=>
iW (a2+v4) λv15=>
iW (v15-v3) λv16=>
z5 PG zD [a0,.int .i64 v14,.int .i64 v16,.int .i64 v3,a4] (σ5.bump 18) λv17 σ18=>
iW (v4-v3) λv19=>
k9 v3 v19 (σ18.bump 4))) (z0t next2)) (
iW (a2-v3) λv20=>
z5 PG zD [a0,.int .i64 v20,.int .i64 a2,.int .i64 v3,a4] (σ5.bump 11) λv21 σ22=>
Q (.tup []) σ22)
def z2H (a0:AV) (a1:Int) (a2:Int) (a3:Int) (a4:AV) (σ:Mem) (Q:AV->Mem->Prop):Prop:=
iW (a2-a1) λv0=>
iW (a3-a2) λv1=>
zj [tI,tI] (z1N a0 a2 a4 Q) v0 v1 (σ.bump 8)
theorem z5u {a0 a1 a2 a3 a4 σ Q} (h:σ.Live->z2H a0 a1 a2 a3 a4 σ Q):z1 PG z1c [a0,.int .i64 a1,.int .i64 a2,.int .i64 a3,a4] σ Q:=
 .of_sem [none,none,none,some ([0,2,4],[10,11]),none,none,none,none,some ([0,2,4],[10,11]),none,none,none,none,none] [(10,tI),(11,tI)] mixed (by kernel_rfl) (by kernel_rfl) h
/-! slices.rotateCmpFunc[vitrine/huff.item] -/
def zT (next2:Int->Int->Mem->Prop) (v6:Int) (v7:Int) (σ8:Mem):Prop:=
next2 v6 v7 σ8
def z0W (a0:AV) (a2:Int) (a4:AV) (Q:AV->Mem->Prop) (next2:Int->Int->Mem->Prop) (v3:Int) (v4:Int) (σ5:Mem):Prop:=
ifB (decide (v3≠v4)) (
zd [tI,tI] (λ(k9:Int->Int->Mem->Prop)=>
ifB (decide (v4<v3)) (
iW (a2-v3) λv10=>
z5 PG zp [a0,.int .i64 v10,.int .i64 a2,.int .i64 v4,a4] (σ5.bump 14) λv11 σ12=>
iW (v3-v4) λv13=>
k9 v13 v4 (σ12.bump 4)) (
iW (a2-v3) λv14=>
iW (a2+v4) λv15=>
iW (v15-v3) λv16=>
z5 PG zp [a0,.int .i64 v14,.int .i64 v16,.int .i64 v3,a4] (σ5.bump 18) λv17 σ18=>
iW (v4-v3) λv19=>
k9 v3 v19 (σ18.bump 4))) (zT next2)) (
iW (a2-v3) λv20=>
z5 PG zp [a0,.int .i64 v20,.int .i64 a2,.int .i64 v3,a4] (σ5.bump 11) λv21 σ22=>
Q (.tup []) σ22)
def z1l (a0:AV) (a1:Int) (a2:Int) (a3:Int) (a4:AV) (σ:Mem) (Q:AV->Mem->Prop):Prop:=
iW (a2-a1) λv0=>
iW (a3-a2) λv1=>
zj [tI,tI] (z0W a0 a2 a4 Q) v0 v1 (σ.bump 8)
theorem z3R {a0 a1 a2 a3 a4 σ Q} (h:σ.Live->z1l a0 a1 a2 a3 a4 σ Q):z1 PG z09 [a0,.int .i64 a1,.int .i64 a2,.int .i64 a3,a4] σ Q:=
 .of_sem [none,none,none,some ([0,2,4],[10,11]),none,none,none,none,some ([0,2,4],[10,11]),none,none,none,none,none] [(10,tI),(11,tI)] mixed (by kernel_rfl) (by kernel_rfl) h
/-! slices.swapRangeCmpFunc[int] -/
def z1n (a0:AV) (a1:Int) (a2:Int) (a3:Int) (Q:AV->Mem->Prop) (next0:Int->Mem->Prop) (v1:Int) (σ2:Mem):Prop:=
ifB (decide (v1<a3)) (
iW (a1+v1) λv3=>
iW (a2+v1) λv4=>
iW (a2+v1) λv5=>
zz 1 a0 v5 λv6=>
ldI (σ2.bump 27) v6 λv7=>
iW (a1+v1) λv8=>
zz 1 a0 v8 λv9=>
ldI (σ2.bump 27) v9 λv10=>
zz 1 a0 v3 λv11=>
stW 1 (σ2.bump 27) v11 (.int .i64 v7) λσ12=>
zz 1 a0 v4 λv13=>
stW 1 σ12 v13 (.int .i64 v10) λσ14=>
iW (v1+1) λv15=>
next0 v15 (σ14.bump 3)) (
Q (.tup []) (σ2.bump 3))
def z1O (a0:AV) (a1:Int) (a2:Int) (a3:Int) (a4:AV) (σ:Mem) (Q:AV->Mem->Prop):Prop:=
zj [tI] (z1n a0 a1 a2 a3 Q) 0 (σ.bump 1)
theorem z4z {a0 a1 a2 a3 a4 σ Q} (h:σ.Live->z1O a0 a1 a2 a3 a4 σ Q):z1 PG zD [a0,.int .i64 a1,.int .i64 a2,.int .i64 a3,a4] σ Q:=
 .of_sem [none,none,some ([0,1,2,3],[10]),none,none,none,none,none] [(10,tI),(29,tI),(35,tI)] mixed (by kernel_rfl) (by kernel_rfl) h
/-! slices.swapRangeCmpFunc[vitrine/huff.item] -/
def z0s (a0:AV) (a1:Int) (a2:Int) (a3:Int) (Q:AV->Mem->Prop) (next0:Int->Mem->Prop) (v1:Int) (σ2:Mem):Prop:=
ifB (decide (v1<a3)) (
iW (a1+v1) λv3=>
iW (a2+v1) λv4=>
iW (a2+v1) λv5=>
zz 3 a0 v5 λv6=>
z5x 3 (σ2.bump 27) v6 λv7=>
iW (a1+v1) λv8=>
zz 3 a0 v8 λv9=>
z5x 3 (σ2.bump 27) v9 λv10=>
zz 3 a0 v3 λv11=>
stW 3 (σ2.bump 27) v11 v7 λσ12=>
zz 3 a0 v4 λv13=>
stW 3 σ12 v13 v10 λσ14=>
iW (v1+1) λv15=>
next0 v15 (σ14.bump 3)) (
Q (.tup []) (σ2.bump 3))
def z10 (a0:AV) (a1:Int) (a2:Int) (a3:Int) (a4:AV) (σ:Mem) (Q:AV->Mem->Prop):Prop:=
zj [tI] (z0s a0 a1 a2 a3 Q) 0 (σ.bump 1)
theorem z3f {a0 a1 a2 a3 a4 σ Q} (h:σ.Live->z10 a0 a1 a2 a3 a4 σ Q):z1 PG zp [a0,.int .i64 a1,.int .i64 a2,.int .i64 a3,a4] σ Q:=
 .of_sem [none,none,some ([0,1,2,3],[10]),none,none,none,none,none] [(10,tI)] mixed (by kernel_rfl) (by kernel_rfl) h
end Go.Vit
