import Derived.Test.YtloeboiajgfigaaGreatV7L
set_option linter.unusedVariables false
set_option linter.unusedSimpArgs false
set_option maxRecDepth 100000
namespace Go.Vit
open Go.Proofs
/-! vitrine/vitrinelaw06.ZlibWraps -/
/-! vitrine/vitrinelaw06.ZlibUnwraps -/
def z65 (a0:ByteArray) (a1:Int) (σ:Mem) (Q:AV->Mem->Prop):Prop:=
ifB (decide (20000<(a0.size:Int))) (
z5 PG z31 [] (σ.bump 10) λv0 σ1=>
z70 v0 λv2=>
Q (.bool v2) σ1) (
ifB (decide (100000<a1)) (
z5 PG z31 [] (σ.bump 10) λv3 σ4=>
z70 v3 λv5=>
Q (.bool v5) σ4) (
z5 PG z2X [.str a0,.int .i64 a1] (σ.bump 16) λv6 σ7=>
tpS v6 0 λv8=>
tpI v6 1 λv9=>
z5 PG z6I [.str a0,.int .i64 a1] (σ7.bump 8) λv10 σ11=>
tpS v10 0 λv12=>
tpI v10 1 λv13=>
ifB (decide (v8=v12)) (
ifB (decide (v9=v13)) (
z5 PG z31 [] (σ11.bump 12) λv14 σ15=>
z70 v14 λv16=>
Q (.bool v16) σ15) (
Q (.bool false) (σ11.bump 12))) (
Q (.bool false) (σ11.bump 12))))
theorem z9o {a0 a1 σ Q} (h:σ.Live->z65 a0 a1 σ Q):z1 PG z6h [.str a0,.int .i64 a1] σ Q:=
 .of_sem [none,none,none,none,none,none,none] [(16,.b),(21,.s),(22,tI),(27,.s),(28,tI),(38,.b)] mixed (by kernel_rfl) (by kernel_rfl) h
/-! vitrine/zlib.Wrap -/
def zea (a0:ByteArray) (σ:Mem) (Q:AV->Mem->Prop):Prop:=
z5 PG z4A [.str a0] (σ.bump 8) λv0 σ1=>
z5t v0 λv2=>
zqo ⟨#[120,1]⟩ v2 λv3=>
z5 PG z9g [.str a0] σ1 λv4 σ5=>
z5t v4 λv6=>
zqo v3 v6 λv7=>
Q (.str v7) σ5
theorem zh2 {a0 σ Q} (h:σ.Live->zea a0 σ Q):z1 PG zar [.str a0] σ Q:=
 .of_sem [none,none] [(4,.s),(7,.s)] mixed (by kernel_rfl) (by kernel_rfl) h
/-! vitrine/vitrineref06.Wrap -/
/-! vitrine/vitrinelaw06.awake -/
def zb8 (σ:Mem) (Q:AV->Mem->Prop):Prop:=
z5 PG z2X [.str ⟨#[120,1]⟩,.int .i64 9] (σ.bump 7) λv0 σ1=>
tpS v0 0 λv2=>
tpI v0 1 λv3=>
z5 PG z2X [.str ⟨#[120,2]⟩,.int .i64 9] (σ1.bump 6) λv4 σ5=>
tpS v4 0 λv6=>
tpI v4 1 λv7=>
z5 PG z2X [.str ⟨#[120,1,3,0,0,0,0,2]⟩,.int .i64 9] (σ5.bump 6) λv8 σ9=>
tpS v8 0 λv10=>
tpI v8 1 λv11=>
z5 PG zar [.str ⟨#[]⟩] (σ9.bump 15) λv12 σ13=>
z5t v12 λv14=>
ifB (decide (v14=⟨#[120,1,3,0,0,0,0,1]⟩)) (
ifB (decide (v3=3)) (
ifB (decide (v7=16)) (
Q (.bool (decide (v11=17))) σ13) (
Q (.bool false) σ13)) (
Q (.bool false) σ13)) (
Q (.bool false) σ13)
theorem zeQ {σ Q} (h:σ.Live->zb8 σ Q):z1 PG z31 [] σ Q:=
 .of_sem [none,none,none,none,none] [(9,.s),(10,tI),(13,.s),(14,tI),(17,.s),(18,tI),(19,.s)] mixed (by kernel_rfl) (by kernel_rfl) h
/-! vitrine/zlib.Unwrap -/
def zaO (a0:ByteArray) (a1:Int) (σ:Mem) (Q:AV->Mem->Prop):Prop:=
ifB (decide ((a0.size:Int)<2)) (
Q (.tup [.str ⟨#[]⟩,.int .i64 3]) (σ.bump 8)) (
z56 a0 0 λv0=>
iW v0 λv1=>
z56 a0 1 λv2=>
iW v2 λv3=>
z5 PG z8N [.int .i64 v1,.int .i64 v3] (σ.bump 15) λv4 σ5=>
z70 v4 λv6=>
ifB (!v6) (
Q (.tup [.str ⟨#[]⟩,.int .i64 16]) (σ5.bump 2)) (
zi5 a0 2 a0.size λv7=>
z5 PG z4r [.str v7,.int .i64 a1] (σ5.bump 11) λv8 σ9=>
tpS v8 0 λv10=>
tpI v8 1 λv11=>
tpI v8 2 λv12=>
ifB (decide (v12≠0)) (
Q (.tup [.str ⟨#[]⟩,.int .i64 v12]) (σ9.bump 5)) (
iW (2+v11) λv13=>
zi5 a0 v13 a0.size λv14=>
ifB (decide ((v14.size:Int)<4)) (
Q (.tup [.str ⟨#[]⟩,.int .i64 3]) (σ9.bump 13)) (
zi5 v14 0 4 λv15=>
z5 PG z9g [.str v10] (σ9.bump 17) λv16 σ17=>
z5t v16 λv18=>
ifB (decide (v15≠v18)) (
Q (.tup [.str ⟨#[]⟩,.int .i64 17]) (σ17.bump 2)) (
ifB (decide (4<(v14.size:Int))) (
Q (.tup [.str ⟨#[]⟩,.int .i64 4]) (σ17.bump 6)) (
Q (.tup [.str v10,.int .i64 0]) (σ17.bump 7)))))))
theorem zex {a0 a1 σ Q} (h:σ.Live->zaO a0 a1 σ Q):z1 PG z2X [.str a0,.int .i64 a1] σ Q:=
 .of_sem [none,none,none,none,none,none,none,none,none,none,none,none,none,none,none,none,none,none,none,none,none,none,none,none] [(21,.b),(28,.s),(29,tI),(30,tI),(46,.s)] mixed (by kernel_rfl) (by kernel_rfl) h
/-! vitrine/vitrineref06.Unwrap -/
def z9R (a0:ByteArray) (a1:Int) (σ:Mem) (Q:AV->Mem->Prop):Prop:=
ifB (decide ((a0.size:Int)<2)) (
Q (.tup [.str ⟨#[]⟩,.int .i64 3]) (σ.bump 7)) (
z56 a0 0 λv0=>
iW v0 λv1=>
z56 a0 1 λv2=>
iW v2 λv3=>
zhX v1 16 λv4=>
ifB (decide (v4≠8)) (
Q (.tup [.str ⟨#[]⟩,.int .i64 16]) (σ.bump 37)) (
zgH .i64 v1 16 λv5=>
ifB (decide (7<v5)) (
Q (.tup [.str ⟨#[]⟩,.int .i64 16]) (σ.bump 37)) (
iW (256*v1) λv6=>
iW (v6+v3) λv7=>
zhX v7 31 λv8=>
ifB (decide (v8≠0)) (
Q (.tup [.str ⟨#[]⟩,.int .i64 16]) (σ.bump 37)) (
zgH .i64 v3 32 λv9=>
zhX v9 2 λv10=>
ifB (decide (v10=1)) (
Q (.tup [.str ⟨#[]⟩,.int .i64 16]) (σ.bump 37)) (
zi5 a0 2 a0.size λv11=>
z5 PG z5H [.str v11,.int .i64 a1] (σ.bump 46) λv12 σ13=>
tpS v12 0 λv14=>
tpI v12 1 λv15=>
tpI v12 2 λv16=>
ifB (decide (v16≠0)) (
Q (.tup [.str ⟨#[]⟩,.int .i64 v16]) (σ13.bump 5)) (
iW (2+v15) λv17=>
zi5 a0 v17 a0.size λv18=>
ifB (decide ((v18.size:Int)<4)) (
Q (.tup [.str ⟨#[]⟩,.int .i64 3]) (σ13.bump 12)) (
zi5 v18 0 4 λv19=>
z5 PG zbN [.str v19] (σ13.bump 16) λv20 σ21=>
zq .i64 v20 λv22=>
z5 PG z7N [.str v14] σ21 λv23 σ24=>
zq .i64 v23 λv25=>
ifB (decide (v22≠v25)) (
Q (.tup [.str ⟨#[]⟩,.int .i64 17]) (σ24.bump 2)) (
ifB (decide (4<(v18.size:Int))) (
Q (.tup [.str ⟨#[]⟩,.int .i64 4]) (σ24.bump 5)) (
Q (.tup [.str v14,.int .i64 0]) (σ24.bump 6))))))))))
theorem zdM {a0 a1 σ Q} (h:σ.Live->z9R a0 a1 σ Q):z1 PG z6I [.str a0,.int .i64 a1] σ Q:=
 .of_sem [none,none,none,none,none,none,none,none,none,none,none,none,none,none,none,none,none,none,none,none,none,none,none,none] [(48,.s),(49,tI),(50,tI),(63,tI),(65,tI)] mixed (by kernel_rfl) (by kernel_rfl) h
/-! vitrine/zlib.sum -/
def zff (a0:ByteArray) (σ:Mem) (Q:AV->Mem->Prop):Prop:=
z5 PG z8D [.str a0] (σ.bump 4) λv0 σ1=>
zq .i64 v0 λv2=>
z4j (v2 / 16777216) λv3=>
wrW .u8 v3 λv4=>
z4j (v2 / 65536) λv5=>
wrW .u8 v5 λv6=>
z4j (v2 / 256) λv7=>
wrW .u8 v7 λv8=>
wrW .u8 v2 λv9=>
z15 (σ1.bump 14) (σ1.next+11) (.rw [.int .u8 v4,.int .u8 v6,.int .u8 v8,.int .u8 v9]) λσ10=>
zeL σ10 (.slice (σ1.next+11) 0 4 (.ex 4)) λv11=>
Q (.str v11) σ10
theorem ziI {a0 σ Q} (h:σ.Live->zff a0 σ Q):z1 PG z9g [.str a0] σ Q:=
 .of_sem [none,none,none] [(5,tI)] mixed (by kernel_rfl) (by kernel_rfl) h
/-! vitrine/vitrineref06.Four -/
/-! vitrine/vitrineref01.Adler -/
def z7Y (a0:ByteArray) (Q:AV->Mem->Prop) (next0:Int->Int->Int->Mem->Prop) (v1:Int) (v2:Int) (v3:Int) (σ4:Mem):Prop:=
ifB (decide (v3<(a0.size:Int))) (
z56 a0 v3 λv5=>
iW v5 λv6=>
iW (v1+v6) λv7=>
zhX v7 65521 λv8=>
iW (v2+v8) λv9=>
zhX v9 65521 λv10=>
iW (v3+1) λv11=>
next0 v8 v10 v11 (σ4.bump 20)) (
iW (65536*v2) λv12=>
iW (v12+v1) λv13=>
Q (.int .i64 v13) (σ4.bump 9))
def zbA (a0:ByteArray) (σ:Mem) (Q:AV->Mem->Prop):Prop:=
zj [tI,tI,tI] (z7Y a0 Q) 1 0 0 (σ.bump 4)
theorem zeP {a0 σ Q} (h:σ.Live->zbA a0 σ Q):z1 PG z7N [.str a0] σ Q:=
 .of_sem [none,none,none,none,none,some ([0],[3,4,5]),none,none,none,none,none,none,none] [(3,tI),(4,tI),(5,tI)] mixed (by kernel_rfl) (by kernel_rfl) h
/-! vitrine/zlib.right -/
def zcA (a0:Int) (a1:Int) (σ:Mem) (Q:AV->Mem->Prop):Prop:=
z4j (zB .and .i64 a0 15) λv0=>
ifB (decide (v0=8)) (
z4j (a0 / 16) λv1=>
ifB (decide (v1<=7)) (
iW (a0*256) λv2=>
z4j (zB .or .i64 v2 a1) λv3=>
zhX v3 31 λv4=>
ifB (decide (v4=0)) (
z4j (zB .and .i64 a1 32) λv5=>
Q (.bool (decide (v5=0))) (σ.bump 23)) (
Q (.bool false) (σ.bump 23))) (
Q (.bool false) (σ.bump 23))) (
Q (.bool false) (σ.bump 23))
theorem zfD {a0 a1 σ Q} (h:σ.Live->zcA a0 a1 σ Q):z1 PG z8N [.int .i64 a0,.int .i64 a1] σ Q:=
 .of_sem [none,none] [] mixed (by kernel_rfl) (by kernel_rfl) h
/-! vitrine/vitrineref03.Inflate -/
def z2o (Q:AV->Mem->Prop) (σ:Mem) (σ2:Mem):Prop:=
lfI 3 (σ2.bump 5) (.ptr (σ.next+8) 0) λv3=>
ifB (decide (v3≠0)) (
lfI 3 (σ2.bump 12) (.ptr (σ.next+8) 0) λv4=>
Q (.tup [.str ⟨#[]⟩,.int .i64 0,.int .i64 v4]) (σ2.bump 12)) (
lfW 1 (σ2.bump 22) (.ptr (σ.next+8) 0) λv5=>
zeL (σ2.bump 22) v5 λv6=>
lfW 0 (σ2.bump 22) (.ptr (σ.next+8) 0) λv7=>
lfI 1 (σ2.bump 22) v7 λv8=>
iW (v8+7) λv9=>
zgH .i64 v9 8 λv10=>
Q (.tup [.str v6,.int .i64 v10,.int .i64 0]) (σ2.bump 22))
def zbe (next12:Int->Mem->Prop) (v20:Int) (σ25:Mem):Prop:=
next12 v20 σ25
def zaY (k26:Mem->Prop) (σ29:Mem):Prop:=
k26 σ29
def zb2 (k30:Mem->Prop) (σ37:Mem):Prop:=
k30 σ37
def zaU (k38:Mem->Prop) (σ44:Mem):Prop:=
k38 σ44
def zaK (k38:Mem->Prop) (σ48:Mem):Prop:=
k38 σ48
def z6m (σ:Mem) (k11:Mem->Prop) (next12:Int->Mem->Prop) (v13:Int) (σ14:Mem):Prop:=
ifB (decide (v13=0)) (
z8h (.ptr (σ.next+8) 0) λv15=>
z6C 3 v15 λv16=>
ldI (σ14.bump 9) v16 λv17=>
ifB (decide (v17=0)) (
z5 PG z8 [.ptr (σ.next+8) 0,.int .i64 1] (σ14.bump 12) λv18 σ19=>
zq .i64 v18 λv20=>
z5 PG z8 [.ptr (σ.next+8) 0,.int .i64 2] (σ19.bump 3) λv21 σ22=>
zq .i64 v21 λv23=>
lfI 3 (σ22.bump 5) (.ptr (σ.next+8) 0) λv24=>
ifB (decide (v24≠0)) (
k11 (σ22.bump 5)) (
zd [] (λ(k26:Mem->Prop)=>
ifB (decide (v23=0)) (
z5 PG z1V [.ptr (σ.next+8) 0] (σ22.bump 10) λv27 σ28=>
k26 σ28) (
zd [] (λ(k30:Mem->Prop)=>
ifB (decide (v23=1)) (
z5 PG z7S [] (σ22.bump 16) λv31 σ32=>
z6T v31 0 λv33=>
z6T v31 1 λv34=>
z5 PG z0x [.ptr (σ.next+8) 0,v33,v34] (σ32.bump 4) λv35 σ36=>
k30 σ36) (
zd [] (λ(k38:Mem->Prop)=>
ifB (decide (v23=2)) (
z5 PG z2w [.ptr (σ.next+8) 0] (σ22.bump 19) λv39 σ40=>
z6T v39 0 λv41=>
z6T v39 1 λv42=>
lfI 3 (σ40.bump 5) (.ptr (σ.next+8) 0) λv43=>
zd [] (λ(k45:Mem->Prop)=>
ifB (decide (v43=0)) (
z5 PG z0x [.ptr (σ.next+8) 0,v41,v42] (σ40.bump 9) λv46 σ47=>
k45 σ47) (
k45 (σ40.bump 5))) (zaU k38)) (
zd [] (λ(k49:Mem->Prop)=>
ifB (decide (v23=3)) (
nfW 3 (.ptr (σ.next+8) 0) λv50=>
stW 1 (σ22.bump 18) v50 (.int .i64 13) λσ51=>
k49 σ51) (
k49 (σ22.bump 14))) (zaK k38))) (zb2 k30))) (zaY k26))) (zbe next12 v20))) (
k11 (σ14.bump 9))) (
k11 (σ14.bump 9))
def z92 (a0:ByteArray) (a1:Int) (σ:Mem) (Q:AV->Mem->Prop):Prop:=
zfU (.agg [.str a0,.int .i64 0]) (
z15 (σ.bump 10) (σ.next+5) (.rw [.str a0,.int .i64 0]) λσ0=>
zfU (.agg [.ptr (σ.next+5) 0,.nils,.int .i64 a1,.int .i64 0]) (
z15 σ0 (σ.next+8) (.rw [.ptr (σ.next+5) 0,.nils,.int .i64 a1,.int .i64 0]) λσ1=>
zd [] (λ(k11:Mem->Prop)=>
zj [tI] (z6m σ k11) 0 (σ1.bump 1)) (z2o Q σ)))
theorem zcT {a0 a1 σ Q} (h:σ.Live->z92 a0 a1 σ Q):z1 PG z5H [.str a0,.int .i64 a1] σ Q:=
 .of_sem [none,none,none,some ([7],[]),some ([7],[8]),none,none,none,none,none,none,none,none,none,none,some ([7,8],[]),none,none,some ([7,8],[]),none,none,none,some ([7,8],[]),none,none,some ([7,8],[]),none,none,some ([7,8],[]),none,none,none,none,none] [(8,tI),(26,tI),(30,tI),(32,tI),(36,tI),(63,tI),(77,tI),(82,tI),(94,tI)] mixed (by kernel_rfl) (by kernel_rfl) h
/-! vitrine/vitrineref06.Of -/
def zaC (a0:ByteArray) (Q:AV->Mem->Prop) (next0:Int->Int->Mem->Prop) (v1:Int) (v2:Int) (σ3:Mem):Prop:=
ifB (decide (v2<(a0.size:Int))) (
iW (256*v1) λv4=>
z56 a0 v2 λv5=>
iW v5 λv6=>
iW (v4+v6) λv7=>
iW (v2+1) λv8=>
next0 v7 v8 (σ3.bump 15)) (
Q (.int .i64 v1) (σ3.bump 6))
def zfq (a0:ByteArray) (σ:Mem) (Q:AV->Mem->Prop):Prop:=
zj [tI,tI] (zaC a0 Q) 0 0 (σ.bump 3)
theorem zid {a0 σ Q} (h:σ.Live->zfq a0 σ Q):z1 PG zbN [.str a0] σ Q:=
 .of_sem [none,none,none,none,some ([0],[3,4]),none,none,none,none,none,none] [(3,tI),(4,tI)] mixed (by kernel_rfl) (by kernel_rfl) h
/-! vitrine/bits.Adler -/
def z8k (a0:ByteArray) (Q:AV->Mem->Prop) (next0:Int->Int->Int->Mem->Prop) (v1:Int) (v2:Int) (v3:Int) (σ4:Mem):Prop:=
ifB (decide (v3<(a0.size:Int))) (
z56 a0 v3 λv5=>
iW v5 λv6=>
iW (v1+v6) λv7=>
zhX v7 65521 λv8=>
iW (v2+v8) λv9=>
zhX v9 65521 λv10=>
iW (v3+1) λv11=>
next0 v8 v10 v11 (σ4.bump 18)) (
iW (v2*65536) λv12=>
z4j (zB .or .i64 v12 v1) λv13=>
Q (.int .i64 v13) (σ4.bump 6))
def zcF (a0:ByteArray) (σ:Mem) (Q:AV->Mem->Prop):Prop:=
zj [tI,tI,tI] (z8k a0 Q) 1 0 0 (σ.bump 6)
theorem zft {a0 σ Q} (h:σ.Live->zcF a0 σ Q):z1 PG z8D [.str a0] σ Q:=
 .of_sem [none,none,none,none,some ([0,7],[3,4,8]),none,none,none,none,none,none,none,none] [(3,tI),(4,tI),(8,tI)] mixed (by kernel_rfl) (by kernel_rfl) h
/-! (*vitrine/vitrineref03.inflater).bits -/
def z2I (a0:AV) (a1:Int) (σ:Mem) (Q:AV->Mem->Prop):Prop:=
lfI 3 (σ.bump 6) a0 λv0=>
ifB (decide (v0≠0)) (
Q (.int .i64 0) (σ.bump 7)) (
lfW 0 (σ.bump 17) a0 λv1=>
z5 PG z1e [v1,.int .i64 a1] (σ.bump 17) λv2 σ3=>
tpI v2 0 λv4=>
tpI v2 1 λv5=>
nfW 3 a0 λv6=>
stW 1 (σ3.bump 5) v6 (.int .i64 v5) λσ7=>
Q (.int .i64 v4) (σ7.bump 2))
theorem z4n {a0 a1 σ Q} (h:σ.Live->z2I a0 a1 σ Q):z1 PG z8 [a0,.int .i64 a1] σ Q:=
 .of_sem [none,none,none,none,none,none,none] [(10,tI),(19,tI),(20,tI)] mixed (by kernel_rfl) (by kernel_rfl) h
/-! (*vitrine/vitrineref03.inflater).stored -/
def z1i (Q:AV->Mem->Prop) (σ36:Mem):Prop:=
Q (.tup []) σ36
def z1h (a0:AV) (Q:AV->Mem->Prop) (v24:ByteArray) (σ34:Mem):Prop:=
lfI 3 (σ34.bump 5) a0 λv35=>
zd [] (λ(k37:Mem->Prop)=>
ifB (decide (v35=0)) (
lfW 1 (σ34.bump 15) a0 λv38=>
apW 1 1 (σ34.next+11) (σ34.bump 15) v38 (.str v24) λv39 σ40=>
nfW 1 a0 λv41=>
stW 1 σ40 v41 v39 λσ42=>
k37 σ42) (
k37 (σ34.bump 5))) (z1i Q)
def z33 (Q:AV->Mem->Prop) (σ48:Mem):Prop:=
Q (.tup []) σ48
def z32 (a0:AV) (Q:AV->Mem->Prop) (v24:ByteArray) (σ46:Mem):Prop:=
lfI 3 (σ46.bump 5) a0 λv47=>
zd [] (λ(k49:Mem->Prop)=>
ifB (decide (v47=0)) (
lfW 1 (σ46.bump 15) a0 λv50=>
apW 1 1 (σ46.next+11) (σ46.bump 15) v50 (.str v24) λv51 σ52=>
nfW 1 a0 λv53=>
stW 1 σ52 v53 v51 λσ54=>
k49 σ54) (
k49 (σ46.bump 5))) (z33 Q)
def z3Z (a0:AV) (σ:Mem) (Q:AV->Mem->Prop):Prop:=
z5 PG zR [a0,.int .i64 2] (σ.bump 3) λv0 σ1=>
z5t v0 λv2=>
z5 PG zR [a0,.int .i64 2] (σ1.bump 3) λv3 σ4=>
z5t v3 λv5=>
lfI 3 (σ4.bump 5) a0 λv6=>
ifB (decide (v6≠0)) (
Q (.tup []) (σ4.bump 5)) (
z56 v2 0 λv7=>
iW v7 λv8=>
z56 v2 1 λv9=>
iW v9 λv10=>
iW (256*v10) λv11=>
iW (v8+v11) λv12=>
z56 v5 0 λv13=>
iW v13 λv14=>
z56 v5 1 λv15=>
iW v15 λv16=>
iW (256*v16) λv17=>
iW (v14+v17) λv18=>
iW (65535-v12) λv19=>
ifB (decide (v18≠v19)) (
nfW 3 a0 λv20=>
stW 1 (σ4.bump 29) v20 (.int .i64 14) λσ21=>
Q (.tup []) σ21) (
z5 PG zR [a0,.int .i64 v12] (σ4.bump 29) λv22 σ23=>
z5t v22 λv24=>
lfI 3 (σ23.bump 19) a0 λv25=>
ifB (decide (v25=0)) (
z8h a0 λv26=>
z6C 1 v26 λv27=>
ldW (σ23.bump 19) v27 λv28=>
zx v28 λv29=>
iW (v29+v12) λv30=>
z8h a0 λv31=>
z6C 2 v31 λv32=>
ldI (σ23.bump 19) v32 λv33=>
zd [] (λ(k43:Mem->Prop)=>
ifB (decide (v33<v30)) (
nfW 3 a0 λv44=>
stW 1 (σ23.bump 23) v44 (.int .i64 5) λσ45=>
k43 σ45) (
k43 (σ23.bump 19))) (z1h a0 Q v24)) (
zd [] (λ(k55:Mem->Prop)=>
k55 (σ23.bump 19)) (z32 a0 Q v24))))
theorem z7l {a0 σ Q} (h:σ.Live->z3Z a0 σ Q):z1 PG z1V [a0] σ Q:=
 .of_sem [none,none,none,none,none,none,none,none,none,none,some ([0,5],[]),none,none,some ([],[]),none] [(7,.s),(9,.s),(13,tI),(39,.s),(43,tI),(56,tI),(65,tI)] mixed (by kernel_rfl) (by kernel_rfl) h
/-! (*vitrine/vitrineref03.inflater).symbols -/
def z1b (next4:Mem->Prop) (σ7:Mem):Prop:=
next4 σ7
def z2E (a0:AV) (k8:Mem->Prop) (v35:Int) (v49:Int) (next61:Int->Mem->Prop) (v62:Int) (σ63:Mem):Prop:=
ifB (decide (v62<v35)) (
lfW 1 (σ63.bump 26) a0 λv64=>
lfW 1 (σ63.bump 26) a0 λv65=>
lfW 1 (σ63.bump 26) a0 λv66=>
zx v66 λv67=>
iW (v67-v49) λv68=>
zz 1 v65 v68 λv69=>
ldU (σ63.bump 26) v69 λv70=>
z15 (σ63.bump 26) (σ63.next+21) (.rw [.int .u8 v70]) λσ71=>
apW 1 1 (σ63.next+22) σ71 v64 (.slice (σ63.next+21) 0 1 (.ex 1)) λv72 σ73=>
nfW 1 a0 λv74=>
stW 1 σ73 v74 v72 λσ75=>
iW (v62+1) λv76=>
next61 v76 (σ75.bump 3)) (
k8 (σ63.bump 3))
def z06 (a0:AV) (Q:AV->Mem->Prop) (k8:Mem->Prop) (v35:Int) (v38:Int) (σ40:Mem):Prop:=
lfI 3 (σ40.bump 5) a0 λv41=>
ifB (decide (v41≠0)) (
Q (.tup []) (σ40.bump 5)) (
z5 PG z3A [.int .i64 v38] (σ40.bump 12) λv42 σ43=>
tpI v42 0 λv44=>
tpI v42 1 λv45=>
z5 PG z8 [a0,.int .i64 v45] (σ43.bump 6) λv46 σ47=>
zq .i64 v46 λv48=>
iW (v44+v48) λv49=>
lfI 3 (σ47.bump 5) a0 λv50=>
ifB (decide (v50≠0)) (
Q (.tup []) (σ47.bump 5)) (
lfW 1 (σ47.bump 12) a0 λv51=>
zx v51 λv52=>
ifB (decide (v52<v49)) (
nfW 3 a0 λv53=>
stW 1 (σ47.bump 16) v53 (.int .i64 15) λσ54=>
Q (.tup []) σ54) (
lfW 1 (σ47.bump 24) a0 λv55=>
zx v55 λv56=>
iW (v56+v35) λv57=>
lfI 2 (σ47.bump 24) a0 λv58=>
ifB (decide (v58<v57)) (
nfW 3 a0 λv59=>
stW 1 (σ47.bump 28) v59 (.int .i64 5) λσ60=>
Q (.tup []) σ60) (
zj [tI] (z2E a0 k8 v35 v49) 0 (σ47.bump 25)))))
def z5D (a0:AV) (k8:Mem->Prop) (v35:Int) (v89:Int) (next101:Int->Mem->Prop) (v102:Int) (σ103:Mem):Prop:=
ifB (decide (v102<v35)) (
lfW 1 (σ103.bump 26) a0 λv104=>
lfW 1 (σ103.bump 26) a0 λv105=>
lfW 1 (σ103.bump 26) a0 λv106=>
zx v106 λv107=>
iW (v107-v89) λv108=>
zz 1 v105 v108 λv109=>
ldU (σ103.bump 26) v109 λv110=>
z15 (σ103.bump 26) (σ103.next+21) (.rw [.int .u8 v110]) λσ111=>
apW 1 1 (σ103.next+22) σ111 v104 (.slice (σ103.next+21) 0 1 (.ex 1)) λv112 σ113=>
nfW 1 a0 λv114=>
stW 1 σ113 v114 v112 λσ115=>
iW (v102+1) λv116=>
next101 v116 (σ115.bump 3)) (
k8 (σ103.bump 3))
def z19 (a0:AV) (Q:AV->Mem->Prop) (k8:Mem->Prop) (v35:Int) (v38:Int) (σ80:Mem):Prop:=
lfI 3 (σ80.bump 5) a0 λv81=>
ifB (decide (v81≠0)) (
Q (.tup []) (σ80.bump 5)) (
z5 PG z3A [.int .i64 v38] (σ80.bump 12) λv82 σ83=>
tpI v82 0 λv84=>
tpI v82 1 λv85=>
z5 PG z8 [a0,.int .i64 v85] (σ83.bump 6) λv86 σ87=>
zq .i64 v86 λv88=>
iW (v84+v88) λv89=>
lfI 3 (σ87.bump 5) a0 λv90=>
ifB (decide (v90≠0)) (
Q (.tup []) (σ87.bump 5)) (
lfW 1 (σ87.bump 12) a0 λv91=>
zx v91 λv92=>
ifB (decide (v92<v89)) (
nfW 3 a0 λv93=>
stW 1 (σ87.bump 16) v93 (.int .i64 15) λσ94=>
Q (.tup []) σ94) (
lfW 1 (σ87.bump 24) a0 λv95=>
zx v95 λv96=>
iW (v96+v35) λv97=>
lfI 2 (σ87.bump 24) a0 λv98=>
ifB (decide (v98<v97)) (
nfW 3 a0 λv99=>
stW 1 (σ87.bump 28) v99 (.int .i64 5) λσ100=>
Q (.tup []) σ100) (
zj [tI] (z5D a0 k8 v35 v89) 0 (σ87.bump 25)))))
def zJ (a0:AV) (Q:AV->Mem->Prop) (v0:AV) (v2:AV) (next4:Mem->Prop) (σ5:Mem):Prop:=
lfI 3 (σ5.bump 5) a0 λv6=>
ifB (decide (v6=0)) (
zd [] (λ(k8:Mem->Prop)=>
z5 PG zK [a0,v0] (σ5.bump 9) λv9 σ10=>
zq .i64 v9 λv11=>
lfI 3 (σ10.bump 9) a0 λv12=>
ifB (decide (v12≠0)) (
Q (.tup []) (σ10.bump 9)) (
ifB (decide (v11=256)) (
Q (.tup []) (σ10.bump 9)) (
ifB (decide (v11<256)) (
lfW 1 (σ10.bump 22) a0 λv13=>
zx v13 λv14=>
iW (v14+1) λv15=>
lfI 2 (σ10.bump 22) a0 λv16=>
ifB (decide (v16<v15)) (
nfW 3 a0 λv17=>
stW 1 (σ10.bump 26) v17 (.int .i64 5) λσ18=>
Q (.tup []) σ18) (
lfW 1 (σ10.bump 34) a0 λv19=>
wrW .u8 v11 λv20=>
z15 (σ10.bump 34) (σ10.next+29) (.rw [.int .u8 v20]) λσ21=>
apW 1 1 (σ10.next+30) σ21 v19 (.slice (σ10.next+29) 0 1 (.ex 1)) λv22 σ23=>
nfW 1 a0 λv24=>
stW 1 σ23 v24 v22 λσ25=>
k8 σ25)) (
ifB (decide (285<v11)) (
nfW 3 a0 λv26=>
stW 1 (σ10.bump 17) v26 (.int .i64 12) λσ27=>
Q (.tup []) σ27) (
z5 PG z6E [.int .i64 v11] (σ10.bump 20) λv28 σ29=>
tpI v28 0 λv30=>
tpI v28 1 λv31=>
z5 PG z8 [a0,.int .i64 v31] (σ29.bump 6) λv32 σ33=>
zq .i64 v32 λv34=>
iW (v30+v34) λv35=>
z5 PG zK [a0,v2] (σ33.bump 4) λv36 σ37=>
zq .i64 v36 λv38=>
lfI 3 (σ37.bump 9) a0 λv39=>
ifB (decide (v39=0)) (
zd [] (λ(k77:Mem->Prop)=>
ifB (decide (29<v38)) (
nfW 3 a0 λv78=>
stW 1 (σ37.bump 13) v78 (.int .i64 12) λσ79=>
k77 σ79) (
k77 (σ37.bump 9))) (z06 a0 Q k8 v35 v38)) (
zd [] (λ(k117:Mem->Prop)=>
k117 (σ37.bump 9)) (z19 a0 Q k8 v35 v38))))))) (z1b next4)) (
Q (.tup []) (σ5.bump 5))
def z3O (a0:AV) (a1:AV) (a2:AV) (σ:Mem) (Q:AV->Mem->Prop):Prop:=
z5 PG zH [a0,a1] (σ.bump 4) λv0 σ1=>
z5 PG zH [a0,a2] (σ1.bump 4) λv2 σ3=>
zj [] (zJ a0 Q v0 v2) σ3
theorem z6F {a0 a1 a2 σ Q} (h:σ.Live->z3O a0 a1 a2 σ Q):z1 PG z0x [a0,a1,a2] σ Q:=
 .of_sem [none,none,none,some ([0,6,7],[]),none,none,some ([0,6,7],[]),none,none,none,none,none,none,none,none,none,none,none,none,none,none,none,none,some ([0,6,7,9,11],[]),none,none,none,none,none,none,none,none,none,none,none,none,none,none,none,some ([0,6,7,9,12],[13]),none,none,none,none,none] [(23,tI),(27,tI),(31,tI),(48,tI),(72,tI),(73,tI),(77,tI),(81,tI),(85,tI),(97,tI),(102,tI),(103,tI),(107,tI),(112,tI),(134,tI),(13,tI),(161,tU)] mixed (by kernel_rfl) (by kernel_rfl) h
/-! (*vitrine/vitrineref03.inflater).lens -/
def z0L (a0:AV) (Q:AV->Mem->Prop) (v3:Int) (v28:AV) (σ29:Mem):Prop:=
lfI 3 (σ29.bump 5) a0 λv30=>
ifB (decide (v30≠0)) (
Q (.tup [.nils,.nils]) (σ29.bump 7)) (
zcJ 1 v28 none (some v3) λv31=>
zcJ 1 v28 (some v3) none λv32=>
Q (.tup [v31,v32]) (σ29.bump 13))
def z1I (next34:AV->Mem->Prop) (v51:AV) (σ52:Mem):Prop:=
next34 v51 σ52
def z0z (a0:AV) (v43:Int) (v44:Int) (k53:AV->Mem->Prop) (next54:AV->Int->Mem->Prop) (v55:AV) (v56:Int) (σ57:Mem):Prop:=
ifB (decide (v56<v44)) (
z8h a0 λv58=>
z6C 3 v58 λv59=>
ldI (σ57.bump 10) v59 λv60=>
ifB (decide (v60=0)) (
z15 (σ57.bump 15) (σ57.next+12) (.rw [.int .i64 v43]) λσ61=>
apW 1 8 (σ57.next+13) σ61 v55 (.slice (σ57.next+12) 0 1 (.ex 1)) λv62 σ63=>
iW (v56+1) λv64=>
next54 v62 v64 (σ63.bump 3)) (
k53 v55 (σ57.bump 10))) (
k53 v55 (σ57.bump 10))
def z1J (a0:AV) (next34:AV->Mem->Prop) (v35:AV) (v43:Int) (v44:Int) (σ50:Mem):Prop:=
zd [.v] (λ(k53:AV->Mem->Prop)=>
zj [.v,tI] (z0z a0 v43 v44 k53) v35 0 (σ50.bump 1)) (z1I next34)
def z3L (next34:AV->Mem->Prop) (v69:AV) (σ70:Mem):Prop:=
next34 v69 σ70
def z74 (a0:AV) (v43:Int) (v44:Int) (k71:AV->Mem->Prop) (next72:AV->Int->Mem->Prop) (v73:AV) (v74:Int) (σ75:Mem):Prop:=
ifB (decide (v74<v44)) (
z8h a0 λv76=>
z6C 3 v76 λv77=>
ldI (σ75.bump 10) v77 λv78=>
ifB (decide (v78=0)) (
z15 (σ75.bump 15) (σ75.next+12) (.rw [.int .i64 v43]) λσ79=>
apW 1 8 (σ75.next+13) σ79 v73 (.slice (σ75.next+12) 0 1 (.ex 1)) λv80 σ81=>
iW (v74+1) λv82=>
next72 v80 v82 (σ81.bump 3)) (
k71 v73 (σ75.bump 10))) (
k71 v73 (σ75.bump 10))
def z3K (a0:AV) (next34:AV->Mem->Prop) (v35:AV) (v43:Int) (v44:Int) (σ68:Mem):Prop:=
zd [.v] (λ(k71:AV->Mem->Prop)=>
zj [.v,tI] (z74 a0 v43 v44 k71) v35 0 (σ68.bump 1)) (z3L next34)
def z0y (a0:AV) (v3:Int) (v7:Int) (next34:AV->Mem->Prop) (v35:AV) (v43:Int) (v44:Int) (σ45:Mem):Prop:=
lfI 3 (σ45.bump 15) a0 λv46=>
ifB (decide (v46=0)) (
zx v35 λv47=>
iW (v47+v44) λv48=>
iW (v3+v7) λv49=>
zd [] (λ(k65:Mem->Prop)=>
ifB (decide (v49<v48)) (
nfW 3 a0 λv66=>
stW 1 (σ45.bump 19) v66 (.int .i64 12) λσ67=>
k65 σ67) (
k65 (σ45.bump 15))) (z1J a0 next34 v35 v43 v44)) (
zd [] (λ(k83:Mem->Prop)=>
k83 (σ45.bump 15)) (z3K a0 next34 v35 v43 v44))
def z0E (k84:Int->Int->Mem->Prop) (v85:Int) (v86:Int) (σ87:Mem):Prop:=
k84 v85 v86 σ87
def z3P (a0:AV) (k88:Int->Int->Mem->Prop) (v94:Int) (σ95:Mem):Prop:=
z5 PG z8 [a0,.int .i64 2] (σ95.bump 4) λv96 σ97=>
zq .i64 v96 λv98=>
iW (3+v98) λv99=>
k88 v94 v99 σ97
def z78 (a0:AV) (k88:Int->Int->Mem->Prop) (v106:Int) (σ107:Mem):Prop:=
z5 PG z8 [a0,.int .i64 2] (σ107.bump 4) λv108 σ109=>
zq .i64 v108 λv110=>
iW (3+v110) λv111=>
k88 v106 v111 σ109
def z1q (k88:Int->Int->Mem->Prop) (v117:Int) (σ118:Mem):Prop:=
k88 0 v117 σ118
def z0u (a0:AV) (Q:AV->Mem->Prop) (v3:Int) (v7:Int) (v26:AV) (k33:AV->Mem->Prop) (next34:AV->Mem->Prop) (v35:AV) (σ36:Mem):Prop:=
lfI 3 (σ36.bump 13) a0 λv37=>
ifB (decide (v37=0)) (
zx v35 λv38=>
iW (v3+v7) λv39=>
ifB (decide (v38<v39)) (
z5 PG zK [a0,v26] (σ36.bump 17) λv40 σ41=>
zq .i64 v40 λv42=>
zd [tI,tI] (λ(k84:Int->Int->Mem->Prop)=>
ifB (decide (v42<16)) (
k84 v42 1 (σ41.bump 7)) (
zd [tI,tI] (λ(k88:Int->Int->Mem->Prop)=>
ifB (decide (v42=16)) (
lfI 3 (σ41.bump 18) a0 λv89=>
ifB (decide (v89=0)) (
zx v35 λv90=>
ifB (decide (v90=0)) (
nfW 3 a0 λv91=>
stW 1 (σ41.bump 22) v91 (.int .i64 12) λσ92=>
Q (.tup [.nils,.nils]) (σ92.bump 2)) (
zx v35 λv93=>
zd [tI] (λ(k100:Int->Mem->Prop)=>
ifB (decide (0<v93)) (
zx v35 λv101=>
iW (v101-1) λv102=>
zz 1 v35 v102 λv103=>
ldI (σ41.bump 28) v103 λv104=>
k100 v104 (σ41.bump 28)) (
k100 0 (σ41.bump 21))) (z3P a0 k88))) (
zx v35 λv105=>
zd [tI] (λ(k112:Int->Mem->Prop)=>
ifB (decide (0<v105)) (
zx v35 λv113=>
iW (v113-1) λv114=>
zz 1 v35 v114 λv115=>
ldI (σ41.bump 28) v115 λv116=>
k112 v116 (σ41.bump 28)) (
k112 0 (σ41.bump 21))) (z78 a0 k88))) (
zd [tI] (λ(k119:Int->Mem->Prop)=>
ifB (decide (v42=17)) (
z5 PG z8 [a0,.int .i64 3] (σ41.bump 15) λv120 σ121=>
zq .i64 v120 λv122=>
iW (3+v122) λv123=>
k119 v123 σ121) (
z5 PG z8 [a0,.int .i64 7] (σ41.bump 15) λv124 σ125=>
zq .i64 v124 λv126=>
iW (11+v126) λv127=>
k119 v127 σ125)) (z1q k88))) (z0E k84))) (z0y a0 v3 v7 next34 v35)) (
k33 v35 (σ36.bump 13))) (
k33 v35 (σ36.bump 13))
def z3H (a0:AV) (Q:AV->Mem->Prop) (v3:Int) (v7:Int) (σ9:Mem) (v11:Int) (next13:Int->Mem->Prop) (v14:Int) (σ15:Mem):Prop:=
ifB (decide (v14<v11)) (
z5 PG z7I [] (σ15.bump 12) λv16 σ17=>
zz 1 v16 v14 λv18=>
ldI σ17 v18 λv19=>
z5 PG z8 [a0,.int .i64 3] σ17 λv20 σ21=>
zgF.sameW σ17 σ21 v18 (
zq .i64 v20 λv22=>
zz 1 (.slice σ9.next 0 (Int.toNat 19) (.ex (Int.toNat 19))) v19 λv23=>
stW 1 σ21 v23 (.int .i64 v22) λσ24=>
iW (v14+1) λv25=>
next13 v25 (σ24.bump 3))) (
z5 PG zH [a0,.slice σ9.next 0 (Int.toNat 19) (.ex (Int.toNat 19))] (σ15.bump 7) λv26 σ27=>
zd [.v] (λ(k33:AV->Mem->Prop)=>
zj [.v] (z0u a0 Q v3 v7 v26 k33) .nils (σ27.bump 1)) (z0L a0 Q v3))
def z4U (a0:AV) (σ:Mem) (Q:AV->Mem->Prop):Prop:=
z5 PG z8 [a0,.int .i64 5] (σ.bump 6) λv0 σ1=>
zq .i64 v0 λv2=>
iW (v2+257) λv3=>
z5 PG z8 [a0,.int .i64 5] (σ1.bump 4) λv4 σ5=>
zq .i64 v4 λv6=>
iW (v6+1) λv7=>
z5 PG z8 [a0,.int .i64 4] (σ5.bump 4) λv8 σ9=>
zq .i64 v8 λv10=>
iW (v10+4) λv11=>
zeH 8 19 19 (
z15 (σ9.bump 2) σ9.next (.rw (repl (Int.toNat 19) [.int .i64 0])) λσ12=>
zj [tI] (z3H a0 Q v3 v7 σ9 v11) 0 (σ12.bump 1))
theorem z8e {a0 σ Q} (h:σ.Live->z4U a0 σ Q):z1 PG z2w [a0] σ Q:=
 .of_sem [none,none,none,none,none,none,none,some ([0,4,5,6,7],[8]),none,none,none,none,none,none,none,some ([0,4],[10]),some ([0,4,5,9],[10]),none,none,none,none,none,none,none,none,some ([0,4,5,9,10],[12,13]),none,none,some ([0,4,5,9,10],[12,13]),none,none,none,none,none,some ([0,4,5,9,10],[12]),none,none,none,some ([0,4,5,9,10,12],[13]),none,none,none,some ([0,4,5,9,10,12,13],[]),none,none,some ([0,4,5,9],[10]),some ([0,4,5,9,12,13],[10,14]),none,none,none,none,none,none,none,none,none] [(16,tI),(19,tI),(22,tI),(8,tI),(34,tI),(36,tI),(44,tI),(56,tI),(12,tI),(13,tI),(70,tI),(88,tI),(90,tI),(96,tI),(58,tI),(101,tI),(14,tI),(123,tI),(135,tI)] mixed (by kernel_rfl) (by kernel_rfl) h
/-! (*vitrine/vitrineref01.Reader).Bits -/
def z4k (a0:AV) (a1:Int) (Q:AV->Mem->Prop) (next3:Int->Int->Mem->Prop) (v4:Int) (v5:Int) (σ6:Mem):Prop:=
ifB (decide (v5<a1)) (
lfS 0 (σ6.bump 30) a0 λv7=>
lfI 1 (σ6.bump 30) a0 λv8=>
iW (v8+v5) λv9=>
zgH .i64 v9 8 λv10=>
z56 v7 v10 λv11=>
lfI 1 (σ6.bump 30) a0 λv12=>
iW (v12+v5) λv13=>
zhX v13 8 λv14=>
zlg .u8 v11 v14 λv15=>
z4j (zB .and .u8 v15 1) λv16=>
iW v16 λv17=>
zgu .i64 v17 v5 λv18=>
z4j (zB .or .i64 v4 v18) λv19=>
iW (v5+1) λv20=>
next3 v19 v20 (σ6.bump 33)) (
lfI 1 (σ6.bump 13) a0 λv21=>
iW (v21+a1) λv22=>
nfW 1 a0 λv23=>
stW 1 (σ6.bump 13) v23 (.int .i64 v22) λσ24=>
Q (.tup [.int .i64 v4,.int .i64 0]) (σ24.bump 3))
def z5M (a0:AV) (a1:Int) (σ:Mem) (Q:AV->Mem->Prop):Prop:=
ifB (decide (a1<0)) (
Q (.tup [.int .i64 0,.int .i64 1]) (σ.bump 10)) (
ifB (decide (24<a1)) (
Q (.tup [.int .i64 0,.int .i64 1]) (σ.bump 10)) (
z5 PG z22 [a0] (σ.bump 12) λv0 σ1=>
zq .i64 v0 λv2=>
ifB (decide (v2<a1)) (
Q (.tup [.int .i64 0,.int .i64 3]) (σ1.bump 2)) (
zj [tI,tI] (z4k a0 a1 Q) 0 0 (σ1.bump 2))))
theorem z9v {a0 a1 σ Q} (h:σ.Live->z5M a0 a1 σ Q):z1 PG z1e [a0,.int .i64 a1] σ Q:=
 .of_sem [none,none,none,none,none,none,none,none,none,none,some ([0,1],[6,7]),none,none,none,none,none,none,none] [(16,tI),(6,tI),(7,tI),(27,.s),(31,tI),(39,tI),(53,tI)] mixed (by kernel_rfl) (by kernel_rfl) h
/-! (*vitrine/vitrineref03.inflater).bytes -/
def z2k (a0:AV) (a1:Int) (σ:Mem) (Q:AV->Mem->Prop):Prop:=
lfI 3 (σ.bump 6) a0 λv0=>
ifB (decide (v0≠0)) (
Q (.str ⟨#[]⟩) (σ.bump 7)) (
lfW 0 (σ.bump 17) a0 λv1=>
z5 PG z3b [v1,.int .i64 a1] (σ.bump 17) λv2 σ3=>
tpS v2 0 λv4=>
tpI v2 1 λv5=>
nfW 3 a0 λv6=>
stW 1 (σ3.bump 5) v6 (.int .i64 v5) λσ7=>
Q (.str v4) (σ7.bump 2))
theorem z4a {a0 a1 σ Q} (h:σ.Live->z2k a0 a1 σ Q):z1 PG zR [a0,.int .i64 a1] σ Q:=
 .of_sem [none,none,none,none,none,none,none] [(10,tI),(19,.s),(20,tI)] mixed (by kernel_rfl) (by kernel_rfl) h
/-! (*vitrine/vitrineref03.inflater).table -/
def z2l (a0:AV) (a1:AV) (σ:Mem) (Q:AV->Mem->Prop):Prop:=
lfI 3 (σ.bump 6) a0 λv0=>
ifB (decide (v0≠0)) (
Q .nilp (σ.bump 7)) (
z5 PG z8x [a1] (σ.bump 13) λv1 σ2=>
z6T v1 0 λv3=>
tpI v1 1 λv4=>
nfW 3 a0 λv5=>
stW 1 (σ2.bump 5) v5 (.int .i64 v4) λσ6=>
Q v3 (σ6.bump 2))
theorem z4c {a0 a1 σ Q} (h:σ.Live->z2l a0 a1 σ Q):z1 PG zH [a0,a1] σ Q:=
 .of_sem [none,none,none,none,none,none,none] [(10,tI),(16,tI)] mixed (by kernel_rfl) (by kernel_rfl) h
/-! (*vitrine/vitrineref03.inflater).next -/
def z2F (a0:AV) (a1:AV) (σ:Mem) (Q:AV->Mem->Prop):Prop:=
lfI 3 (σ.bump 6) a0 λv0=>
ifB (decide (v0≠0)) (
Q (.int .i64 0) (σ.bump 7)) (
lfW 0 (σ.bump 17) a0 λv1=>
z5 PG z4d [a1,v1] (σ.bump 17) λv2 σ3=>
tpI v2 0 λv4=>
tpI v2 1 λv5=>
nfW 3 a0 λv6=>
stW 1 (σ3.bump 5) v6 (.int .i64 v5) λσ7=>
Q (.int .i64 v4) (σ7.bump 2))
theorem z4m {a0 a1 σ Q} (h:σ.Live->z2F a0 a1 σ Q):z1 PG zK [a0,a1] σ Q:=
 .of_sem [none,none,none,none,none,none,none] [(10,tI),(19,tI),(20,tI)] mixed (by kernel_rfl) (by kernel_rfl) h
/-! (*vitrine/vitrineref01.Reader).Left -/
def z5B (a0:AV) (σ:Mem) (Q:AV->Mem->Prop):Prop:=
lfS 0 (σ.bump 13) a0 λv0=>
iW (8*(v0.size:Int)) λv1=>
lfI 1 (σ.bump 13) a0 λv2=>
iW (v1-v2) λv3=>
Q (.int .i64 v3) (σ.bump 13)
theorem z9r {a0 σ Q} (h:σ.Live->z5B a0 σ Q):z1 PG z22 [a0] σ Q:=
 .of_sem [none,none] [(6,.s),(12,tI)] mixed (by kernel_rfl) (by kernel_rfl) h
/-! (*vitrine/vitrineref01.Reader).Bytes -/
def z5k (a0:AV) (a1:Int) (σ:Mem) (Q:AV->Mem->Prop):Prop:=
ifB (decide (a1<0)) (
Q (.tup [.str ⟨#[]⟩,.int .i64 1]) (σ.bump 6)) (
lfI 1 (σ.bump 15) a0 λv0=>
iW (v0+7) λv1=>
zgH .i64 v1 8 λv2=>
iW (v2*8) λv3=>
nfW 1 a0 λv4=>
stW 1 (σ.bump 15) v4 (.int .i64 v3) λσ5=>
z5 PG z22 [a0] (σ5.bump 5) λv6 σ7=>
zq .i64 v6 λv8=>
zgH .i64 v8 8 λv9=>
ifB (decide (v9<a1)) (
Q (.tup [.str ⟨#[]⟩,.int .i64 3]) (σ7.bump 2)) (
lfS 0 (σ7.bump 18) a0 λv10=>
lfI 1 (σ7.bump 18) a0 λv11=>
zgH .i64 v11 8 λv12=>
lfI 1 (σ7.bump 18) a0 λv13=>
zgH .i64 v13 8 λv14=>
iW (v14+a1) λv15=>
zi5 v10 v12 v15 λv16=>
lfI 1 (σ7.bump 29) a0 λv17=>
iW (8*a1) λv18=>
iW (v17+v18) λv19=>
nfW 1 a0 λv20=>
stW 1 (σ7.bump 29) v20 (.int .i64 v19) λσ21=>
Q (.tup [.str v16,.int .i64 0]) (σ21.bump 3)))
theorem z8o {a0 a1 σ Q} (h:σ.Live->z5k a0 a1 σ Q):z1 PG z3b [a0,.int .i64 a1] σ Q:=
 .of_sem [none,none,none,none,none,none,none,none,none,none,none] [(13,tI),(21,tI),(27,.s),(31,tI),(36,tI),(45,tI)] mixed (by kernel_rfl) (by kernel_rfl) h
/-! (*vitrine/vitrineref02.Table).Next -/
def z4Z (a0:AV) (Q:AV->Mem->Prop) (next10:Int->Int->Mem->Prop) (v12:Int) (v19:Int) (next20:Int->Mem->Prop) (v21:Int) (σ22:Mem):Prop:=
lfW 0 (σ22.bump 7) a0 λv23=>
zx v23 λv24=>
ifB (decide (v21<v24)) (
lfW 0 (σ22.bump 27) a0 λv25=>
zz 1 v25 v21 λv26=>
ldI (σ22.bump 27) v26 λv27=>
ifB (decide (v27=v12)) (
z8h a0 λv28=>
z6C 1 v28 λv29=>
ldW (σ22.bump 27) v29 λv30=>
zz 1 v30 v21 λv31=>
ldI (σ22.bump 27) v31 λv32=>
ifB (decide (v32=v19)) (
Q (.tup [.int .i64 v21,.int .i64 0]) (σ22.bump 30)) (
iW (v21+1) λv33=>
next20 v33 (σ22.bump 30))) (
iW (v21+1) λv34=>
next20 v34 (σ22.bump 30))) (
iW (v12+1) λv35=>
next10 v19 v35 (σ22.bump 10))
def z4L (a0:AV) (a1:AV) (Q:AV->Mem->Prop) (v8:Int) (next10:Int->Int->Mem->Prop) (v11:Int) (v12:Int) (σ13:Mem):Prop:=
ifB (decide (v12<=v8)) (
z5 PG z1e [a1,.int .i64 1] (σ13.bump 10) λv14 σ15=>
tpI v14 0 λv16=>
tpI v14 1 λv17=>
ifB (decide (v17≠0)) (
Q (.tup [.int .i64 0,.int .i64 v17]) (σ15.bump 5)) (
iW (2*v11) λv18=>
iW (v18+v16) λv19=>
zj [tI] (z4Z a0 Q next10 v12 v19) 0 (σ15.bump 8))) (
Q (.tup [.int .i64 0,.int .i64 12]) (σ13.bump 5))
def z2y (a0:AV) (a1:AV) (Q:AV->Mem->Prop) (v8:Int) (σ9:Mem):Prop:=
zj [tI,tI] (z4L a0 a1 Q v8) 0 1 (σ9.bump 2)
def z8X (a0:AV) (Q:AV->Mem->Prop) (next39:Int->Int->Mem->Prop) (v41:Int) (v48:Int) (next49:Int->Mem->Prop) (v50:Int) (σ51:Mem):Prop:=
lfW 0 (σ51.bump 7) a0 λv52=>
zx v52 λv53=>
ifB (decide (v50<v53)) (
lfW 0 (σ51.bump 27) a0 λv54=>
zz 1 v54 v50 λv55=>
ldI (σ51.bump 27) v55 λv56=>
ifB (decide (v56=v41)) (
z8h a0 λv57=>
z6C 1 v57 λv58=>
ldW (σ51.bump 27) v58 λv59=>
zz 1 v59 v50 λv60=>
ldI (σ51.bump 27) v60 λv61=>
ifB (decide (v61=v48)) (
Q (.tup [.int .i64 v50,.int .i64 0]) (σ51.bump 30)) (
iW (v50+1) λv62=>
next49 v62 (σ51.bump 30))) (
iW (v50+1) λv63=>
next49 v63 (σ51.bump 30))) (
iW (v41+1) λv64=>
next39 v48 v64 (σ51.bump 10))
def z8j (a0:AV) (a1:AV) (Q:AV->Mem->Prop) (v37:Int) (next39:Int->Int->Mem->Prop) (v40:Int) (v41:Int) (σ42:Mem):Prop:=
ifB (decide (v41<=v37)) (
z5 PG z1e [a1,.int .i64 1] (σ42.bump 10) λv43 σ44=>
tpI v43 0 λv45=>
tpI v43 1 λv46=>
ifB (decide (v46≠0)) (
Q (.tup [.int .i64 0,.int .i64 v46]) (σ44.bump 5)) (
iW (2*v40) λv47=>
iW (v47+v45) λv48=>
zj [tI] (z8X a0 Q next39 v41 v48) 0 (σ44.bump 8))) (
Q (.tup [.int .i64 0,.int .i64 12]) (σ42.bump 5))
def z96 (a0:AV) (a1:AV) (Q:AV->Mem->Prop) (v37:Int) (σ38:Mem):Prop:=
zj [tI,tI] (z8j a0 a1 Q v37) 0 1 (σ38.bump 2)
def z4W (a0:AV) (a1:AV) (Q:AV->Mem->Prop) (v4:Int) (v5:Int) (v6:Int) (σ7:Mem):Prop:=
ifB (decide (v4=1)) (
zd [tI] (λ(k36:Int->Mem->Prop)=>
ifB (decide (v5=1)) (
k36 1 (σ7.bump 7)) (
k36 v6 (σ7.bump 6))) (z2y a0 a1 Q)) (
zd [tI] (λ(k65:Int->Mem->Prop)=>
k65 v6 (σ7.bump 6)) (z96 a0 a1 Q))
def z6s (a0:AV) (a1:AV) (σ:Mem) (Q:AV->Mem->Prop):Prop:=
lfW 0 (σ.bump 14) a0 λv0=>
z5 PG z7T [v0] (σ.bump 14) λv1 σ2=>
tpI v1 0 λv3=>
tpI v1 1 λv4=>
tpI v1 2 λv5=>
zd [tI] (λ(k66:Int->Mem->Prop)=>
ifB (decide (v4=0)) (
k66 0 (σ2.bump 4)) (
k66 15 (σ2.bump 3))) (z4W a0 a1 Q v4 v5)
theorem zaq {a0 a1 σ Q} (h:σ.Live->z6s a0 a1 σ Q):z1 PG z4d [a0,a1] σ Q:=
 .of_sem [none,none,none,none,some ([0,1,7,8],[9]),none,none,some ([0,1],[9]),none,none,none,none,some ([0,1,9],[10,11]),none,none,none,none,none,none,none,none,none,none,some ([0,1,9,10,11],[14]),none,none,none,none,none,none,none,none,none] [(21,tI),(22,tI),(23,tI),(9,tI),(10,tI),(11,tI),(40,tI),(41,tI),(14,tI),(64,tI),(74,tI)] mixed (by kernel_rfl) (by kernel_rfl) h
end Go.Vit
