import Derived.Test.YtloeboiajgfigaaGreatV7L
set_option linter.unusedVariables false
set_option linter.unusedSimpArgs false
set_option maxRecDepth 100000
namespace Go.Vit
open Go.Proofs
/-! vitrine/vitrinelaw06.ZlibWraps -/
def z6X (a0:ByteArray) (σ:Mem) (Q:AV->Mem->Prop):Prop:=
ifB (decide (10000<(a0.size:Int))) (
z6 PG z3D [] (σ.bump 15) λv0 σ1=>
z7G v0 λv2=>
Q (.bool v2) σ1) (
z6 PG z7r [.str a0] (σ.bump 15) λv3 σ4=>
z3i v3 λv5=>
z6 PG z8n [.str a0] σ4 λv6 σ7=>
z3i v6 λv8=>
ifB (decide (v5=v8)) (
z6 PG z3D [] σ7 λv9 σ10=>
z7G v9 λv11=>
Q (.bool v11) σ10) (
Q (.bool false) σ7))
theorem zaS {a0 σ Q} (h:σ.Live->z6X a0 σ Q):z1 PG z6Q [.str a0] σ Q:=
 .of_sem [none,none] [(8,.s),(10,.s),(14,.b)] mixed (by kernel_rfl) (by kernel_rfl) h
/-! vitrine/vitrinelaw06.ZlibUnwraps -/
/-! vitrine/zlib.Wrap -/
def zer (a0:ByteArray) (σ:Mem) (Q:AV->Mem->Prop):Prop:=
z6 PG z4f [.str a0] (σ.bump 8) λv0 σ1=>
z3i v0 λv2=>
zqe ⟨#[120,1]⟩ v2 λv3=>
z6 PG z9n [.str a0] σ1 λv4 σ5=>
z3i v4 λv6=>
zqe v3 v6 λv7=>
Q (.str v7) σ5
theorem zie {a0 σ Q} (h:σ.Live->zer a0 σ Q):z1 PG z7r [.str a0] σ Q:=
 .of_sem [none,none] [(4,.s),(7,.s)] mixed (by kernel_rfl) (by kernel_rfl) h
/-! vitrine/vitrineref06.Wrap -/
def zcR (a0:ByteArray) (σ:Mem) (Q:AV->Mem->Prop):Prop:=
z6 PG z5B [.str a0] (σ.bump 9) λv0 σ1=>
z3i v0 λv2=>
zqe ⟨#[120,1]⟩ v2 λv3=>
z6 PG z7F [.str a0] σ1 λv4 σ5=>
zB .i64 v4 λv6=>
z6 PG z8s [.int .i64 v6] σ5 λv7 σ8=>
z3i v7 λv9=>
zqe v3 v9 λv10=>
Q (.str v10) σ8
theorem zhE {a0 σ Q} (h:σ.Live->zcR a0 σ Q):z1 PG z8n [.str a0] σ Q:=
 .of_sem [none,none] [(4,.s),(7,tI),(8,.s)] mixed (by kernel_rfl) (by kernel_rfl) h
/-! vitrine/vitrinelaw06.awake -/
def zaQ (σ:Mem) (Q:AV->Mem->Prop):Prop:=
z6 PG z3H [.str ⟨#[120,1]⟩,.int .i64 9] (σ.bump 7) λv0 σ1=>
tpS v0 0 λv2=>
tpI v0 1 λv3=>
z6 PG z3H [.str ⟨#[120,2]⟩,.int .i64 9] (σ1.bump 6) λv4 σ5=>
tpS v4 0 λv6=>
tpI v4 1 λv7=>
z6 PG z3H [.str ⟨#[120,1,3,0,0,0,0,2]⟩,.int .i64 9] (σ5.bump 6) λv8 σ9=>
tpS v8 0 λv10=>
tpI v8 1 λv11=>
z6 PG z7r [.str ⟨#[]⟩] (σ9.bump 15) λv12 σ13=>
z3i v12 λv14=>
ifB (decide (v14=⟨#[120,1,3,0,0,0,0,1]⟩)) (
ifB (decide (v3=3)) (
ifB (decide (v7=16)) (
Q (.bool (decide (v11=17))) σ13) (
Q (.bool false) σ13)) (
Q (.bool false) σ13)) (
Q (.bool false) σ13)
theorem zfD {σ Q} (h:σ.Live->zaQ σ Q):z1 PG z3D [] σ Q:=
 .of_sem [none,none,none,none,none] [(9,.s),(10,tI),(13,.s),(14,tI),(17,.s),(18,tI),(19,.s)] mixed (by kernel_rfl) (by kernel_rfl) h
/-! vitrine/zlib.Unwrap -/
def zby (a0:ByteArray) (a1:Int) (σ:Mem) (Q:AV->Mem->Prop):Prop:=
ifB (decide ((a0.size:Int)<2)) (
Q (.tup [.str ⟨#[]⟩,.int .i64 3]) (σ.bump 8)) (
z6L a0 0 λv0=>
iW v0 λv1=>
z6L a0 1 λv2=>
iW v2 λv3=>
z6 PG z8o [.int .i64 v1,.int .i64 v3] (σ.bump 15) λv4 σ5=>
z7G v4 λv6=>
ifB (!v6) (
Q (.tup [.str ⟨#[]⟩,.int .i64 16]) (σ5.bump 2)) (
zkD a0 2 a0.size λv7=>
z6 PG z43 [.str v7,.int .i64 a1] (σ5.bump 11) λv8 σ9=>
tpS v8 0 λv10=>
tpI v8 1 λv11=>
tpI v8 2 λv12=>
ifB (decide (v12≠0)) (
Q (.tup [.str ⟨#[]⟩,.int .i64 v12]) (σ9.bump 5)) (
iW (2+v11) λv13=>
zkD a0 v13 a0.size λv14=>
ifB (decide ((v14.size:Int)<4)) (
Q (.tup [.str ⟨#[]⟩,.int .i64 3]) (σ9.bump 13)) (
zkD v14 0 4 λv15=>
z6 PG z9n [.str v10] (σ9.bump 17) λv16 σ17=>
z3i v16 λv18=>
ifB (decide (v15≠v18)) (
Q (.tup [.str ⟨#[]⟩,.int .i64 17]) (σ17.bump 2)) (
ifB (decide (4<(v14.size:Int))) (
Q (.tup [.str ⟨#[]⟩,.int .i64 4]) (σ17.bump 6)) (
Q (.tup [.str v10,.int .i64 0]) (σ17.bump 7)))))))
theorem zfE {a0 a1 σ Q} (h:σ.Live->zby a0 a1 σ Q):z1 PG z3H [.str a0,.int .i64 a1] σ Q:=
 .of_sem [none,none,none,none,none,none,none,none,none,none,none,none,none,none,none,none,none,none,none,none,none,none,none,none] [(21,.b),(28,.s),(29,tI),(30,tI),(46,.s)] mixed (by kernel_rfl) (by kernel_rfl) h
/-! vitrine/vitrineref06.Unwrap -/
/-! vitrine/zlib.sum -/
def zgl (a0:ByteArray) (σ:Mem) (Q:AV->Mem->Prop):Prop:=
z6 PG z8l [.str a0] (σ.bump 4) λv0 σ1=>
zB .i64 v0 λv2=>
z3r (v2 / 16777216) λv3=>
wrW .u8 v3 λv4=>
z3r (v2 / 65536) λv5=>
wrW .u8 v5 λv6=>
z3r (v2 / 256) λv7=>
wrW .u8 v7 λv8=>
wrW .u8 v2 λv9=>
zH (σ1.bump 14) (σ1.next+11) (.rw [.int .u8 v4,.int .u8 v6,.int .u8 v8,.int .u8 v9]) λσ10=>
zds σ10 (.slice (σ1.next+11) 0 4 (.ex 4)) λv11=>
Q (.str v11) σ10
theorem zkb {a0 σ Q} (h:σ.Live->zgl a0 σ Q):z1 PG z9n [.str a0] σ Q:=
 .of_sem [none,none,none] [(5,tI)] mixed (by kernel_rfl) (by kernel_rfl) h
/-! vitrine/vitrineref06.Four -/
def zcy (a0:Int) (σ:Mem) (Q:AV->Mem->Prop):Prop:=
zjO .i64 a0 16777216 λv0=>
wrW .u8 v0 λv1=>
zjO .i64 a0 65536 λv2=>
wrW .u8 v2 λv3=>
zjO .i64 a0 256 λv4=>
wrW .u8 v4 λv5=>
wrW .u8 a0 λv6=>
zH (σ.bump 15) (σ.next+12) (.rw [.int .u8 v1,.int .u8 v3,.int .u8 v5,.int .u8 v6]) λσ7=>
zds σ7 (.slice (σ.next+12) 0 4 (.ex 4)) λv8=>
Q (.str v8) σ7
theorem zgH {a0 σ Q} (h:σ.Live->zcy a0 σ Q):z1 PG z8s [.int .i64 a0] σ Q:=
 .of_sem [none,none] [] mixed (by kernel_rfl) (by kernel_rfl) h
/-! vitrine/vitrineref01.Adler -/
def z7O (a0:ByteArray) (Q:AV->Mem->Prop) (next0:Int->Int->Int->Mem->Prop) (v1:Int) (v2:Int) (v3:Int) (σ4:Mem):Prop:=
ifB (decide (v3<(a0.size:Int))) (
z6L a0 v3 λv5=>
iW v5 λv6=>
iW (v1+v6) λv7=>
zl3 v7 65521 λv8=>
iW (v2+v8) λv9=>
zl3 v9 65521 λv10=>
iW (v3+1) λv11=>
next0 v8 v10 v11 (σ4.bump 20)) (
iW (65536*v2) λv12=>
iW (v12+v1) λv13=>
Q (.int .i64 v13) (σ4.bump 9))
def zaY (a0:ByteArray) (σ:Mem) (Q:AV->Mem->Prop):Prop:=
zf [tI,tI,tI] (z7O a0 Q) 1 0 0 (σ.bump 4)
theorem zfy {a0 σ Q} (h:σ.Live->zaY a0 σ Q):z1 PG z7F [.str a0] σ Q:=
 .of_sem [none,none,none,none,none,some ([0],[3,4,5]),none,none,none,none,none,none,none] [(3,tI),(4,tI),(5,tI)] mixed (by kernel_rfl) (by kernel_rfl) h
/-! vitrine/zlib.right -/
def zcM (a0:Int) (a1:Int) (σ:Mem) (Q:AV->Mem->Prop):Prop:=
z3r (zF .and .i64 a0 15) λv0=>
ifB (decide (v0=8)) (
z3r (a0 / 16) λv1=>
ifB (decide (v1<=7)) (
iW (a0*256) λv2=>
z3r (zF .or .i64 v2 a1) λv3=>
zl3 v3 31 λv4=>
ifB (decide (v4=0)) (
z3r (zF .and .i64 a1 32) λv5=>
Q (.bool (decide (v5=0))) (σ.bump 23)) (
Q (.bool false) (σ.bump 23))) (
Q (.bool false) (σ.bump 23))) (
Q (.bool false) (σ.bump 23))
theorem zhq {a0 a1 σ Q} (h:σ.Live->zcM a0 a1 σ Q):z1 PG z8o [.int .i64 a0,.int .i64 a1] σ Q:=
 .of_sem [none,none] [] mixed (by kernel_rfl) (by kernel_rfl) h
/-! vitrine/vitrineref03.Inflate -/
/-! vitrine/vitrineref06.Of -/
/-! vitrine/bits.Adler -/
def z9d (a0:ByteArray) (Q:AV->Mem->Prop) (next0:Int->Int->Int->Mem->Prop) (v1:Int) (v2:Int) (v3:Int) (σ4:Mem):Prop:=
ifB (decide (v3<(a0.size:Int))) (
z6L a0 v3 λv5=>
iW v5 λv6=>
iW (v1+v6) λv7=>
zl3 v7 65521 λv8=>
iW (v2+v8) λv9=>
zl3 v9 65521 λv10=>
iW (v3+1) λv11=>
next0 v8 v10 v11 (σ4.bump 18)) (
iW (v2*65536) λv12=>
z3r (zF .or .i64 v12 v1) λv13=>
Q (.int .i64 v13) (σ4.bump 6))
def zcv (a0:ByteArray) (σ:Mem) (Q:AV->Mem->Prop):Prop:=
zf [tI,tI,tI] (z9d a0 Q) 1 0 0 (σ.bump 6)
theorem zgS {a0 σ Q} (h:σ.Live->zcv a0 σ Q):z1 PG z8l [.str a0] σ Q:=
 .of_sem [none,none,none,none,some ([0,7],[3,4,8]),none,none,none,none,none,none,none,none] [(3,tI),(4,tI),(8,tI)] mixed (by kernel_rfl) (by kernel_rfl) h
/-! (*vitrine/vitrineref03.inflater).bits -/
/-! (*vitrine/vitrineref03.inflater).stored -/
/-! (*vitrine/vitrineref03.inflater).symbols -/
/-! (*vitrine/vitrineref03.inflater).lens -/
/-! (*vitrine/vitrineref01.Reader).Bits -/
/-! (*vitrine/vitrineref03.inflater).bytes -/
/-! (*vitrine/vitrineref03.inflater).table -/
/-! (*vitrine/vitrineref03.inflater).next -/
/-! (*vitrine/vitrineref01.Reader).Left -/
/-! (*vitrine/vitrineref01.Reader).Bytes -/
/-! (*vitrine/vitrineref02.Table).Next -/
end Go.Vit
