/- The law ZlibUnwraps. -/
import Derived.Test.YtloeboiajgfigaaGreatV7Z2
import Derived.Test.YtloeboiajgfigaaGreatV7RR
set_option linter.unusedVariables false
set_option linter.unusedSimpArgs false
set_option maxRecDepth 20000
set_option maxRecDepth 20000
namespace Go.Vit
open Go.Proofs
def zng (s:ByteArray):Nat->Nat
 | 0=>0
 | i+1=>256*zng s i+ze s i
theorem zmp (s:ByteArray):∀ i,zng s i<256^i
 | 0=>by simp [zng]
 | i+1=>by
   have:=zmp s i
   have hb:=zF s i
   rw [zng,Nat.pow_succ]
   omega
theorem zo0 (s:ByteArray) (hs:s.size<=4) (σ:Mem):z1 PG zbN [.str s] σ λv σ'=>v=.int .i64 (zng s s.size:Nat)/\σ.Same σ':=by
 refine zid λlive=>?_
 unfold zfq
 refine loop2 (λ(i:Nat) (x y:Int) σ'=>x=(zng s i:Nat)/\y=i/\i<=s.size/\σ.Same σ') (λi=>s.size-i) 0 ⟨rfl,rfl,by omega,(Mem.Same.refl σ).bump _⟩ ?_
 rintro i _ _ σ1 ⟨rfl,rfl,hi,s1⟩
 unfold zaC
 have hb:=zF s i
 have hl:=zmp s i
 have hp:256^i<=256^4:=Nat.pow_le_pow_right (by decide) (by omega)
 rw [show 256^4=4294967296 from rfl] at hp
 refine ifD (λhlt=>?_) (λhge=>?_)
 · refine z6 (by omega) ?_
   refine And.intro (by omega) ?_
   rw [Int.toNat_natCast]
   refine z6 (by omega) ?_
   refine z6 (by omega) ?_
   refine z6 (by omega) ?_
   exact again ⟨i+1,⟨by rw [zng];omega,by omega,by omega,s1.bump _⟩,by omega⟩
 · obtain rfl:i=s.size:=by omega
   exact ⟨rfl,s1.bump _⟩
theorem zno {x a:ByteArray} (hx:x.size=4):zng x x.size=z9t a↔x=sum4 a:=by
 have hl:=zoF a
 have e0:ze (sum4 a) 0=z9t a / 16777216 % 256:=by
  show (UInt8.ofNat _).toNat=_
  rw [UInt8.toNat_ofNat']
 have e1:ze (sum4 a) 1=z9t a / 65536 % 256:=by
  show (UInt8.ofNat _).toNat=_
  rw [UInt8.toNat_ofNat']
 have e2:ze (sum4 a) 2=z9t a / 256 % 256:=by
  show (UInt8.ofNat _).toNat=_
  rw [UInt8.toNat_ofNat']
 have e3:ze (sum4 a) 3=z9t a % 256:=by
  show (UInt8.ofNat _).toNat=_
  rw [UInt8.toNat_ofNat']
 have ev:∀ y:ByteArray,zng y 4=((ze y 0*256+ze y 1)*256+ze y 2)*256+ze y 3:=by
  intro y
  simp only [zng];omega
 have b0:=zF x 0
 have b1:=zF x 1
 have b2:=zF x 2
 have b3:=zF x 3
 rw [hx,ev]
 obtain ⟨n,hn⟩:∃ n,z9t a=n:=⟨_,rfl⟩
 rw [hn] at hl e0 e1 e2 e3 ⊢
 constructor
 · intro h
   refine z8S (hx.trans rfl) λi hi=>?_
   have hi4:i=0\/i=1\/i=2\/i=3:=by omega
   rcases hi4 with rfl | rfl | rfl | rfl
   · rw [e0];omega
   · rw [e1];omega
   · rw [e2];omega
   · rw [e3];omega
 · intro h
   rw [h,e0,e1,e2,e3];omega
theorem zhf {s:ByteArray} {most:Int} {F:Nat} (hs:s.size<=2^39) (hm : -9223372036854775808<=most/\most<=2^40) (hF:8*s.size<F) {σ:Mem} :
 z1 PG z6I [.str s,.int .i64 most] σ λv σ'=>v=.tup [.str (unz most F s).1,.int .i64 (unz most F s).2]/\σ.Same σ':=by
 refine zdM λlive=>?_
 unfold z9R
 have hb:∀ k,σ.Same (σ.bump k):=λk=>(Mem.Same.refl σ).bump k
 refine ifD (λh2=>?_) (λh2=>?_)
 · rw [unz,if_pos (by omega)]
   exact ⟨rfl,hb _⟩
 have b0:=zF s 0
 have b1:=zF s 1
 have no:¬ zaV (ze s 0) (ze s 1)->∀ k,AV.tup [.str ⟨#[]⟩,.int .i64 16]=.tup [.str (unz most F s).1,.int .i64 (unz most F s).2]/\σ.Same (σ.bump k):=λh k=>by
  rw [unz,if_neg (by omega),if_pos h]
  exact ⟨rfl,hb _⟩
 refine And.intro (by omega) ?_
 refine z6 (by rw [show Int.toNat 0=0 from rfl];omega) ?_
 refine And.intro (by omega) ?_
 refine z6 (by rw [show Int.toNat 1=1 from rfl];omega) ?_
 rw [show Int.toNat 0=0 from rfl,show Int.toNat 1=1 from rfl]
 obtain ⟨a,ha⟩:∃ a,ze s 0=a:=⟨_,rfl⟩
 obtain ⟨b,hbb⟩:∃ b,ze s 1=b:=⟨_,rfl⟩
 rw [ha,hbb] at no ⊢
 rw [ha] at b0
 rw [hbb] at b1
 refine zqp (m:=16) (by decide) ?_
 refine ifD (λh8=>no (λh=>by have:=h.1;omega) _) (λh8=>?_)
 refine zqM (m:=16) (by decide) (by omega) ?_
 refine ifD (λh7=>no (λh=>by have:=h.2.1;omega) _) (λh7=>?_)
 refine z6 (by omega) ?_
 refine z6 (by omega) ?_
 rw [show 256*((a:Nat):Int)+((b:Nat):Int)=((256*a+b:Nat):Int) from by omega]
 refine zqp (m:=31) (by decide) ?_
 refine ifD (λh31=>no (λh=>by have:=h.2.2.1;omega) _) (λh31=>?_)
 refine zqM (m:=32) (by decide) (by omega) ?_
 refine zqp (m:=2) (by decide) ?_
 refine ifD (λh32=>no (λh=>by have:=h.2.2.2;omega) _) (λh32=>?_)
 have hh:zaV a b:=⟨by omega,by omega,by omega,by omega⟩
 rw [<- ha,<- hbb] at hh
 refine And.intro (by omega) ?_
 rw [show Int.toNat 2=2 from rfl,Int.toNat_natCast]
 have hz:=size_extract s 2 s.size
 have hfine:=zhR (most:=most) (F:=F) (s:=s.extract 2 s.size)
 have hroom:∀ a q,za6 most F (s.extract 2 s.size) 0=.ok (a,q)->a.length<=2^40:=λa q h=>by
  rcases zgK h with rfl | h
  · simp
  · omega
 refine z0 (zfC (σ:=σ.bump 46) (s:=s.extract 2 s.size) (most:=most) (F:=F) (by omega) hm (by omega)) ?_
 rintro _ σ2 ⟨rfl,s2⟩
 have s02:=s2.ob
 unfold unz
 rw [if_neg (by omega),if_neg (not_not_intro hh)]
 cases hR:za6 most F (s.extract 2 s.size) 0 with
 | error e=>
   rw [hR] at hfine
   dsimp only at hfine
   unfold zhD
   dsimp only
   refine zba rfl ?_
   refine z3v rfl ?_
   refine z3v rfl ?_
   refine ifT hfine ?_
   exact ⟨rfl,s02.bump _⟩
 | ok x=>
   obtain ⟨a,q⟩:=x
   have hal:=hroom a q hR
   rw [hR] at hfine
   dsimp only at hfine
   unfold zhD
   dsimp only
   obtain ⟨n,hn⟩:∃ n,(q+7) / 8=n:=⟨_,rfl⟩
   rw [hn] at hfine ⊢
   refine zba rfl ?_
   refine z3v rfl ?_
   refine z3v rfl ?_
   refine ifF (not_not_intro rfl) ?_
   refine z6 (by omega) ?_
   refine And.intro (by omega) ?_
   rw [show (2+((n:Nat):Int)).toNat=2+n from by omega,Int.toNat_natCast]
   have hz2:=size_extract s (2+n) s.size
   refine ifD (λh4=>?_) (λh4=>?_)
   · rw [if_pos (by omega)]
     exact ⟨rfl,s02.bump _⟩
   · rw [if_neg (by omega)]
     refine And.intro (by omega) ?_
     rw [show Int.toNat 0=0 from rfl,show Int.toNat 4=4 from rfl,z8b s (by omega)]
     have hz4:=size_extract s (2+n) (2+n+4)
     have hx4:(s.extract (2+n) (2+n+4)).size=4:=by omega
     refine z0 (zo0 (s.extract (2+n) (2+n+4)) (by omega) _) ?_
     rintro _ σ3 ⟨rfl,s3⟩
     have s03:=s02.trans s3.ob
     refine To.go ?_
     refine z0 (zil ⟨a.toArray⟩ (by show a.length<=2^50;omega) σ3) ?_
     rintro _ σ4 ⟨rfl,s4⟩
     have s04:=s03.trans s4
     refine To.go ?_
     have hsum:=zno (a:=⟨a.toArray⟩) hx4
     refine ifD (λh17=>?_) (λh17=>?_)
     · rw [if_pos (λh=>h17 (by have:=hsum.2 h;omega))]
       exact ⟨rfl,s04.bump _⟩
     · have he:=hsum.1 (by omega)
       rw [if_neg (not_not_intro he)]
       refine ifD (λh5=>?_) (λh5=>?_)
       · rw [if_pos (by omega)]
         exact ⟨rfl,s04.bump _⟩
       · rw [if_neg (by omega)]
         exact ⟨rfl,s04.bump _⟩
theorem zc6 (σ:Mem) (l:List AV) (_:σ.Ro) (hw:Wts PG σ Tryz.f4.params.toList l):z1 PG z6h l σ λv _=>zmv v:=by
 rw [show Tryz.f4.params.toList=[9,3] from by rw [Tryz.params4]] at hw
 obtain ⟨s,r,rfl,hs,hw⟩:=hw.str (by kernel_rfl)
 obtain ⟨most,r,rfl,hm,hw⟩:=hw.int (k:=.i64) (by kernel_rfl)
 obtain rfl:=hw.nil_inv
 have hm:=zpG hm
 unfold zpk at hm
 refine z9o λlive=>?_
 unfold z65
 have awk:∀ (σ':Mem),z5 PG z31 [] σ' λv σ4=>z70 v λv5=>(λv _=>zmv v) (AV.bool v5) σ4:=by
  intro σ'
  refine z0 (zj2 _) ?_
  rintro _ σ2 ⟨rfl,_⟩
  exact rfl
 refine ifD (λh=>awk _) (λhsz=>?_)
 refine ifD (λh=>awk _) (λhmz=>?_)
 refine z0 (z7Q (s:=s) (most:=most) (F:=200000) (by omega) (by omega) (by omega)) ?_
 rintro _ σ1 ⟨rfl,s1⟩
 refine zba rfl ?_
 refine z3v rfl ?_
 refine z0 (zhf (s:=s) (most:=most) (F:=200000) (by omega) (by omega) (by omega)) ?_
 rintro _ σ2 ⟨rfl,s2⟩
 refine zba rfl ?_
 refine z3v rfl ?_
 refine ifT rfl ?_
 refine ifT rfl ?_
 exact awk _
end Go.Vit
