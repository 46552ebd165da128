/- Streams with a head and a sum. -/
import Derived.Test.YtloeboiajgfigaaGreatV7Pl
import Derived.Test.YtloeboiajgfigaaGreatV7Gz
set_option linter.unusedVariables false
set_option linter.unusedSimpArgs false
set_option maxRecDepth 20000
namespace Go.Vit
open Go.Proofs
def z5e (s:ByteArray) (i:Nat):Nat×Nat:=
 match i with
 | 0=>(1,0)
 | i+1=>(((z5e s i).1+zz s i) % 65521,((z5e s i).2+((z5e s i).1+zz s i) % 65521) % 65521)
def zdw (s:ByteArray):Nat:=65536*(z5e s s.size).2+(z5e s s.size).1
theorem zhl (s:ByteArray):∀ i,(z5e s i).1<65521/\(z5e s i).2<65521
 | 0=>by simp [z5e]
 | i+1=>by simp only [z5e];omega
theorem zqM {a b:Nat} (h:a<65536):(b*65536) ||| a=65536*b+a:=by
 have:=Nat.shiftLeft_add_eq_or_of_lt (i:=16) (by simpa using h) b
 rw [Nat.shiftLeft_eq,show (2:Nat)^16=65536 from rfl] at this
 omega
theorem zly (s:ByteArray) (hs:s.size<=2^50) (σ:Mem):z1 PG z8l [.str s] σ λv σ'=>v=.int .i64 (zdw s)/\σ.Same σ':=by
 refine zgS λ_=>?_
 unfold zcv
 refine loop3 (λ(i:Nat) (a b k:Int) σ'=>a=(z5e s i).1/\b=(z5e s i).2/\k=i/\i<=s.size/\σ.Same σ') (λi=>s.size-i) 0 ⟨by simp [z5e],by simp [z5e],rfl,by omega,(Mem.Same.refl σ).bump _⟩ ?_
 rintro i a b k σ1 ⟨rfl,rfl,rfl,hi,h1⟩
 have hb:=z1T s i
 obtain ⟨ha,hb2⟩:=zhl s i
 unfold z9d
 refine ifD (λhlt=>?_) (λhge=>?_)
 · repeat (first | refine To.go ?_ | with_reducible refine And.intro (by first | omega | exact ⟨rfl,rfl⟩) ?_ | ((with_reducible apply opt);(· (first | with_reducible assumption | rfl))) | ((with_reducible apply ldrw);(· (first | with_reducible assumption | (simp (disch:=omega) only [go_sem, *];try rfl)));(· (first | with_reducible assumption | rfl))) | ((with_reducible apply ldro);(· (first | with_reducible assumption | (simp (disch:=omega) only [go_sem, *];try rfl)));(· (first | with_reducible assumption | rfl))) | ((with_reducible apply st1);(· (first | with_reducible assumption | (simp (disch:=omega) only [go_sem, *];try rfl)));(· simp);(· rfl)) | with_reducible refine ifT rfl ?_ | with_reducible refine ifF (not_not_intro rfl) ?_ | with_reducible refine ifT (by omega) ?_ | with_reducible refine ifF (by omega) ?_)
   refine again ⟨i+1,⟨?_,?_,by omega,by omega,h1.bump _⟩,by omega⟩
   · simp only [z5e];omega
   · simp only [z5e];omega
 · obtain rfl:i=s.size:=by omega
   repeat (first | refine To.go ?_ | with_reducible refine And.intro (by first | omega | exact ⟨rfl,rfl⟩) ?_ | ((with_reducible apply opt);(· (first | with_reducible assumption | rfl))) | ((with_reducible apply ldrw);(· (first | with_reducible assumption | (simp (disch:=omega) only [go_sem, *];try rfl)));(· (first | with_reducible assumption | rfl))) | ((with_reducible apply ldro);(· (first | with_reducible assumption | (simp (disch:=omega) only [go_sem, *];try rfl)));(· (first | with_reducible assumption | rfl))) | ((with_reducible apply st1);(· (first | with_reducible assumption | (simp (disch:=omega) only [go_sem, *];try rfl)));(· simp);(· rfl)) | with_reducible refine ifT rfl ?_ | with_reducible refine ifF (not_not_intro rfl) ?_ | with_reducible refine ifT (by omega) ?_ | with_reducible refine ifF (by omega) ?_)
   rw [zlN (by omega) (by omega)]
   refine ⟨?_,h1.bump _⟩
   rw [show (((z5e s s.size).2:Int)*65536).toNat=(z5e s s.size).2*65536 from by omega,Int.toNat_natCast,zqM (by omega)]
   rfl
theorem zpn (s:ByteArray):zdw s<2^32:=by
 have:=zhl s s.size
 unfold zdw;omega
def zrE (s:ByteArray):List UInt8:=[UInt8.ofNat (zdw s / 16777216),UInt8.ofNat (zdw s / 65536),UInt8.ofNat (zdw s / 256),UInt8.ofNat (zdw s)]
def sum4 (s:ByteArray):ByteArray:=⟨(zrE s).toArray⟩
theorem wrap8 (n:Nat):IntKind.u8.wrap ((n:Nat):Int)=((n % 256:Nat):Int):=by
 rw [IntKind.wrap_u8];omega
theorem zlo {s:ByteArray} (hs:s.size<=2^50) {σ:Mem}:z1 PG z9n [.str s] σ λv σ'=>v=.str (sum4 s)/\σ.Same σ':=by
 refine zkb λlive=>?_
 unfold zgl
 refine z0 (zly s hs (σ.bump 4)) ?_
 rintro _ σ1 ⟨rfl,s1⟩
 have s01:=s1.ob
 have n1:=s01.next
 have hl:=zpn s
 obtain ⟨n,hn⟩:∃ n,zdw s=n:=⟨_,rfl⟩
 unfold sum4 zrE
 rw [hn] at hl ⊢
 refine To.go ?_
 dsimp only [z3r,wrW]
 rw [show ((n:Nat):Int) / 16777216=((n / 16777216:Nat):Int) from by omega,show ((n:Nat):Int) / 65536=((n / 65536:Nat):Int) from by omega,show ((n:Nat):Int) / 256=((n / 256:Nat):Int) from by omega,wrap8,wrap8,wrap8,wrap8]
 refine To.go ?_
 refine zc0 (l:=[UInt8.ofNat (n / 16777216),UInt8.ofNat (n / 65536),UInt8.ofNat (n / 256),UInt8.ofNat n]) ?_ rfl ?_
 · rw [gS']
   unfold bl
   simp only [List.map_cons,List.map_nil,UInt8.toNat_ofNat',Nat.reducePow]
 · exact ⟨rfl,Mem.Same.put (s01.bump _) (by omega) _⟩
def zf4 (a b:Nat):Prop:=a % 16=8/\a / 16<=7/\(256*a+b) % 31=0/\b / 32 % 2=0
instance (a b:Nat):Decidable (zf4 a b):=by unfold zf4;infer_instance
theorem and32:∀ b:Fin 256,(b.val &&& 32=0)↔b.val / 32 % 2=0:=by decide +kernel
theorem zlP {a b:Nat} (ha:a<256) (hb:b<256) {σ:Mem}:z1 PG z8o [.int .i64 (a:Nat),.int .i64 (b:Nat)] σ λv σ'=>v=.bool (decide (zf4 a b))/\σ.Same σ':=by
 refine zhq λlive=>?_
 unfold zcM
 have hs:∀ k,σ.Same (σ.bump k):=λk=>(Mem.Same.refl σ).bump k
 have no:¬ zf4 a b->AV.bool false=AV.bool (decide (zf4 a b)):=λh=>by rw [decide_eq_false h]
 have e15:zF .and .i64 ((a:Nat):Int) 15=((a % 16:Nat):Int):=by
  rw [zq1 (by omega) (by omega),Int.toNat_natCast,show Int.toNat 15=2^4-1 from rfl,Nat.and_two_pow_sub_one_eq_mod]
 have eor:zF .or .i64 (((a*256:Nat):Nat):Int) ((b:Nat):Int)=((256*a+b:Nat):Int):=by
  rw [zlN (by omega) (by omega),Int.toNat_natCast,Int.toNat_natCast,Nat.or_comm,zr0 hb,show b+a*256=256*a+b from by omega]
 have e32:zF .and .i64 ((b:Nat):Int) 32=((b &&& 32:Nat):Int):=by
  rw [zq1 (by omega) (by omega),Int.toNat_natCast];rfl
 have h32:=and32 ⟨b,hb⟩
 dsimp only at h32
 dsimp only [z3r]
 rw [e15]
 refine ifD (λh8=>?_) (λh8=>⟨no λh=>by have:=h.1;omega,hs _⟩)
 refine ifD (λh7=>?_) (λh7=>⟨no λh=>by have:=h.2.1;omega,hs _⟩)
 refine z5 (by omega) ?_
 rw [show ((a:Nat):Int)*256=((a*256:Nat):Int) from by omega,eor]
 refine zrK (m:=31) (by decide) ?_
 refine ifD (λh31=>?_) (λh31=>⟨no λh=>by have:=h.2.2.1;omega,hs _⟩)
 rw [e32]
 refine ⟨?_,hs _⟩
 congr 1
 apply decide_eq_decide.2
 constructor
 · intro h
   exact ⟨by omega,by omega,by omega,h32.1 (by omega)⟩
 · intro h
   have:=h32.2 h.2.2.2
   omega
def zhd:ByteArray:=⟨#[120,1]⟩
def zwrap (s:ByteArray) (k:Nat):ByteArray:=zhd++best3 s k++sum4 s
theorem znD {s:ByteArray} {k:Nat} (hs:s.size<=20000):(best3 s k).size<=s.size+5:=by
 have h1:=ze6 (best2 (tx (stored s)) (tx (z7X (toks s k)))) (tx (zfU (toks s k)))
 have h2:=ze6 (tx (stored s)) (tx (z7X (toks s k)))
 have h3:(tx (stored s)).size=s.size+5:=zkn hs
 unfold best3
 omega
theorem ziu {s:ByteArray} (hs:s.size<=20000) {σ:Mem}:z1 PG z7r [.str s] σ λv σ'=>(∃ k,Done s k/\v=.str (zwrap s k))/\σ.Same σ':=by
 refine zie λlive=>?_
 unfold zer
 refine z0 (zf8 (σ:=σ.bump 8) hs) ?_
 rintro _ σ1 ⟨⟨k,hk,rfl⟩,s1⟩
 have hb:=znD (k:=k) hs
 refine To.go ?_
 have z2:(⟨#[120,1]⟩:ByteArray).size=2:=rfl
 have z4:(sum4 s).size=4:=rfl
 refine And.intro (by omega) ?_
 refine z0 (zlo (σ:=σ1) (by omega)) ?_
 rintro _ σ2 ⟨rfl,s2⟩
 refine To.go ?_
 have h3:=size_append ⟨#[120,1]⟩ (best3 s k)
 refine And.intro (by omega) ?_
 exact ⟨⟨k,hk,rfl⟩,s1.ob.trans s2⟩
def unz (most:Int) (F:Nat) (s:ByteArray):ByteArray×Int:=
 if s.size<2 then (⟨#[]⟩,3) else if ¬ zf4 (zz s 0) (zz s 1) then (⟨#[]⟩,16) else
 match zex most F (s.extract 2 s.size) 0 with
 | .error e=>(⟨#[]⟩,e)
 | .ok (a,q)=>if s.size<2+(q+7) / 8+4 then (⟨#[]⟩,3) else if s.extract (2+(q+7) / 8) (2+(q+7) / 8+4)≠sum4 ⟨a.toArray⟩ then (⟨#[]⟩,17) else if 2+(q+7) / 8+4<s.size then (⟨#[]⟩,4) else (⟨a.toArray⟩,0)
theorem zoa {most:Int} {F:Nat} {s:ByteArray}:match zex most F s 0 with
 | .ok (_,q)=>(q+7) / 8<=s.size
 | .error e=>e≠0:=by
 have:=Fr.infl most F s ⟨#[]⟩ 0 (by omega)
 cases h:zex most F s 0 with
 | error e=>rw [h] at this;exact this.1
 | ok x=>rw [h] at this;obtain ⟨a,q⟩:=x;dsimp only at this ⊢;omega
theorem zdg (s:ByteArray) {i k:Nat} (h:i+k<=s.size):(s.extract i s.size).extract 0 k=s.extract i (i+k):=by
 refine zbB ?_ λj hj=>?_
 · simp only [size_extract];omega
 · simp only [size_extract] at hj
   rw [zR _ _ _ _ (by omega),zR _ _ _ _ (by omega),zR _ _ _ _ (by omega),Nat.zero_add]
theorem zaq {s:ByteArray} {most:Int} {F:Nat} (hs:s.size<=2^40) (hm : -9223372036854775808<=most/\most<=2^40) (hF:8*s.size<F) {σ:Mem} :
 z1 PG z3H [.str s,.int .i64 most] σ λv σ'=>v=.tup [.str (unz most F s).1,.int .i64 (unz most F s).2]/\σ.Same σ':=by
 refine zfE λlive=>?_
 unfold zby
 have hb:∀ k,σ.Same (σ.bump k):=λk=>(Mem.Same.refl σ).bump k
 refine ifD (λh2=>?_) (λh2=>?_)
 · rw [unz,if_pos (by omega)]
   exact ⟨rfl,hb _⟩
 have b0:=z1T s 0
 have b1:=z1T s 1
 refine And.intro (by omega) ?_
 refine z5 (by rw [show Int.toNat 0=0 from rfl];omega) ?_
 refine And.intro (by omega) ?_
 refine z5 (by rw [show Int.toNat 1=1 from rfl];omega) ?_
 rw [show Int.toNat 0=0 from rfl,show Int.toNat 1=1 from rfl]
 refine z0 (zlP b0 b1 (σ:=σ.bump 15)) ?_
 rintro _ σ1 ⟨rfl,s1⟩
 have s01:=s1.ob
 refine To.go ?_
 by_cases hh:zf4 (zz s 0) (zz s 1)
 · rw [decide_eq_true hh]
   refine ifF (p:=False) id ?_
   refine And.intro (by omega) ?_
   rw [show Int.toNat 2=2 from rfl,Int.toNat_natCast]
   have hz:=size_extract s 2 s.size
   have hfine:=zoa (most:=most) (F:=F) (s:=s.extract 2 s.size)
   have hroom:∀ a q,zex most F (s.extract 2 s.size) 0=.ok (a,q)->a.length<=2^40:=λa q h=>by
    rcases znI h with rfl | h
    · simp
    · omega
   refine z0 (zfs (σ:=σ1.bump 11) (s:=s.extract 2 s.size) (most:=most) (F:=F) (by omega) hm (by omega)) ?_
   rintro _ σ2 ⟨rfl,s2⟩
   have s02:=s01.trans s2.ob
   unfold unz
   rw [if_neg (by omega),if_neg (not_not_intro hh)]
   cases hR:zex most F (s.extract 2 s.size) 0 with
   | error e=>
     rw [hR] at hfine
     dsimp only at hfine
     unfold zqi
     dsimp only
     refine zid rfl ?_
     refine z04 rfl ?_
     refine z04 rfl ?_
     refine ifT hfine ?_
     exact ⟨rfl,s02.bump _⟩
   | ok x=>
     obtain ⟨a,q⟩:=x
     have hal:=hroom a q hR
     rw [hR] at hfine
     dsimp only at hfine
     unfold zqi
     dsimp only
     obtain ⟨n,hn⟩:∃ n,(q+7) / 8=n:=⟨_,rfl⟩
     rw [hn] at hfine ⊢
     refine zid rfl ?_
     refine z04 rfl ?_
     refine z04 rfl ?_
     refine ifF (not_not_intro rfl) ?_
     refine z5 (by omega) ?_
     refine And.intro (by omega) ?_
     rw [show (2+((n:Nat):Int)).toNat=2+n from by omega,Int.toNat_natCast]
     have hz2:=size_extract s (2+n) s.size
     refine ifD (λh4=>?_) (λh4=>?_)
     · rw [if_pos (by omega)]
       exact ⟨rfl,s02.bump _⟩
     · rw [if_neg (by omega)]
       refine And.intro (by omega) ?_
       rw [show Int.toNat 0=0 from rfl,show Int.toNat 4=4 from rfl,zdg s (by omega)]
       refine z0 (zlo (σ:=σ2.bump 17) (s:=⟨a.toArray⟩) (by show a.length<=2^50;omega)) ?_
       rintro _ σ3 ⟨rfl,s3⟩
       have s03:=s02.trans s3.ob
       refine To.go ?_
       refine ifD (λh17=>?_) (λh17=>?_)
       · rw [if_pos h17]
         exact ⟨rfl,s03.bump _⟩
       · rw [if_neg h17]
         refine ifD (λh5=>?_) (λh5=>?_)
         · rw [if_pos (by omega)]
           exact ⟨rfl,s03.bump _⟩
         · rw [if_neg (by omega)]
           exact ⟨rfl,s03.bump _⟩
 · rw [decide_eq_false hh]
   refine ifT (p:=True) trivial ?_
   rw [unz,if_neg (by omega),if_pos hh]
   exact ⟨rfl,s01.bump _⟩
/-! ### The chapter's examples -/
theorem zrD:unz 9 60 ⟨#[120,1]⟩=(⟨#[]⟩,3):=by decide +kernel
theorem zrr:unz 9 60 ⟨#[120,2]⟩=(⟨#[]⟩,16):=by decide +kernel
theorem zry:unz 9 100 ⟨#[120,1,3,0,0,0,0,2]⟩=(⟨#[]⟩,17):=by decide +kernel
theorem zrF:zwrap ⟨#[]⟩ 0=⟨#[120,1,3,0,0,0,0,1]⟩:=by
 unfold zwrap
 rw [zp0]
 decide +kernel
theorem zjx (σ:Mem):z1 PG z3D [] σ λv σ'=>v=.bool true/\σ.Same σ':=by
 refine zfD λlive=>?_
 unfold zaQ
 refine z0 (zaq (s:=⟨#[120,1]⟩) (most:=9) (F:=60) (by decide) (by decide) (by decide)) ?_
 rintro _ σ1 ⟨rfl,s1⟩
 rw [zrD]
 refine zid rfl ?_
 refine z04 rfl ?_
 refine z0 (zaq (s:=⟨#[120,2]⟩) (most:=9) (F:=60) (by decide) (by decide) (by decide)) ?_
 rintro _ σ2 ⟨rfl,s2⟩
 rw [zrr]
 refine zid rfl ?_
 refine z04 rfl ?_
 refine z0 (zaq (s:=⟨#[120,1,3,0,0,0,0,2]⟩) (most:=9) (F:=100) (by decide) (by decide) (by decide)) ?_
 rintro _ σ3 ⟨rfl,s3⟩
 rw [zry]
 refine zid rfl ?_
 refine z04 rfl ?_
 refine z0 (ziu (s:=⟨#[]⟩) (by decide)) ?_
 rintro _ σ4 ⟨⟨k,hk,rfl⟩,s4⟩
 obtain rfl:=z7u hk zoU
 refine To.go ?_
 rw [zrF]
 refine ifT rfl ?_
 refine ifT rfl ?_
 refine ifT rfl ?_
 exact ⟨rfl,((s1.ob.trans s2.ob).trans s3.ob).trans s4.ob⟩
end Go.Vit
