/- Streams with a head and a sum. -/
import Derived.Test.YtloeboiajgfigaaGreatV7Pl
import Derived.Test.YtloeboiajgfigaaGreatV7Gz
set_option linter.unusedVariables false
set_option linter.unusedSimpArgs false
set_option maxRecDepth 20000
namespace Go.Vit
open Go.Proofs
def z5G (s:ByteArray) (i:Nat):Nat×Nat:=
 match i with
 | 0=>(1,0)
 | i+1=>(((z5G s i).1+ze s i) % 65521,((z5G s i).2+((z5G s i).1+ze s i) % 65521) % 65521)
def z9t (s:ByteArray):Nat:=65536*(z5G s s.size).2+(z5G s s.size).1
theorem zfI (s:ByteArray):∀ i,(z5G s i).1<65521/\(z5G s i).2<65521
 | 0=>by simp [z5G]
 | i+1=>by simp only [z5G];omega
theorem zpM {a b:Nat} (h:a<65536):(b*65536) ||| a=65536*b+a:=by
 have:=Nat.shiftLeft_add_eq_or_of_lt (i:=16) (by simpa using h) b
 rw [Nat.shiftLeft_eq,show (2:Nat)^16=65536 from rfl] at this
 omega
theorem zkt (s:ByteArray) (hs:s.size<=2^50) (σ:Mem):z1 PG z8D [.str s] σ λv σ'=>v=.int .i64 (z9t s)/\σ.Same σ':=by
 refine zft λ_=>?_
 unfold zcF
 refine loop3 (λ(i:Nat) (a b k:Int) σ'=>a=(z5G s i).1/\b=(z5G s i).2/\k=i/\i<=s.size/\σ.Same σ') (λi=>s.size-i) 0 ⟨by simp [z5G],by simp [z5G],rfl,by omega,(Mem.Same.refl σ).bump _⟩ ?_
 rintro i a b k σ1 ⟨rfl,rfl,rfl,hi,h1⟩
 have hb:=zF s i
 obtain ⟨ha,hb2⟩:=zfI s i
 unfold z8k
 refine ifD (λhlt=>?_) (λhge=>?_)
 · repeat (first | refine To.go ?_ | with_reducible refine And.intro (by first | omega | exact ⟨rfl,rfl⟩) ?_ | ((with_reducible apply opt);(· (first | with_reducible assumption | rfl))) | ((with_reducible apply ldrw);(· (first | with_reducible assumption | (simp (disch:=omega) only [go_sem, *];try rfl)));(· (first | with_reducible assumption | rfl))) | ((with_reducible apply ldro);(· (first | with_reducible assumption | (simp (disch:=omega) only [go_sem, *];try rfl)));(· (first | with_reducible assumption | rfl))) | ((with_reducible apply st1);(· (first | with_reducible assumption | (simp (disch:=omega) only [go_sem, *];try rfl)));(· simp);(· rfl)) | with_reducible refine ifT rfl ?_ | with_reducible refine ifF (not_not_intro rfl) ?_ | with_reducible refine ifT (by omega) ?_ | with_reducible refine ifF (by omega) ?_)
   refine again ⟨i+1,⟨?_,?_,by omega,by omega,h1.bump _⟩,by omega⟩
   · simp only [z5G];omega
   · simp only [z5G];omega
 · obtain rfl:i=s.size:=by omega
   repeat (first | refine To.go ?_ | with_reducible refine And.intro (by first | omega | exact ⟨rfl,rfl⟩) ?_ | ((with_reducible apply opt);(· (first | with_reducible assumption | rfl))) | ((with_reducible apply ldrw);(· (first | with_reducible assumption | (simp (disch:=omega) only [go_sem, *];try rfl)));(· (first | with_reducible assumption | rfl))) | ((with_reducible apply ldro);(· (first | with_reducible assumption | (simp (disch:=omega) only [go_sem, *];try rfl)));(· (first | with_reducible assumption | rfl))) | ((with_reducible apply st1);(· (first | with_reducible assumption | (simp (disch:=omega) only [go_sem, *];try rfl)));(· simp);(· rfl)) | with_reducible refine ifT rfl ?_ | with_reducible refine ifF (not_not_intro rfl) ?_ | with_reducible refine ifT (by omega) ?_ | with_reducible refine ifF (by omega) ?_)
   rw [ziL (by omega) (by omega)]
   refine ⟨?_,h1.bump _⟩
   rw [show (((z5G s s.size).2:Int)*65536).toNat=(z5G s s.size).2*65536 from by omega,Int.toNat_natCast,zpM (by omega)]
   rfl
theorem zoF (s:ByteArray):z9t s<2^32:=by
 have:=zfI s s.size
 unfold z9t;omega
def zqJ (s:ByteArray):List UInt8:=[UInt8.ofNat (z9t s / 16777216),UInt8.ofNat (z9t s / 65536),UInt8.ofNat (z9t s / 256),UInt8.ofNat (z9t s)]
def sum4 (s:ByteArray):ByteArray:=⟨(zqJ s).toArray⟩
theorem wrap8 (n:Nat):IntKind.u8.wrap ((n:Nat):Int)=((n % 256:Nat):Int):=by
 rw [IntKind.wrap_u8];omega
theorem zjk {s:ByteArray} (hs:s.size<=2^50) {σ:Mem}:z1 PG z9g [.str s] σ λv σ'=>v=.str (sum4 s)/\σ.Same σ':=by
 refine ziI λlive=>?_
 unfold zff
 refine z0 (zkt s hs (σ.bump 4)) ?_
 rintro _ σ1 ⟨rfl,s1⟩
 have s01:=s1.ob
 have n1:=s01.next
 have hl:=zoF s
 obtain ⟨n,hn⟩:∃ n,z9t s=n:=⟨_,rfl⟩
 unfold sum4 zqJ
 rw [hn] at hl ⊢
 refine To.go ?_
 dsimp only [z4j,wrW]
 rw [show ((n:Nat):Int) / 16777216=((n / 16777216:Nat):Int) from by omega,show ((n:Nat):Int) / 65536=((n / 65536:Nat):Int) from by omega,show ((n:Nat):Int) / 256=((n / 256:Nat):Int) from by omega,wrap8,wrap8,wrap8,wrap8]
 refine To.go ?_
 refine zg5 (l:=[UInt8.ofNat (n / 16777216),UInt8.ofNat (n / 65536),UInt8.ofNat (n / 256),UInt8.ofNat n]) ?_ rfl ?_
 · rw [gS']
   unfold bl
   simp only [List.map_cons,List.map_nil,UInt8.toNat_ofNat',Nat.reducePow]
 · exact ⟨rfl,Mem.Same.put (s01.bump _) (by omega) _⟩
def zaV (a b:Nat):Prop:=a % 16=8/\a / 16<=7/\(256*a+b) % 31=0/\b / 32 % 2=0
instance (a b:Nat):Decidable (zaV a b):=by unfold zaV;infer_instance
theorem and32:∀ b:Fin 256,(b.val &&& 32=0)↔b.val / 32 % 2=0:=by decide +kernel
theorem zky {a b:Nat} (ha:a<256) (hb:b<256) {σ:Mem}:z1 PG z8N [.int .i64 (a:Nat),.int .i64 (b:Nat)] σ λv σ'=>v=.bool (decide (zaV a b))/\σ.Same σ':=by
 refine zfD λlive=>?_
 unfold zcA
 have hs:∀ k,σ.Same (σ.bump k):=λk=>(Mem.Same.refl σ).bump k
 have no:¬ zaV a b->AV.bool false=AV.bool (decide (zaV a b)):=λh=>by rw [decide_eq_false h]
 have e15:zB .and .i64 ((a:Nat):Int) 15=((a % 16:Nat):Int):=by
  rw [zpi (by omega) (by omega),Int.toNat_natCast,show Int.toNat 15=2^4-1 from rfl,Nat.and_two_pow_sub_one_eq_mod]
 have eor:zB .or .i64 (((a*256:Nat):Nat):Int) ((b:Nat):Int)=((256*a+b:Nat):Int):=by
  rw [ziL (by omega) (by omega),Int.toNat_natCast,Int.toNat_natCast,Nat.or_comm,zpU hb,show b+a*256=256*a+b from by omega]
 have e32:zB .and .i64 ((b:Nat):Int) 32=((b &&& 32:Nat):Int):=by
  rw [zpi (by omega) (by omega),Int.toNat_natCast];rfl
 have h32:=and32 ⟨b,hb⟩
 dsimp only at h32
 dsimp only [z4j]
 rw [e15]
 refine ifD (λh8=>?_) (λh8=>⟨no λh=>by have:=h.1;omega,hs _⟩)
 refine ifD (λh7=>?_) (λh7=>⟨no λh=>by have:=h.2.1;omega,hs _⟩)
 refine z6 (by omega) ?_
 rw [show ((a:Nat):Int)*256=((a*256:Nat):Int) from by omega,eor]
 refine zqp (m:=31) (by decide) ?_
 refine ifD (λh31=>?_) (λh31=>⟨no λh=>by have:=h.2.2.1;omega,hs _⟩)
 rw [e32]
 refine ⟨?_,hs _⟩
 congr 1
 apply decide_eq_decide.2
 constructor
 · intro h
   exact ⟨by omega,by omega,by omega,h32.1 (by omega)⟩
 · intro h
   have:=h32.2 h.2.2.2
   omega
def zhd:ByteArray:=⟨#[120,1]⟩
def zwrap (s:ByteArray) (k:Nat):ByteArray:=zhd++best3 s k++sum4 s
theorem zp8 {s:ByteArray} {k:Nat} (hs:s.size<=20000):(best3 s k).size<=s.size+5:=by
 have h1:=zeq (best2 (tx (stored s)) (tx (zcn (toks s k)))) (tx (znf (toks s k)))
 have h2:=zeq (tx (stored s)) (tx (zcn (toks s k)))
 have h3:(tx (stored s)).size=s.size+5:=ziN hs
 unfold best3
 omega
theorem zn0 {s:ByteArray} (hs:s.size<=20000) {σ:Mem}:z1 PG zar [.str s] σ λv σ'=>(∃ k,Done s k/\v=.str (zwrap s k))/\σ.Same σ':=by
 refine zh2 λlive=>?_
 unfold zea
 refine z0 (zdG (σ:=σ.bump 8) hs) ?_
 rintro _ σ1 ⟨⟨k,hk,rfl⟩,s1⟩
 have hb:=zp8 (k:=k) hs
 refine To.go ?_
 have z2:(⟨#[120,1]⟩:ByteArray).size=2:=rfl
 have z4:(sum4 s).size=4:=rfl
 refine And.intro (by omega) ?_
 refine z0 (zjk (σ:=σ1) (by omega)) ?_
 rintro _ σ2 ⟨rfl,s2⟩
 refine To.go ?_
 have h3:=size_append ⟨#[120,1]⟩ (best3 s k)
 refine And.intro (by omega) ?_
 exact ⟨⟨k,hk,rfl⟩,s1.ob.trans s2⟩
def unz (most:Int) (F:Nat) (s:ByteArray):ByteArray×Int:=
 if s.size<2 then (⟨#[]⟩,3) else if ¬ zaV (ze s 0) (ze s 1) then (⟨#[]⟩,16) else
 match za6 most F (s.extract 2 s.size) 0 with
 | .error e=>(⟨#[]⟩,e)
 | .ok (a,q)=>if s.size<2+(q+7) / 8+4 then (⟨#[]⟩,3) else if s.extract (2+(q+7) / 8) (2+(q+7) / 8+4)≠sum4 ⟨a.toArray⟩ then (⟨#[]⟩,17) else if 2+(q+7) / 8+4<s.size then (⟨#[]⟩,4) else (⟨a.toArray⟩,0)
theorem zhR {most:Int} {F:Nat} {s:ByteArray}:match za6 most F s 0 with
 | .ok (_,q)=>(q+7) / 8<=s.size
 | .error e=>e≠0:=by
 have:=Fr.infl most F s ⟨#[]⟩ 0 (by omega)
 cases h:za6 most F s 0 with
 | error e=>rw [h] at this;exact this.1
 | ok x=>rw [h] at this;obtain ⟨a,q⟩:=x;dsimp only at this ⊢;omega
theorem z8b (s:ByteArray) {i k:Nat} (h:i+k<=s.size):(s.extract i s.size).extract 0 k=s.extract i (i+k):=by
 refine z8S ?_ λj hj=>?_
 · simp only [size_extract];omega
 · simp only [size_extract] at hj
   rw [zS _ _ _ _ (by omega),zS _ _ _ _ (by omega),zS _ _ _ _ (by omega),Nat.zero_add]
theorem z7Q {s:ByteArray} {most:Int} {F:Nat} (hs:s.size<=2^40) (hm : -9223372036854775808<=most/\most<=2^40) (hF:8*s.size<F) {σ:Mem} :
 z1 PG z2X [.str s,.int .i64 most] σ λv σ'=>v=.tup [.str (unz most F s).1,.int .i64 (unz most F s).2]/\σ.Same σ':=by
 refine zex λlive=>?_
 unfold zaO
 have hb:∀ k,σ.Same (σ.bump k):=λk=>(Mem.Same.refl σ).bump k
 refine ifD (λh2=>?_) (λh2=>?_)
 · rw [unz,if_pos (by omega)]
   exact ⟨rfl,hb _⟩
 have b0:=zF s 0
 have b1:=zF s 1
 refine And.intro (by omega) ?_
 refine z6 (by rw [show Int.toNat 0=0 from rfl];omega) ?_
 refine And.intro (by omega) ?_
 refine z6 (by rw [show Int.toNat 1=1 from rfl];omega) ?_
 rw [show Int.toNat 0=0 from rfl,show Int.toNat 1=1 from rfl]
 refine z0 (zky b0 b1 (σ:=σ.bump 15)) ?_
 rintro _ σ1 ⟨rfl,s1⟩
 have s01:=s1.ob
 refine To.go ?_
 by_cases hh:zaV (ze s 0) (ze s 1)
 · rw [decide_eq_true hh]
   refine ifF (p:=False) id ?_
   refine And.intro (by omega) ?_
   rw [show Int.toNat 2=2 from rfl,Int.toNat_natCast]
   have hz:=size_extract s 2 s.size
   have hfine:=zhR (most:=most) (F:=F) (s:=s.extract 2 s.size)
   have hroom:∀ a q,za6 most F (s.extract 2 s.size) 0=.ok (a,q)->a.length<=2^40:=λa q h=>by
    rcases zgK h with rfl | h
    · simp
    · omega
   refine z0 (ze7 (σ:=σ1.bump 11) (s:=s.extract 2 s.size) (most:=most) (F:=F) (by omega) hm (by omega)) ?_
   rintro _ σ2 ⟨rfl,s2⟩
   have s02:=s01.trans s2.ob
   unfold unz
   rw [if_neg (by omega),if_neg (not_not_intro hh)]
   cases hR:za6 most F (s.extract 2 s.size) 0 with
   | error e=>
     rw [hR] at hfine
     dsimp only at hfine
     unfold zhD
     dsimp only
     refine zba rfl ?_
     refine z3v rfl ?_
     refine z3v rfl ?_
     refine ifT hfine ?_
     exact ⟨rfl,s02.bump _⟩
   | ok x=>
     obtain ⟨a,q⟩:=x
     have hal:=hroom a q hR
     rw [hR] at hfine
     dsimp only at hfine
     unfold zhD
     dsimp only
     obtain ⟨n,hn⟩:∃ n,(q+7) / 8=n:=⟨_,rfl⟩
     rw [hn] at hfine ⊢
     refine zba rfl ?_
     refine z3v rfl ?_
     refine z3v rfl ?_
     refine ifF (not_not_intro rfl) ?_
     refine z6 (by omega) ?_
     refine And.intro (by omega) ?_
     rw [show (2+((n:Nat):Int)).toNat=2+n from by omega,Int.toNat_natCast]
     have hz2:=size_extract s (2+n) s.size
     refine ifD (λh4=>?_) (λh4=>?_)
     · rw [if_pos (by omega)]
       exact ⟨rfl,s02.bump _⟩
     · rw [if_neg (by omega)]
       refine And.intro (by omega) ?_
       rw [show Int.toNat 0=0 from rfl,show Int.toNat 4=4 from rfl,z8b s (by omega)]
       refine z0 (zjk (σ:=σ2.bump 17) (s:=⟨a.toArray⟩) (by show a.length<=2^50;omega)) ?_
       rintro _ σ3 ⟨rfl,s3⟩
       have s03:=s02.trans s3.ob
       refine To.go ?_
       refine ifD (λh17=>?_) (λh17=>?_)
       · rw [if_pos h17]
         exact ⟨rfl,s03.bump _⟩
       · rw [if_neg h17]
         refine ifD (λh5=>?_) (λh5=>?_)
         · rw [if_pos (by omega)]
           exact ⟨rfl,s03.bump _⟩
         · rw [if_neg (by omega)]
           exact ⟨rfl,s03.bump _⟩
 · rw [decide_eq_false hh]
   refine ifT (p:=True) trivial ?_
   rw [unz,if_neg (by omega),if_pos hh]
   exact ⟨rfl,s01.bump _⟩
/-! ### The chapter's examples -/
theorem zqy:unz 9 60 ⟨#[120,1]⟩=(⟨#[]⟩,3):=by decide +kernel
theorem zqG:unz 9 60 ⟨#[120,2]⟩=(⟨#[]⟩,16):=by decide +kernel
theorem zqB:unz 9 100 ⟨#[120,1,3,0,0,0,0,2]⟩=(⟨#[]⟩,17):=by decide +kernel
theorem zqw:zwrap ⟨#[]⟩ 0=⟨#[120,1,3,0,0,0,0,1]⟩:=by
 unfold zwrap
 rw [znF]
 decide +kernel
theorem zj2 (σ:Mem):z1 PG z31 [] σ λv σ'=>v=.bool true/\σ.Same σ':=by
 refine zeQ λlive=>?_
 unfold zb8
 refine z0 (z7Q (s:=⟨#[120,1]⟩) (most:=9) (F:=60) (by decide) (by decide) (by decide)) ?_
 rintro _ σ1 ⟨rfl,s1⟩
 rw [zqy]
 refine zba rfl ?_
 refine z3v rfl ?_
 refine z0 (z7Q (s:=⟨#[120,2]⟩) (most:=9) (F:=60) (by decide) (by decide) (by decide)) ?_
 rintro _ σ2 ⟨rfl,s2⟩
 rw [zqG]
 refine zba rfl ?_
 refine z3v rfl ?_
 refine z0 (z7Q (s:=⟨#[120,1,3,0,0,0,0,2]⟩) (most:=9) (F:=100) (by decide) (by decide) (by decide)) ?_
 rintro _ σ3 ⟨rfl,s3⟩
 rw [zqB]
 refine zba rfl ?_
 refine z3v rfl ?_
 refine z0 (zn0 (s:=⟨#[]⟩) (by decide)) ?_
 rintro _ σ4 ⟨⟨k,hk,rfl⟩,s4⟩
 obtain rfl:=zdd hk zod
 refine To.go ?_
 rw [zqw]
 refine ifT rfl ?_
 refine ifT rfl ?_
 refine ifT rfl ?_
 exact ⟨rfl,((s1.ob.trans s2.ob).trans s3.ob).trans s4.ob⟩
end Go.Vit
