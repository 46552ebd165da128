/- Readers and writers (as in the first seats) -/
import Derived.Test.YtloeboiajgfigaaGreatV7C
import Derived.Test.YtloeboiajgfigaaGreatVm2
import Derived.Test.YtloeboiajgfigaaGreatVm3
set_option linter.unusedVariables false
set_option linter.unusedSimpArgs false
set_option maxRecDepth 20000
namespace Go.Vit
open Go.Proofs
section
def rdB (s:ByteArray) (at' k n:Nat):Blk:=.rw [.str (s.extract k s.size),.int .i64 (val s at' n:Nat),.int .i64 (n:Nat)]
def rdP (s:ByteArray) (at':Nat):Blk:=rdB s at' ((at'+7) / 8) (8*((at'+7) / 8)-at')
def rdR (s:ByteArray) (at':Nat):Blk:=.rw [.str s,.int .i64 (at':Nat)]
theorem z86 {s:ByteArray} {at' r:Nat} {σ:Mem} (hs:s.size<=2^50) (h:σ.get r=some (rdP s at')) (ha:at'<=8*s.size) :
 z1 PG z2m [.ptr r 0] σ λv σ'=>v=.int .i64 ((8*s.size-at':Nat):Int)/\σ.Same σ':=by
 refine zad λ_=>?_
 unfold z6D
 unfold rdP rdB at h
 have hz:=size_extract s ((at'+7) / 8) s.size
 repeat (first | refine To.go ?_ | with_reducible refine And.intro (by omega) ?_ | ((with_reducible apply ldrw);(· ((simp (disch:=omega) only [go_sem, *];try rfl)));(· (rfl))))
 refine ⟨?_,(Mem.Same.refl σ).bump _⟩
 congr 1;omega
def z36 (s:ByteArray) (at':Nat) (n:Int):Nat×Int×Nat:=
 if n<0\/24<n then (0,1,at') else if ((8*s.size-at':Nat):Int)<n then (0,3,at') else (val s at' n.toNat,0,at'+n.toNat)
theorem z80 {s:ByteArray} {at' r:Nat} {n:Int} {σ:Mem} (hs:s.size<=2^50) (h:σ.get r=some (rdP s at')) (ha:at'<=8*s.size) :
 z1 PG zC [.ptr r 0,.int .i64 n] σ λv σ'=>v=.tup [.int .i64 ((z36 s at' n).1:Nat),.int .i64 (z36 s at' n).2.1]/\σ'.get r=some (rdP s (z36 s at' n).2.2)/\Mem.Only [r] σ σ':=by
 refine za7 λlive=>?_
 unfold z6B
 have hr:=live.lt h
 repeat (refine To.go ?_)
 refine ifD (λh0=>?_) (λh0=>?_)
 · rw [z36,if_pos (.inl h0)]
   exact ⟨rfl,h,(Mem.Only.refl _ σ).bump _⟩
 refine ifD (λh1=>?_) (λh1=>?_)
 · rw [z36,if_pos (.inr h1)]
   exact ⟨rfl,h,(Mem.Only.refl _ σ).bump _⟩
 refine z0 (z86 hs h ha) ?_
 rintro v σ1 ⟨rfl,s1⟩
 replace s1:=s1.ob
 repeat (refine To.go ?_)
 have e1:σ1.get r=some (rdP s at'):=s1.keep h hr
 refine ifD (λh2=>?_) (λh2=>?_)
 · rw [z36,if_neg (by omega),if_pos h2]
   exact ⟨rfl,e1,(s1.only _).bump _⟩
 obtain ⟨n,rfl⟩:=z20 (by omega:0<=n)
 rw [z36,if_neg (by omega),if_neg h2,Int.toNat_natCast]
 refine loop0 (λ(k:Nat) σ'=>(∃ m,at'+m=8*k/\k<=s.size/\m<=31/\(m<n\/m<n+8)/\(m<8\/m<n+8)/\σ'.get r=some (rdB s at' k m))/\Mem.Only [r] σ σ') (λk=>s.size-k) ((at'+7) / 8) ⟨⟨8*((at'+7) / 8)-at',by omega,by omega,by omega,by omega,by omega,e1⟩,s1.only _⟩ ?_
 rintro k σ2 ⟨⟨m,hm1,hk,hm2,hm3,hm4,e2⟩,o2⟩
 unfold z4R
 unfold rdB at e2
 repeat (first | refine To.go ?_ | ((with_reducible apply ldrw);(· ((simp (disch:=omega) only [go_sem, *];try rfl)));(· (rfl))))
 refine ifD (λhlt=>?_) (λhge=>?_)
 · have hz:=size_extract s k s.size
   have hb:=zF (s.extract k s.size) 0
   have hbe:ze (s.extract k s.size) 0=ze s k:=zS s k s.size 0 (by omega)
   rw [hbe] at hb
   repeat (first | refine To.go ?_ | with_reducible refine And.intro (by omega) ?_ | ((with_reducible apply ldrw);(· ((simp (disch:=omega) only [go_sem, *];try rfl)));(· (rfl))))
   rw [hbe,Int.toNat_natCast,show ((ze s k:Nat):Int)*2^m=((ze s k*2^m:Nat):Int) from by simp]
   have hw:ze s k*2^m<2^39:=z9f (a:=8) hb (by omega)
   have hv:=zcr s at' m
   have hv2:2^m<=2^31:=z1D hm2
   obtain ⟨w,hwe⟩:∃ w,ze s k*2^m=w:=⟨_,rfl⟩
   rw [hwe] at hw ⊢
   obtain ⟨u,hu⟩:∃ u,val s at' m=u:=⟨_,rfl⟩
   rw [hu] at hv e2 ⊢
   repeat (first | refine To.go ?_ | with_reducible refine And.intro (by omega) ?_ | ((with_reducible apply ldrw);(· ((simp (disch:=omega) only [go_sem, *];try rfl)));(· (rfl))) | ((with_reducible apply st1);(· ((simp (disch:=omega) only [go_sem, *];try rfl)));(· simp);(· rfl)))
   rw [ziL (by omega) (by omega),Int.toNat_natCast,Int.toNat_natCast]
   clear hb hbe
   skip
   have hx:(s.extract k s.size).extract (Int.toNat 1) ((((s.extract k s.size).size:Nat):Int)).toNat=s.extract (k+1) s.size:=by
    rw [Int.toNat_natCast,hz,z5L s (by omega),show k+(min s.size s.size-k)=s.size from by omega];rfl
   have hvn:u ||| w=val s at' (m+8):=by
    rw [<- hwe,z7L hv,zg6,hm1,zjX,hu,Nat.mul_comm]
   rw [hx,hvn]
   refine again ⟨k+1,⟨⟨m+8,by omega,by omega,by omega,by omega,by omega,?_⟩,?_⟩,by omega⟩
   · rw [gS'];rfl
   · repeat (with_reducible first | assumption | refine Mem.Only.bump ?_ _ | refine Mem.Only.put ?_ (by simp) _)
 · have hn:2^n<=2^24:=z1D (by omega)
   have hn1:=Nat.pow_pos (n:=n) (show 0<2 by decide)
   have hv:=zcr s at' m
   have hv2:2^m<=2^31:=z1D hm2
   repeat (first | refine To.go ?_ | with_reducible refine And.intro (by omega) ?_ | ((with_reducible apply ldrw);(· ((simp (disch:=omega) only [go_sem, *];try rfl)));(· (rfl))))
   rw [Int.toNat_natCast,show (1*2^n:Int)=((2^n:Nat):Int) from by simp]
   have hmod:=zmr s at' (m:=m) (n:=n) (by omega)
   have hdiv:=zn2 s at' (m:=m) (n:=n) (by omega)
   have hmask:=zns (val s at' m) n
   obtain ⟨p,hp⟩:∃ p,2^n=p:=⟨_,rfl⟩
   obtain ⟨u,hu⟩:∃ u,val s at' m=u:=⟨_,rfl⟩
   rw [hp] at hn hn1 hmod hmask hdiv ⊢
   rw [hu] at hv e2 hmod hdiv hmask ⊢
   repeat (first | refine To.go ?_ | with_reducible refine And.intro (by omega) ?_ | ((with_reducible apply ldrw);(· ((simp (disch:=omega) only [go_sem, *];try rfl)));(· (rfl))) | ((with_reducible apply st1);(· ((simp (disch:=omega) only [go_sem, *];try rfl)));(· simp);(· rfl)))
   rw [zpi (by omega) (by omega),Int.toNat_natCast,show ((p:Int)-1).toNat=p-1 from by omega,hmask,hmod]
   clear hmask hmod
   skip
   rw [Int.toNat_natCast,show (2^n:Int)=((2^n:Nat):Int) from by simp,hp,show ((u:Int) / (p:Int))=((u / p:Nat):Int) from by simp,hdiv]
   skip
   refine ⟨rfl,?_,?_⟩
   · have e:(m:Int)-n=((m-n:Nat):Int):=by omega
     rw [e,gB gS',rdP,show (at'+n+7) / 8=k from by omega,show 8*k-(at'+n)=m-n from by omega]
     rfl
   · repeat (with_reducible first | assumption | refine Mem.Only.bump ?_ _ | refine Mem.Only.put ?_ (by simp) _)
theorem zkU {a m n:Nat} (h:a<2^m):a / 2^n<2^m:=Nat.lt_of_le_of_lt (Nat.div_le_self _ _) h
theorem zfv (s:ByteArray) (k:Nat):rdP s (8*k)=.rw [.str (s.extract k s.size),.int .i64 0,.int .i64 0]:=by
 unfold rdP rdB
 rw [show (8*k+7) / 8=k from by omega,Nat.sub_self];rfl
theorem zn7 (s:ByteArray) (σ:Mem):z1 PG za5 [.str s] σ λv σ'=>∃ r,v=.ptr r 0/\σ.next<=r/\r<σ'.next/\σ'.get r=some (rdP s 0)/\σ.Same σ':=by
 refine zgJ λ_=>?_
 unfold zdz
 repeat (refine To.go ?_)
 refine ⟨_,rfl,by omega,by simp only [Mem.next_put,Mem.next_bump];omega,?_,by repeat (with_reducible first | exact Mem.Same.refl _ | refine Mem.Same.bump ?_ _ | refine Mem.Same.put ?_ (by omega) _)⟩
 have:rdP s 0=.rw [.str (s.extract 0 s.size),.int .i64 0,.int .i64 0]:=zfv s 0
 rw [gS',this,ByteArray.extract_zero_size]
def WrI (σ:Mem) (w:Nat) (o:List Nat) (W N k:Nat):Prop:=
 ∃ v,o=w::z3 v/\w ∉ z3 v/\σ.get w=some (.rw [v,.int .i64 (W / 2^(8*k):Nat),.int .i64 ((N-8*k:Nat):Int)])/\z1Q 1 σ v (bl (wb W k)) k
def WrP (σ:Mem) (w:Nat) (o:List Nat) (W N:Nat):Prop:=W<2^N/\WrI σ w o W N (N / 8)
theorem WrI.keep {σ σ':Mem} {w:Nat} {o:List Nat} {W N k:Nat} (h:WrI σ w o W N k) (hb:∀ b∈o,σ'.get b=σ.get b):WrI σ' w o W N k:=by
 obtain ⟨v,rfl,h1,h2,h3⟩:=h
 exact ⟨v,rfl,h1,(hb w (by simp)).trans h2,h3.keep λb hm=>hb b (by simp [hm])⟩
theorem WrI.lt {σ:Mem} {w:Nat} {o:List Nat} {W N k:Nat} (h:WrI σ w o W N k) (live:σ.Live):∀ b∈o,b<σ.next:=by
 obtain ⟨v,rfl,h1,h2,h3⟩:=h
 intro b hb
 rcases List.mem_cons.1 hb with rfl | hb
 · exact live.lt h2
 · exact h3.lt live b hb
theorem z0b {w:Nat} {o:List Nat} {W N:Nat} {v n:Int} {σ:Mem} (h:WrP σ w o W N) (hN:N<=2^40) (h1 : -9223372036854775808<=v) (h2:v<=9223372036854775807) :
 z1 PG zg [.ptr w 0,.int .i64 v,.int .i64 n] σ λr σ'=>r=.tup []/\∃ o',WrP σ' w o' (lay W N v n).1 (lay W N v n).2/\Grow o o' σ σ':=by
 refine zak λlive=>?_
 unfold z6u
 obtain ⟨hW,hI⟩:=h
 have hlt:=hI.lt live
 repeat (refine To.go ?_)
 refine ifD (λh0=>?_) (λh0=>?_)
 · rw [lay,if_pos (.inl h0)]
   exact ⟨rfl,o,⟨hW,hI⟩,(Grow.refl hlt).bump _⟩
 refine ifD (λh3=>?_) (λh3=>?_)
 · rw [lay,if_pos (.inr h3)]
   exact ⟨rfl,o,⟨hW,hI⟩,(Grow.refl hlt).bump _⟩
 obtain ⟨n,rfl⟩:=z20 (by omega:0<=n)
 have hlay:lay W N v n=(W+(v % 2^n).toNat*2^N,N+n):=by rw [lay,if_neg (by omega),Int.toNat_natCast]
 have hL:=zjj v n hW
 rw [hlay] at hL ⊢
 have hx:=z9e v n
 have hmask:=zb0 (n:=n) h1 h2 (by omega)
 obtain ⟨x,hxe⟩:∃ x,(v % 2^n).toNat=x:=⟨_,rfl⟩
 rw [hxe] at hx hL hmask ⊢
 obtain ⟨u,rfl,hw,e,own⟩:=hI
 have hp:2^n<=2^24:=z1D (by omega)
 have hp1:=Nat.pow_pos (n:=n) (show 0<2 by decide)
 repeat (first | refine To.go ?_ | with_reducible refine And.intro (by omega) ?_ | ((with_reducible apply ldrw);(· ((simp (disch:=omega) only [go_sem, *];try rfl)));(· (rfl))))
 rw [Int.toNat_natCast,show (1*2^n:Int)=((2^n:Nat):Int) from by simp]
 obtain ⟨p,hpe⟩:∃ p,2^n=p:=⟨_,rfl⟩
 rw [hpe] at hp hp1 hx hmask ⊢
 repeat (first | refine To.go ?_ | with_reducible refine And.intro (by omega) ?_ | ((with_reducible apply ldrw);(· ((simp (disch:=omega) only [go_sem, *];try rfl)));(· (rfl))))
 rw [show ((p:Int)-1)=((p-1:Nat):Int) from by omega,hmask]
 skip
 rw [Int.toNat_natCast,show ((x:Int)*2^(N-8*(N / 8)))=((x*2^(N-8*(N / 8)):Nat):Int) from by simp]
 have hh:=zbU hW (m:=8*(N / 8)) (by omega)
 have hq:x*2^(N-8*(N / 8))<2^31:=z9f (a:=24) (by omega) (by omega)
 have hh2:2^(N-8*(N / 8))<=2^7:=z1D (by omega)
 have hsum:W / 2^(8*(N / 8)) ||| x*2^(N-8*(N / 8))=(W+x*2^N) / 2^(8*(N / 8)):=by rw [z7L hh,z3E W x (by omega)]
 obtain ⟨q,hqe⟩:∃ q,x*2^(N-8*(N / 8))=q:=⟨_,rfl⟩
 rw [hqe] at hq hsum ⊢
 obtain ⟨z,hze⟩:∃ z,W / 2^(8*(N / 8))=z:=⟨_,rfl⟩
 rw [hze] at hh hsum e ⊢
 repeat (first | refine To.go ?_ | with_reducible refine And.intro (by omega) ?_ | ((with_reducible apply ldrw);(· ((simp (disch:=omega) only [go_sem, *];try rfl)));(· (rfl))) | ((with_reducible apply st1);(· ((simp (disch:=omega) only [go_sem, *];try rfl)));(· simp);(· rfl)))
 rw [ziL (by omega) (by omega),Int.toNat_natCast,Int.toNat_natCast,hsum]
 skip
 have own0:z1Q 1 σ u (bl (wb (W+x*2^N) (N / 8))) (N / 8):=by rw [zm2 (by omega)];exact own
 have hwn:w<σ.next:=hlt w (by simp)
 obtain ⟨Y,hY⟩:∃ Y,W+x*2^N=Y:=⟨_,rfl⟩
 rw [hY] at own0 hL ⊢
 have hneu:∀ b∈z3 u,b≠w:=λb hb e=>hw (e ▸ hb)
 refine loop0 (λ(k:Nat) σ'=>∃ o',WrI σ' w o' Y (N+n) k/\8*k<=N+n/\Grow (w::z3 u) o' σ σ'/\σ.next<=σ'.next/\∀ b∈o',b<σ'.next) (λk=>N+n-8*k) (N / 8) ⟨w::z3 u,⟨u,rfl,hw,?_,?_⟩,by omega,⟨?_,λb hb=>.inl hb,?_⟩,?_,?_⟩ ?_
 · rw [gS',show ((N-8*(N / 8):Nat):Int)+n=((N+n-8*(N / 8):Nat):Int) from by omega];rfl
 · exact own0.keep λb hb=>by rw [Mem.get_put_ne _ (hneu b hb),Mem.get_bump,Mem.get_put_ne _ (hneu b hb)];rfl
 · repeat (with_reducible first | exact Mem.Only.refl _ _ | refine Mem.Only.bump ?_ _ | refine Mem.Only.put ?_ (by simp) _)
 · intro b hb;have:=hlt b hb;simp only [Mem.next_bump,Mem.next_put];omega
 · simp only [Mem.next_bump,Mem.next_put];omega
 · intro b hb;have:=hlt b hb;simp only [Mem.next_bump,Mem.next_put];omega
 rintro k σ2 ⟨o2,⟨u2,rfl,hw2,e2,own2⟩,hk,g2,hn2,hlt2⟩
 unfold z4N
 repeat (first | refine To.go ?_ | ((with_reducible apply ldrw);(· ((simp (disch:=omega) only [go_sem, *];try rfl)));(· (rfl))))
 have hw2n:=hlt2 w (by simp)
 have hlu2:∀ b∈z3 u2,b<σ2.next:=λb hb=>hlt2 b (by simp [hb])
 refine ifD (λh8=>?_) (λh8=>?_)
 · repeat (first | refine To.go ?_ | ((with_reducible apply ldrw);(· ((simp (disch:=omega) only [go_sem, *];try rfl)));(· (rfl))))
   obtain ⟨y,hy⟩:∃ y,Y / 2^(8*k)=y:=⟨_,rfl⟩
   rw [hy] at e2 ⊢
   refine z1Q.append (n:=k) (m:=1) (own2.keep λb hb=>?_) (λK hK=>z6R gS' rfl rfl K hK) (by omega) rfl rfl (zcI _) (by omega) (λhb=>?_) ?_
   · rw [Mem.get_put_ne _ (by have:=hlu2 b hb;omega)];rfl
   · have:=hlu2 _ hb;omega
   intro v' σ3 own3 hn3 hg3 hb3
   have hw3:w ∉ z3 v':=λhb=>by
    rcases hb3 w hb with h | h
    · exact hw2 h
    · omega
   have e3:σ3.get w=σ2.get w:=by rw [hg3 w hw2 (by omega),Mem.get_put_ne _ (by omega)];rfl
   rw [e2] at e3
   repeat (refine To.go ?_)
   refine st1 e3 (by simp) own3.one ?_
   simp only [Mem.next_bump,Mem.next_put] at hn3
   repeat (first | refine To.go ?_ | with_reducible refine And.intro (by omega) ?_ | ((with_reducible apply ldrw);(· ((simp (disch:=omega) only [go_sem, *];try rfl)));(· (rfl))) | ((with_reducible apply st1);(· ((simp (disch:=omega) only [go_sem, *];try rfl)));(· simp);(· rfl)))
   have hneu3:∀ b∈z3 v',b≠w:=λb hb e=>hw3 (e ▸ hb)
   refine again ⟨k+1,⟨w::z3 v',⟨v',rfl,hw3,?_,?_⟩,by omega,?_,?_,?_⟩,by omega⟩
   · rw [gS',show ((N+n-8*k:Nat):Int)-8=((N+n-8*(k+1):Nat):Int) from by omega,show ((y:Int) / 256)=((Y / 2^(8*(k+1)):Nat):Int) from ?_]
     · rfl
     · rw [<- hy,Nat.mul_add,Nat.pow_add,<- Nat.div_div_eq_div_mul];simp
   · rw [za4,<- z8Q,hy,zmX]
     refine z1Q.keep (σ:=σ3) own3 λb hb=>?_
     rw [Mem.get_put_ne _ (hneu3 b hb),Mem.get_bump,Mem.get_put_ne _ (hneu3 b hb),Mem.get_bump,Mem.get_put_ne _ (hneu3 b hb)]
   · refine g2.trans ⟨?_,?_,?_⟩
     · have o3:Mem.Only (w::z3 u2) σ2 σ3:=⟨by omega,λb hb hn=>by
        simp at hn
        rw [hg3 b hn.2 (by omega),Mem.get_put_ne _ (by omega)];rfl⟩
       repeat (with_reducible first | assumption | refine Mem.Only.bump ?_ _ | refine Mem.Only.put ?_ (by simp) _)
     · intro b hb
       rcases List.mem_cons.1 hb with rfl | hb
       · exact .inl (by simp)
       · rcases hb3 b hb with h | h
         · exact .inl (by simp [h])
         · exact .inr (by omega)
     · intro b hb
       simp only [Mem.next_bump,Mem.next_put]
       rcases List.mem_cons.1 hb with rfl | hb
       · omega
       · rcases hb3 b hb with h | h
         · have:=hlu2 b h;omega
         · omega
   · simp only [Mem.next_bump,Mem.next_put];omega
   · intro b hb
     simp only [Mem.next_bump,Mem.next_put]
     rcases List.mem_cons.1 hb with rfl | hb
     · omega
     · rcases hb3 b hb with h | h
       · have:=hlu2 b h;omega
       · omega
 · refine ⟨rfl,w::z3 u2,⟨hL,u2,rfl,hw2,?_,?_⟩,g2.bump _⟩
   · rw [show (N+n) / 8=k from by omega];exact e2
   · rw [show (N+n) / 8=k from by omega];exact own2
theorem zmb (W N:Nat) (h:N % 8=0):text W N=⟨(wb W (N / 8)).toArray⟩:=by
 unfold text;rw [show (N+7) / 8=N / 8 from by omega]
theorem zn9 (W N:Nat) (h:N % 8≠0):text W N=⟨(wb W (N / 8)).toArray⟩++⟨[UInt8.ofNat (W / 2^(8*(N / 8)) % 256)].toArray⟩:=by
 unfold text;rw [show (N+7) / 8=N / 8+1 from by omega,za4]
 refine zc1 ?_
 rw [zb7,zaI,zaI,zaI]
theorem z55 {w:Nat} {o:List Nat} {W N:Nat} {σ:Mem} (h:WrP σ w o W N) (hN:N<=2^60) :
 z1 PG z1k [.ptr w 0] σ λr σ'=>r=.str (text W N)/\σ.Same σ':=by
 refine zam λlive=>?_
 unfold z6z
 obtain ⟨hWl,v,rfl,hw,e,own⟩:=h
 repeat (first | refine To.go ?_ | ((with_reducible apply ldrw);(· ((simp (disch:=omega) only [go_sem, *];try rfl)));(· (rfl))))
 refine z1Q.bstr (own.keep λb _=>rfl) ?_
 repeat (first | refine To.go ?_ | ((with_reducible apply ldrw);(· ((simp (disch:=omega) only [go_sem, *];try rfl)));(· (rfl))))
 refine join1 (λ(s:ByteArray) σ'=>s=text W N/\σ.Same σ') ?_ ?_
 · refine ifD (λh0=>?_) (λh0=>?_)
   · repeat (first | refine To.go ?_ | ((with_reducible apply ldrw);(· ((simp (disch:=omega) only [go_sem, *];try rfl)));(· (rfl))))
     rw [show (((W / 2^(8*(N / 8)):Nat):Int) % 256)=((W / 2^(8*(N / 8)) % 256:Nat):Int) from by omega]
     refine zg5 (l:=[UInt8.ofNat (W / 2^(8*(N / 8)) % 256)]) (by rw [gS',zmX];rfl) rfl ?_
     refine To.go ?_
     refine And.intro ?_ ?_
     · rw [zj3,zj3,z44];simp;omega
     · exact ⟨(zn9 W N (by omega)).symm,by repeat (with_reducible first | exact Mem.Same.refl _ | refine Mem.Same.bump ?_ _ | refine Mem.Same.put ?_ (by omega) _)⟩
   · exact ⟨(zmb W N (by omega)).symm,by repeat (with_reducible first | exact Mem.Same.refl _ | refine Mem.Same.bump ?_ _)⟩
 · rintro s σ1 ⟨rfl,s1⟩
   exact ⟨rfl,by repeat (with_reducible first | assumption | refine Mem.Same.bump ?_ _)⟩
theorem zfH (σ:Mem):z1 PG z7g [] σ λv σ'=>∃ w,v=.ptr w 0/\σ.next<=w/\w<σ'.next/\WrP σ' w [w] 0 0/\σ.Same σ':=by
 refine ziV λ_=>?_
 unfold zfe
 repeat (refine To.go ?_)
 refine ⟨_,rfl,by omega,by simp only [Mem.next_put,Mem.next_bump];omega,⟨by decide,.nils,rfl,by simp [z3],?_,?_⟩,by repeat (with_reducible first | exact Mem.Same.refl _ | refine Mem.Same.bump ?_ _ | refine Mem.Same.put ?_ (by omega) _)⟩
 · rw [gS'];rfl
 · exact .inl ⟨rfl,rfl,rfl⟩
def WrR (σ:Mem) (x:Nat) (o:List Nat) (W N:Nat):Prop:=
 W<2^N/\∃ v,o=x::z3 v/\x ∉ z3 v/\σ.get x=some (.rw [v,.int .i64 (N:Nat)])/\z1Q 1 σ v (bl (wb W ((N+7) / 8))) ((N+7) / 8)
theorem WrR.keep {σ σ':Mem} {x:Nat} {o:List Nat} {W N:Nat} (h:WrR σ x o W N) (hb:∀ b∈o,σ'.get b=σ.get b):WrR σ' x o W N:=by
 obtain ⟨h0,v,rfl,h1,h2,h3⟩:=h
 exact ⟨h0,v,rfl,h1,(hb x (by simp)).trans h2,h3.keep λb hm=>hb b (by simp [hm])⟩
theorem WrR.lt {σ:Mem} {x:Nat} {o:List Nat} {W N:Nat} (h:WrR σ x o W N) (live:σ.Live):∀ b∈o,b<σ.next:=by
 obtain ⟨h0,v,rfl,h1,h2,h3⟩:=h
 intro b hb
 rcases List.mem_cons.1 hb with rfl | hb
 · exact live.lt h2
 · exact h3.lt live b hb
theorem z1Q.pos {k n:Nat} {σ:Mem} {v:AV} {cs:List AV} (h:z1Q k σ v cs n) (hn:0<n):∃ b,v=.slice b 0 n (.op k)/\σ.get b=some (.rw cs)/\cs.length=n*k:=by
 rcases h with ⟨_,h,_⟩ | h
 · omega
 · exact h
theorem zhZ (v:Int) (i:Nat):(v % 2^(i+1)).toNat=(v % 2^i).toNat+(v / 2^i % 2).toNat*2^i:=by
 have h:(0:Int)<2^i:=Int.pow_pos (by decide)
 have hp:((2:Int)^i)=((2^i:Nat):Int):=by simp
 have e:v % 2^(i+1)=v % 2^i+v / 2^i % 2*2^i:=by
  have h1:=Int.emod_nonneg v (Int.ne_of_gt h)
  have h2:=Int.emod_lt_of_pos v h
  have hv:=Int.mul_ediv_add_emod v (2^i)
  rw [Int.pow_succ]
  generalize (2:Int)^i=p at *
  have hq:=Int.mul_ediv_add_emod (v / p) 2
  have hq0:=Int.emod_nonneg (v / p) (show (2:Int)≠0 by decide)
  have hq1:=Int.emod_lt_of_pos (v / p) (show (0:Int)<2 by decide)
  generalize v / p % 2=b at *
  generalize v % p=r at *
  generalize v / p=q at *
  generalize q / 2=t at *
  subst hq
  have:v=p*2*t+(r+b*p):=by
   rw [<- hv,Int.mul_add,Int.mul_assoc,Int.mul_comm b p,Int.add_assoc,Int.add_comm r]
  rw [this,Int.mul_add_emod_self_left]
  refine Int.emod_eq_of_lt ?_ ?_
  · exact Int.add_nonneg h1 (Int.mul_nonneg hq0 (Int.le_of_lt h))
  · rcases (by omega:b=0\/b=1) with rfl | rfl<;>omega
 have hb:=Int.emod_nonneg (v / 2^i) (show (2:Int)≠0 by decide)
 have h1:=Int.emod_nonneg v (Int.ne_of_gt h)
 have:(v % 2^(i+1)).toNat=(v % 2^i+v / 2^i % 2*2^i).toNat:=by rw [e]
 rw [this,Int.toNat_add h1 (Int.mul_nonneg hb (Int.le_of_lt h)),Int.toNat_mul hb (Int.le_of_lt h),hp,Int.toNat_natCast]
theorem zlm {v:Int} (h1 : -9223372036854775808<=v) (h2:v<=9223372036854775807):zB .and .i64 v 1=(((v % 2).toNat:Nat):Int):=zb0 (n:=1) h1 h2 (by decide)
theorem zq8 {Y N b:Nat} (hY:Y<2^N):wb (Y+b*2^N) (N / 8+1)=wb Y (N / 8)++[UInt8.ofNat ((Y / 2^(8*(N / 8)) ||| b*2^(N % 8)) % 256)]:=by
 have h:=zbU hY (m:=8*(N / 8)) (by omega)
 rw [za4,zm2 (by omega),z3E _ _ (by omega),show N % 8=N-8*(N / 8) from by omega,z7L h]
theorem z7n {x:Nat} {o:List Nat} {W N:Nat} {v n:Int} {σ:Mem} (h:WrR σ x o W N) (hN:N<=2^40) (h1 : -9223372036854775808<=v) (h2:v<=9223372036854775807) :
 z1 PG z23 [.ptr x 0,.int .i64 v,.int .i64 n] σ λr σ'=>r=.tup []/\∃ o',WrR σ' x o' (lay W N v n).1 (lay W N v n).2/\Grow o o' σ σ':=by
 refine z9s λlive=>?_
 unfold z60
 have hlt:=h.lt live
 skip
 refine ifD (λh0=>?_) (λh0=>?_)
 · rw [lay,if_pos (.inl h0)]
   exact ⟨rfl,o,h,(Grow.refl hlt).bump _⟩
 refine ifD (λh3=>?_) (λh3=>?_)
 · rw [lay,if_pos (.inr h3)]
   exact ⟨rfl,o,h,(Grow.refl hlt).bump _⟩
 obtain ⟨n,rfl⟩:=z20 (by omega:0<=n)
 have hlay:lay W N v n=(W+(v % 2^n).toNat*2^N,N+n):=by rw [lay,if_neg (by omega),Int.toNat_natCast]
 rw [hlay]
 refine loop1 (λ(i:Nat) (k:Int) σ'=>k=i/\i<=n/\∃ o',WrR σ' x o' (W+(v % 2^i).toNat*2^N) (N+i)/\Grow o o' σ σ') (λi=>n-i) 0 ⟨rfl,by omega,o,?_,(Grow.refl hlt).bump _⟩ ?_
 · have h0:W+(v % 2^0).toNat*2^N=W:=by simp [Int.emod_one]
   rw [h0]
   exact h.keep λb _=>rfl
 rintro i k σ2 ⟨rfl,hi,o2,hW2,g2⟩
 unfold z4o
 refine ifD (λhlt2=>?_) (λhge=>?_)
 · have hnext:W+(v % 2^(i+1)).toNat*2^N=W+(v % 2^i).toNat*2^N+(v / 2^i % 2).toNat*2^(N+i):=by
    rw [zhZ,Nat.add_mul,Nat.mul_assoc,<- Nat.pow_add,Nat.add_comm i N,Nat.add_assoc]
   have hlt':=λb hb=>g2.lt b hb
   obtain ⟨hWl,u,rfl,hx,e,own⟩:=hW2
   have hb01:(v / 2^i % 2).toNat<2:=by have:=Int.emod_lt_of_pos (v / 2^i) (show (0:Int)<2 by decide);omega
   have hv1 : -9223372036854775808<=v / 2^i/\v / 2^i<=9223372036854775807:=by
    have hp:(0:Int)<2^i:=Int.pow_pos (by decide)
    constructor
    · rw [Int.le_ediv_iff_mul_le hp]
      generalize (2:Int)^i=p at *
      omega
    · rcases Int.lt_or_le v 0 with hn | hn
      · have:=Int.ediv_neg_of_neg_of_pos hn hp;omega
      · have:=Int.ediv_le_self (2^i) hn;omega
   obtain ⟨Y,hY⟩:∃ Y,W+(v % 2^i).toNat*2^N=Y:=⟨_,rfl⟩
   rw [hY] at hWl own hnext
   obtain ⟨y,hy⟩:∃ y,v / 2^i=y:=⟨_,rfl⟩
   rw [hy] at hb01 hv1 hnext
   have hand:=zlm hv1.1 hv1.2
   obtain ⟨b,hbe⟩:∃ b,(y % 2).toNat=b:=⟨_,rfl⟩
   rw [hbe] at hand hb01 hnext
   obtain ⟨N',hN'⟩:∃ N',N+i=N':=⟨_,rfl⟩
   rw [hN'] at hWl own hnext e
   have hxn:=hlt' x (by simp)
   repeat (first | refine To.go ?_ | with_reducible refine And.intro (by omega) ?_ | ((with_reducible apply ldrw);(· ((simp (disch:=omega) only [go_sem, *];try rfl)));(· (rfl))))
   refine join0 (λσ'=>∃ u',x ∉ z3 u'/\σ'.get x=some (.rw [u',.int .i64 (N':Nat)])/\z1Q 1 σ' u' (bl (wb Y (N' / 8+1))) (N' / 8+1)/\Grow o (x::z3 u') σ σ') ?_ ?_
   · refine ifD (λh8=>?_) (λh8=>?_)
     · repeat (first | refine To.go ?_ | ((with_reducible apply ldrw);(· ((simp (disch:=omega) only [go_sem, *];try rfl)));(· (rfl))))
       refine z1Q.append (cs:=bl (wb Y (N' / 8))) (n:=N' / 8) (m:=1) ?_ (λK hK=>z6R gS' rfl rfl K hK) (by omega) rfl rfl (zcI _) (by omega) (λhb=>?_) ?_
       · rw [show (N'+7) / 8=N' / 8 from by omega] at own
         refine own.keep λb hb=>?_
         have:=hlt' b (by simp [hb])
         rw [Mem.get_put_ne _ (by omega)];rfl
       · have:=hlt' _ (List.mem_cons_of_mem _ hb);omega
       intro v' σ3 own3 hn3 hg3 hb3
       simp only [Mem.next_bump,Mem.next_put] at hn3
       have hw3:x ∉ z3 v':=λhb=>by
        rcases hb3 x hb with h | h
        · exact hx h
        · omega
       have hneu3:∀ b∈z3 v',b≠x:=λb hb e=>hw3 (e ▸ hb)
       have e3:σ3.get x=σ2.get x:=by rw [hg3 x hx (by omega),Mem.get_put_ne _ (by omega)];rfl
       rw [e] at e3
       repeat (refine To.go ?_)
       refine st1 e3 (by simp) own3.one ?_
       refine ⟨v',hw3,gS',?_,?_⟩
       · rw [za4,<- z8Q]
         rw [show Y / 2^(8*(N' / 8)) % 256=0 from by rw [Nat.div_eq_of_lt (by rw [show 8*(N' / 8)=N' from by omega];exact hWl)]]
         exact own3.keep λb hb=>Mem.get_put_ne _ (hneu3 b hb) _
       · refine g2.trans ⟨?_,?_,?_⟩
         · have o3:Mem.Only (x::z3 u) σ2 σ3:=⟨by omega,λb hb hn=>by
            simp at hn
            rw [hg3 b hn.2 (by omega),Mem.get_put_ne _ (by omega)];rfl⟩
           repeat (with_reducible first | assumption | refine Mem.Only.put ?_ (by simp) _)
         · intro b hb
           rcases List.mem_cons.1 hb with rfl | hb
           · exact .inl (by simp)
           · rcases hb3 b hb with h | h
             · exact .inl (by simp [h])
             · exact .inr (by omega)
         · intro b hb
           simp only [Mem.next_put]
           rcases List.mem_cons.1 hb with rfl | hb
           · omega
           · rcases hb3 b hb with h | h
             · have:=hlt' _ (List.mem_cons_of_mem _ h);omega
             · omega
     · rw [show (N'+7) / 8=N' / 8+1 from by omega] at own
       exact ⟨u,hx,e,own.keep λb _=>rfl,g2.bump _⟩
   · rintro σ3 ⟨u3,hx3,e3,own3,g3⟩
     unfold z4p
     obtain ⟨c,rfl,hc,hcl⟩:=own3.pos (by omega)
     have hcx:c≠x:=λh=>hx3 (by simp [z3,h])
     have hq:=zbU hWl (m:=8*(N' / 8)) (by omega)
     have hq7:2^(N'-8*(N' / 8))<=2^7:=z1D (by omega)
     have hbit:=zq8 (b:=b) hWl
     have hset:=ziv Y (N' / 8) (UInt8.ofNat ((Y / 2^(8*(N' / 8)) ||| b*2^(N' % 8)) % 256))
     have hbb:b*2^(N' % 8)<2^8:=z9f (a:=1) (by omega) (by omega)
     have hgetc:(bl (wb Y (N' / 8+1)))[N' / 8]? = some (.int .u8 ((Y / 2^(8*(N' / 8)) % 256:Nat):Int)):=by
      rw [zor (by rw [z44];omega)]
      have:=zlq (W:=Y) (show N' / 8<N' / 8+1 by omega)
      rw [List.getElem?_eq_getElem (by rw [z44];omega)] at this
      rw [Option.some.inj this,UInt8.toNat_ofNat',Nat.mod_mod_of_dvd _ (by decide)]
     obtain ⟨z,hz⟩:∃ z,Y / 2^(8*(N' / 8))=z:=⟨_,rfl⟩
     rw [hz] at hq hbit hset hgetc
     rw [show ((z % 256:Nat):Int)=(z:Int) from by omega] at hgetc
     repeat (first | refine To.go ?_ | with_reducible refine And.intro (by omega) ?_ | ((with_reducible apply ldrw);(· ((simp (disch:=omega) only [go_sem, *];try rfl)));(· (rfl))))
     rw [show ((N':Int) / 8).toNat=N' / 8 from by omega]
     repeat (first | refine To.go ?_ | with_reducible refine And.intro (by omega) ?_ | ((with_reducible apply ldrw);(· ((simp (disch:=omega) only [go_sem, *];try rfl)));(· (first | with_reducible assumption | rfl))))
     rw [Int.toNat_natCast,hy,hand]
     skip
     have hsh:((b:Int) % 256*2^((N':Int) % 8).toNat % 256)=((b*2^(N' % 8):Nat):Int):=by
      rw [show ((N':Int) % 8).toNat=N' % 8 from by omega,show ((b:Int) % 256)=(b:Int) from by omega,show ((b:Int)*2^(N' % 8))=((b*2^(N' % 8):Nat):Int) from by simp]
      omega
     have hz8:z<256:=by omega
     rw [hsh,zpB hz8 (by omega),show ((N':Int) / 8).toNat=N' / 8 from by omega]
     have hor:z ||| b*2^(N' % 8)<2^8:=Nat.or_lt_two_pow hz8 hbb
     obtain ⟨q,hqe⟩:∃ q,z ||| b*2^(N' % 8)=q:=⟨_,rfl⟩
     rw [hqe] at hset hbit hor ⊢
     refine st1 hc (by rw [z5K,z44];omega) rfl ?_
     have hqb:AV.int .u8 ((q:Nat):Int)=.int .u8 ((UInt8.ofNat (q % 256)).toNat:Nat):=by
      rw [UInt8.toNat_ofNat'];congr 2;omega
     rw [hqb,zpK,hset,<- hbit]
     repeat (first | refine To.go ?_ | with_reducible refine And.intro (by omega) ?_ | ((with_reducible apply ldrw);(· ((simp (disch:=omega) only [go_sem, *];try rfl)));(· (rfl))) | ((with_reducible apply st1);(· ((simp (disch:=omega) only [go_sem, *];try rfl)));(· simp);(· rfl)))
     refine again ⟨i+1,⟨by omega,by omega,[x,c],⟨?_,.slice c 0 (N' / 8+1) (.op 1),rfl,hx3,?_,?_⟩,?_⟩,by omega⟩
     · rw [hnext,<- Nat.add_assoc,hN',Nat.pow_succ]
       rcases (by omega:b=0\/b=1) with rfl | rfl<;>omega
     · rw [Mem.get_bump,gS',<- Nat.add_assoc,hN',show ((N':Int)+1)=((N'+1:Nat):Int) from by omega];rfl
     · rw [hnext,<- Nat.add_assoc,hN',show (N'+1+7) / 8=N' / 8+1 from by omega]
       refine .inr ⟨c,rfl,?_,by rw [z5K,z44];omega⟩
       rw [Mem.get_bump,Mem.get_put_ne _ hcx,Mem.get_bump,gS']
     · have hcm:c∈z3 (AV.slice c 0 (N' / 8+1) (.op 1)):=by simp [z3]
       refine g3.trans ⟨?_,λb hb=>.inl hb,λb hb=>?_⟩
       · refine Mem.Only.bump (Mem.Only.put (Mem.Only.bump (Mem.Only.put (Mem.Only.bump (Mem.Only.refl _ _) _) (.inl (List.mem_cons_of_mem _ hcm)) _) _) (.inl (by simp)) _) _
       · have:=g3.lt b hb
         simp only [Mem.next_put,Mem.next_bump];omega
 · obtain rfl:i=n:=by omega
   exact ⟨rfl,o2,hW2.keep λb _=>rfl,g2.bump _⟩
end
section
theorem WrP.keep {σ σ':Mem} {w:Nat} {o:List Nat} {W N:Nat} (h:WrP σ w o W N) (hb:∀ b∈o,σ'.get b=σ.get b):WrP σ' w o W N:=⟨h.1,h.2.keep hb⟩
def Two (σ σ':Mem) (w x:Nat) (p q:Nat×Nat):Prop:=
 ∃ o1 o2,WrP σ' w o1 p.1 p.2/\WrR σ' x o2 q.1 q.2/\(∀ b∈o1,b<σ'.next/\b ∉ o2)/\(∀ b∈o2,b<σ'.next/\b ∉ o1)/\(∀ b∈o1,σ.next<=b)/\(∀ b∈o2,σ.next<=b)/\σ.Same σ'
theorem Two.same {σ σ1 σ2:Mem} {w x:Nat} {p q:Nat×Nat} (h:Two σ σ1 w x p q) (s:σ1.Same σ2):Two σ σ2 w x p q:=by
 obtain ⟨o1,o2,h1,h2,h3,h4,h5,h6,h7⟩:=h
 exact ⟨o1,o2,h1.keep λb hb=>s.get b (h3 b hb).1,h2.keep λb hb=>s.get b (h4 b hb).1,λb hb=>⟨Nat.lt_of_lt_of_le (h3 b hb).1 s.next,(h3 b hb).2⟩,λb hb=>⟨Nat.lt_of_lt_of_le (h4 b hb).1 s.next,(h4 b hb).2⟩,h5,h6,h7.trans s⟩
theorem Two.left {σ σ1:Mem} {w x:Nat} {p q:Nat×Nat} (h:Two σ σ1 w x p q):∃ o,WrP σ1 w o p.1 p.2/\∀ σ2 p',(∃ o',WrP σ2 w o' p'.1 p'.2/\Grow o o' σ1 σ2)->Two σ σ2 w x p' q:=by
 obtain ⟨o1,o2,h1,h2,h3,h4,h5,h6,h7⟩:=h
 refine ⟨o1,h1,λσ2 p' ⟨o',h8,g⟩=>?_⟩
 obtain ⟨s,hn⟩:=g.same h7 h5
 obtain ⟨a1,a2⟩:=g.apart h4
 exact ⟨o',o2,h8,h2.keep a2,λb hb=>⟨g.lt b hb,λhm=>(a1 b hm).2 hb⟩,a1,hn,h6,s⟩
theorem Two.right {σ σ1:Mem} {w x:Nat} {p q:Nat×Nat} (h:Two σ σ1 w x p q):∃ o,WrR σ1 x o q.1 q.2/\∀ σ2 q',(∃ o',WrR σ2 x o' q'.1 q'.2/\Grow o o' σ1 σ2)->Two σ σ2 w x p q':=by
 obtain ⟨o1,o2,h1,h2,h3,h4,h5,h6,h7⟩:=h
 refine ⟨o2,h2,λσ2 q' ⟨o',h8,g⟩=>?_⟩
 obtain ⟨s,hn⟩:=g.same h7 h6
 obtain ⟨a1,a2⟩:=g.apart h3
 exact ⟨o1,o',h1.keep a2,h8,a1,λb hb=>⟨g.lt b hb,λhm=>(a1 b hm).2 hb⟩,h5,hn,s⟩
/-! ### The plain law -/
def Front (p q:Nat×Nat):Prop:=p.2<=q.2/\∃ z,q.1=p.1+z*2^p.2
theorem Front.refl (p:Nat×Nat):Front p p:=⟨Nat.le_refl _,0,by simp⟩
theorem Front.trans {p q r:Nat×Nat} (h:Front p q) (h':Front q r):Front p r:=by
 obtain ⟨h1,z,h2⟩:=h
 obtain ⟨h3,y,h4⟩:=h'
 refine ⟨Nat.le_trans h1 h3,z+y*2^(q.2-p.2),?_⟩
 rw [h4,h2,Nat.add_mul,Nat.mul_assoc,<- Nat.pow_add,Nat.sub_add_cancel h1,Nat.add_assoc]
theorem zhV {p q:Nat×Nat} (h:Front p q) {m:Nat} (hm:m<=p.2):∃ z,q.1 / 2^m=p.1 / 2^m+z*2^(p.2-m):=by
 obtain ⟨_,z,hz⟩:=h
 exact ⟨z,by rw [hz,z3E _ _ hm]⟩
theorem zi3 {p q:Nat×Nat} {v:Int} {n:Nat} (hn:n<=24) (hp:p.1<2^p.2) (h:Front (lay p.1 p.2 v n) q):z36 (text q.1 q.2) p.2 n=((v % 2^n).toNat,0,(lay p.1 p.2 v n).2):=by
 have hl:lay p.1 p.2 v n=(p.1+(v % 2^n).toNat*2^p.2,p.2+n):=by rw [lay,if_neg (by omega),Int.toNat_natCast]
 rw [hl] at h ⊢
 have hq:=h.1
 obtain ⟨z,hz⟩:=zhV h (m:=p.2) (by dsimp only;omega)
 dsimp only at hq hz
 rw [z3E _ _ (Nat.le_refl _),Nat.div_eq_of_lt hp,Nat.sub_self,Nat.pow_zero,Nat.mul_one,Nat.zero_add,Nat.add_sub_cancel_left] at hz
 rw [z36,if_neg (by omega),if_neg (by rw [z5X];omega),Int.toNat_natCast,zk1 (by omega),hz,Nat.add_mul_mod_self_right,Nat.mod_eq_of_lt (z9e _ _)]
def Lone (σ σ':Mem) (w:Nat) (p:Nat×Nat):Prop:=∃ o,WrP σ' w o p.1 p.2/\(∀ b∈o,σ.next<=b/\b<σ'.next)/\σ.Same σ'
theorem Lone.same {σ σ1 σ2:Mem} {w:Nat} {p:Nat×Nat} (h:Lone σ σ1 w p) (s:σ1.Same σ2):Lone σ σ2 w p:=by
 obtain ⟨o,h1,h2,h3⟩:=h
 exact ⟨o,h1.keep λb hb=>s.get b (h2 b hb).2,λb hb=>⟨(h2 b hb).1,Nat.lt_of_lt_of_le (h2 b hb).2 s.next⟩,h3.trans s⟩
theorem Lone.step {σ σ1:Mem} {w:Nat} {p:Nat×Nat} (h:Lone σ σ1 w p):∃ o,WrP σ1 w o p.1 p.2/\σ.Same σ1/\∀ σ2 p',(∃ o',WrP σ2 w o' p'.1 p'.2/\Grow o o' σ1 σ2)->Lone σ σ2 w p':=by
 obtain ⟨o,h1,h2,h3⟩:=h
 refine ⟨o,h1,h3,λσ2 p' ⟨o',h8,g⟩=>?_⟩
 obtain ⟨s,hn⟩:=g.same h3 λb hb=>(h2 b hb).1
 exact ⟨o',h8,λb hb=>⟨hn b hb,g.lt b hb⟩,s⟩
end
section
theorem z6V {w:Nat} {o:List Nat} {W N:Nat} {s:ByteArray} {σ:Mem} (h:WrP σ w o W N) (hN:N<=2^40) (hs:s.size<=2^40) :
 z1 PG z1W [.ptr w 0,.str s] σ λr σ'=>r=.tup []/\∃ o',WrP σ' w o' (zjT W N s).1 (zjT W N s).2/\Grow o o' σ σ':=by
 refine z9n λlive=>?_
 unfold z5Z
 have hlt:=h.2.lt live
 have hI:=h.2
 obtain ⟨v,rfl,hw,e,own⟩:=hI
 repeat (first | refine To.go ?_ | with_reducible refine And.intro (by omega) ?_ | ((with_reducible apply ldrw);(· ((simp (disch:=omega) only [go_sem, *];try rfl)));(· (rfl))))
 have hk:(8-((N-8*(N / 8):Nat):Int)) % 8=((8*((N+7) / 8)-N:Nat):Int):=by omega
 rw [hk]
 refine z0 (z0b (n:=((8*((N+7) / 8)-N:Nat):Int)) (o:=w::z3 v) (W:=W) (N:=N) ?_ hN (by decide) (by decide)) ?_
 · exact ⟨h.1,h.2.keep λb _=>rfl⟩
 rintro r σ1 ⟨rfl,o1,hW1,g1⟩
 replace g1:=g1.ob
 rw [zjc W N (by omega)] at hW1
 obtain ⟨hWl,v1,rfl,hw1,e1,own1⟩:=hW1
 have hL:=zm4 s h.1
 unfold zjT at hL ⊢
 dsimp only at hL hWl e1 own1 ⊢
 rw [show N+(8*((N+7) / 8)-N)=8*((N+7) / 8) from by omega] at hWl e1 own1
 obtain ⟨k,hk⟩:∃ k,(N+7) / 8=k:=⟨_,rfl⟩
 rw [hk] at hL hWl e1 own1 ⊢
 rw [show 8*k / 8=k from by omega] at e1 own1
 rw [Nat.div_eq_of_lt hWl,Nat.sub_self] at e1
 have hw1n:=g1.lt w (by simp)
 repeat (first | refine To.go ?_ | ((with_reducible apply ldrw);(· ((simp (disch:=omega) only [go_sem, *];try rfl)));(· (rfl))))
 refine z1Q.append (n:=k) (m:=s.size) (own1.keep λb _=>rfl) zin ?_ ?_ (zcI _) (zcI _) (by omega) (λhb=>?_) ?_
 · intro h0
   rw [List.length_eq_zero_iff.1 (show (zI s).length=0 by rw [zL];exact h0)];rfl
 · rw [z5K,zL];omega
 · have:=g1.lt _ (List.mem_cons_of_mem _ hb);omega
 intro v' σ3 own3 hn3 hg3 hb3
 simp only [Mem.next_bump] at hn3
 have hw3:w ∉ z3 v':=λhb=>by
  rcases hb3 w hb with h | h
  · exact hw1 h
  · omega
 have hneu3:∀ b∈z3 v',b≠w:=λb hb e=>hw3 (e ▸ hb)
 have e3:σ3.get w=σ1.get w:=by rw [hg3 w hw1 (by omega)];rfl
 rw [e1] at e3
 repeat (refine To.go ?_)
 refine st1 e3 (by simp) own3.one ?_
 refine ⟨rfl,w::z3 v',⟨hL,v',rfl,hw3,?_,?_⟩,?_⟩
 · rw [gS',show (8*k+8*s.size) / 8=k+s.size from by omega,show 8*k+8*s.size-8*(k+s.size)=0 from by omega,Nat.div_eq_of_lt (by rw [Nat.mul_add];exact hL)];rfl
 · rw [show (8*k+8*s.size) / 8=k+s.size from by omega,zlS _ _ hWl,zqi,<- z8Q]
   exact own3.keep λb hb=>Mem.get_put_ne _ (hneu3 b hb) _
 · refine g1.trans ⟨?_,?_,?_⟩
   · have o3:Mem.Only (w::z3 v1) σ1 σ3:=⟨by omega,λb hb hn=>by
      simp at hn
      rw [hg3 b hn.2 (by omega)];rfl⟩
     repeat (with_reducible first | assumption | refine Mem.Only.put ?_ (by simp) _)
   · intro b hb
     rcases List.mem_cons.1 hb with rfl | hb
     · exact .inl (by simp)
     · rcases hb3 b hb with h | h
       · exact .inl (by simp [h])
       · exact .inr (by omega)
   · intro b hb
     simp only [Mem.next_put]
     rcases List.mem_cons.1 hb with rfl | hb
     · omega
     · rcases hb3 b hb with h | h
       · have:=g1.lt _ (List.mem_cons_of_mem _ h);omega
       · omega
end
end Go.Vit
