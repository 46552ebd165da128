/- Readers and writers (as in the first seats) -/
import Derived.Test.YtloeboiajgfigaaV6C
import Derived.Test.YtloeboiajgfigaaVm2
import Derived.Test.YtloeboiajgfigaaVm3
set_option linter.unusedVariables false
set_option linter.unusedSimpArgs false
set_option linter.unusedSimpArgs false
set_option maxRecDepth 20000
namespace Go.Vit
open Go.Proofs
section
def rdB (s:ByteArray) (at' k n:Nat):Blk:=.rw [.str (s.extract k s.size),.int .i64 (val s at' n:Nat),.int .i64 (n:Nat)]
def rdP (s:ByteArray) (at':Nat):Blk:=rdB s at' ((at'+7) / 8) (8*((at'+7) / 8)-at')
theorem bits_Reader_Left {s:ByteArray} {at' r:Nat} {σ:Mem} (hs:s.size<=2^50) (h:σ.get r=some (rdP s at')) (ha:at'<=8*s.size) :
 ACalls PG n_bits_Reader_Left [.ptr r 0] σ fun v σ'=>v=.int .i64 ((8*s.size-at':Nat):Int)/\σ.Same σ':=by
 refine ok_bits_Reader_Left fun _=>?_
 unfold F_bits_Reader_Left
 unfold rdP rdB at h
 have hz:=size_extract s ((at'+7) / 8) s.size
 repeat (first | refine To.go ?_ | with_reducible refine And.intro (by omega) ?_ | ((with_reducible apply ldrw);(· ((simp (disch:=omega) only [go_sem, *];try rfl)));(· (rfl))))
 refine ⟨?_,(Mem.Same.refl σ).bump _⟩
 congr 1;omega
def rdBits (s:ByteArray) (at':Nat) (n:Int):Nat×Int×Nat:=
 if n<0\/24<n then (0,1,at') else if ((8*s.size-at':Nat):Int)<n then (0,3,at') else (val s at' n.toNat,0,at'+n.toNat)
theorem bits_Reader_Bits {s:ByteArray} {at' r:Nat} {n:Int} {σ:Mem} (hs:s.size<=2^50) (h:σ.get r=some (rdP s at')) (ha:at'<=8*s.size) :
 ACalls PG n_bits_Reader_Bits [.ptr r 0,.int .i64 n] σ fun v σ'=>v=.tup [.int .i64 ((rdBits s at' n).1:Nat),.int .i64 (rdBits s at' n).2.1]/\σ'.get r=some (rdP s (rdBits s at' n).2.2)/\Mem.Only [r] σ σ':=by
 refine ok_bits_Reader_Bits fun live=>?_
 unfold F_bits_Reader_Bits
 have hr:=live.lt h
 repeat (refine To.go ?_)
 refine ifD (fun h0=>?_) (fun h0=>?_)
 · rw [rdBits,if_pos (.inl h0)]
   exact ⟨rfl,h,(Mem.Only.refl _ σ).bump _⟩
 refine ifD (fun h1=>?_) (fun h1=>?_)
 · rw [rdBits,if_pos (.inr h1)]
   exact ⟨rfl,h,(Mem.Only.refl _ σ).bump _⟩
 refine callW_of (bits_Reader_Left hs h ha) ?_
 rintro v σ1 ⟨rfl,s1⟩
 replace s1:=s1.ob
 repeat (refine To.go ?_)
 have e1:σ1.get r=some (rdP s at'):=s1.keep h hr
 refine ifD (fun h2=>?_) (fun h2=>?_)
 · rw [rdBits,if_neg (by omega),if_pos h2]
   exact ⟨rfl,e1,(s1.only _).bump _⟩
 obtain ⟨n,rfl⟩:=int_nat (by omega:0<=n)
 rw [rdBits,if_neg (by omega),if_neg h2,Int.toNat_natCast]
 refine loop0 (fun (k:Nat) σ'=>(∃ m,at'+m=8*k/\k<=s.size/\m<=31/\(m<n\/m<n+8)/\(m<8\/m<n+8)/\σ'.get r=some (rdB s at' k m))/\Mem.Only [r] σ σ') (fun k=>s.size-k) ((at'+7) / 8) ⟨⟨8*((at'+7) / 8)-at',by omega,by omega,by omega,by omega,by omega,e1⟩,s1.only _⟩ ?_
 rintro k σ2 ⟨⟨m,hm1,hk,hm2,hm3,hm4,e2⟩,o2⟩
 unfold F_bits_Reader_Bits_l1
 unfold rdB at e2
 repeat (first | refine To.go ?_ | ((with_reducible apply ldrw);(· ((simp (disch:=omega) only [go_sem, *];try rfl)));(· (rfl))))
 refine ifD (fun hlt=>?_) (fun hge=>?_)
 · have hz:=size_extract s k s.size
   have hb:=byteAt_lt (s.extract k s.size) 0
   have hbe:byteAt (s.extract k s.size) 0=byteAt s k:=byteAt_extract s k s.size 0 (by omega)
   rw [hbe] at hb
   repeat (first | refine To.go ?_ | with_reducible refine And.intro (by omega) ?_ | ((with_reducible apply ldrw);(· ((simp (disch:=omega) only [go_sem, *];try rfl)));(· (rfl))))
   rw [hbe,Int.toNat_natCast,show ((byteAt s k:Nat):Int)*2^m=((byteAt s k*2^m:Nat):Int) from by simp]
   have hw:byteAt s k*2^m<2^39:=mul_pow_lt (a:=8) hb (by omega)
   have hv:=val_lt s at' m
   have hv2:2^m<=2^31:=pow_le hm2
   obtain ⟨w,hwe⟩:∃ w,byteAt s k*2^m=w:=⟨_,rfl⟩
   rw [hwe] at hw ⊢
   obtain ⟨u,hu⟩:∃ u,val s at' m=u:=⟨_,rfl⟩
   rw [hu] at hv e2 ⊢
   repeat (first | refine To.go ?_ | with_reducible refine And.intro (by omega) ?_ | ((with_reducible apply ldrw);(· ((simp (disch:=omega) only [go_sem, *];try rfl)));(· (rfl))) | ((with_reducible apply st1);(· ((simp (disch:=omega) only [go_sem, *];try rfl)));(· simp);(· rfl)))
   rw [bitsO (by omega) (by omega),Int.toNat_natCast,Int.toNat_natCast]
   clear hb hbe
   skip
   have hx:(s.extract k s.size).extract (Int.toNat 1) ((((s.extract k s.size).size:Nat):Int)).toNat=s.extract (k+1) s.size:=by
    rw [Int.toNat_natCast,hz,extract_extract s (by omega),show k+(min s.size s.size-k)=s.size from by omega];rfl
   have hvn:u ||| w=val s at' (m+8):=by
    rw [<- hwe,or_shift hv,val_add,hm1,val_byte,hu,Nat.mul_comm]
   rw [hx,hvn]
   refine again ⟨k+1,⟨⟨m+8,by omega,by omega,by omega,by omega,by omega,?_⟩,?_⟩,by omega⟩
   · rw [gS'];rfl
   · repeat (with_reducible first | assumption | refine Mem.Only.bump ?_ _ | refine Mem.Only.put ?_ (by simp) _)
 · have hn:2^n<=2^24:=pow_le (by omega)
   have hn1:=Nat.pow_pos (n:=n) (show 0<2 by decide)
   have hv:=val_lt s at' m
   have hv2:2^m<=2^31:=pow_le hm2
   repeat (first | refine To.go ?_ | with_reducible refine And.intro (by omega) ?_ | ((with_reducible apply ldrw);(· ((simp (disch:=omega) only [go_sem, *];try rfl)));(· (rfl))))
   rw [Int.toNat_natCast,show (1*2^n:Int)=((2^n:Nat):Int) from by simp]
   have hmod:=val_mod s at' (m:=m) (n:=n) (by omega)
   have hdiv:=val_div s at' (m:=m) (n:=n) (by omega)
   have hmask:=and_mask (val s at' m) n
   obtain ⟨p,hp⟩:∃ p,2^n=p:=⟨_,rfl⟩
   obtain ⟨u,hu⟩:∃ u,val s at' m=u:=⟨_,rfl⟩
   rw [hp] at hn hn1 hmod hmask hdiv ⊢
   rw [hu] at hv e2 hmod hdiv hmask ⊢
   repeat (first | refine To.go ?_ | with_reducible refine And.intro (by omega) ?_ | ((with_reducible apply ldrw);(· ((simp (disch:=omega) only [go_sem, *];try rfl)));(· (rfl))) | ((with_reducible apply st1);(· ((simp (disch:=omega) only [go_sem, *];try rfl)));(· simp);(· rfl)))
   rw [bitsA (by omega) (by omega),Int.toNat_natCast,show ((p:Int)-1).toNat=p-1 from by omega,hmask,hmod]
   clear hmask hmod
   skip
   rw [Int.toNat_natCast,show (2^n:Int)=((2^n:Nat):Int) from by simp,hp,show ((u:Int) / (p:Int))=((u / p:Nat):Int) from by simp,hdiv]
   skip
   refine ⟨rfl,?_,?_⟩
   · have e:(m:Int)-n=((m-n:Nat):Int):=by omega
     rw [e,gB gS',rdP,show (at'+n+7) / 8=k from by omega,show 8*k-(at'+n)=m-n from by omega]
     rfl
   · repeat (with_reducible first | assumption | refine Mem.Only.bump ?_ _ | refine Mem.Only.put ?_ (by simp) _)
theorem rdP_byte (s:ByteArray) (k:Nat):rdP s (8*k)=.rw [.str (s.extract k s.size),.int .i64 0,.int .i64 0]:=by
 unfold rdP rdB
 rw [show (8*k+7) / 8=k from by omega,Nat.sub_self];rfl
theorem bits_Read (s:ByteArray) (σ:Mem):ACalls PG n_bits_Read [.str s] σ fun v σ'=>∃ r,v=.ptr r 0/\σ.next<=r/\r<σ'.next/\σ'.get r=some (rdP s 0)/\σ.Same σ':=by
 refine ok_bits_Read fun _=>?_
 unfold F_bits_Read
 repeat (refine To.go ?_)
 refine ⟨_,rfl,by omega,by simp only [Mem.next_put,Mem.next_bump];omega,?_,by repeat (with_reducible first | exact Mem.Same.refl _ | refine Mem.Same.bump ?_ _ | refine Mem.Same.put ?_ (by omega) _)⟩
 have:rdP s 0=.rw [.str (s.extract 0 s.size),.int .i64 0,.int .i64 0]:=rdP_byte s 0
 rw [gS',this,ByteArray.extract_zero_size]
def WrI (σ:Mem) (w:Nat) (o:List Nat) (W N k:Nat):Prop:=
 ∃ v,o=w::blkOf v/\w ∉ blkOf v/\σ.get w=some (.rw [v,.int .i64 (W / 2^(8*k):Nat),.int .i64 ((N-8*k:Nat):Int)])/\OwnS 1 σ v (bl (wb W k)) k
def WrP (σ:Mem) (w:Nat) (o:List Nat) (W N:Nat):Prop:=W<2^N/\WrI σ w o W N (N / 8)
theorem WrI.keep {σ σ':Mem} {w:Nat} {o:List Nat} {W N k:Nat} (h:WrI σ w o W N k) (hb:∀ b∈o,σ'.get b=σ.get b):WrI σ' w o W N k:=by
 obtain ⟨v,rfl,h1,h2,h3⟩:=h
 exact ⟨v,rfl,h1,(hb w (by simp)).trans h2,h3.keep fun b hm=>hb b (by simp [hm])⟩
theorem WrI.lt {σ:Mem} {w:Nat} {o:List Nat} {W N k:Nat} (h:WrI σ w o W N k) (live:σ.Live):∀ b∈o,b<σ.next:=by
 obtain ⟨v,rfl,h1,h2,h3⟩:=h
 intro b hb
 rcases List.mem_cons.1 hb with rfl | hb
 · exact live.lt h2
 · exact h3.lt live b hb
theorem bits_Writer_Bits {w:Nat} {o:List Nat} {W N:Nat} {v n:Int} {σ:Mem} (h:WrP σ w o W N) (hN:N<=2^40) (h1 : -9223372036854775808<=v) (h2:v<=9223372036854775807) :
 ACalls PG n_bits_Writer_Bits [.ptr w 0,.int .i64 v,.int .i64 n] σ fun r σ'=>r=.tup []/\∃ o',WrP σ' w o' (lay W N v n).1 (lay W N v n).2/\Grow o o' σ σ':=by
 refine ok_bits_Writer_Bits fun live=>?_
 unfold F_bits_Writer_Bits
 obtain ⟨hW,hI⟩:=h
 have hlt:=hI.lt live
 repeat (refine To.go ?_)
 refine ifD (fun h0=>?_) (fun h0=>?_)
 · rw [lay,if_pos (.inl h0)]
   exact ⟨rfl,o,⟨hW,hI⟩,(Grow.refl hlt).bump _⟩
 refine ifD (fun h3=>?_) (fun h3=>?_)
 · rw [lay,if_pos (.inr h3)]
   exact ⟨rfl,o,⟨hW,hI⟩,(Grow.refl hlt).bump _⟩
 obtain ⟨n,rfl⟩:=int_nat (by omega:0<=n)
 have hlay:lay W N v n=(W+(v % 2^n).toNat*2^N,N+n):=by rw [lay,if_neg (by omega),Int.toNat_natCast]
 have hL:=lay_lt v n hW
 rw [hlay] at hL ⊢
 have hx:=mod_pow_lt v n
 have hmask:=bits_mask (n:=n) h1 h2 (by omega)
 obtain ⟨x,hxe⟩:∃ x,(v % 2^n).toNat=x:=⟨_,rfl⟩
 rw [hxe] at hx hL hmask ⊢
 obtain ⟨u,rfl,hw,e,own⟩:=hI
 have hp:2^n<=2^24:=pow_le (by omega)
 have hp1:=Nat.pow_pos (n:=n) (show 0<2 by decide)
 repeat (first | refine To.go ?_ | with_reducible refine And.intro (by omega) ?_ | ((with_reducible apply ldrw);(· ((simp (disch:=omega) only [go_sem, *];try rfl)));(· (rfl))))
 rw [Int.toNat_natCast,show (1*2^n:Int)=((2^n:Nat):Int) from by simp]
 obtain ⟨p,hpe⟩:∃ p,2^n=p:=⟨_,rfl⟩
 rw [hpe] at hp hp1 hx hmask ⊢
 repeat (first | refine To.go ?_ | with_reducible refine And.intro (by omega) ?_ | ((with_reducible apply ldrw);(· ((simp (disch:=omega) only [go_sem, *];try rfl)));(· (rfl))))
 rw [show ((p:Int)-1)=((p-1:Nat):Int) from by omega,hmask]
 skip
 rw [Int.toNat_natCast,show ((x:Int)*2^(N-8*(N / 8)))=((x*2^(N-8*(N / 8)):Nat):Int) from by simp]
 have hh:=div_lt_pow hW (m:=8*(N / 8)) (by omega)
 have hq:x*2^(N-8*(N / 8))<2^31:=mul_pow_lt (a:=24) (by omega) (by omega)
 have hh2:2^(N-8*(N / 8))<=2^7:=pow_le (by omega)
 have hsum:W / 2^(8*(N / 8)) ||| x*2^(N-8*(N / 8))=(W+x*2^N) / 2^(8*(N / 8)):=by rw [or_shift hh,add_div_pow W x (by omega)]
 obtain ⟨q,hqe⟩:∃ q,x*2^(N-8*(N / 8))=q:=⟨_,rfl⟩
 rw [hqe] at hq hsum ⊢
 obtain ⟨z,hze⟩:∃ z,W / 2^(8*(N / 8))=z:=⟨_,rfl⟩
 rw [hze] at hh hsum e ⊢
 repeat (first | refine To.go ?_ | with_reducible refine And.intro (by omega) ?_ | ((with_reducible apply ldrw);(· ((simp (disch:=omega) only [go_sem, *];try rfl)));(· (rfl))) | ((with_reducible apply st1);(· ((simp (disch:=omega) only [go_sem, *];try rfl)));(· simp);(· rfl)))
 rw [bitsO (by omega) (by omega),Int.toNat_natCast,Int.toNat_natCast,hsum]
 skip
 have own0:OwnS 1 σ u (bl (wb (W+x*2^N) (N / 8))) (N / 8):=by rw [wb_add (by omega)];exact own
 have hwn:w<σ.next:=hlt w (by simp)
 obtain ⟨Y,hY⟩:∃ Y,W+x*2^N=Y:=⟨_,rfl⟩
 rw [hY] at own0 hL ⊢
 have hneu:∀ b∈blkOf u,b≠w:=fun b hb e=>hw (e ▸ hb)
 refine loop0 (fun (k:Nat) σ'=>∃ o',WrI σ' w o' Y (N+n) k/\8*k<=N+n/\Grow (w::blkOf u) o' σ σ'/\σ.next<=σ'.next/\∀ b∈o',b<σ'.next) (fun k=>N+n-8*k) (N / 8) ⟨w::blkOf u,⟨u,rfl,hw,?_,?_⟩,by omega,⟨?_,fun b hb=>.inl hb,?_⟩,?_,?_⟩ ?_
 · rw [gS',show ((N-8*(N / 8):Nat):Int)+n=((N+n-8*(N / 8):Nat):Int) from by omega];rfl
 · exact own0.keep fun b hb=>by rw [Mem.get_put_ne _ (hneu b hb),Mem.get_bump,Mem.get_put_ne _ (hneu b hb)];rfl
 · repeat (with_reducible first | exact Mem.Only.refl _ _ | refine Mem.Only.bump ?_ _ | refine Mem.Only.put ?_ (by simp) _)
 · intro b hb;have:=hlt b hb;simp only [Mem.next_bump,Mem.next_put];omega
 · simp only [Mem.next_bump,Mem.next_put];omega
 · intro b hb;have:=hlt b hb;simp only [Mem.next_bump,Mem.next_put];omega
 rintro k σ2 ⟨o2,⟨u2,rfl,hw2,e2,own2⟩,hk,g2,hn2,hlt2⟩
 unfold F_bits_Writer_Bits_l1
 repeat (first | refine To.go ?_ | ((with_reducible apply ldrw);(· ((simp (disch:=omega) only [go_sem, *];try rfl)));(· (rfl))))
 have hw2n:=hlt2 w (by simp)
 have hlu2:∀ b∈blkOf u2,b<σ2.next:=fun b hb=>hlt2 b (by simp [hb])
 refine ifD (fun h8=>?_) (fun h8=>?_)
 · repeat (first | refine To.go ?_ | ((with_reducible apply ldrw);(· ((simp (disch:=omega) only [go_sem, *];try rfl)));(· (rfl))))
   obtain ⟨y,hy⟩:∃ y,Y / 2^(8*k)=y:=⟨_,rfl⟩
   rw [hy] at e2 ⊢
   refine OwnS.append (n:=k) (m:=1) (own2.keep fun b hb=>?_) (fun K hK=>src_new gS' rfl rfl K hK) (by omega) rfl rfl (bl_one _) (by omega) (fun hb=>?_) ?_
   · rw [Mem.get_put_ne _ (by have:=hlu2 b hb;omega)];rfl
   · have:=hlu2 _ hb;omega
   intro v' σ3 own3 hn3 hg3 hb3
   have hw3:w ∉ blkOf v':=fun hb=>by
    rcases hb3 w hb with h | h
    · exact hw2 h
    · omega
   have e3:σ3.get w=σ2.get w:=by rw [hg3 w hw2 (by omega),Mem.get_put_ne _ (by omega)];rfl
   rw [e2] at e3
   repeat (refine To.go ?_)
   refine st1 e3 (by simp) own3.one ?_
   simp only [Mem.next_bump,Mem.next_put] at hn3
   repeat (first | refine To.go ?_ | with_reducible refine And.intro (by omega) ?_ | ((with_reducible apply ldrw);(· ((simp (disch:=omega) only [go_sem, *];try rfl)));(· (rfl))) | ((with_reducible apply st1);(· ((simp (disch:=omega) only [go_sem, *];try rfl)));(· simp);(· rfl)))
   have hneu3:∀ b∈blkOf v',b≠w:=fun b hb e=>hw3 (e ▸ hb)
   refine again ⟨k+1,⟨w::blkOf v',⟨v',rfl,hw3,?_,?_⟩,by omega,?_,?_,?_⟩,by omega⟩
   · rw [gS',show ((N+n-8*k:Nat):Int)-8=((N+n-8*(k+1):Nat):Int) from by omega,show ((y:Int) / 256)=((Y / 2^(8*(k+1)):Nat):Int) from ?_]
     · rfl
     · rw [<- hy,Nat.mul_add,Nat.pow_add,<- Nat.div_div_eq_div_mul];simp
   · rw [wb_succ,<- bl_append,hy,bl_byte]
     refine OwnS.keep (σ:=σ3) own3 fun b hb=>?_
     rw [Mem.get_put_ne _ (hneu3 b hb),Mem.get_bump,Mem.get_put_ne _ (hneu3 b hb),Mem.get_bump,Mem.get_put_ne _ (hneu3 b hb)]
   · refine g2.trans ⟨?_,?_,?_⟩
     · have o3:Mem.Only (w::blkOf u2) σ2 σ3:=⟨by omega,fun b hb hn=>by
        simp at hn
        rw [hg3 b hn.2 (by omega),Mem.get_put_ne _ (by omega)];rfl⟩
       repeat (with_reducible first | assumption | refine Mem.Only.bump ?_ _ | refine Mem.Only.put ?_ (by simp) _)
     · intro b hb
       rcases List.mem_cons.1 hb with rfl | hb
       · exact .inl (by simp)
       · rcases hb3 b hb with h | h
         · exact .inl (by simp [h])
         · exact .inr (by omega)
     · intro b hb
       simp only [Mem.next_bump,Mem.next_put]
       rcases List.mem_cons.1 hb with rfl | hb
       · omega
       · rcases hb3 b hb with h | h
         · have:=hlu2 b h;omega
         · omega
   · simp only [Mem.next_bump,Mem.next_put];omega
   · intro b hb
     simp only [Mem.next_bump,Mem.next_put]
     rcases List.mem_cons.1 hb with rfl | hb
     · omega
     · rcases hb3 b hb with h | h
       · have:=hlu2 b h;omega
       · omega
 · refine ⟨rfl,w::blkOf u2,⟨hL,u2,rfl,hw2,?_,?_⟩,g2.bump _⟩
   · rw [show (N+n) / 8=k from by omega];exact e2
   · rw [show (N+n) / 8=k from by omega];exact own2
theorem text_full (W N:Nat) (h:N % 8=0):text W N=⟨(wb W (N / 8)).toArray⟩:=by
 unfold text;rw [show (N+7) / 8=N / 8 from by omega]
theorem text_part (W N:Nat) (h:N % 8≠0):text W N=⟨(wb W (N / 8)).toArray⟩++⟨[UInt8.ofNat (W / 2^(8*(N / 8)) % 256)].toArray⟩:=by
 unfold text;rw [show (N+7) / 8=N / 8+1 from by omega,wb_succ]
 refine bytesL_inj ?_
 rw [bytesL_append,bytesL_mk,bytesL_mk,bytesL_mk]
theorem bits_Writer_Text {w:Nat} {o:List Nat} {W N:Nat} {σ:Mem} (h:WrP σ w o W N) (hN:N<=2^60) :
 ACalls PG n_bits_Writer_Text [.ptr w 0] σ fun r σ'=>r=.str (text W N)/\σ.Same σ':=by
 refine ok_bits_Writer_Text fun live=>?_
 unfold F_bits_Writer_Text
 obtain ⟨hWl,v,rfl,hw,e,own⟩:=h
 repeat (first | refine To.go ?_ | ((with_reducible apply ldrw);(· ((simp (disch:=omega) only [go_sem, *];try rfl)));(· (rfl))))
 refine OwnS.bstr (own.keep fun b _=>rfl) ?_
 repeat (first | refine To.go ?_ | ((with_reducible apply ldrw);(· ((simp (disch:=omega) only [go_sem, *];try rfl)));(· (rfl))))
 refine join1 (fun (s:ByteArray) σ'=>s=text W N/\σ.Same σ') ?_ ?_
 · refine ifD (fun h0=>?_) (fun h0=>?_)
   · repeat (first | refine To.go ?_ | ((with_reducible apply ldrw);(· ((simp (disch:=omega) only [go_sem, *];try rfl)));(· (rfl))))
     rw [show (((W / 2^(8*(N / 8)):Nat):Int) % 256)=((W / 2^(8*(N / 8)) % 256:Nat):Int) from by omega]
     refine bstr_bl (l:=[UInt8.ofNat (W / 2^(8*(N / 8)) % 256)]) (by rw [gS',bl_byte];rfl) rfl ?_
     refine To.go ?_
     refine And.intro ?_ ?_
     · rw [size_mk,size_mk,wb_length];simp;omega
     · exact ⟨(text_part W N (by omega)).symm,by repeat (with_reducible first | exact Mem.Same.refl _ | refine Mem.Same.bump ?_ _ | refine Mem.Same.put ?_ (by omega) _)⟩
   · exact ⟨(text_full W N (by omega)).symm,by repeat (with_reducible first | exact Mem.Same.refl _ | refine Mem.Same.bump ?_ _)⟩
 · rintro s σ1 ⟨rfl,s1⟩
   exact ⟨rfl,by repeat (with_reducible first | assumption | refine Mem.Same.bump ?_ _)⟩
theorem bits_New (σ:Mem):ACalls PG n_bits_New [] σ fun v σ'=>∃ w,v=.ptr w 0/\σ.next<=w/\w<σ'.next/\WrP σ' w [w] 0 0/\σ.Same σ':=by
 refine ok_bits_New fun _=>?_
 unfold F_bits_New
 repeat (refine To.go ?_)
 refine ⟨_,rfl,by omega,by simp only [Mem.next_put,Mem.next_bump];omega,⟨by decide,.nils,rfl,by simp [blkOf],?_,?_⟩,by repeat (with_reducible first | exact Mem.Same.refl _ | refine Mem.Same.bump ?_ _ | refine Mem.Same.put ?_ (by omega) _)⟩
 · rw [gS'];rfl
 · exact .inl ⟨rfl,rfl,rfl⟩
def WrR (σ:Mem) (x:Nat) (o:List Nat) (W N:Nat):Prop:=
 W<2^N/\∃ v,o=x::blkOf v/\x ∉ blkOf v/\σ.get x=some (.rw [v,.int .i64 (N:Nat)])/\OwnS 1 σ v (bl (wb W ((N+7) / 8))) ((N+7) / 8)
theorem WrR.keep {σ σ':Mem} {x:Nat} {o:List Nat} {W N:Nat} (h:WrR σ x o W N) (hb:∀ b∈o,σ'.get b=σ.get b):WrR σ' x o W N:=by
 obtain ⟨h0,v,rfl,h1,h2,h3⟩:=h
 exact ⟨h0,v,rfl,h1,(hb x (by simp)).trans h2,h3.keep fun b hm=>hb b (by simp [hm])⟩
theorem WrR.lt {σ:Mem} {x:Nat} {o:List Nat} {W N:Nat} (h:WrR σ x o W N) (live:σ.Live):∀ b∈o,b<σ.next:=by
 obtain ⟨h0,v,rfl,h1,h2,h3⟩:=h
 intro b hb
 rcases List.mem_cons.1 hb with rfl | hb
 · exact live.lt h2
 · exact h3.lt live b hb
theorem OwnS.pos {k n:Nat} {σ:Mem} {v:AV} {cs:List AV} (h:OwnS k σ v cs n) (hn:0<n):∃ b,v=.slice b 0 n (.op k)/\σ.get b=some (.rw cs)/\cs.length=n*k:=by
 rcases h with ⟨_,h,_⟩ | h
 · omega
 · exact h
end
section
theorem WrP.keep {σ σ':Mem} {w:Nat} {o:List Nat} {W N:Nat} (h:WrP σ w o W N) (hb:∀ b∈o,σ'.get b=σ.get b):WrP σ' w o W N:=⟨h.1,h.2.keep hb⟩
def Two (σ σ':Mem) (w x:Nat) (p q:Nat×Nat):Prop:=
 ∃ o1 o2,WrP σ' w o1 p.1 p.2/\WrR σ' x o2 q.1 q.2/\(∀ b∈o1,b<σ'.next/\b ∉ o2)/\(∀ b∈o2,b<σ'.next/\b ∉ o1)/\(∀ b∈o1,σ.next<=b)/\(∀ b∈o2,σ.next<=b)/\σ.Same σ'
theorem Two.same {σ σ1 σ2:Mem} {w x:Nat} {p q:Nat×Nat} (h:Two σ σ1 w x p q) (s:σ1.Same σ2):Two σ σ2 w x p q:=by
 obtain ⟨o1,o2,h1,h2,h3,h4,h5,h6,h7⟩:=h
 exact ⟨o1,o2,h1.keep fun b hb=>s.get b (h3 b hb).1,h2.keep fun b hb=>s.get b (h4 b hb).1,fun b hb=>⟨Nat.lt_of_lt_of_le (h3 b hb).1 s.next,(h3 b hb).2⟩,fun b hb=>⟨Nat.lt_of_lt_of_le (h4 b hb).1 s.next,(h4 b hb).2⟩,h5,h6,h7.trans s⟩
theorem Two.left {σ σ1:Mem} {w x:Nat} {p q:Nat×Nat} (h:Two σ σ1 w x p q):∃ o,WrP σ1 w o p.1 p.2/\∀ σ2 p',(∃ o',WrP σ2 w o' p'.1 p'.2/\Grow o o' σ1 σ2)->Two σ σ2 w x p' q:=by
 obtain ⟨o1,o2,h1,h2,h3,h4,h5,h6,h7⟩:=h
 refine ⟨o1,h1,fun σ2 p' ⟨o',h8,g⟩=>?_⟩
 obtain ⟨s,hn⟩:=g.same h7 h5
 obtain ⟨a1,a2⟩:=g.apart h4
 exact ⟨o',o2,h8,h2.keep a2,fun b hb=>⟨g.lt b hb,fun hm=>(a1 b hm).2 hb⟩,a1,hn,h6,s⟩
theorem Two.right {σ σ1:Mem} {w x:Nat} {p q:Nat×Nat} (h:Two σ σ1 w x p q):∃ o,WrR σ1 x o q.1 q.2/\∀ σ2 q',(∃ o',WrR σ2 x o' q'.1 q'.2/\Grow o o' σ1 σ2)->Two σ σ2 w x p q':=by
 obtain ⟨o1,o2,h1,h2,h3,h4,h5,h6,h7⟩:=h
 refine ⟨o2,h2,fun σ2 q' ⟨o',h8,g⟩=>?_⟩
 obtain ⟨s,hn⟩:=g.same h7 h6
 obtain ⟨a1,a2⟩:=g.apart h3
 exact ⟨o1,o',h1.keep a2,h8,a1,fun b hb=>⟨g.lt b hb,fun hm=>(a1 b hm).2 hb⟩,h5,hn,s⟩
/-! ### The plain law -/
def Front (p q:Nat×Nat):Prop:=p.2<=q.2/\∃ z,q.1=p.1+z*2^p.2
theorem Front.refl (p:Nat×Nat):Front p p:=⟨Nat.le_refl _,0,by simp⟩
theorem Front.trans {p q r:Nat×Nat} (h:Front p q) (h':Front q r):Front p r:=by
 obtain ⟨h1,z,h2⟩:=h
 obtain ⟨h3,y,h4⟩:=h'
 refine ⟨Nat.le_trans h1 h3,z+y*2^(q.2-p.2),?_⟩
 rw [h4,h2,Nat.add_mul,Nat.mul_assoc,<- Nat.pow_add,Nat.sub_add_cancel h1,Nat.add_assoc]
theorem front_div {p q:Nat×Nat} (h:Front p q) {m:Nat} (hm:m<=p.2):∃ z,q.1 / 2^m=p.1 / 2^m+z*2^(p.2-m):=by
 obtain ⟨_,z,hz⟩:=h
 exact ⟨z,by rw [hz,add_div_pow _ _ hm]⟩
theorem read_bits {p q:Nat×Nat} {v:Int} {n:Nat} (hn:n<=24) (hp:p.1<2^p.2) (h:Front (lay p.1 p.2 v n) q):rdBits (text q.1 q.2) p.2 n=((v % 2^n).toNat,0,(lay p.1 p.2 v n).2):=by
 have hl:lay p.1 p.2 v n=(p.1+(v % 2^n).toNat*2^p.2,p.2+n):=by rw [lay,if_neg (by omega),Int.toNat_natCast]
 rw [hl] at h ⊢
 have hq:=h.1
 obtain ⟨z,hz⟩:=front_div h (m:=p.2) (by dsimp only;omega)
 dsimp only at hq hz
 rw [add_div_pow _ _ (Nat.le_refl _),Nat.div_eq_of_lt hp,Nat.sub_self,Nat.pow_zero,Nat.mul_one,Nat.zero_add,Nat.add_sub_cancel_left] at hz
 rw [rdBits,if_neg (by omega),if_neg (by rw [size_text];omega),Int.toNat_natCast,val_text (by omega),hz,Nat.add_mul_mod_self_right,Nat.mod_eq_of_lt (mod_pow_lt _ _)]
def Lone (σ σ':Mem) (w:Nat) (p:Nat×Nat):Prop:=∃ o,WrP σ' w o p.1 p.2/\(∀ b∈o,σ.next<=b/\b<σ'.next)/\σ.Same σ'
theorem Lone.same {σ σ1 σ2:Mem} {w:Nat} {p:Nat×Nat} (h:Lone σ σ1 w p) (s:σ1.Same σ2):Lone σ σ2 w p:=by
 obtain ⟨o,h1,h2,h3⟩:=h
 exact ⟨o,h1.keep fun b hb=>s.get b (h2 b hb).2,fun b hb=>⟨(h2 b hb).1,Nat.lt_of_lt_of_le (h2 b hb).2 s.next⟩,h3.trans s⟩
theorem Lone.step {σ σ1:Mem} {w:Nat} {p:Nat×Nat} (h:Lone σ σ1 w p):∃ o,WrP σ1 w o p.1 p.2/\σ.Same σ1/\∀ σ2 p',(∃ o',WrP σ2 w o' p'.1 p'.2/\Grow o o' σ1 σ2)->Lone σ σ2 w p':=by
 obtain ⟨o,h1,h2,h3⟩:=h
 refine ⟨o,h1,h3,fun σ2 p' ⟨o',h8,g⟩=>?_⟩
 obtain ⟨s,hn⟩:=g.same h3 fun b hb=>(h2 b hb).1
 exact ⟨o',h8,fun b hb=>⟨hn b hb,g.lt b hb⟩,s⟩
end
section
theorem bits_Writer_Bytes {w:Nat} {o:List Nat} {W N:Nat} {s:ByteArray} {σ:Mem} (h:WrP σ w o W N) (hN:N<=2^40) (hs:s.size<=2^40) :
 ACalls PG n_bits_Writer_Bytes [.ptr w 0,.str s] σ fun r σ'=>r=.tup []/\∃ o',WrP σ' w o' (layB W N s).1 (layB W N s).2/\Grow o o' σ σ':=by
 refine ok_bits_Writer_Bytes fun live=>?_
 unfold F_bits_Writer_Bytes
 have hlt:=h.2.lt live
 have hI:=h.2
 obtain ⟨v,rfl,hw,e,own⟩:=hI
 repeat (first | refine To.go ?_ | with_reducible refine And.intro (by omega) ?_ | ((with_reducible apply ldrw);(· ((simp (disch:=omega) only [go_sem, *];try rfl)));(· (rfl))))
 have hk:(8-((N-8*(N / 8):Nat):Int)) % 8=((8*((N+7) / 8)-N:Nat):Int):=by omega
 rw [hk]
 refine callW_of (bits_Writer_Bits (n:=((8*((N+7) / 8)-N:Nat):Int)) (o:=w::blkOf v) (W:=W) (N:=N) ?_ hN (by decide) (by decide)) ?_
 · exact ⟨h.1,h.2.keep fun b _=>rfl⟩
 rintro r σ1 ⟨rfl,o1,hW1,g1⟩
 replace g1:=g1.ob
 rw [lay_zero W N (by omega)] at hW1
 obtain ⟨hWl,v1,rfl,hw1,e1,own1⟩:=hW1
 have hL:=layB_lt s h.1
 unfold layB at hL ⊢
 dsimp only at hL hWl e1 own1 ⊢
 rw [show N+(8*((N+7) / 8)-N)=8*((N+7) / 8) from by omega] at hWl e1 own1
 obtain ⟨k,hk⟩:∃ k,(N+7) / 8=k:=⟨_,rfl⟩
 rw [hk] at hL hWl e1 own1 ⊢
 rw [show 8*k / 8=k from by omega] at e1 own1
 rw [Nat.div_eq_of_lt hWl,Nat.sub_self] at e1
 have hw1n:=g1.lt w (by simp)
 repeat (first | refine To.go ?_ | ((with_reducible apply ldrw);(· ((simp (disch:=omega) only [go_sem, *];try rfl)));(· (rfl))))
 refine OwnS.append (n:=k) (m:=s.size) (own1.keep fun b _=>rfl) src_str ?_ ?_ (bl_one _) (bl_one _) (by omega) (fun hb=>?_) ?_
 · intro h0
   rw [List.length_eq_zero_iff.1 (show (bytesL s).length=0 by rw [bytesL_length];exact h0)];rfl
 · rw [bl_length,bytesL_length];omega
 · have:=g1.lt _ (List.mem_cons_of_mem _ hb);omega
 intro v' σ3 own3 hn3 hg3 hb3
 simp only [Mem.next_bump] at hn3
 have hw3:w ∉ blkOf v':=fun hb=>by
  rcases hb3 w hb with h | h
  · exact hw1 h
  · omega
 have hneu3:∀ b∈blkOf v',b≠w:=fun b hb e=>hw3 (e ▸ hb)
 have e3:σ3.get w=σ1.get w:=by rw [hg3 w hw1 (by omega)];rfl
 rw [e1] at e3
 repeat (refine To.go ?_)
 refine st1 e3 (by simp) own3.one ?_
 refine ⟨rfl,w::blkOf v',⟨hL,v',rfl,hw3,?_,?_⟩,?_⟩
 · rw [gS',show (8*k+8*s.size) / 8=k+s.size from by omega,show 8*k+8*s.size-8*(k+s.size)=0 from by omega,Nat.div_eq_of_lt (by rw [Nat.mul_add];exact hL)];rfl
 · rw [show (8*k+8*s.size) / 8=k+s.size from by omega,wb_append _ _ hWl,wb_num,<- bl_append]
   exact own3.keep fun b hb=>Mem.get_put_ne _ (hneu3 b hb) _
 · refine g1.trans ⟨?_,?_,?_⟩
   · have o3:Mem.Only (w::blkOf v1) σ1 σ3:=⟨by omega,fun b hb hn=>by
      simp at hn
      rw [hg3 b hn.2 (by omega)];rfl⟩
     repeat (with_reducible first | assumption | refine Mem.Only.put ?_ (by simp) _)
   · intro b hb
     rcases List.mem_cons.1 hb with rfl | hb
     · exact .inl (by simp)
     · rcases hb3 b hb with h | h
       · exact .inl (by simp [h])
       · exact .inr (by omega)
   · intro b hb
     simp only [Mem.next_put]
     rcases List.mem_cons.1 hb with rfl | hb
     · omega
     · rcases hb3 b hb with h | h
       · have:=g1.lt _ (List.mem_cons_of_mem _ h);omega
       · omega
end
end Go.Vit
