/- The library. -/
import Derived.Test.YtloeboiajgfigaaGreatV7Pl
import Derived.Test.YtloeboiajgfigaaGreatV7Gz
import Derived.Test.YtloeboiajgfigaaGreatV7X
set_option linter.unusedVariables false
set_option linter.unusedSimpArgs false
section
/- What the texts behind need of the third seat. -/
set_option maxRecDepth 20000
namespace Go.Vit
open Go.Proofs
theorem z7j {s:ByteArray} {at' r:Nat} {σ:Mem} (hs:s.size<=reachBytes) (h:σ.get r=some (rdR s at')) (ha:at'<=8*s.size) :
 z1 PG z22 [.ptr r 0] σ λv σ'=>v=.int .i64 ((8*s.size-at':Nat):Int)/\σ.Same σ':=by
 rw [zd2] at hs
 refine z9r λ_=>?_
 unfold z5B
 unfold rdR at h
 repeat (first | refine To.go ?_ | with_reducible refine And.intro (by omega) ?_ | ((with_reducible apply ldrw);(· ((simp (disch:=omega) only [go_sem, *];try rfl)));(· (rfl))))
 refine ⟨?_,(Mem.Same.refl σ).bump _⟩
 congr 1;omega
theorem z7s {s:ByteArray} {at' r:Nat} {n:Int} {σ:Mem} (hs:s.size<=reachBytes) (h:σ.get r=some (rdR s at')) (ha:at'<=8*s.size) :
 z1 PG z1e [.ptr r 0,.int .i64 n] σ λv σ'=>v=.tup [.int .i64 ((z36 s at' n).1:Nat),.int .i64 (z36 s at' n).2.1]/\σ'.get r=some (rdR s (z36 s at' n).2.2)/\Mem.Only [r] σ σ':=by
 refine z9v λlive=>?_
 unfold z5M
 have hr:=live.lt h
 refine ifD (λh0=>?_) (λh0=>?_)
 · rw [z36,if_pos (.inl h0)]
   exact ⟨rfl,h,by repeat (with_reducible first | exact Mem.Only.refl _ _ | refine Mem.Only.bump ?_ _)⟩
 refine ifD (λh1=>?_) (λh1=>?_)
 · rw [z36,if_pos (.inr h1)]
   exact ⟨rfl,h,by repeat (with_reducible first | exact Mem.Only.refl _ _ | refine Mem.Only.bump ?_ _)⟩
 refine z0 (z7j hs h ha) ?_
 rintro v σ1 ⟨rfl,s1⟩
 replace s1:=s1.ob
 repeat (refine To.go ?_)
 have e1:σ1.get r=some (rdR s at'):=s1.keep h hr
 refine ifD (λh2=>?_) (λh2=>?_)
 · rw [z36,if_neg (by omega),if_pos h2]
   exact ⟨rfl,e1,(s1.only _).bump _⟩
 obtain ⟨n,rfl⟩:=z20 (by omega:0<=n)
 rw [z36,if_neg (by omega),if_neg h2,Int.toNat_natCast]
 rw [zd2] at hs
 refine loop2 (λ(i:Nat) (v k:Int) σ'=>v=val s at' i/\k=i/\i<=n/\σ'.get r=some (rdR s at')/\Mem.Only [r] σ σ') (λi=>n-i) 0 ⟨rfl,rfl,by omega,e1,(s1.only _).bump _⟩ ?_
 rintro i v k σ2 ⟨rfl,rfl,hi,e2,o2⟩
 unfold z4k
 unfold rdR at e2
 refine ifD (λhlt=>?_) (λhge=>?_)
 · have hb:=zF s ((at'+i) / 8)
   repeat (first | refine To.go ?_ | with_reducible refine And.intro (by omega) ?_ | ((with_reducible apply ldrw);(· ((simp (disch:=omega) only [go_sem, *];try rfl)));(· (rfl))))
   rw [show ((at':Int)+i) / 8=(((at'+i) / 8:Nat):Int) from by omega]
   skip
   rw [show (((at':Int)+i) % 8).toNat=(at'+i) % 8 from by omega,Int.toNat_natCast]
   have hd:ze s ((at'+i) / 8) / 2^((at'+i) % 8)<2^8:=zkU hb
   rw [show ((ze s ((at'+i) / 8):Nat):Int) / 2^((at'+i) % 8)=((ze s ((at'+i) / 8) / 2^((at'+i) % 8):Nat):Int) from by simp]
   have hbit:(ze s ((at'+i) / 8) / 2^((at'+i) % 8)) &&& 1=z2T s (at'+i):=Nat.and_one_is_mod _
   have hbl:=zd3 s (at'+i)
   have hA:=zq1 (x:=ze s ((at'+i) / 8) / 2^((at'+i) % 8)) (y:=1) hd (by omega)
   rw [hbit] at hA
   rw [show (zB .and .u8 ((ze s ((at'+i) / 8) / 2^((at'+i) % 8):Nat):Int) 1)=((z2T s (at'+i):Nat):Int) from hA]
   clear hA hbit hd hb
   repeat (first | refine To.go ?_ | with_reducible refine And.intro (by omega) ?_)
   rw [Int.toNat_natCast,show ((z2T s (at'+i):Nat):Int)*2^i=((z2T s (at'+i)*2^i:Nat):Int) from by simp]
   have hw:z2T s (at'+i)*2^i<2^39:=z9f (a:=1) hbl (by omega)
   have hv:=zcr s at' i
   have hv2:2^i<=2^24:=z1D (by omega)
   have hor:val s at' i ||| (z2T s (at'+i)*2^i)=val s at' (i+1):=by rw [z7L hv];rfl
   obtain ⟨w,hwe⟩:∃ w,z2T s (at'+i)*2^i=w:=⟨_,rfl⟩
   rw [hwe] at hw hor ⊢
   repeat (first | refine To.go ?_ | with_reducible refine And.intro (by omega) ?_)
   rw [ziL (by omega) (by omega),Int.toNat_natCast,Int.toNat_natCast,hor]
   skip
   exact again ⟨i+1,⟨rfl,by omega,by omega,e2,by repeat (with_reducible first | assumption | refine Mem.Only.bump ?_ _)⟩,by omega⟩
 · obtain rfl:i=n:=by omega
   repeat (first | refine To.go ?_ | with_reducible refine And.intro (by omega) ?_ | ((with_reducible apply ldrw);(· ((simp (disch:=omega) only [go_sem, *];try rfl)));(· (rfl))) | ((with_reducible apply st1);(· ((simp (disch:=omega) only [go_sem, *];try rfl)));(· simp);(· rfl)))
   refine ⟨rfl,?_,by repeat (with_reducible first | assumption | refine Mem.Only.bump ?_ _ | refine Mem.Only.put ?_ (by simp) _)⟩
   rw [gB gS',rdR,show ((at':Int)+i)=((at'+i:Nat):Int) from by omega]
   rfl
theorem zbG {s:ByteArray} {at' r:Nat} {n:Int} {σ:Mem} (hs:s.size<=reachBytes) (h:σ.get r=some (rdR s at')) (ha:at'<=8*s.size) :
 z1 PG z3b [.ptr r 0,.int .i64 n] σ λv σ'=>v=.tup [.str (z3i s at' n).1,.int .i64 (z3i s at' n).2.1]/\σ'.get r=some (rdR s (z3i s at' n).2.2)/\Mem.Only [r] σ σ':=by
 refine z8o λlive=>?_
 unfold z5k
 have hr:=live.lt h
 refine ifD (λh0=>?_) (λh0=>?_)
 · rw [z3i,if_pos h0]
   exact ⟨rfl,h,by repeat (with_reducible first | exact Mem.Only.refl _ _ | refine Mem.Only.bump ?_ _)⟩
 have hm:=zd2
 unfold rdR at h
 repeat (first | refine To.go ?_ | with_reducible refine And.intro (by omega) ?_ | ((with_reducible apply ldrw);(· ((simp (disch:=omega) only [go_sem, *];try rfl)));(· (rfl))) | ((with_reducible apply st1);(· ((simp (disch:=omega) only [go_sem, *];try rfl)));(· simp);(· rfl)))
 have e:((at':Int)+7) / 8*8=((8*((at'+7) / 8):Nat):Int):=by omega
 rw [e]
 have e0:((σ.bump 15).put r (some (.rw (List.set [.str s,.int .i64 (at':Nat)] 1 (.int .i64 ((8*((at'+7) / 8):Nat):Int)))))).get r=some (rdR s (8*((at'+7) / 8))):=gS'
 refine z0 (z7j hs e0 (by omega)) ?_
 rintro v σ1 ⟨rfl,s1⟩
 have o1:Mem.Only [r] σ σ1:=Mem.Only.then (by repeat (with_reducible first | exact Mem.Only.refl _ _ | refine Mem.Only.bump ?_ _ | refine Mem.Only.put ?_ (by simp) _)) s1.ob
 have e1:σ1.get r=some (rdR s (8*((at'+7) / 8))):=s1.keep e0 (by simp only [Mem.next_bump,Mem.next_put];omega)
 clear e0
 unfold rdR at e1
 repeat (first | refine To.go ?_ | with_reducible refine And.intro (by omega) ?_)
 refine ifD (λh2=>?_) (λh2=>?_)
 · rw [z3i,if_neg h0,if_pos (by omega)]
   exact ⟨rfl,e1,by repeat (with_reducible first | assumption | refine Mem.Only.bump ?_ _)⟩
 obtain ⟨n,rfl⟩:=z20 (by omega:0<=n)
 repeat (first | refine To.go ?_ | with_reducible refine And.intro (by omega) ?_ | ((with_reducible apply ldrw);(· ((simp (disch:=omega) only [go_sem, *];try rfl)));(· (rfl))) | ((with_reducible apply st1);(· ((simp (disch:=omega) only [go_sem, *];try rfl)));(· simp);(· rfl)))
 rw [z3i,if_neg h0,if_neg (by omega)]
 simp only [Int.toNat_natCast,Int.reduceToNat,Nat.mul_one,Nat.zero_add,Nat.add_zero]
 refine ⟨?_,?_,by repeat (with_reducible first | assumption | refine Mem.Only.bump ?_ _ | refine Mem.Only.put ?_ (by simp) _)⟩
 · congr 4
   · omega
   · omega
 · rw [gB gS',rdR,show (((8*((at'+7) / 8):Nat):Int)+8*(n:Int))=((8*((at'+7) / 8)+8*n:Nat):Int) from by omega];rfl
theorem zkZ {lo hi t r at':Nat} {L:List Int} {s:ByteArray} {σ:Mem} (hc:chk L=0) (ht:zd0 lo hi L σ t) (hhi:hi<=σ.next) (hr:r<lo\/hi<=r) (hs:s.size<=reachBytes) (h:σ.get r=some (rdR s at')) (ha:at'<=8*s.size) :
 z1 PG z4d [.ptr t 0,.ptr r 0] σ λv σ'=>v=.tup [.int .i64 (dec L s (z1T L) 1 0 at').1,.int .i64 (dec L s (z1T L) 1 0 at').2.1]/\σ'.get r=some (rdR s (dec L s (z1T L) 1 0 at').2.2)/\Mem.Only [r] σ σ':=by
 refine zaq λlive=>?_
 unfold z6s
 have hL:=zd4 hc
 have hL1:=hL.1
 have hm15:z1T L<=15:=by unfold z1T;split<;>omega
 have hrl:=live.lt h
 obtain ⟨D,hD⟩:∃ D,dec L s (z1T L) 1 0 at'=D:=⟨_,rfl⟩
 rw [hD]
 have hdl:D.2.2<=8*s.size:=by rw [<- hD];exact zeZ _ _ _ ha
 have htk:∀ σ',Mem.Only [r] σ σ'->zd0 lo hi L σ' t:=λσ' o=>ht.keep λb h1 h2=>o.get b (by omega) (by simp;omega)
 obtain ⟨l,cc,g1,rl,rc,_,bl,bc⟩:=ht
 refine To.go ?_
 refine ldrw (v:=l) g1 rfl ?_
 refine z0 (zh3 (σ:=σ.bump 14) (rl.keep λ_ _=>rfl) hL) ?_
 rintro _ σ1 ⟨rfl,s1⟩
 have n1:=s1.next
 simp only [Mem.next_bump] at n1
 replace s1:=s1.ob
 have o1:Mem.Only [r] σ σ1:=s1.only _
 have e1:σ1.get r=some (rdR s at'):=(s1.get r hrl).trans h
 clear g1 rl rc bl bc
 have hlg:=zkK hc
 have main:∀ σ2,Mem.Only [r] σ σ2->σ2.get r=some (rdR s at')->z2y (.ptr t 0) (.ptr r 0) (λv σ'=>v=.tup [.int .i64 D.1,.int .i64 D.2.1]/\σ'.get r=some (rdR s D.2.2)/\Mem.Only [r] σ σ') (z1T L:Nat) σ2:=by
  intro σ2 o2 e2
  unfold z2y
  refine loop2 (λ(k:Nat) (code n:Int) σ'=>∃ j c p:Nat,n=j/\code=c/\1<=j/\k+j=z1T L+1/\c<2^j/\p<=8*s.size/\dec L s k j c p=D/\σ'.get r=some (rdR s p)/\Mem.Only [r] σ σ') (λk=>k) (z1T L) ⟨1,0,at',rfl,rfl,by omega,rfl,by omega,ha,hD,e2,o2.bump _⟩ ?_
  clear o2 e2 o1 e1
  rintro k _ _ σ3 ⟨j,c,p,rfl,rfl,hj,hkj,hc,hp,hd,e3,o3⟩
  unfold z4L
  have n3:=o3.next
  refine ifD (λhlt=>?_) (λhge=>?_)
  · refine z0 (z7s (σ:=σ3.bump 10) hs e3 hp) ?_
    rintro _ σ4 ⟨rfl,e4,o4⟩
    have n4:=o4.next
    simp only [Mem.next_bump] at n4
    have o34:Mem.Only [r] σ σ4:=⟨by omega,λb h1 h2=>(o4.get b (by simp only [Mem.next_bump];omega) h2).trans (o3.get b h1 h2)⟩
    obtain ⟨k,rfl⟩:∃ k',k=k'+1:=⟨k-1,by omega⟩
    unfold dec at hd
    by_cases hend:8*s.size<=p
    · rw [zfl hend] at e4 ⊢
      rw [if_pos hend] at hd
      repeat (first | refine To.go ?_ | ((with_reducible apply opt);(· (rfl))))
      subst hd
      exact ⟨rfl,e4,o34.bump _⟩
    rw [zbZ hend] at e4 ⊢
    rw [if_neg hend] at hd
    obtain ⟨u,hu⟩:∃ u,z2T s p=u:=⟨_,rfl⟩
    have hul:=zd3 s p
    rw [hu] at hul hd ⊢
    dsimp only at e4 ⊢
    have hp16:2^j<=2^15:=z1D (by omega)
    have hpw:2^(j+1)=2*2^j:=by rw [Nat.pow_succ];omega
    repeat (first | refine To.go ?_ | with_reducible refine And.intro (by omega) ?_ | ((with_reducible apply opt);(· (rfl))) | with_reducible refine ifF (not_not_intro rfl) ?_)
    obtain ⟨x,hx⟩:∃ x,2*c+u=x:=⟨_,rfl⟩
    rw [hx] at hd
    rw [show (2*(c:Int)+u)=(x:Nat) from by omega]
    refine loop1 (λ(i:Nat) (y:Int) σ'=>y=i/\i<=L.length/\(∀ m<i,¬ (L.getD m 0=j/\cd L m=x))/\σ'.get r=some (rdR s (p+1))/\Mem.Only [r] σ σ') (λi=>L.length-i) 0 ⟨rfl,by omega,λm h=>by omega,e4,o34.bump _⟩ ?_
    clear e4 o34 o4 n4
    rintro i _ σ5 ⟨rfl,hi,hno,e5,o5⟩
    unfold z4Z
    obtain ⟨l,cc,g1,rl,rc,_,bl,bc⟩:=htk σ5 o5
    refine To.go ?_
    refine ldrw (v:=l) g1 rfl ?_
    refine rl.len ?_
    refine ifD (λhlt=>?_) (λhge=>?_)
    · have hil:i<L.length:=by omega
      have hgd:=zA hil
      obtain ⟨b,bz,ca,rfl,hget⟩:=rl.at hil
      have hcl:=z4V L
      obtain ⟨bc',bc'z,cc',rfl,hgetc⟩:=rc.iat (L:=codes L) (i:=i) (x:=(cd L i:Nat)) (by unfold codes arr;rw [List.getElem?_map,List.getElem?_range hil];rfl) hil (by omega)
      refine To.go ?_
      refine ldrw (l:=[_,_]) g1 rfl ?_
      refine To.go ?_
      refine And.intro (by omega) ?_
      refine hget _ ?_
      obtain ⟨y,hy⟩:∃ y,L[i]=y:=⟨_,rfl⟩
      rw [hy] at hgd ⊢
      refine To.go ?_
      refine ifD (λheq=>?_) (λhne=>?_)
      · repeat (first | refine To.go ?_ | with_reducible refine And.intro (by omega) ?_ | ((with_reducible apply ldrw);(· ((simp (disch:=omega) only [go_sem, *];try rfl)));(· (rfl))))
        refine hgetc _ ?_
        refine To.go ?_
        refine ifD (λheq2=>?_) (λhne2=>?_)
        · rw [zki hil ⟨by omega,by omega⟩ hno] at hd
          dsimp only at hd
          subst hd
          exact ⟨rfl,e5,o5.bump _⟩
        · refine z6 (by omega) ?_
          refine again ⟨i+1,⟨by omega,by omega,λm hm=>?_,e5,o5.bump _⟩,by omega⟩
          rcases Nat.eq_or_lt_of_le (Nat.le_of_lt_succ hm) with rfl | hm
          · exact λh=>hne2 (by omega)
          · exact hno m hm
      · refine z6 (by omega) ?_
        refine again ⟨i+1,⟨by omega,by omega,λm hm=>?_,e5,o5.bump _⟩,by omega⟩
        rcases Nat.eq_or_lt_of_le (Nat.le_of_lt_succ hm) with rfl | hm
        · exact λh=>hne (by omega)
        · exact hno m hm
    · rw [zjx λm hm=>hno m (by omega)] at hd
      dsimp only at hd
      refine z6 (by omega) ?_
      exact again ⟨k,⟨j+1,x,p+1,by omega,rfl,by omega,by omega,by omega,by omega,hd,e5,o5.bump _⟩,by omega⟩
  · obtain rfl:k=0:=by omega
    unfold dec at hd
    subst hd
    exact ⟨rfl,e3,o3.bump _⟩
 obtain ⟨M,hM⟩:∃ M,many L=M:=⟨_,rfl⟩
 obtain ⟨T,hT⟩:∃ T,most L=T:=⟨_,rfl⟩
 rw [hM,hT] at hlg ⊢
 repeat (first | refine To.go ?_ | ((with_reducible apply opt);(· (rfl))))
 refine zu ?_
 unfold z4W
 refine ifD (λh0=>?_) (λh0=>?_)
 · rw [if_neg (by omega),if_pos (by omega)] at hlg
   refine ifD (λh1=>absurd h1 (by omega)) (λh1=>?_)
   refine zu ?_
   have:=main (σ1.bump 10) (o1.bump _) e1
   rw [<- hlg] at this
   exact this
 · refine ifD (λh1=>?_) (λh1=>?_)
   · refine zu ?_
     refine ifD (λh2=>?_) (λh2=>?_)
     · rw [if_pos (by omega)] at hlg
       have:=main (σ1.bump 10) (o1.bump _) e1
       rw [<- hlg] at this
       exact this
     · rw [if_neg (by omega),if_neg (by omega)] at hlg
       have:=main (σ1.bump 9) (o1.bump _) e1
       rw [<- hlg] at this
       exact this
   · rw [if_neg (by omega),if_neg (by omega)] at hlg
     refine zu ?_
     have:=main (σ1.bump 9) (o1.bump _) e1
     rw [<- hlg] at this
     exact this
end Go.Vit
end
section
/- The document's stream: its memory; small steps. -/
set_option maxRecDepth 20000
namespace Go.Vit
open Go.Proofs
structure Rmv (σ:Mem) (o:List Nat) (x r:Nat) (s:ByteArray) (p:Nat) (most:Int) (out:List UInt8) (v:AV) (e:Int):Prop where
 eqo:o=x::r::z3 v
 xr:x≠r
 xv:x ∉ z3 v
 rv:r ∉ z3 v
 gx:σ.get x=some (.rw [.ptr r 0,v,.int .i64 most,.int .i64 e])
 gr:σ.get r=some (rdR s p)
 own:z1Q 1 σ v (bl out) out.length
 le:p<=8*s.size
 lt:∀ b∈o,b<σ.next
 room:out=[]\/(out.length:Int)<=most
 ms : -9223372036854775808<=most/\most<=2^40
 sz:s.size<=2^40
def Rst {β:Type} (σ:Mem) (o:List Nat) (x r:Nat) (s:ByteArray) (most:Int) (out:List UInt8) (v:AV) (m:Rd β) (D:Except Int (β×Nat)):Prop:=
 (∃ q,m s q=D/\Rmv σ o x r s q most out v 0)\/(∃ z q,z≠0/\D=.error z/\Rmv σ o x r s q most out v z)
section
variable {σ σ':Mem} {o:List Nat} {x r p:Nat} {s:ByteArray} {most e:Int} {out:List UInt8} {v:AV} {β:Type} {D:Except Int (β×Nat)} {m:Rd β}
theorem Rmv.keep (h:Rmv σ o x r s p most out v e) (hg:∀ b∈o,σ'.get b=σ.get b) (hn:σ.next<=σ'.next):Rmv σ' o x r s p most out v e:=by
 obtain ⟨rfl,h2,h3,h4,h5,h6,h7,h8,h9,h10,h11,h12⟩:=h
 exact ⟨rfl,h2,h3,h4,(hg x (by simp)).trans h5,(hg r (by simp)).trans h6,h7.keep λb hb=>hg b (by simp [hb]),h8,λb hb=>Nat.lt_of_lt_of_le (h9 b hb) hn,h10,h11,h12⟩
theorem Rmv.bump (h:Rmv σ o x r s p most out v e) (k:Nat):Rmv (σ.bump k) o x r s p most out v e:=h.keep (λ_ _=>rfl) (Nat.le_add_right _ _)
theorem Rmv.g0 (h:Rmv σ o x r s p most out v e):Grow o o σ σ:=.refl h.lt
theorem Rmv.reach (h:Rmv σ o x r s p most out v e):s.size<=reachBytes:=by have:=h.sz;rw [zd2];omega
theorem Rmv.read {q:Nat} (h:Rmv σ o x r s p most out v e) (h1:σ'.get r=some (rdR s q)) (h2:Mem.Only [r] σ σ') (hq:q<=8*s.size):Rmv σ' o x r s q most out v e/\Grow o o σ σ':=by
 obtain ⟨rfl,g2,g3,g4,g5,g6,g7,g8,g9,g10,g11,g12⟩:=h
 have k:∀ b,b<σ.next->b≠r->σ'.get b=σ.get b:=λb hb hn=>h2.get b hb (by simpa using hn)
 refine ⟨⟨rfl,g2,g3,g4,(k x (g9 x (by simp)) g2).trans g5,h1,g7.keep λb hb=>k b (g9 b (by simp [hb])) λe=>g4 (e ▸ hb),hq,λb hb=>Nat.lt_of_lt_of_le (g9 b hb) h2.next,g10,g11,g12⟩,⟨h2.next,λb hb hn=>?_⟩,λb hb=>.inl hb,λb hb=>Nat.lt_of_lt_of_le (g9 b hb) h2.next⟩
 exact k b hb λe=>hn (by simp [e])
theorem Rmv.set (h:Rmv σ o x r s p most out v e) (z:Int):Rmv (σ.put x (some (.rw [.ptr r 0,v,.int .i64 most,.int .i64 z]))) o x r s p most out v z/\Grow o o σ (σ.put x (some (.rw [.ptr r 0,v,.int .i64 most,.int .i64 z]))):=by
 obtain ⟨rfl,g2,g3,g4,g5,g6,g7,g8,g9,g10,g11,g12⟩:=h
 have k:∀ b,b≠x->(σ.put x (some (.rw [.ptr r 0,v,.int .i64 most,.int .i64 z]))).get b=σ.get b:=λb hb=>Mem.get_put_ne _ hb _
 refine ⟨⟨rfl,g2,g3,g4,gS',(k r g2.symm).trans g6,g7.keep λb hb=>k b λe=>g3 (e ▸ hb),g8,g9,g10,g11,g12⟩,⟨Nat.le_refl _,λb hb hn=>?_⟩,λb hb=>.inl hb,g9⟩
 exact k b λe=>hn (by simp [e])
theorem Rst.keep (h:Rst σ o x r s most out v m D) (hg:∀ b∈o,σ'.get b=σ.get b) (hn:σ.next<=σ'.next):Rst σ' o x r s most out v m D:=by
 rcases h with ⟨q,h1,h2⟩ | ⟨z,q,h1,h2,h3⟩
 · exact .inl ⟨q,h1,h2.keep hg hn⟩
 · exact .inr ⟨z,q,h1,h2,h3.keep hg hn⟩
theorem Rst.bump (h:Rst σ o x r s most out v m D) (k:Nat):Rst (σ.bump k) o x r s most out v m D:=h.keep (λ_ _=>rfl) (Nat.le_add_right _ _)
theorem Rst.mv (h:Rst σ o x r s most out v m D):∃ q e,Rmv σ o x r s q most out v e:=by
 rcases h with ⟨q,h1,h2⟩ | ⟨z,q,h1,h2,h3⟩
 · exact ⟨q,_,h2⟩
 · exact ⟨q,_,h3⟩
theorem Rst.g0 (h:Rst σ o x r s most out v m D):Grow o o σ σ:=by
 obtain ⟨q,e,h⟩:=h.mv;exact h.g0
theorem Rst.lt (h:Rst σ o x r s most out v m D):∀ b∈o,b<σ.next:=by
 obtain ⟨q,e,h⟩:=h.mv;exact h.lt
theorem rbits {n:Nat} {k:Nat->Rd β} (hn:n<=24) (h:Rst σ o x r s most out v (zi (zZ n) k) D):z1 PG z8 [.ptr x 0,.int .i64 (n:Nat)] σ λw σ'=>∃ a:Nat,w=.int .i64 (a:Nat)/\a<2^n/\Grow o o σ σ'/\Rst σ' o x r s most out v (k a) D:=by
 refine z4n λlive=>?_
 unfold z2I
 rcases h with ⟨q,hD,h⟩ | ⟨z,q,hz,hD,h⟩
 · repeat (refine To.go ?_)
   refine ldrw h.gx (v:=.int .i64 0) rfl ?_
   repeat (first | refine To.go ?_ | with_reducible refine ifF (not_not_intro rfl) ?_)
   refine ldrw h.gx (v:=.ptr r 0) rfl ?_
   refine z0 (z7s (σ:=σ.bump 17) h.reach h.gr h.le) ?_
   rintro _ σ1 ⟨rfl,h1,h2⟩
   rw [zef h.le hn] at h1 ⊢
   cases e:zZ n s q with
   | error z=>
     rw [e] at h1
     rw [za e] at hD
     have hz:=zog e
     subst hz
     have hr:=(h.bump 17).read h1 h2 h.le
     repeat (first | refine To.go ?_ | ((with_reducible apply opt);(· (rfl))))
     refine st1 hr.1.gx (by simp) rfl ?_
     skip
     have hs:=(hr.1.bump 5).set 3
     exact ⟨0,rfl,Nat.two_pow_pos n,(hr.2.ob.bump 5 |>.trans hs.2).bump _,.inr ⟨3,q,by decide,hD.symm,hs.1.bump _⟩⟩
   | ok y=>
     obtain ⟨a,q2⟩:=y
     rw [e] at h1
     rw [z9 e] at hD
     have hr:=(h.bump 17).read h1 h2 (Fr.le (.bits n) h.le e).2
     repeat (first | refine To.go ?_ | ((with_reducible apply opt);(· (rfl))))
     refine st1 hr.1.gx (by simp) rfl ?_
     skip
     have hs:=(hr.1.bump 5).set 0
     exact ⟨a,rfl,z9Z e,(hr.2.ob.bump 5 |>.trans hs.2).bump _,.inl ⟨q2,hD,hs.1.bump _⟩⟩
 · repeat (refine To.go ?_)
   refine ldrw h.gx (v:=.int .i64 z) rfl ?_
   repeat (first | refine To.go ?_ | with_reducible refine ifT (by omega) ?_)
   exact ⟨0,rfl,Nat.two_pow_pos n,h.g0.bump _,.inr ⟨z,q,hz,hD,h.bump _⟩⟩
theorem rbytes {n:Nat} {k:ByteArray->Rd β} (h:Rst σ o x r s most out v (zi (z34 n) k) D):z1 PG zR [.ptr x 0,.int .i64 (n:Nat)] σ λw σ'=>∃ b:ByteArray,w=.str b/\Grow o o σ σ' /\
 ((b.size=n/\∃ q,k b s q=D/\Rmv σ' o x r s q most out v 0)\/∃ z q,z≠0/\D=.error z/\Rmv σ' o x r s q most out v z):=by
 refine z4a λlive=>?_
 unfold z2k
 rcases h with ⟨q,hD,h⟩ | ⟨z,q,hz,hD,h⟩
 · repeat (refine To.go ?_)
   refine ldrw h.gx (v:=.int .i64 0) rfl ?_
   repeat (first | refine To.go ?_ | with_reducible refine ifF (not_not_intro rfl) ?_)
   refine ldrw h.gx (v:=.ptr r 0) rfl ?_
   refine z0 (zbG (σ:=σ.bump 17) h.reach h.gr h.le) ?_
   rintro _ σ1 ⟨rfl,h1,h2⟩
   rw [zc8 h.le] at h1 ⊢
   cases e:z34 n s q with
   | error z=>
     rw [e] at h1
     rw [za e] at hD
     have hz:=Fr.ne (.bytes n) h.le e
     have hr:=(h.bump 17).read h1 h2 (by have:=h.le;show 8*((q+7) / 8)<=_;omega)
     repeat (first | refine To.go ?_ | ((with_reducible apply opt);(· (rfl))))
     refine st1 hr.1.gx (by simp) rfl ?_
     skip
     have hs:=(hr.1.bump 5).set z
     exact ⟨_,rfl,(hr.2.ob.bump 5 |>.trans hs.2).bump _,.inr ⟨z,_,hz,hD.symm,hs.1.bump _⟩⟩
   | ok y=>
     obtain ⟨a,q2⟩:=y
     rw [e] at h1
     rw [z9 e] at hD
     have hr:=(h.bump 17).read h1 h2 (Fr.le (.bytes n) h.le e).2
     have ha:a.size=n:=by
      unfold z34 at e
      split at e
      · exact absurd e (by simp)
      · injection e with e
        rw [<- (Prod.mk.inj e).1,size_extract];omega
     repeat (first | refine To.go ?_ | ((with_reducible apply opt);(· (rfl))))
     refine st1 hr.1.gx (by simp) rfl ?_
     skip
     have hs:=(hr.1.bump 5).set 0
     exact ⟨a,rfl,(hr.2.ob.bump 5 |>.trans hs.2).bump _,.inl ⟨ha,q2,hD,hs.1.bump _⟩⟩
 · repeat (refine To.go ?_)
   refine ldrw h.gx (v:=.int .i64 z) rfl ?_
   repeat (first | refine To.go ?_ | with_reducible refine ifT (by omega) ?_)
   exact ⟨_,rfl,h.g0.bump _,.inr ⟨z,q,hz,hD,h.bump _⟩⟩
theorem zjK {L:List Int} {s:ByteArray}:∀ (k n c p:Nat),(dec L s k n c p).2.1≠0->(dec L s k n c p).1=0
 | 0,_,_,_,h=>rfl
 | k+1,n,c,p,h=>by
   unfold dec at h ⊢
   by_cases h1:8*s.size<=p
   · rw [if_pos h1]
   · rw [if_neg h1] at h ⊢
     cases e:fnd L n (2*c+z2T s p) with
     | some i=>rw [e] at h;exact absurd rfl h
     | none=>
       rw [e] at h
       exact zjK k _ _ _ h
theorem rnext {lo hi:Nat} {L:List Int} {k:Int->Rd β} {ta:AV} (h:Rst σ o x r s most out v (zi (z3o L) k) D) (hT:(∃ q,Rmv σ o x r s q most out v 0)->∃ t,ta=.ptr t 0/\chk L=0/\zd0 lo hi L σ t) (hhi:hi<=σ.next) (hto:∀ b∈o,b<lo\/hi<=b) :
 z1 PG zK [.ptr x 0,ta] σ λw σ'=>∃ c:Nat,w=.int .i64 (c:Nat)/\Grow o o σ σ' /\
 ((c<L.length/\∃ q,k c s q=D/\Rmv σ' o x r s q most out v 0/\∃ p,p<q/\z3o L s p=.ok ((c:Int),q))\/c=0/\∃ z q,z≠0/\D=.error z/\Rmv σ' o x r s q most out v z):=by
 refine z4m λlive=>?_
 unfold z2F
 rcases h with ⟨q,hD,h⟩ | ⟨z,q,hz,hD,h⟩
 · obtain ⟨t,rfl,hc,ht⟩:=hT ⟨q,h⟩
   repeat (refine To.go ?_)
   refine ldrw h.gx (v:=.int .i64 0) rfl ?_
   repeat (first | refine To.go ?_ | with_reducible refine ifF (not_not_intro rfl) ?_)
   refine ldrw h.gx (v:=.ptr r 0) rfl ?_
   refine z0 (zkZ (σ:=σ.bump 17) hc (ht.keep λ_ _ _=>rfl) (by simp only [Mem.next_bump];omega) (hto r (by rw [h.eqo];simp)) h.reach h.gr h.le) ?_
   rintro _ σ1 ⟨rfl,h1,h2⟩
   have hr:=(h.bump 17).read h1 h2 (zeZ _ _ _ h.le)
   by_cases h0:(dec L s (z1T L) 1 0 q).2.1=0
   · have e:z3o L s q=.ok ((dec L s (z1T L) 1 0 q).1,(dec L s (z1T L) 1 0 q).2.2):=by unfold z3o;rw [if_pos h0]
     rw [z9 e] at hD
     have hpq:=zfE e
     obtain ⟨c,hc',hcl⟩:=zgo e
     rw [hc'] at hD e ⊢
     rw [h0]
     repeat (first | refine To.go ?_ | ((with_reducible apply opt);(· (rfl))))
     refine st1 hr.1.gx (by simp) rfl ?_
     skip
     have hs:=(hr.1.bump 5).set 0
     exact ⟨c,rfl,(hr.2.ob.bump 5 |>.trans hs.2).bump _,.inl ⟨hcl,_,hD,hs.1.bump _,_,hpq,e⟩⟩
   · have e:z3o L s q=.error (dec L s (z1T L) 1 0 q).2.1:=by unfold z3o;rw [if_neg h0]
     rw [za e] at hD
     rw [zjK _ _ _ _ h0]
     repeat (first | refine To.go ?_ | ((with_reducible apply opt);(· (rfl))))
     refine st1 hr.1.gx (by simp) rfl ?_
     skip
     have hs:=(hr.1.bump 5).set (dec L s (z1T L) 1 0 q).2.1
     exact ⟨0,rfl,(hr.2.ob.bump 5 |>.trans hs.2).bump _,.inr ⟨rfl,_,_,h0,hD.symm,hs.1.bump _⟩⟩
 · repeat (refine To.go ?_)
   refine ldrw h.gx (v:=.int .i64 z) rfl ?_
   repeat (first | refine To.go ?_ | with_reducible refine ifT (by omega) ?_)
   exact ⟨0,rfl,h.g0.bump _,.inr ⟨rfl,z,q,hz,hD,h.bump _⟩⟩
theorem zd0.wide {lo hi lo' hi' t:Nat} {L:List Int} (h:zd0 lo hi L σ t) (h1:lo'<=lo) (h2:hi<=hi'):zd0 lo' hi' L σ t:=by
 obtain ⟨l,c,a1,a2,a3,a7,a8,a9⟩:=h
 exact ⟨l,c,a1,a2,a3,⟨by omega,by omega⟩,λb hb=>by have:=a8 b hb;omega,λb hb=>by have:=a9 b hb;omega⟩
theorem rtable {L:List Int} {k:Unit->Rd β} {a:AV} (h:Rst σ o x r s most out v (zi (z2r L) k) D) (ha:(∃ q,Rmv σ o x r s q most out v 0)->RdO 1 σ a (ic L) L.length) (hl:L.length<=2^44) :
 z1 PG zH [.ptr x 0,a] σ λw σ'=>Grow o o σ σ'/\σ.next<=σ'.next/\(∀ b,b<σ.next->b≠x->σ'.get b=σ.get b) /\
 ((∃ t,w=.ptr t 0/\chk L=0/\lens L/\zd0 σ.next σ'.next L σ' t/\∃ q,k () s q=D/\Rmv σ' o x r s q most out v 0)\/∃ z q,z≠0/\D=.error z/\Rmv σ' o x r s q most out v z):=by
 refine z4c λlive=>?_
 unfold z2l
 rcases h with ⟨q,hD,h⟩ | ⟨z,q,hz,hD,h⟩
 · have ha:=ha ⟨q,h⟩
   repeat (refine To.go ?_)
   refine ldrw h.gx (v:=.int .i64 0) rfl ?_
   repeat (first | refine To.go ?_ | with_reducible refine ifF (not_not_intro rfl) ?_)
   refine z0 (zkJ (σ:=σ.bump 13) (ha.keep λ_ _=>rfl) hl) ?_
   rintro _ σ1 ⟨p,rfl,_,hok,s1⟩
   have n1:=s1.next
   simp only [Mem.next_bump] at n1 hok
   replace s1:=s1.ob
   have h1:=h.keep (λb hb=>s1.get b (h.lt b hb)) s1.next
   have hx:=h.lt x (by rw [h.eqo];simp)
   by_cases hc:chk L=0
   · obtain ⟨hL,t,rfl,hT⟩:=hok hc
     rw [z9 (a:=()) (q:=q) (by unfold z2r;rw [if_neg (by simpa using hc)];rfl)] at hD
     rw [hc]
     repeat (first | refine To.go ?_ | ((with_reducible apply opt);(· (rfl))))
     refine st1 h1.gx (by simp) rfl ?_
     skip
     have hs:=(h1.bump 5).set 0
     refine ⟨((h.g0.then s1).bump 5 |>.trans hs.2).bump _,by simp only [Mem.next_bump,Mem.next_put];omega,λb hb hbx=>?_,.inl ⟨t,rfl,rfl,hL,?_,q,hD,hs.1.bump _⟩⟩
     · rw [Mem.get_bump,Mem.get_put_ne _ hbx,Mem.get_bump,s1.get b hb]
     · refine zd0.wide (lo:=σ.next+13) (hi:=σ1.next) ?_ (by omega) (by simp only [Mem.next_bump,Mem.next_put];omega)
       exact hT.keep λb hb _=>by rw [Mem.get_bump,Mem.get_put_ne _ (by omega)];rfl
   · rw [za (e:=chk L) (by unfold z2r;rw [if_pos hc];rfl)] at hD
     repeat (first | refine To.go ?_ | ((with_reducible apply opt);(· (rfl))))
     refine st1 h1.gx (by simp) rfl ?_
     skip
     have hs:=(h1.bump 5).set (chk L)
     refine ⟨((h.g0.then s1).bump 5 |>.trans hs.2).bump _,by simp only [Mem.next_bump,Mem.next_put];omega,λb hb hbx=>?_,.inr ⟨_,q,hc,hD.symm,hs.1.bump _⟩⟩
     rw [Mem.get_bump,Mem.get_put_ne _ hbx,Mem.get_bump,s1.get b hb]
 · repeat (refine To.go ?_)
   refine ldrw h.gx (v:=.int .i64 z) rfl ?_
   repeat (first | refine To.go ?_ | with_reducible refine ifT (by omega) ?_)
   exact ⟨h.g0.bump _,by simp only [Mem.next_bump];omega,λb hb _=>rfl,.inr ⟨z,q,hz,hD,h.bump _⟩⟩
end
end Go.Vit
end
section
/- The document's numbers of symbols. -/
set_option maxRecDepth 20000
namespace Go.Vit
open Go.Proofs
end Go.Vit
end
section
/- The document's fixed lengths; stored blocks. -/
set_option maxRecDepth 20000
namespace Go.Vit
open Go.Proofs
end Go.Vit
end
section
/- The document's stored blocks. -/
set_option maxRecDepth 20000
namespace Go.Vit
open Go.Proofs
section
variable {σ σ':Mem} {o:List Nat} {x r p:Nat} {s:ByteArray} {most e:Int} {out:List UInt8} {v:AV} {β:Type} {D:Except Int (β×Nat)} {m:Rd β}
theorem Rmv.push {bytes:List UInt8} {σ2:Mem} {id m:Nat} {src:AV} {K:Mem->Prop} (h:Rmv σ o x r s p most out v e) (s2:σ.Same σ2) (hx:∀ K:Nat->List AV->Prop,K m (bl bytes)->zlj σ2 1 src K) (hm:bytes.length=m) (hid:σ.next<=id/\id<σ2.next) (hroom:bytes=[]\/(out.length:Int)+bytes.length<=most)
 (hk:∀ o' v' σ',Rmv σ' o' x r s p most (out++bytes) v' e->Grow o o' σ σ'->σ'.next=σ2.next->K σ'):apW 1 1 id σ2 v src λv' σ3=>nfW 1 (.ptr x 0) λw=>stW 1 σ3 w v' K:=by
 obtain ⟨rfl,g2,g3,g4,g5,g6,g7,g8,g9,g10,g11,g12⟩:=h
 have hm47:out.length+m<=2^40:=by
  rcases hroom with rfl | hr
  · rcases g10 with rfl | h
    · simp at hm ⊢;omega
    · simp at hm;omega
  · omega
 refine z1Q.append (n:=out.length) (m:=m) (cs:=bl out) (c:=bl bytes) (g7.keep λb hb=>s2.get b (g9 b (by simp [hb]))) hx (λe=>by rw [List.length_eq_zero_iff.1 (hm.trans e)];rfl) (by rw [z5K];omega) (zcI _) (zcI _) (by omega) (λhb=>by have:=g9 id (by simp [hb]);omega) ?_
 intro v' σ3 own3 hn3 hg3 hb3
 rw [z8Q] at own3
 have hx1:x<σ.next:=g9 x (by simp)
 have hr1:r<σ.next:=g9 r (by simp)
 have k3:∀ b,b<σ.next->b ∉ z3 v->σ3.get b=σ.get b:=λb hb hn=>by rw [hg3 b hn (by omega),s2.get b hb]
 have x3:σ3.get x=some (.rw [.ptr r 0,v,.int .i64 most,.int .i64 e]):=by rw [k3 x hx1 g3];exact g5
 have hv':∀ b∈z3 v',(b∈z3 v/\b<σ.next)\/b=id:=λb hb=>(hb3 b hb).imp (λh=>⟨h,g9 b (by simp [h])⟩) λh=>h
 have xv':x ∉ z3 v':=λhb=>by rcases hv' x hb with h | h;exact g3 h.1;omega
 have rv':r ∉ z3 v':=λhb=>by rcases hv' r hb with h | h;exact g4 h.1;omega
 refine To.go ?_
 refine st1 x3 (by simp) own3.rdO.one ?_
 refine hk (x::r::z3 v') v' _ ⟨rfl,g2,xv',rv',by rw [gS'];rfl,?_,?_,g8,?_,?_,g11,g12⟩ ⟨⟨?_,?_⟩,?_,?_⟩ hn3
 · rw [Mem.get_put_ne _ g2.symm,k3 r hr1 g4];exact g6
 · rw [List.length_append,hm]
   exact own3.keep λb hb=>by rw [Mem.get_put_ne _ (by rintro rfl;exact xv' hb)]
 · intro b hb
   rw [Mem.next_put,hn3]
   simp only [List.mem_cons] at hb
   have:=s2.next
   rcases hb with rfl | rfl | hb
   · omega
   · omega
   · rcases hv' b hb with h | h<;>omega
 · rcases hroom with rfl | hr
   · rw [List.append_nil];exact g10
   · right;rw [List.length_append];omega
 · rw [Mem.next_put,hn3];exact s2.next
 · intro b hb hn
   simp only [List.mem_cons,not_or] at hn
   rw [Mem.get_put_ne _ hn.1,k3 b hb hn.2.2]
 · intro b hb
   simp only [List.mem_cons] at hb ⊢
   rcases hb with h | h | h
   · exact .inl (.inl h)
   · exact .inl (.inr (.inl h))
   · rcases hv' b h with h | h
     · exact .inl (.inr (.inr h.1))
     · exact .inr (by omega)
 · intro b hb
   rw [Mem.next_put,hn3]
   simp only [List.mem_cons] at hb
   have:=s2.next
   rcases hb with rfl | rfl | hb
   · omega
   · omega
   · rcases hv' b hb with h | h<;>omega
theorem zkD {n z:Int} (h:Rmv σ o x r s p most out v z) (hz:z≠0):z1 PG z8 [.ptr x 0,.int .i64 n] σ λw σ'=>w=.int .i64 0/\σ.Same σ':=by
 refine z4n λlive=>?_
 unfold z2I
 repeat (refine To.go ?_)
 refine ldrw h.gx (v:=.int .i64 z) rfl ?_
 repeat (first | refine To.go ?_ | with_reducible refine ifT (by omega) ?_)
 exact ⟨rfl,(Mem.Same.refl σ).bump _⟩
theorem ziJ {n z:Int} (h:Rmv σ o x r s p most out v z) (hz:z≠0):z1 PG zR [.ptr x 0,.int .i64 n] σ λw σ'=>w=.str ⟨#[]⟩/\σ.Same σ':=by
 refine z4a λlive=>?_
 unfold z2k
 repeat (refine To.go ?_)
 refine ldrw h.gx (v:=.int .i64 z) rfl ?_
 repeat (first | refine To.go ?_ | with_reducible refine ifT (by omega) ?_)
 exact ⟨rfl,(Mem.Same.refl σ).bump _⟩
theorem zkn {z:Int} {t:AV} (h:Rmv σ o x r s p most out v z) (hz:z≠0):z1 PG zK [.ptr x 0,t] σ λw σ'=>w=.int .i64 0/\σ.Same σ':=by
 refine z4m λlive=>?_
 unfold z2F
 repeat (refine To.go ?_)
 refine ldrw h.gx (v:=.int .i64 z) rfl ?_
 repeat (first | refine To.go ?_ | with_reducible refine ifT (by omega) ?_)
 exact ⟨rfl,(Mem.Same.refl σ).bump _⟩
theorem ziD {z:Int} {t:AV} (h:Rmv σ o x r s p most out v z) (hz:z≠0):z1 PG zH [.ptr x 0,t] σ λw σ'=>w=.nilp/\σ.Same σ':=by
 refine z4c λlive=>?_
 unfold z2l
 repeat (refine To.go ?_)
 refine ldrw h.gx (v:=.int .i64 z) rfl ?_
 repeat (first | refine To.go ?_ | with_reducible refine ifT (by omega) ?_)
 exact ⟨rfl,(Mem.Same.refl σ).bump _⟩
theorem Rmv.same {s2:Mem} (h:Rmv σ o x r s p most out v e) (hs:σ.Same s2):Rmv s2 o x r s p most out v e:=h.keep (λb hb=>hs.get b (h.lt b hb)) hs.next
theorem zjg {n m:Nat} (hn:n<65536):n ^^^ m=65535↔m=65535-n:=by
 have h:n ^^^ 65535=65535-n:=by
  have h1:(BitVec.ofNat 16 n ^^^ BitVec.allOnes 16).toNat=(~~~ BitVec.ofNat 16 n).toNat:=by rw [BitVec.xor_allOnes]
  rw [BitVec.toNat_xor,BitVec.toNat_not,BitVec.toNat_allOnes,BitVec.toNat_ofNat,Nat.mod_eq_of_lt (by omega)] at h1
  exact h1
 constructor
 · intro e
   rw [<- h,<- e,<- Nat.xor_assoc,Nat.xor_self,Nat.zero_xor]
 · rintro rfl
   rw [<- h,<- Nat.xor_assoc,Nat.xor_self,Nat.zero_xor]
theorem z3Q {α β:Type} (a:α) (g:α->Rd β):zi (z0i a) g=g a:=rfl
def num2 (b:ByteArray):Nat:=ze b 0 ||| ze b 1*256
theorem zlp (b:ByteArray):num2 b=ze b 0+256*ze b 1/\num2 b<65536:=by
 have b0:=zF b 0
 have b1:=zF b 1
 have:=z7L (a:=ze b 0) (b:=ze b 1) (n:=8) (by omega)
 rw [show (2:Nat)^8=256 from rfl] at this
 unfold num2
 rw [this];omega
theorem zkW (most:Int) (out:List UInt8) (k:List UInt8->Rd β):zi (z6L most out) k=zi (z34 2) λa=>zi (z34 2) λb=>if num2 a ^^^ num2 b≠65535 then z5a 14 else zi (z34 (num2 a)) λb=>zi (z4K most out (num2 a)) λ_=>k (out++zI b):=by
 unfold z6L zh7
 rw [zh,zh]
 congr 1
 funext a
 rw [z3Q,zh,zh]
 congr 1
 funext b
 rw [z3Q]
 unfold num2
 by_cases h:(ze a 0 ||| ze a 1*256) ^^^ (ze b 0 ||| ze b 1*256)≠65535
 · rw [if_pos h,if_pos h];rfl
 · rw [if_neg h,if_neg h,zh]
   congr 1
   funext c
   rw [zh]
   rfl
theorem zhu {k:List UInt8->Rd β} {q:Nat} (h:Rmv σ o x r s q most out v 0) (hD:zi (z6L most out) k s q=D) :
 z1 PG z1V [.ptr x 0] σ λw σ'=>∃ o' v' out',Grow o o' σ σ'/\Rst σ' o' x r s most out' v' (k out') D:=by
 refine z7l λlive=>?_
 unfold z3Z
 rw [zkW] at hD
 refine z0 (rbytes (n:=2) (.inl ⟨q,hD,h.bump 3⟩)) ?_
 rintro _ σ1 ⟨a,rfl,g1,h1⟩
 replace g1:=g1.ob
 repeat (refine To.go ?_)
 rcases h1 with ⟨ha,q1,hD,h1⟩ | ⟨z,q1,hz,hD,h1⟩
 · refine z0 (rbytes (n:=2) (.inl ⟨q1,hD,h1.bump 3⟩)) ?_
   rintro _ σ2 ⟨b,rfl,g2,h2⟩
   replace g2:=g1.trans g2.ob
   rcases h2 with ⟨hb,q2,hD2,h2⟩ | ⟨z,q,hz,hD,h2⟩
   · repeat (refine To.go ?_)
     refine ldrw h2.gx (v:=.int .i64 0) rfl ?_
     have a0:=zF a 0
     have a1:=zF a 1
     have b0:=zF b 0
     have b1:=zF b 1
     have na:=zlp a
     have nb:=zlp b
     repeat (first | refine To.go ?_ | with_reducible refine And.intro (by omega) ?_ | with_reducible refine ifF (not_not_intro rfl) ?_)
     obtain ⟨n,hn⟩:∃ n,num2 a=n:=⟨_,rfl⟩
     obtain ⟨m,hm⟩:∃ m,num2 b=m:=⟨_,rfl⟩
     rw [hn,hm] at hD2
     rw [hn] at na
     rw [hm] at nb
     rw [show ((ze a 0:Nat):Int)+256*(ze a 1:Nat)=(n:Nat) from by omega,show ((ze b 0:Nat):Int)+256*(ze b 1:Nat)=(m:Nat) from by omega]
     by_cases hx:n ^^^ m≠65535
     · rw [if_pos hx] at hD2
       have hne:m≠65535-n:=λe=>hx ((zjg na.2).2 e)
       refine ifT (by omega) ?_
       repeat (refine To.go ?_)
       refine st1 h2.gx (by simp) rfl ?_
       have hs:=(h2.bump 29).set 14
       exact ⟨o,v,out,g2.bump 29 |>.trans hs.2,.inr ⟨14,q2,by decide,hD2.symm,hs.1⟩⟩
     · rw [if_neg hx] at hD2
       have heq:m=65535-n:=(zjg na.2).1 (Decidable.not_not.1 hx)
       refine ifF (by omega) ?_
       refine z0 (rbytes (n:=n) (.inl ⟨q2,hD2,h2.bump 29⟩)) ?_
       rintro _ σ3 ⟨b,rfl,g3,h3⟩
       replace g3:=g2.trans g3.ob
       rcases h3 with ⟨hb,q3,hD3,h3⟩ | ⟨z,q3,hz,hD3,h3⟩
       · repeat (refine To.go ?_)
         refine ldrw h3.gx (v:=.int .i64 0) rfl ?_
         repeat (first | refine To.go ?_ | with_reducible refine ifT rfl ?_)
         refine ldrw h3.gx (v:=v) rfl ?_
         refine h3.own.rdO.len ?_
         have hms:=h3.ms
         have hroom:=h3.room
         have hob:out.length<=2^40:=by
          rcases hroom with rfl | h
          · simp
          · omega
         refine z6 (by omega) ?_
         repeat (refine To.go ?_)
         refine ldrw h3.gx (v:=.int .i64 most) rfl ?_
         refine To.go ?_
         refine zu ?_
         by_cases hr:most-out.length<n
         · rw [za (e:=5) (by unfold z4K;rw [if_pos hr];rfl)] at hD3
           refine ifT (by omega) ?_
           refine To.go ?_
           refine st1 h3.gx (by simp) rfl ?_
           have hs:=(h3.bump 23).set 5
           unfold z1h
           repeat (first | refine To.go ?_ | ((with_reducible apply ldrw);(· ((simp (disch:=omega) only [go_sem, *];try rfl)));(· (rfl))))
           refine zu ?_
           repeat (with_reducible refine ifF (by omega) ?_)
           unfold z1i
           exact ⟨o,v,out,(g3.bump 23 |>.trans hs.2).bump _,.inr ⟨5,q3,by decide,hD3.symm,hs.1.bump _⟩⟩
         · rw [z9 (a:=()) (q:=q3) (by unfold z4K;rw [if_neg hr];rfl)] at hD3
           refine ifF (by omega) ?_
           unfold z1h
           repeat (refine To.go ?_)
           refine ldrw h3.gx (v:=.int .i64 0) rfl ?_
           refine To.go ?_
           refine zu ?_
           repeat (first | refine To.go ?_ | with_reducible refine ifT rfl ?_)
           refine ldrw h3.gx (v:=v) rfl ?_
           refine (h3.bump 19).push (bytes:=zI b) (m:=n) ((Mem.Same.refl _).bump 15) (λK hK=>zin K (by rw [hb];exact hK)) (by rw [zL,hb]) ⟨by omega,by simp only [Mem.next_bump];omega⟩ (.inr (by rw [zL];omega)) ?_
           intro o' v' σ5 h5 g5 n5
           unfold z1i
           exact ⟨o',v',_,g3.trans g5.ob,.inl ⟨q3,hD3,h5⟩⟩
       · repeat (refine To.go ?_)
         refine ldrw h3.gx (v:=.int .i64 z) rfl ?_
         refine To.go ?_
         refine ifF hz ?_
         refine zu ?_
         unfold z32
         repeat (refine To.go ?_)
         refine ldrw h3.gx (v:=.int .i64 z) rfl ?_
         refine To.go ?_
         refine zu ?_
         refine ifF hz ?_
         unfold z33
         exact ⟨o,v,out,(g3.bump _).bump _,.inr ⟨z,q3,hz,hD3,(h3.bump _).bump _⟩⟩
   · repeat (refine To.go ?_)
     refine ldrw h2.gx (v:=.int .i64 z) rfl ?_
     repeat (first | refine To.go ?_ | with_reducible refine ifT (by omega) ?_)
     exact ⟨o,v,out,g2.bump _,.inr ⟨z,q,hz,hD,h2.bump _⟩⟩
 · refine z0 (ziJ (h1.bump 3) hz) ?_
   rintro _ σ2 ⟨rfl,s2⟩
   replace s2:=s2.ob
   have h2:=h1.same s2
   repeat (refine To.go ?_)
   refine ldrw h2.gx (v:=.int .i64 z) rfl ?_
   repeat (first | refine To.go ?_ | with_reducible refine ifT (by omega) ?_)
   exact ⟨o,v,out,(g1.then s2).bump _,.inr ⟨z,q1,hz,hD,h2.bump _⟩⟩
end
end Go.Vit
end
section
/- The document's lengths of a dynamic block: a run is laid. -/
set_option maxRecDepth 20000
namespace Go.Vit
open Go.Proofs
section
variable {σ σ':Mem} {o:List Nat} {x r p:Nat} {s:ByteArray} {most e:Int} {out:List UInt8} {v:AV} {β:Type} {D:Except Int (β×Nat)} {m:Rd β}
def znu (σ3:Mem) (o:List Nat) (x r:Nat) (s:ByteArray) (most:Int) (out:List UInt8) (v:AV) (sm:List Int) (all:Nat) (K2:List Int->Rd β) (D:Except Int (β×Nat)) (f:Nat) (u:AV) (σ':Mem):Prop:=
 ∃ l,Own 1 σ3 σ' u (ic l) l.length/\l.length<=all/\Mem.Only o σ3 σ' /\
  ((∃ q,zi (zag sm all f l) K2 s q=D/\all<f+l.length/\Rmv σ' o x r s q most out v 0)\/∃ z q,z≠0/\D=.error z/\Rmv σ' o x r s q most out v z)
theorem zhg {σ4:Mem} {u:AV} {c n z:Int} {q:Nat} {k:AV->Mem->Prop} (h:Rmv σ4 o x r s q most out v z) (hz:z≠0) (hk:∀ j,k u (σ4.bump j)):zj [.v,tI] (z0z (.ptr x 0) c n k) u 0 σ4:=by
 refine loop2 (λ(_:Unit) (u':AV) (y:Int) σ'=>u'=u/\y=0/\σ'=σ4) (λ_=>0) () ⟨rfl,rfl,rfl⟩ ?_
 rintro _ _ _ _ ⟨rfl,rfl,rfl⟩
 unfold z0z
 refine ifD (λ_=>?_) (λ_=>hk _)
 repeat (refine To.go ?_)
 refine ldrw h.gx (v:=.int .i64 z) rfl ?_
 repeat (first | refine To.go ?_ | with_reducible refine ifF (by omega) ?_)
 exact hk _
theorem zpq {σ3 σ4:Mem} {u:AV} {sm l:List Int} {all n f k7 k3:Nat} {c:Int} {K2:List Int->Rd β} {next34:AV->Mem->Prop} (hall:k3+k7=all) (hall2:all<=400) (own:Own 1 σ3 σ4 u (ic l) l.length) (hl:l.length<=all) (hn:1<=n/\n<=200) (ho:∀ b∈o,b<σ3.next) (o4:Mem.Only o σ3 σ4)
 (hf:all<=f+l.length)
 (h:Rst σ4 o x r s most out v (zi (if all<l.length+n then z5a 12 else zag sm all f (l++List.replicate n c)) K2) D)
 (hk:∀ u' σ',znu σ3 o x r s most out v sm all K2 D f u' σ'->next34 u' σ'):z0y (.ptr x 0) (k3:Nat) (k7:Nat) next34 u c (n:Nat) σ4:=by
 unfold z0y
 have hdead:∀ (σ5:Mem) (z:Int) (q:Nat),z≠0->D=.error z->Rmv σ5 o x r s q most out v z->σ4.next<=σ5.next->(∀ b,b<σ4.next->b≠x->σ5.get b=σ4.get b)->next34 u σ5:=by
  intro σ5 z q hz hD h5 n5 g5
  have hx:=h5.lt
  have hxo:x∈o:=by rw [h5.eqo];simp
  refine hk u σ5 ⟨l,⟨own.1.keep λb hb=>g5 b (own.2 b hb).2 λe=>?_,λb hb=>?_⟩,hl,⟨?_,λb hb hn=>?_⟩,.inr ⟨z,q,hz,hD,h5⟩⟩
  · have:=ho x hxo;have:=own.2 b hb;omega
  · have:=own.2 b hb;omega
  · have:=o4.next;omega
  · rw [g5 b (by have:=o4.next;omega) (by rintro rfl;exact hn hxo)]
    exact o4.get b hb hn
 rcases h with ⟨q,hD,h⟩ | ⟨z,q,hz,hD,h⟩
 · repeat (refine To.go ?_)
   refine ldrw h.gx (v:=.int .i64 0) rfl ?_
   refine To.go ?_
   refine ifT rfl ?_
   refine own.1.rdO.len ?_
   refine z6 (by omega) ?_
   refine z6 (by omega) ?_
   refine zu ?_
   by_cases hgt:all<l.length+n
   · rw [if_pos hgt] at hD
     refine ifT (by omega) ?_
     refine To.go ?_
     refine st1 h.gx (by simp) rfl ?_
     have hs:=(h.bump 19).set 12
     unfold z1J
     refine zu ?_
     refine zhg (hs.1.bump 1) (by decide) λj=>?_
     unfold z1I
     refine hdead _ 12 q (by decide) hD.symm ((hs.1.bump 1).bump j) ?_ ?_
     · simp only [Mem.next_bump,Mem.next_put];omega
     · intro b hb hbx
       rw [Mem.get_bump,Mem.get_bump]
       show (Mem.put _ _ _).get b=_
       rw [Mem.get_put_ne _ hbx];rfl
   · rw [if_neg hgt] at hD
     refine ifF (by omega) ?_
     unfold z1J
     refine zu ?_
     refine loop2 (λ(i:Nat) (u':AV) (y:Int) σ'=>y=i/\i<=n/\Own 1 σ3 σ' u' (ic (l++List.replicate i c)) (l.length+i)/\Rmv σ' o x r s q most out v 0/\Mem.Only o σ3 σ') (λi=>n-i) 0 ⟨rfl,by omega,?_,(h.bump _).bump _,(o4.bump _).bump _⟩ ?_
     · rw [List.replicate_zero,List.append_nil,Nat.add_zero]
       exact ⟨own.1.keep λ_ _=>rfl,λb hb=>by have:=own.2 b hb;simp only [Mem.next_bump];omega⟩
     rintro i u' _ σ6 ⟨rfl,hi,own6,h6,o6⟩
     unfold z0z
     refine ifD (λhlt=>?_) (λhge=>?_)
     · repeat (refine To.go ?_)
       refine ldrw h6.gx (v:=.int .i64 0) rfl ?_
       refine To.go ?_
       refine ifT rfl ?_
       refine To.go ?_
       refine own6.pushO (os:=o) (m:=1) (c:=ic [c]) o6 rfl (by omega) (by omega) (by omega) rfl rfl (z3s _) (by omega) ?_ (by simp only [Mem.next_put,Mem.next_bump];omega)
       intro u7 σ7 own7 o7 hn7 o67 hb7
       rw [<- z3k,List.append_assoc,<- List.replicate_succ'] at own7
       refine z6 (by omega) ?_
       have n7:=o7.next
       refine again ⟨i+1,⟨by omega,by omega,⟨own7.1.keep λ_ _=>rfl,λb hb=>by have:=own7.2 b hb;simp only [Mem.next_bump];omega⟩,h6.keep (λb hb=>?_) ?_,o7.bump _⟩,by omega⟩
       · rw [Mem.get_bump,o67.get b (h6.lt b hb) λhm=>by have:=own6.2 b hm;have:=ho b hb;omega]
       · have:=o67.next
         simp only [Mem.next_bump];omega
     · obtain rfl:i=n:=by omega
       unfold z1I
       refine hk u' _ ⟨l++List.replicate i c,⟨?_,λb hb=>by have:=own6.2 b hb;simp only [Mem.next_bump];omega⟩,by simp;omega,o6.bump _,.inl ⟨q,hD,by simp;omega,h6.bump _⟩⟩
       rw [List.length_append,List.length_replicate]
       exact own6.1.keep λ_ _=>rfl
 · repeat (refine To.go ?_)
   refine ldrw h.gx (v:=.int .i64 z) rfl ?_
   refine To.go ?_
   refine ifF hz ?_
   refine zu ?_
   unfold z3K
   refine zu ?_
   refine zhg ((h.bump 15).bump 1) hz λj=>?_
   unfold z3L
   refine hdead _ z q hz hD (((h.bump 15).bump 1).bump j) (by simp only [Mem.next_bump];omega) λb hb _=>rfl
end
end Go.Vit
end
section
/- The document's lengths of a dynamic block. -/
set_option maxRecDepth 20000
namespace Go.Vit
open Go.Proofs
section
variable {σ σ':Mem} {o:List Nat} {x r p:Nat} {s:ByteArray} {most e:Int} {out:List UInt8} {v:AV} {β:Type} {D:Except Int (β×Nat)} {m:Rd β}
theorem zpu {σ3 σ4:Mem} {u:AV} {sm:List Int} {all f k7 k3 lo hi:Nat} {ta:AV} {K2:List Int->Rd β} {next34 k33:AV->Mem->Prop} {Q:AV->Mem->Prop} (hall:k3+k7=all) (hall2:all<=400) (ho:∀ b∈o,b<σ3.next) (hsm:sm.length=19)
 (hT2:∀ σ',Mem.Only o σ3 σ'->(∃ q,Rmv σ' o x r s q most out v 0)->∃ t,ta=.ptr t 0/\chk sm=0/\zd0 lo hi sm σ' t) (hhi:hi<=σ3.next) (hto:∀ b∈o,b<lo\/hi<=b)
 (hI:znu σ3 o x r s most out v sm all K2 D f u σ4)
 (hq:∀ σ' z q,Mem.Only o σ3 σ'->z≠0->D=.error z->Rmv σ' o x r s q most out v z->Q (.tup [.nils,.nils]) σ')
 (hk:∀ u' σ' f',f'<f->znu σ3 o x r s most out v sm all K2 D f' u' σ'->next34 u' σ')
 (hend:∀ l σ',Own 1 σ3 σ' u (ic l) l.length->l.length<=all->Mem.Only o σ3 σ'->((∃ q,K2 l s q=D/\l.length=all/\Rmv σ' o x r s q most out v 0)\/∃ z q,z≠0/\D=.error z/\Rmv σ' o x r s q most out v z)->k33 u σ') :
 z0u (.ptr x 0) Q (k3:Nat) (k7:Nat) ta k33 next34 u σ4:=by
 unfold z0u
 obtain ⟨l,own,hl,o4,hs⟩:=hI
 have n4:=o4.next
 rcases hs with ⟨q,hD,hf,h⟩ | ⟨z,q,hz,hD,h⟩
 · repeat (refine To.go ?_)
   refine ldrw h.gx (v:=.int .i64 0) rfl ?_
   refine To.go ?_
   refine ifT rfl ?_
   refine own.1.rdO.len ?_
   refine z6 (by omega) ?_
   refine ifD (λhlt=>?_) (λhge=>?_)
   · have hlt:l.length<all:=by omega
     obtain ⟨f,rfl⟩:∃ f',f=f'+1:=⟨f-1,by omega⟩
     unfold zag at hD
     rw [if_pos hlt,zh] at hD
     unfold zpx at hD
     rw [zh] at hD
     have hgo:∀ (σ5:Mem) (c:Int) (n:Nat),σ4.next<=σ5.next->Mem.Only o σ4 σ5->1<=n->n<=200->Rst σ5 o x r s most out v (zi (if all<l.length+n then z5a 12 else zag sm all f (l++List.replicate n c)) K2) D->z0y (.ptr x 0) (k3:Nat) (k7:Nat) next34 u c (n:Nat) σ5:=by
      intro σ5 c n n5 o5 hn1 hn2 h5
      exact zpq hall hall2 (own.only o5 λb hb hm=>by have:=own.2 b hb;have:=ho b hm;omega) hl ⟨hn1,hn2⟩ ho (o4.trans o5) (by omega) h5 λu' σ' hI'=>hk u' σ' f (by omega) hI'
     refine z0 (rnext (lo:=lo) (hi:=hi) (.inl ⟨q,hD,h.bump 17⟩) (λhq=>hT2 _ (o4.bump _) hq) (by simp only [Mem.next_bump];omega) hto) ?_
     rintro _ σ5 ⟨c,rfl,g5,hc⟩
     replace g5:=g5.ob
     have n5:=g5.only.next
     repeat (refine To.go ?_)
     refine zu ?_
     rcases hc with ⟨hcl,q2,hD2,h5,_⟩ | ⟨rfl,z,q2,hz,hD2,h5⟩
     · rw [hsm] at hcl
       refine ifD (λh16=>?_) (λh16=>?_)
       · rw [if_pos h16,z3Q] at hD2
         exact hgo (σ5.bump 7) (c:Nat) 1 (by simp only [Mem.next_bump];omega) (g5.only.bump _) (by omega) (by omega) (.inl ⟨q2,hD2,h5.bump 7⟩)
       rw [if_neg h16] at hD2
       refine zu ?_
       rcases (by omega:c=16\/c=17\/c=18) with rfl | rfl | rfl
       · refine ifT rfl ?_
         repeat (refine To.go ?_)
         refine ldrw h5.gx (v:=.int .i64 0) rfl ?_
         refine To.go ?_
         refine ifT rfl ?_
         have own5:=own.only (σ2:=σ5) g5.only λb hb hm=>by have:=own.2 b hb;have:=ho b hm;omega
         refine own5.1.rdO.len ?_
         by_cases h0:l.length=0
         · rw [if_pos ⟨rfl,h0⟩] at hD2
           refine ifT (by omega) ?_
           repeat (refine To.go ?_)
           refine st1 h5.gx (by simp) rfl ?_
           have hs:=(h5.bump 22).set 12
           exact hq _ 12 q2 ((o4.trans (g5.only.bump 22)).trans hs.2.only |>.bump _) (by decide) hD2.symm (hs.1.bump _)
         · rw [if_neg λh=>h0 h.2,if_pos (show ((16:Nat):Int)=16 by decide),if_pos (show ((16:Nat):Int)=16 by decide),if_neg (show ¬ ((16:Nat):Int)=18 by decide),zh] at hD2
           refine ifF (by omega) ?_
           refine own5.1.rdO.len ?_
           refine zu ?_
           refine ifT (by omega) ?_
           refine own5.1.rdO.len ?_
           have hl1:l.length-1<l.length:=by omega
           rw [zA hl1] at hD2
           obtain ⟨ba,baz,ca,rfl,hget⟩:=own5.1.rdO.at hl1
           refine z6 (by omega) ?_
           rw [show ((l.length:Int)-1)=((l.length-1:Nat):Int) from by omega]
           refine To.go ?_
           refine And.intro hl1 ?_
           refine To.go ?_
           refine hget _ ?_
           refine To.go ?_
           unfold z3P
           refine z0 (rbits (n:=2) (by omega) (.inl ⟨q2,hD2,(h5.bump 28).bump 4⟩)) ?_
           rintro _ σ6 ⟨a,rfl,ha,g6,h6⟩
           replace g6:=g6.ob.ob
           repeat (first | refine To.go ?_ | with_reducible refine And.intro (by omega) ?_)
           unfold z0E
           rw [show (3:Int)+(a:Nat)=((a+3:Nat):Int) from by omega]
           exact hgo σ6 _ (a+3) (by have:=g6.only.next;omega) (g5.only.trans g6.only) (by omega) (by omega) h6
       · rw [if_neg λh=>absurd h.1 (by decide),if_neg (show ¬ ((17:Nat):Int)=16 by decide),if_neg (show ¬ ((17:Nat):Int)=16 by decide),if_pos (show ((17:Nat):Int)=17 by decide),if_neg (show ¬ ((17:Nat):Int)=18 by decide),zh] at hD2
         refine ifF (by decide) ?_
         refine zu ?_
         refine ifT rfl ?_
         refine z0 (rbits (n:=3) (by omega) (.inl ⟨q2,hD2,h5.bump 15⟩)) ?_
         rintro _ σ6 ⟨a,rfl,ha,g6,h6⟩
         replace g6:=g6.ob
         repeat (first | refine To.go ?_ | with_reducible refine And.intro (by omega) ?_)
         unfold z1q z0E
         rw [show (3:Int)+(a:Nat)=((a+3:Nat):Int) from by omega]
         exact hgo σ6 _ (a+3) (by have:=g6.only.next;omega) (g5.only.trans g6.only) (by omega) (by omega) h6
       · rw [if_neg λh=>absurd h.1 (by decide),if_neg (show ¬ ((18:Nat):Int)=16 by decide),if_neg (show ¬ ((18:Nat):Int)=16 by decide),if_neg (show ¬ ((18:Nat):Int)=17 by decide),if_pos (show ((18:Nat):Int)=18 by decide),zh] at hD2
         refine ifF (by decide) ?_
         refine zu ?_
         refine ifF (by decide) ?_
         refine z0 (rbits (n:=7) (by omega) (.inl ⟨q2,hD2,h5.bump 15⟩)) ?_
         rintro _ σ6 ⟨a,rfl,ha,g6,h6⟩
         replace g6:=g6.ob
         repeat (first | refine To.go ?_ | with_reducible refine And.intro (by omega) ?_)
         unfold z1q z0E
         rw [show (11:Int)+(a:Nat)=((a+11:Nat):Int) from by omega]
         exact hgo σ6 _ (a+11) (by have:=g6.only.next;omega) (g5.only.trans g6.only) (by omega) (by omega) h6
     · refine ifT (by decide) ?_
       exact hgo (σ5.bump 7) 0 1 (by simp only [Mem.next_bump];omega) (g5.only.bump _) (by omega) (by omega) (.inr ⟨z,q2,hz,hD2,h5.bump 7⟩)
   · obtain ⟨f,rfl⟩:∃ f',f=f'+1:=⟨f-1,by omega⟩
     unfold zag at hD
     rw [if_neg (by omega),z3Q] at hD
     exact hend l _ (own.same ((Mem.Same.refl σ4).bump _)) hl (o4.bump _) (.inl ⟨q,hD,by omega,h.bump _⟩)
 · repeat (refine To.go ?_)
   refine ldrw h.gx (v:=.int .i64 z) rfl ?_
   refine To.go ?_
   refine ifF hz ?_
   exact hend l _ (own.same ((Mem.Same.refl σ4).bump _)) hl (o4.bump _) (.inr ⟨z,q,hz,hD,h.bump _⟩)
end
end Go.Vit
end
section
/- The document's lengths of a dynamic block: the whole. -/
set_option maxRecDepth 20000
namespace Go.Vit
open Go.Proofs
section
variable {σ σ':Mem} {o:List Nat} {x r p:Nat} {s:ByteArray} {most e:Int} {out:List UInt8} {v:AV} {β:Type} {D:Except Int (β×Nat)} {m:Rd β}
theorem znR (a b c:Nat) (k:List Int×List Int->Rd β):zi (zl8 a b c) k=zi (z7m (ordr.take (c+4)) (List.replicate 19 0)) λsm=>zi (z2r sm) λ_=>zi (zag sm (a+257+b+1) (a+257+b+2) []) λl=>k (l.take (a+257),l.drop (a+257)):=by
 unfold zl8
 rw [zh]
 congr 1
 funext sm
 rw [zh]
 congr 1
 funext _
 rw [zh]
 rfl
theorem zph (k:List Int×List Int->Rd β):zi zo9 k=zi (zZ 5) λa=>zi (zZ 5) λb=>zi (zZ 4) λc=>zi (zl8 a b c) k:=by
 unfold zo9
 rw [zh]
 show zi (zi (zZ 5) λa=>zi (zZ 5) λb=>zi (zZ 4) λc=>z0i ([]++[((a:Nat):Int)]++[((b:Nat):Int)]++[((c:Nat):Int)])) _=_
 rw [zh]
 congr 1
 funext a
 rw [zh]
 congr 1
 funext b
 rw [zh]
 congr 1
theorem zkS {k:List Int×List Int->Rd β} {q:Nat} (h:Rmv σ o x r s q most out v 0) (hD:zi zo9 k s q=D) :
 z1 PG z2w [.ptr x 0] σ λw σ'=>Grow o o σ σ'/\∃ a b,w=.tup [a,b] /\
 ((∃ l d q,k (l,d) s q=D/\Rmv σ' o x r s q most out v 0/\RdO 1 σ' a (ic l) l.length/\RdO 1 σ' b (ic d) d.length/\(∀ z∈z3 a++z3 b,σ.next<=z/\z<σ'.next)/\l.length<=2^20/\d.length<=2^20)\/∃ z q,z≠0/\D=.error z/\Rmv σ' o x r s q most out v z):=by
 refine z8e λlive=>?_
 unfold z4U
 rw [zph] at hD
 have ho:=h.lt
 refine z0 (rbits (n:=5) (by omega) (.inl ⟨q,hD,h.bump 6⟩)) ?_
 rintro _ σ1 ⟨a,rfl,ha,g1,h1⟩
 replace g1:=g1.ob
 repeat (first | refine To.go ?_ | with_reducible refine And.intro (by omega) ?_)
 refine z0 (rbits (n:=5) (by omega) (h1.bump 4)) ?_
 rintro _ σ2 ⟨b,rfl,hb,g2,h2⟩
 replace g2:=g1.trans g2.ob
 repeat (first | refine To.go ?_ | with_reducible refine And.intro (by omega) ?_)
 refine z0 (rbits (n:=4) (by omega) (h2.bump 4)) ?_
 rintro _ σ3 ⟨c,rfl,hc,g3,h3⟩
 replace g3:=g2.trans g3.ob
 rw [znR] at h3
 repeat (first | refine To.go ?_ | with_reducible refine And.intro (by omega) ?_)
 obtain ⟨lb,hlb⟩:∃ b,σ3.next=b:=⟨_,rfl⟩
 rw [hlb,show (Int.toNat 19)=19 from rfl,z8M 19]
 obtain ⟨σ4,h4'⟩:∃ σ4,σ4=(σ3.bump 2).put lb (some (.rw (ic (arr (λ_=>0) 19)))):=⟨_,rfl⟩
 rw [<- h4']
 have n4:σ4.next=σ3.next+2:=by rw [h4'];simp only [Mem.next_put,Mem.next_bump]
 have s4:σ3.Same σ4:=by rw [h4'];repeat (with_reducible first | exact Mem.Same.refl _ | refine Mem.Same.bump ?_ _ | refine Mem.Same.put ?_ (by omega) _)
 have e4:σ4.get lb=some (.rw (ic (List.replicate 19 0))):=by rw [h4',gS'];rfl
 clear h4'
 have h4:=h3.keep (σ':=σ4) (λb hb=>s4.get b (h3.lt b hb)) s4.next
 have g4:=g3.then s4
 clear h3 h2 h1 hD
 obtain ⟨kk,hkk⟩:∃ k,a+257=k:=⟨_,rfl⟩
 obtain ⟨all,hall⟩:∃ all,kk+b+1=all:=⟨_,rfl⟩
 obtain ⟨told,htold⟩:∃ t,c+4=t:=⟨_,rfl⟩
 rw [hkk,hall,htold,show kk+b+2=all+1 from by omega] at h4
 rw [show (a:Int)+257=(kk:Nat) from by omega,show (b:Int)+1=((b+1:Nat):Int) from by omega,show (c:Int)+4=(told:Nat) from by omega]
 have hlo:lb ∉ o:=λhm=>by have:=ho lb hm;have:=g3.only.next;omega
 obtain ⟨K1,hK1⟩:∃ K1:List Int->Rd β,(λsm=>zi (z2r sm) λ_=>zi (zag sm all (all+1) []) λl=>k (l.take kk,l.drop kk))=K1:=⟨_,rfl⟩
 rw [hK1] at h4
 refine loop1 (λ(i:Nat) (y:Int) σ'=>y=i/\i<=told/\∃ acc,acc.length=19/\Rst σ' o x r s most out v (zi (z7m ((ordr.take told).drop i) acc) K1) D/\Mem.Only o σ σ'/\σ4.next<=σ'.next/\σ'.get lb=some (.rw (ic acc))) (λi=>told-i) 0 ⟨rfl,by omega,List.replicate 19 0,by simp,h4.bump 1,g4.only.bump 1,by simp only [Mem.next_bump];omega,e4⟩ ?_
 clear e4 h4 g4 s4
 rintro i _ σ5 ⟨rfl,hi,acc,hacc,h5,o5,n5,e5⟩
 unfold z3H
 rw [hlb,show (Int.toNat 19)=19 from rfl]
 have gr5:Grow o o σ σ5:=⟨o5,λb hb=>.inl hb,h5.lt⟩
 refine ifD (λhlt=>?_) (λhge=>?_)
 · have hil:i<told:=by omega
   obtain ⟨j,hj,hj19⟩:=ziE (i:=i) (by omega)
   have hdr:(ordr.take told).drop i=(j:Int)::(ordr.take told).drop (i+1):=by
    have hl:i<(ordr.take told).length:=by rw [List.length_take];show i<min told 19;omega
    rw [List.drop_eq_getElem_cons hl]
    congr 1
    rw [List.getElem_take]
    rw [List.getElem?_eq_getElem (by show i<19;omega)] at hj
    injection hj
   rw [hdr] at h5
   unfold z7m at h5
   rw [zh] at h5
   refine z0 (ziS (σ5.bump 12)) ?_
   rintro _ σ6 ⟨rfl,b6,n6,s6⟩
   simp only [Mem.next_bump] at b6 n6 ⊢
   replace s6:=s6.ob
   obtain ⟨ob,hob⟩:∃ ob,σ5.next+12+1=ob:=⟨_,rfl⟩
   rw [hob] at b6 ⊢
   have h6:=h5.keep (σ':=σ6) (λb hb=>s6.get b (h5.lt b hb)) s6.next
   refine To.go ?_
   refine And.intro (by omega) ?_
   refine To.go ?_
   refine ldrw b6 (v:=.int .i64 (j:Nat)) ?_ ?_
   · have hl:i<ordr.length:=by show i<19;omega
     rw [zdW hl]
     rw [List.getElem?_eq_getElem hl] at hj
     injection hj with hj
     rw [hj]
   refine To.go ?_
   refine z0 (rbits (n:=3) (by omega) h6) ?_
   rintro _ σ7 ⟨w,rfl,hw,g7,h7⟩
   have n7:=g7.only.next
   refine To.go ?_
   refine And.intro (g7.only.get ob (by omega) λhm=>by have:=ho ob hm;have:=o5.next;omega) ?_
   have e7:σ7.get lb=some (.rw (ic acc)):=by rw [g7.only.get lb (by omega) hlo,s6.get lb (by omega)];exact e5
   refine To.go ?_
   refine To.go ?_
   refine And.intro (by omega) ?_
   refine st1 (l:=ic acc) e7 (by rw [z0j];omega) rfl ?_
   rw [zaB]
   refine z6 (by omega) ?_
   have g8:=(gr5.then s6).trans g7
   refine again ⟨i+1,⟨by omega,by omega,acc.set j (w:Int),by rw [List.length_set];exact hacc,h7.keep (λb hb=>?_) ?_,⟨?_,λb hb hn=>?_⟩,?_,by rw [Mem.get_bump,gS']⟩,by omega⟩
   · rw [Mem.get_bump,Mem.get_put_ne _ (by rintro rfl;exact hlo hb)]
   · simp only [Mem.next_bump,Mem.next_put];omega
   · have:=o5.next;simp only [Mem.next_bump,Mem.next_put];omega
   · have:=g3.only.next
     rw [Mem.get_bump,Mem.get_put_ne _ (by omega)];exact g8.only.get b hb hn
   · simp only [Mem.next_bump,Mem.next_put];omega
 · obtain rfl:i=told:=by omega
   rw [List.drop_of_length_le (by rw [List.length_take];exact Nat.min_le_left _ _)] at h5
   unfold z7m at h5
   rw [z3Q,<- hK1] at h5
   clear hK1 K1
   refine z0 (rtable (σ:=σ5.bump 7) (L:=acc) (h5.bump 7) (λ_=>.mk (b:=lb) (by rw [hacc]) ⟨_,e5,rfl⟩ (by rw [z0j,hacc])) (by omega)) ?_
   rintro ta σ6 ⟨g6,n6,k6,h6⟩
   simp only [Mem.next_bump] at n6 h6
   have g6':=gr5.trans g6.ob
   refine zu ?_
   have hQ:∀ σ' z q,Grow o o σ σ'->z≠0->D=.error z->Rmv σ' o x r s q most out v z->Grow o o σ σ'/\∃ a b,AV.tup [.nils,.nils]=.tup [a,b] /\
    ((∃ l d q,k (l,d) s q=D/\Rmv σ' o x r s q most out v 0/\RdO 1 σ' a (ic l) l.length/\RdO 1 σ' b (ic d) d.length/\(∀ z∈z3 a++z3 b,σ.next<=z/\z<σ'.next)/\l.length<=2^20/\d.length<=2^20)\/∃ z q,z≠0/\D=.error z/\Rmv σ' o x r s q most out v z):=λσ' z q g hz hD h=>⟨g,_,_,rfl,.inr ⟨z,q,hz,hD,h⟩⟩
   have hdead:∀ (u:AV) (σ':Mem) (z:Int) (q:Nat),Grow o o σ σ'->z≠0->D=.error z->Rmv σ' o x r s q most out v z->z0L (.ptr x 0) (λw σ'=>Grow o o σ σ'/\∃ a b,w=.tup [a,b] /\
    ((∃ l d q,k (l,d) s q=D/\Rmv σ' o x r s q most out v 0/\RdO 1 σ' a (ic l) l.length/\RdO 1 σ' b (ic d) d.length/\(∀ z∈z3 a++z3 b,σ.next<=z/\z<σ'.next)/\l.length<=2^20/\d.length<=2^20)\/∃ z q,z≠0/\D=.error z/\Rmv σ' o x r s q most out v z)) (kk:Nat) u σ':=by
    intro u σ' z q g hz hD h
    unfold z0L
    repeat (refine To.go ?_)
    refine ldrw h.gx (v:=.int .i64 z) rfl ?_
    repeat (first | refine To.go ?_ | with_reducible refine ifT (by omega) ?_)
    exact hQ _ z q (g.bump _) hz hD (h.bump _)
   rcases h6 with ⟨t,rfl,hc,hL,hT,q6,hD6,h6⟩ | ⟨z,q6,hz,hD6,h6⟩
   · have hlt6:∀ b∈o,b<σ5.next+7:=λb hb=>by have:=h5.lt b hb;omega
     refine loop1 (λ(f:Nat) (u:AV) σ'=>znu σ6 o x r s most out v acc all (λl=>k (l.take kk,l.drop kk)) D f u σ') (λf=>f) (all+1) ⟨[],Own.nil 1 _ _,by simp,⟨by simp only [Mem.next_bump];omega,λ_ _ _=>rfl⟩,.inl ⟨q6,hD6,by simp,h6.bump _⟩⟩ ?_
     intro f u σ7 hI
     refine zpu (k3:=kk) (k7:=b+1) (lo:=σ5.next+7) (hi:=σ6.next) (by omega) (by omega) h6.lt hacc (λσ' o' _=>⟨t,rfl,hc,hT.keep λb h1 h2=>o'.get b h2 λhm=>by have:=hlt6 b hm;omega⟩) (Nat.le_refl _) (λb hb=>.inl (hlt6 b hb)) hI ?_ ?_ ?_
     · intro σ' z q o' hz hD h
       exact hQ σ' z q (g6'.trans ⟨o',λb hb=>.inl hb,h.lt⟩) hz hD h
     · intro u' σ' f' hf hI'
       exact again ⟨f',hI',hf⟩
     · intro l σ' own hl o' hs
       rcases hs with ⟨q,hD,hla,h⟩ | ⟨z,q,hz,hD,h⟩
       · have g7:=g6'.trans ⟨o',λb hb=>.inl hb,h.lt⟩
         unfold z0L
         repeat (refine To.go ?_)
         refine ldrw h.gx (v:=.int .i64 0) rfl ?_
         repeat (first | refine To.go ?_ | with_reducible refine ifF (not_not_intro rfl) ?_)
         rcases own.1 with ⟨_,h0,_⟩ | ⟨lb2,rfl,h1,h2'⟩
         · omega
         have own4l:=own.1.rdO
         refine And.intro ⟨rfl,Int.le_refl _,show (0:Int)<=(kk:Nat) by omega,show ((kk:Nat):Int)<=((l.length:Nat):Int) by omega⟩ ?_
         refine And.intro ⟨rfl,show (0:Int)<=(kk:Nat) by omega,show ((kk:Nat):Int)<=((l.length:Nat):Int) by omega,Int.le_refl _⟩ ?_
         refine ⟨g7.bump _,_,_,rfl,.inl ⟨l.take kk,l.drop kk,q,hD,h.bump _,?_,?_,?_,?_,?_⟩⟩
         · dsimp only [orD]
           rw [List.length_take,Nat.min_eq_left (by omega),Int.toNat_natCast]
           show RdO 1 (σ'.bump 13) (.slice lb2 0 kk _) _ _
           exact RdO.take (own4l.keep λ_ _=>rfl) (by omega)
         · dsimp only [orD]
           rw [List.length_drop,Int.toNat_natCast,Int.toNat_natCast,Nat.mul_one,Nat.zero_add]
           exact RdO.drop (own4l.keep λ_ _=>rfl) (by omega)
         · intro z hz
           have hz:z=lb2:=by simpa [z3] using hz
           subst hz
           have:=own.2 z (by simp [z3])
           have:=o5.next
           simp only [Mem.next_bump]
           omega
         · rw [List.length_take];omega
         · rw [List.length_drop];omega
       · exact hdead u σ' z q (g6'.trans ⟨o',λb hb=>.inl hb,h.lt⟩) hz hD h
   · refine loop1 (λ(_:Unit) (u:AV) σ'=>Grow o o σ σ'/\Rmv σ' o x r s q6 most out v z) (λ_=>0) () ⟨g6'.bump _,h6.bump _⟩ ?_
     rintro _ u σ7 ⟨g7,h7⟩
     unfold z0u
     repeat (refine To.go ?_)
     refine ldrw h7.gx (v:=.int .i64 z) rfl ?_
     refine To.go ?_
     refine ifF hz ?_
     exact hdead u _ z q6 (g7.bump _) hz hD6 (h7.bump _)
end
end Go.Vit
end
section
/- The document's blocks of symbols: a match. -/
set_option maxRecDepth 20000
namespace Go.Vit
open Go.Proofs
section
variable {σ σ':Mem} {o:List Nat} {x r p q:Nat} {s:ByteArray} {most e:Int} {out:List UInt8} {v:AV} {β:Type} {D:Except Int (β×Nat)} {m:Rd β}
theorem zcU {n:Nat} (hn:n<=24) (h:Rmv σ o x r s q most out v 0):z1 PG z8 [.ptr x 0,.int .i64 (n:Nat)] σ λw σ'=>∃ a:Nat,w=.int .i64 (a:Nat)/\a<2^n/\Grow o o σ σ'/\match zZ n s q with
 | .ok (a',q')=>a'=a/\Rmv σ' o x r s q' most out v 0
 | .error z=>z≠0/\∃ q',Rmv σ' o x r s q' most out v z:=by
 refine (rbits (n:=n) (k:=z0i) (D:=zi (zZ n) z0i s q) hn (.inl ⟨q,rfl,h⟩)).mono ?_
 rintro w σ' ⟨a,rfl,ha,g,h'⟩
 refine ⟨a,rfl,ha,g,?_⟩
 have hid:zi (zZ n) z0i s q=zZ n s q:=by
  unfold zi
  cases zZ n s q with
  | error z=>rfl
  | ok y=>rfl
 rw [hid] at h'
 rcases h' with ⟨q',h1,h2⟩ | ⟨z,q',hz,h1,h2⟩
 · rw [<- h1];exact ⟨rfl,h2⟩
 · rw [h1];exact ⟨hz,q',h2⟩
theorem zjr {lo hi t:Nat} {L:List Int} (h:Rmv σ o x r s q most out v 0) (hc:chk L=0) (hT:zd0 lo hi L σ t) (hhi:hi<=σ.next) (hto:∀ b∈o,b<lo\/hi<=b) :
 z1 PG zK [.ptr x 0,.ptr t 0] σ λw σ'=>∃ c:Nat,w=.int .i64 (c:Nat)/\Grow o o σ σ'/\match z3o L s q with
 | .ok (c',q')=>c'=(c:Nat)/\c<L.length/\Rmv σ' o x r s q' most out v 0
 | .error z=>z≠0/\∃ q',Rmv σ' o x r s q' most out v z:=by
 refine (rnext (L:=L) (lo:=lo) (hi:=hi) (k:=z0i) (D:=zi (z3o L) z0i s q) (.inl ⟨q,rfl,h⟩) (λ_=>⟨t,rfl,hc,hT⟩) hhi hto).mono ?_
 rintro w σ' ⟨c,rfl,g,h'⟩
 refine ⟨c,rfl,g,?_⟩
 have hid:zi (z3o L) z0i s q=z3o L s q:=by
  unfold zi
  cases z3o L s q with
  | error z=>rfl
  | ok y=>rfl
 rw [hid] at h'
 rcases h' with ⟨hcl,q',h1,h2,_⟩ | ⟨rfl,z,q',hz,h1,h2⟩
 · rw [<- h1];exact ⟨rfl,hcl,h2⟩
 · rw [h1];exact ⟨hz,q',h2⟩
def zbC (σ:Mem) (o:List Nat) (x r:Nat) (s:ByteArray) (most:Int) (k:List UInt8->Rd β) (D:Except Int (β×Nat)) (σ':Mem):Prop:=∃ o' v' out',Grow o o' σ σ'/\Rst σ' o' x r s most out' v' (k out') D
theorem zbC.dead {k:List UInt8->Rd β} {z:Int} {σ':Mem} {o':List Nat} (g:Grow o o' σ σ') (hz:z≠0) (hD:D=.error z) (h:Rmv σ' o' x r s q most out v z):zbC σ o x r s most k D σ':=⟨o',v,out,g,.inr ⟨z,q,hz,hD,h⟩⟩
theorem zpb {n f:Nat} {k K3:List UInt8->Rd β} {Q:AV->Mem->Prop} {k8:Mem->Prop} (h:Rmv σ o x r s q most out v 0) (hf:f<=29) (hn:n<=2^20)
 (hD:zi (zcQ f) (λd=>zi (if out.length<d then z5a 15 else zi (z4K most out n) λ_=>z0i (z4X out d n)) K3) s q=D)
 (hQ:∀ σ',zbC σ o x r s most k D σ'->Q (.tup []) σ')
 (hk:∀ d o' v' σ' q',q<=q'->Grow o o' σ σ'->K3 (z4X out d n) s q'=D->Rmv σ' o' x r s q' most (z4X out d n) v' 0->k8 σ') :
 z06 (.ptr x 0) Q k8 (n:Nat) (f:Nat) σ:=by
 unfold z06
 repeat (refine To.go ?_)
 refine ldrw h.gx (v:=.int .i64 0) rfl ?_
 refine To.go ?_
 refine ifF (by decide) ?_
 refine z0 (zeG (c:=f) (σ.bump 12) hf) ?_
 rintro _ σ1 ⟨rfl,s1⟩
 replace s1:=s1.ob
 have h1:=h.same s1
 have hdb:=ziH hf
 have hds:=(zgv ⟨f,by omega⟩).1
 dsimp only at hds
 have hD:zi (zZ (zev f)) (λa=>zi (if out.length<zez f+a then z5a 15 else zi (z4K most out n) λ_=>z0i (z4X out (zez f+a) n)) K3) s q=D:=by
  rw [<- hD]
  unfold zi
  rw [znm hf h.le]
  unfold zi
  cases zZ (zev f) s q with
  | error z=>rfl
  | ok y=>rfl
 obtain ⟨db,hdbe⟩:∃ n,zev f=n:=⟨_,rfl⟩
 obtain ⟨ds,hdse⟩:∃ n,zez f=n:=⟨_,rfl⟩
 rw [hdbe] at hD hdb
 rw [hdse] at hD hds
 rw [hdbe,hdse]
 repeat (first | refine To.go ?_ | ((with_reducible apply opt);(· (rfl))))
 refine z0 (zcU (n:=db) (by omega) (h1.bump 6)) ?_
 rintro _ σ2 ⟨a,rfl,ha,g2,h2⟩
 replace g2:=(h.g0.then s1).trans g2.ob
 have ha2:2^db<=2^13:=z1D hdb
 cases e:zZ db s q with
 | error z=>
   rw [e] at h2
   rw [za e] at hD
   obtain ⟨hz,q2,h2⟩:=h2
   repeat (first | refine To.go ?_ | with_reducible refine And.intro (by omega) ?_)
   refine ldrw h2.gx (v:=.int .i64 z) rfl ?_
   repeat (first | refine To.go ?_ | with_reducible refine ifT (by omega) ?_)
   exact hQ _ (zbC.dead (g2.bump _) hz hD.symm (h2.bump _))
 | ok y=>
   obtain ⟨a',q2⟩:=y
   rw [e] at h2
   rw [z9 e] at hD
   obtain ⟨rfl,h2⟩:=h2
   have hq:=(Fr.le (.bits db) h.le e).1
   refine To.go ?_
   refine z6 (by omega) ?_
   rw [show (ds:Int)+(a':Nat)=((ds+a':Nat):Int) from by omega]
   obtain ⟨d,hd⟩:∃ d,ds+a'=d:=⟨_,rfl⟩
   rw [hd] at hD ⊢
   have hd17:d<=2^20:=by omega
   have hd1:1<=d:=by
    have:=zgv ⟨f,by omega⟩
    dsimp only at this
    rw [hdse] at this
    by_cases h4:f<4
    · have:=this.2.1 h4;omega
    · have:=this.2.2 (by omega);omega
   clear e hd ha2 ha hdse hds hdbe hdb
   repeat (refine To.go ?_)
   refine ldrw h2.gx (v:=.int .i64 0) rfl ?_
   repeat (first | refine To.go ?_ | with_reducible refine ifF (not_not_intro rfl) ?_)
   refine ldrw h2.gx (v:=v) rfl ?_
   refine h2.own.rdO.len ?_
   by_cases hfar:out.length<d
   · rw [if_pos hfar] at hD
     refine ifT (by omega) ?_
     repeat (refine To.go ?_)
     refine st1 h2.gx (by simp) rfl ?_
     have hs:=(h2.bump 16).set 15
     exact hQ _ (zbC.dead (g2.bump 16 |>.trans hs.2) (by decide) hD.symm hs.1)
   · rw [if_neg hfar,zh] at hD
     refine ifF (by omega) ?_
     have hms:=h2.ms
     have hroom0:=h2.room
     have hob:out.length<=2^40:=by
      rcases hroom0 with rfl | h
      · simp
      · omega
     repeat (refine To.go ?_)
     refine ldrw h2.gx (v:=v) rfl ?_
     refine h2.own.rdO.len ?_
     refine z6 (by omega) ?_
     repeat (refine To.go ?_)
     refine ldrw h2.gx (v:=.int .i64 most) rfl ?_
     refine To.go ?_
     by_cases hr:most-out.length<n
     · rw [za (e:=5) (by unfold z4K;rw [if_pos hr];rfl)] at hD
       refine ifT (by omega) ?_
       repeat (refine To.go ?_)
       refine st1 h2.gx (by simp) rfl ?_
       have hs:=(h2.bump 28).set 5
       exact hQ _ (zbC.dead (g2.bump 28 |>.trans hs.2) (by decide) hD.symm hs.1)
     · rw [z9 (a:=()) (q:=q2) (by unfold z4K;rw [if_neg hr];rfl),z3Q] at hD
       refine ifF (by omega) ?_
       refine loop1 (λ(i:Nat) (y:Int) σ'=>y=i/\i<=n/\∃ o' v',Grow o o' σ σ'/\Rmv σ' o' x r s q2 most (z4X out d i) v' 0) (λi=>n-i) 0 ⟨rfl,by omega,o,v,g2.bump _,h2.bump _⟩ ?_
       clear h1 h2 s1
       rintro i _ σ4 ⟨rfl,hi,o4,v4,g4,h4⟩
       unfold z2E
       refine ifD (λhin=>?_) (λhin=>?_)
       · have hclen:=zbp out d i
         have hcs:z4X out d (i+1)=z4X out d i++[(z4X out d i)[(z4X out d i).length-d]?.getD 0]:=rfl
         obtain ⟨y,hy⟩:∃ y,z4X out d i=y:=⟨_,rfl⟩
         rw [hy] at h4 hclen hcs
         rw [hclen] at hcs
         have hlast:=zlv (out:=y) (i:=out.length+i-d) (by omega)
         obtain ⟨z,hz⟩:∃ z,y[out.length+i-d]?.getD 0=z:=⟨_,rfl⟩
         rw [hz] at hcs hlast
         refine To.go ?_
         refine ldrw h4.gx (v:=v4) rfl ?_
         refine To.go ?_
         refine ldrw h4.gx (v:=v4) rfl ?_
         refine To.go ?_
         refine ldrw h4.gx (v:=v4) rfl ?_
         refine h4.own.rdO.len ?_
         refine z6 (by omega) ?_
         rw [hclen,show (((out.length+i:Nat):Int)-(d:Int))=((out.length+i-d:Nat):Int) from by omega]
         obtain ⟨u,rfl,hu,_⟩:=h4.own.sl (by omega)
         repeat (first | refine To.go ?_ | with_reducible refine And.intro (by omega) ?_ | ((with_reducible apply ldrw);(· ((simp (disch:=omega) only [go_sem, *];try rfl)));(· (with_reducible assumption))))
         refine h4.push (bytes:=[z]) (m:=1) (by repeat (with_reducible first | exact Mem.Same.refl _ | refine Mem.Same.bump ?_ _ | refine Mem.Same.put ?_ (by omega) _)) (λK hK=>?_) rfl ⟨by omega,by simp only [Mem.next_put,Mem.next_bump];omega⟩ (.inr (by simp only [List.length_singleton];omega)) ?_
         · exact z6R (Mem.get_put_self _ _ _) rfl rfl K hK
         intro o5 v5 σ5 h5 g5 n5
         refine z6 (by omega) ?_
         refine again ⟨i+1,⟨by omega,by omega,o5,v5,(g4.trans g5).bump _,?_⟩,by omega⟩
         rw [hcs];exact h5.bump _
       · obtain rfl:i=n:=by omega
         exact hk d o4 v4 _ q2 hq (g4.bump _) hD (h4.bump _)
end
end Go.Vit
end
section
/- The document's blocks of symbols. -/
set_option maxRecDepth 20000
namespace Go.Vit
open Go.Proofs
section
variable {σ σ':Mem} {o:List Nat} {x r p q:Nat} {s:ByteArray} {most e:Int} {out:List UInt8} {v:AV} {β:Type} {D:Except Int (β×Nat)} {m:Rd β}
theorem zbC.of {o2:List Nat} {k:List UInt8->Rd β} {σ1 σ':Mem} (g:Grow o o2 σ σ1) (h:zbC σ1 o2 x r s most k D σ'):zbC σ o x r s most k D σ':=by
 obtain ⟨o',v',out',g',h⟩:=h
 exact ⟨o',v',out',g.trans g',h⟩
theorem zoS {lo hi t lo2 hi2 t2 f:Nat} {L Dd:List Int} {k:List UInt8->Rd β} {Q:AV->Mem->Prop} {next:Mem->Prop} (h:Rmv σ o x r s q most out v 0)
 (hc:chk L=0) (hLl:L.length<=2^20) (ht:zd0 lo hi L σ t) (hhi:hi<=σ.next) (hto:∀ b∈o,b<lo\/hi<=b)
 (hc2:chk Dd=0) (ht2:zd0 lo2 hi2 Dd σ t2) (hhi2:hi2<=σ.next) (hto2:∀ b∈o,b<lo2\/hi2<=b)
 (hD:zi (z9u most L Dd (f+1) out) k s q=D)
 (hQ:∀ σ',zbC σ o x r s most k D σ'->Q (.tup []) σ')
 (hk:∀ o' v' out' σ' q',q<q'->Grow o o' σ σ'->zi (z9u most L Dd f out') k s q'=D->Rmv σ' o' x r s q' most out' v' 0->next σ') :
 zJ (.ptr x 0) Q (.ptr t 0) (.ptr t2 0) next σ:=by
 unfold zJ
 unfold z9u at hD
 rw [zh] at hD
 have hms:=h.ms
 have hob:out.length<=2^40:=by
  rcases h.room with rfl | h
  · simp
  · omega
 repeat (refine To.go ?_)
 refine ldrw h.gx (v:=.int .i64 0) rfl ?_
 refine To.go ?_
 refine ifT rfl ?_
 refine zu ?_
 refine z0 (zjr (h.bump 9) hc (ht.keep λ_ _ _=>rfl) (by simp only [Mem.next_bump];omega) hto) ?_
 rintro _ σ1 ⟨c,rfl,g1,h1⟩
 replace g1:=g1.ob
 have n1:=g1.only.next
 cases e:z3o L s q with
 | error z=>
   rw [e] at h1
   rw [za e] at hD
   obtain ⟨hz,q1,h1⟩:=h1
   repeat (refine To.go ?_)
   refine ldrw h1.gx (v:=.int .i64 z) rfl ?_
   repeat (first | refine To.go ?_ | with_reducible refine ifT (by omega) ?_)
   exact hQ _ (zbC.dead (g1.bump _) hz hD.symm (h1.bump _))
 | ok y=>
   obtain ⟨c',q1⟩:=y
   rw [e] at h1
   rw [z9 e] at hD
   obtain ⟨rfl,hcl,h1⟩:=h1
   have hq1:=zfE e
   rw [Int.toNat_natCast] at hD
   clear e
   repeat (refine To.go ?_)
   refine ldrw h1.gx (v:=.int .i64 0) rfl ?_
   repeat (first | refine To.go ?_ | with_reducible refine ifF (not_not_intro rfl) ?_)
   refine ifD (λh256=>?_) (λh256=>?_)
   · rw [if_neg (by omega),if_pos (by omega),z3Q] at hD
     exact hQ _ ⟨o,v,out,g1.bump _,.inl ⟨q1,hD,h1.bump _⟩⟩
   refine ifD (λhlt=>?_) (λhge=>?_)
   · rw [if_pos hlt,zh] at hD
     repeat (refine To.go ?_)
     refine ldrw h1.gx (v:=v) rfl ?_
     refine h1.own.rdO.len ?_
     refine z6 (by omega) ?_
     repeat (refine To.go ?_)
     refine ldrw h1.gx (v:=.int .i64 most) rfl ?_
     refine To.go ?_
     by_cases hr:most-out.length<(1:Nat)
     · rw [za (e:=5) (by unfold z4K;rw [if_pos hr];rfl)] at hD
       refine ifT (by omega) ?_
       repeat (refine To.go ?_)
       refine st1 h1.gx (by simp) rfl ?_
       have hs:=(h1.bump 26).set 5
       exact hQ _ (zbC.dead (g1.bump 26 |>.trans hs.2) (by decide) hD.symm hs.1)
     · rw [z9 (a:=()) (q:=q1) (by unfold z4K;rw [if_neg hr];rfl)] at hD
       refine ifF (by omega) ?_
       repeat (refine To.go ?_)
       refine ldrw h1.gx (v:=v) rfl ?_
       refine To.go ?_
       rw [Int.emod_eq_of_lt (by omega) hlt]
       refine To.go ?_
       refine h1.push (bytes:=[UInt8.ofNat c]) (m:=1) (by repeat (with_reducible first | exact Mem.Same.refl _ | refine Mem.Same.bump ?_ _ | refine Mem.Same.put ?_ (by omega) _)) (λK hK=>?_) rfl ⟨by omega,by simp only [Mem.next_put,Mem.next_bump];omega⟩ (.inr (by simp only [List.length_singleton];omega)) ?_
       · refine z6R (Mem.get_put_self _ _ _) rfl rfl K ?_
         rw [zdy (by omega),Int.toNat_natCast]
         exact hK
       intro o5 v5 σ5 h5 g5 n5
       unfold z1b
       exact hk o5 v5 _ σ5 q1 hq1 (g1.trans g5) hD h5
   rw [if_neg hge,if_neg h256,zh] at hD
   have hlow:257<=c:=by omega
   unfold zaL at hD
   rw [zh] at hD
   refine ifD (λh285=>?_) (λh285=>?_)
   · rw [za (e:=12) (by unfold zmW;rw [if_pos (by omega)];rfl)] at hD
     repeat (refine To.go ?_)
     refine st1 h1.gx (by simp) rfl ?_
     have hs:=(h1.bump 17).set 12
     exact hQ _ (zbC.dead (g1.bump 17 |>.trans hs.2) (by decide) hD.symm hs.1)
   have hup:c<=285:=by omega
   obtain ⟨G,hG⟩:∃ G:Nat->Rd β,(λn=>zi (zi (z3o Dd) λf=>zi (zcQ f.toNat) λd=>if out.length<d then z5a 15 else zi (z4K most out n) λ_=>z0i (z4X out d n)) λa=>zi (z9u most L Dd f a) k)=G:=⟨_,rfl⟩
   have hD:zi (zZ (zav c)) (λa=>G (zeC c+a)) s q1=D:=by
    rw [<- hD,<- hG]
    unfold zi
    rw [zpj hlow hup h1.le]
    unfold zi
    cases zZ (zav c) s q1 with
    | error z=>rfl
    | ok y=>rfl
   have hlb:=ziK hup
   have hla:zeC c<=600:=by
    unfold zeC
    split
    · omega
    · exact Nat.le_trans (zio ⟨c-257,by omega⟩).1 (by omega)
   refine z0 (zhz (c:=c) (σ1.bump 20) hlow hup) ?_
   rintro _ σ2 ⟨rfl,s2⟩
   replace s2:=s2.ob
   obtain ⟨db,hdbe⟩:∃ n,zav c=n:=⟨_,rfl⟩
   obtain ⟨ds,hdse⟩:∃ n,zeC c=n:=⟨_,rfl⟩
   rw [hdbe] at hD hlb
   rw [hdse] at hD hla
   rw [hdbe,hdse]
   have h2:=h1.same s2
   replace g1:=g1.then s2
   repeat (first | refine To.go ?_ | ((with_reducible apply opt);(· (rfl))))
   refine z0 (zcU (n:=db) (by omega) (h2.bump 6)) ?_
   rintro _ σ3 ⟨a,rfl,ha,g3,h3⟩
   replace g3:=g1.trans g3.ob
   have n3:=g3.only.next
   have ha2:2^db<=2^5:=z1D hlb
   refine To.go ?_
   refine z6 (by omega) ?_
   rw [show (ds:Int)+(a:Nat)=((ds+a:Nat):Int) from by omega]
   obtain ⟨n,hn⟩:∃ n,ds+a=n:=⟨_,rfl⟩
   have hn20:n<=2^20:=by omega
   cases e:zZ db s q1 with
   | error z=>
     rw [e] at h3
     rw [za e] at hD
     obtain ⟨hz,q2,h3⟩:=h3
     refine z0 (zkn (h3.bump 4) hz) ?_
     rintro _ σ4 ⟨rfl,s4⟩
     replace s4:=s4.ob
     have h4:=h3.same s4
     replace g3:=g3.then s4
     repeat (refine To.go ?_)
     refine ldrw h4.gx (v:=.int .i64 z) rfl ?_
     refine To.go ?_
     refine ifF hz ?_
     refine zu ?_
     unfold z19
     repeat (refine To.go ?_)
     refine ldrw h4.gx (v:=.int .i64 z) rfl ?_
     refine To.go ?_
     refine ifT hz ?_
     exact hQ _ (zbC.dead ((g3.bump _).bump _) hz hD.symm ((h4.bump _).bump _))
   | ok y=>
     obtain ⟨a',q2⟩:=y
     rw [e] at h3
     rw [z9 e] at hD
     obtain ⟨rfl,h3⟩:=h3
     have hq2:=(Fr.le (.bits db) h1.le e).1
     rw [hn] at hD ⊢
     rw [<- hG] at hD
     dsimp only at hD
     rw [zh] at hD
     refine z0 (zjr (h3.bump 4) hc2 (ht2.keep λb h1 h2=>?_) (by simp only [Mem.next_bump];omega) hto2) ?_
     · rw [Mem.get_bump];exact g3.only.get b (by omega) λhm=>by have:=hto2 b hm;omega
     rintro _ σ4 ⟨f2,rfl,g4,h4⟩
     replace g4:=g3.trans g4.ob
     clear e
     cases e:z3o Dd s q2 with
     | error z=>
       rw [e] at h4
       rw [za e] at hD
       obtain ⟨hz,q3,h4⟩:=h4
       repeat (refine To.go ?_)
       refine ldrw h4.gx (v:=.int .i64 z) rfl ?_
       refine To.go ?_
       refine ifF hz ?_
       refine zu ?_
       unfold z19
       repeat (refine To.go ?_)
       refine ldrw h4.gx (v:=.int .i64 z) rfl ?_
       refine To.go ?_
       refine ifT hz ?_
       exact hQ _ (zbC.dead ((g4.bump _).bump _) hz hD.symm ((h4.bump _).bump _))
     | ok y=>
       obtain ⟨c',q3⟩:=y
       rw [e] at h4
       rw [z9 e] at hD
       obtain ⟨rfl,hcl2,h4⟩:=h4
       have hq3:=zfE e
       rw [Int.toNat_natCast,zh] at hD
       repeat (refine To.go ?_)
       refine ldrw h4.gx (v:=.int .i64 0) rfl ?_
       refine To.go ?_
       refine ifT rfl ?_
       refine zu ?_
       by_cases hf:29<f2
       · rw [za (e:=12) (by unfold zcQ;rw [if_pos hf];rfl)] at hD
         refine ifT (by omega) ?_
         repeat (refine To.go ?_)
         refine st1 h4.gx (by simp) rfl ?_
         have hs:=(h4.bump 13).set 12
         unfold z06
         repeat (first | refine To.go ?_ | ((with_reducible apply ldrw);(· ((simp (disch:=omega) only [go_sem, *];try rfl)));(· (rfl))) | with_reducible refine ifT (by omega) ?_)
         exact hQ _ (zbC.dead ((g4.bump 13 |>.trans hs.2).bump _) (by decide) hD.symm (hs.1.bump _))
       · refine ifF (by omega) ?_
         refine zpb (k:=k) (h4.bump 9) (by omega) hn20 hD (λσ' hq=>hQ σ' (zbC.of (g4.bump 9) hq)) ?_
         intro d o' v' σ' q' hq' g' hD' h'
         unfold z1b
         exact hk o' v' _ σ' q' (by omega) ((g4.bump 9).trans g') hD' h'
end
end Go.Vit
end
section
/- The document's answer. -/
set_option maxRecDepth 20000
namespace Go.Vit
open Go.Proofs
section
variable {σ σ':Mem} {o:List Nat} {x r p q:Nat} {s:ByteArray} {most e:Int} {out:List UInt8} {v:AV} {β:Type} {D:Except Int (β×Nat)} {m:Rd β}
theorem z5P {α:Type} (m:Rd α) (s:ByteArray) (q:Nat):zi m z0i s q=m s q:=by
 unfold zi
 cases m s q with
 | error z=>rfl
 | ok y=>rfl
theorem zhG {L:List Int} {a:AV} (h:Rmv σ o x r s q most out v 0) (ha:RdO 1 σ a (ic L) L.length) (hl:L.length<=2^44) :
 z1 PG zH [.ptr x 0,a] σ λw σ'=>Grow o o σ σ'/\(∀ b,b<σ.next->b≠x->σ'.get b=σ.get b) /\
 ((chk L=0/\∃ t,w=.ptr t 0/\lens L/\zd0 σ.next σ'.next L σ' t/\Rmv σ' o x r s q most out v 0)\/chk L≠0/\∃ q,Rmv σ' o x r s q most out v (chk L)):=by
 refine (rtable (L:=L) (k:=z0i) (D:=zi (z2r L) z0i s q) (.inl ⟨q,rfl,h⟩) (λ_=>ha) hl).mono ?_
 rintro w σ' ⟨g,_,kk,h'⟩
 refine ⟨g,kk,?_⟩
 rw [z5P] at h'
 rcases h' with ⟨t,rfl,hc,hL,hT,q',h1,h2⟩ | ⟨z,q',hz,h1,h2⟩
 · refine .inl ⟨hc,t,rfl,hL,hT,?_⟩
   unfold z2r at h1
   rw [if_neg (by simpa using hc)] at h1
   injection h1 with h1
   obtain ⟨_,rfl⟩:=Prod.mk.inj h1
   exact h2
 · right
   unfold z2r at h1
   by_cases hc:chk L≠0
   · rw [if_pos hc] at h1
     injection h1 with h1
     subst h1
     exact ⟨hc,q',h2⟩
   · rw [if_neg hc] at h1
     exact absurd h1 (by simp [z0i])
theorem zbC.cases {m:Rd (List UInt8)} (h:zbC σ o x r s most z0i (m s q) σ'):∃ o' v' out',Grow o o' σ σ'/\((∃ q',m s q=.ok (out',q')/\Rmv σ' o' x r s q' most out' v' 0)\/∃ z q',z≠0/\m s q=.error z/\Rmv σ' o' x r s q' most out' v' z):=by
 obtain ⟨o',v',out',g,h⟩:=h
 refine ⟨o',v',out',g,?_⟩
 rcases h with ⟨q',h1,h2⟩ | ⟨z,q',hz,h1,h2⟩
 · exact .inl ⟨q',h1.symm,h2⟩
 · exact .inr ⟨z,q',hz,h1,h2⟩
theorem zbE {L Dd:List Int} {F:Nat} {a b:AV} (h:Rmv σ o x r s q most out v 0) (ha:RdO 1 σ a (ic L) L.length) (hb:RdO 1 σ b (ic Dd) Dd.length) (hbl:∀ z∈z3 b,z<σ.next/\z≠x) (hLl:L.length<=2^20) (hDl:Dd.length<=2^20) (hF:8*s.size<F+q) :
 z1 PG z0x [.ptr x 0,a,b] σ λ_ σ'=>zbC σ o x r s most z0i (z8z most F L Dd out s q) σ':=by
 refine z6F λlive=>?_
 unfold z3O
 obtain ⟨D,hD⟩:∃ D,z8z most F L Dd out s q=D:=⟨_,rfl⟩
 rw [hD]
 unfold z8z at hD
 have stop:∀ (t t2:AV) (z:Int) (q':Nat) (σ1:Mem),z≠0->D=.error z->Grow o o σ σ1->Rmv σ1 o x r s q' most out v z->zj [] (zJ (.ptr x 0) (λ_ σ'=>zbC σ o x r s most z0i D σ') t t2) σ1:=by
  intro t t2 z q' σ1 hz hD g h
  refine loop0 (λ(_:Unit) σ'=>σ'=σ1) (λ_=>0) () rfl ?_
  rintro _ _ rfl
  unfold zJ
  repeat (refine To.go ?_)
  refine ldrw h.gx (v:=.int .i64 z) rfl ?_
  refine To.go ?_
  refine ifF hz ?_
  exact zbC.dead (g.bump _) hz hD (h.bump _)
 refine z0 (zhG (h.bump 4) (ha.keep λ_ _=>rfl) (by omega)) ?_
 rintro _ σ1 ⟨g1,k1,h1⟩
 have n1:=g1.only.next
 simp only [Mem.next_bump] at n1 k1 h1
 replace g1:=g1.ob
 rcases h1 with ⟨hc,t,rfl,hL,hT,h1⟩ | ⟨hc,q',h1⟩
 · rw [z9 (a:=()) (q:=q) (by unfold z2r;rw [if_neg (by simpa using hc)];rfl)] at hD
   refine z0 (zhG (h1.bump 4) (hb.keep λz hz=>?_) (by omega)) ?_
   · rw [Mem.get_bump,k1 z (by have:=(hbl z hz).1;omega) (hbl z hz).2];rfl
   rintro _ σ2 ⟨g2,k2,h2⟩
   have n2:=g2.only.next
   simp only [Mem.next_bump] at n2 k2 h2
   replace g2:=g1.trans g2.ob
   have hxo:=h.lt x (by rw [h.eqo];simp)
   rcases h2 with ⟨hc2,t2,rfl,hL2,hT2,h2⟩ | ⟨hc2,q',h2⟩
   · rw [z9 (a:=()) (q:=q) (by unfold z2r;rw [if_neg (by simpa using hc2)];rfl)] at hD
     have hT1:zd0 (σ.next+4) σ1.next L σ2 t:=hT.keep λb hb hb'=>by rw [k2 b (by omega) (by omega)];rfl
     refine loop0 (λ(f:Nat) σ'=>∃ o' v' out' q',z9u most L Dd f out' s q'=D/\8*s.size<f+q'/\Grow o o' σ2 σ'/\Rmv σ' o' x r s q' most out' v' 0) (λf=>f) F ⟨o,v,out,q,hD,hF,h2.g0,h2⟩ ?_
     clear hD h1
     rintro f σ3 ⟨o3,v3,out3,q3,hD,hF,g3,h3⟩
     have hle:=h3.le
     have n3:=g3.only.next
     obtain ⟨f,rfl⟩:∃ f',f=f'+1:=⟨f-1,by omega⟩
     have hnew:∀ b∈o3,b<σ.next\/σ2.next<=b:=λb hb=>(g3.new b hb).imp (λhm=>h.lt b hm) id
     have hno:∀ b∈o,b<σ.next:=h.lt
     refine zoS (lo:=σ.next+4) (hi:=σ1.next) (lo2:=σ1.next+4) (hi2:=σ2.next) (k:=z0i) (D:=D) h3 hc hLl (hT1.keep λb h1 h2=>g3.only.get b (by omega) λhm=>by have:=hno b hm;omega) (by omega) (λb hb=>by have:=hnew b hb;omega) hc2 (hT2.keep λb h1 h2=>g3.only.get b (by omega) λhm=>by have:=hno b hm;omega) (by omega) (λb hb=>by have:=hnew b hb;omega) (by rw [z5P];exact hD) ?_ ?_
     · intro σ' hq
       exact zbC.of (g2.trans g3) hq
     · intro o' v' out' σ' q' hq' g' hD' h'
       rw [z5P] at hD'
       exact again ⟨f,⟨o',v',out',q',hD',by omega,g3.trans g',h'⟩,by omega⟩
   · rw [za (e:=chk Dd) (by unfold z2r;rw [if_pos hc2];rfl)] at hD
     exact stop _ _ _ _ _ hc2 hD.symm g2 h2
 · rw [za (e:=chk L) (by unfold z2r;rw [if_pos hc];rfl)] at hD
   refine z0 (ziD (h1.bump 4) hc) ?_
   rintro _ σ2 ⟨rfl,s2⟩
   exact stop _ _ _ _ _ hc hD.symm (g1.then s2.ob) (h1.same s2.ob)
end
end Go.Vit
end
section
/- The document's answer: the whole. -/
set_option maxRecDepth 20000
namespace Go.Vit
open Go.Proofs
def zoy (σ:Mem) (s:ByteArray) (most:Int) (F:Nat) (R:Except Int (List UInt8×Nat)) (x r:Nat) (f:Nat) (last:Int) (σ':Mem):Prop:=
 ∃ o out v,σ.Same σ'/\(∀ b∈o,σ.next<=b)/\((∃ q,Rmv σ' o x r s q most out v 0/\(if last=0 then z6P most F f out s q=R/\8*s.size<f+q else R=.ok (out,q)))\/∃ z q,z≠0/\R=.error z/\Rmv σ' o x r s q most out v z)
theorem z54 {σ σ1:Mem} {s:ByteArray} {most:Int} {R:Except Int (List UInt8×Nat)} {x r:Nat} {o:List Nat} {out:List UInt8} {v:AV} (hx:σ.next+8=x) (s1:σ.Same σ1)
 (h:(∃ q,Rmv σ1 o x r s q most out v 0/\R=.ok (out,q))\/∃ z q,z≠0/\R=.error z/\Rmv σ1 o x r s q most out v z):z2o (λw σ'=>w=zhD R/\σ.Same σ') σ σ1:=by
 unfold z2o
 rw [hx]
 rcases h with ⟨q,h,rfl⟩ | ⟨z,q,hz,rfl,h⟩
 · have hle:=h.le
   have hsz:=h.sz
   repeat (refine To.go ?_)
   refine ldrw h.gx (v:=.int .i64 0) rfl ?_
   repeat (first | refine To.go ?_ | with_reducible refine ifF (not_not_intro rfl) ?_)
   refine ldrw h.gx (v:=v) rfl ?_
   refine z1Q.bstr (σ:=σ1.bump 22) (h.own.keep λ_ _=>rfl) ?_
   repeat (refine To.go ?_)
   refine ldrw h.gx (v:=.ptr r 0) rfl ?_
   repeat (refine To.go ?_)
   refine ldrw (l:=[.str s,.int .i64 (q:Nat)]) (by exact h.gr) (v:=.int .i64 (q:Nat)) rfl ?_
   repeat (first | refine To.go ?_ | with_reducible refine And.intro (by omega) ?_)
   refine ⟨?_,s1.bump _⟩
   show _=AV.tup _
   rw [show ((q:Int)+7) / 8=(((q+7) / 8:Nat):Int) from by omega]
 · repeat (refine To.go ?_)
   refine ldrw h.gx (v:=.int .i64 z) rfl ?_
   refine To.go ?_
   refine ifT hz ?_
   repeat (refine To.go ?_)
   refine ldrw h.gx (v:=.int .i64 z) rfl ?_
   repeat (refine To.go ?_)
   exact ⟨rfl,s1.bump _⟩
theorem zfC {σ:Mem} {s:ByteArray} {most:Int} {F:Nat} (hs:s.size<=2^40) (hm : -9223372036854775808<=most/\most<=2^40) (hF:8*s.size<F) :
 z1 PG z5H [.str s,.int .i64 most] σ λw σ'=>w=zhD (za6 most F s 0)/\σ.Same σ':=by
 refine zcT λlive=>?_
 unfold z92
 obtain ⟨R,hRR⟩:∃ R,za6 most F s 0=R:=⟨_,rfl⟩
 rw [hRR]
 obtain ⟨r,hr⟩:∃ r,σ.next+5=r:=⟨_,rfl⟩
 obtain ⟨x,hx⟩:∃ r,σ.next+8=r:=⟨_,rfl⟩
 rw [hr,hx]
 refine And.intro rfl ?_
 refine To.go ?_
 refine And.intro rfl ?_
 refine To.go ?_
 refine zu ?_
 refine loop1 (zoy σ s most F R x r) (λf=>f) F ⟨[x,r],[],.nils,?_,?_,.inl ⟨0,?_,hRR,by omega⟩⟩ ?_
 · repeat (with_reducible first | exact Mem.Same.refl _ | refine Mem.Same.bump ?_ _ | refine Mem.Same.put ?_ (by omega) _)
 · intro b hb
   simp only [List.mem_cons,List.not_mem_nil,or_false] at hb
   omega
 · refine ⟨rfl,by omega,by simp [z3],by simp [z3],?_,?_,z1Q.nil 1 _,Nat.zero_le _,λb hb=>?_,.inl rfl,hm,hs⟩
   · rw [Mem.get_bump,gS']
   · rw [Mem.get_bump,Mem.get_put_ne _ (by omega),gS'];rfl
   · simp only [Mem.next_put,Mem.next_bump]
     simp only [List.mem_cons,List.not_mem_nil,or_false] at hb
     omega
 rintro f last σ1 ⟨o,out,v,s1,ho,hst⟩
 have n1:=s1.next
 unfold z6m
 rw [hx]
 refine ifD (λh0=>?_) (λh0=>?_)
 · subst h0
   rcases hst with ⟨p,h,hR,hf⟩ | ⟨z,q,hz,hR,h⟩
   · have hle:=h.le
     obtain ⟨f,rfl⟩:∃ f',f=f'+1:=⟨f-1,by omega⟩
     unfold z6P at hR
     repeat (refine To.go ?_)
     refine ldrw h.gx (v:=.int .i64 0) rfl ?_
     refine To.go ?_
     refine ifT rfl ?_
     have hsev:zgG [1,2] []=zi (zZ 1) λa=>zi (zZ 2) λb=>z0i ([]++[((a:Nat):Int)]++[((b:Nat):Int)]):=rfl
     rw [hsev,zh] at hR
     have hdead:∀ (σ2:Mem) (z:Int) (q:Nat),Grow o o σ1 σ2->z≠0->R=.error z->Rmv σ2 o x r s q most out v z->z2o (λw σ'=>w=zhD R/\σ.Same σ') σ σ2:=λσ2 z q g hz hR h=>z54 hx (g.same s1 ho).1 (.inr ⟨z,q,hz,hR,h⟩)
     refine z0 (zcU (n:=1) (by omega) (h.bump 12)) ?_
     rintro _ σ2 ⟨a,rfl,ha,g2,h2⟩
     replace g2:=g2.ob
     refine To.go ?_
     cases e:zZ 1 s p with
     | error z=>
       rw [e] at h2
       rw [za e] at hR
       obtain ⟨hz,q2,h2⟩:=h2
       refine z0 (zkD (h2.bump 3) hz) ?_
       rintro _ σ3 ⟨rfl,s3⟩
       have h3:=h2.same s3.ob
       replace g2:=g2.then s3.ob
       repeat (refine To.go ?_)
       refine ldrw h3.gx (v:=.int .i64 z) rfl ?_
       refine To.go ?_
       refine ifT hz ?_
       exact hdead _ z q2 (g2.bump _) hz hR.symm (h3.bump _)
     | ok y=>
       obtain ⟨a',q2⟩:=y
       rw [e] at h2
       rw [z9 e,zh] at hR
       obtain ⟨rfl,h2⟩:=h2
       have hq2:=(Fr.le (.bits 1) h.le e).1
       clear e
       refine z0 (zcU (n:=2) (by omega) (h2.bump 3)) ?_
       rintro _ σ3 ⟨b,rfl,hb,g3,h3⟩
       replace g3:=g2.trans g3.ob
       refine To.go ?_
       cases e:zZ 2 s q2 with
       | error z=>
         rw [e] at h3
         rw [za e] at hR
         obtain ⟨hz,q3,h3⟩:=h3
         repeat (refine To.go ?_)
         refine ldrw h3.gx (v:=.int .i64 z) rfl ?_
         refine To.go ?_
         refine ifT hz ?_
         exact hdead _ z q3 (g3.bump _) hz hR.symm (h3.bump _)
       | ok y=>
         obtain ⟨b',q3⟩:=y
         rw [e] at h3
         rw [z9 e,z3Q] at hR
         obtain ⟨rfl,h3⟩:=h3
         have hq3:q3=q2+2:=by
          unfold zZ at e
          split at e
          · exact absurd e (by simp)
          · injection e with e
            exact (Prod.mk.inj e).2.symm
         clear e
         have d0:(([]++[((a':Nat):Int)]++[((b':Nat):Int)]).getD 0 0)=(a':Int):=rfl
         have d1:(([]++[((a':Nat):Int)]++[((b':Nat):Int)]).getD 1 0)=(b':Int):=rfl
         rw [d0,d1] at hR
         clear d0 d1 hsev
         repeat (refine To.go ?_)
         refine ldrw h3.gx (v:=.int .i64 0) rfl ?_
         refine To.go ?_
         refine ifF (by decide) ?_
         -- a block's outcome
         have hfin:∀ (σ4:Mem),zbC σ1 o x r s most z0i (zb6 most F (b':Nat) out s q3) σ4->Again (∃ j,zoy σ s most F R x r j (a':Nat) σ4/\j<f+1):=by
          intro σ4 hq
          obtain ⟨o',v',out',g',hq⟩:=hq.cases
          have hs':=g'.same s1 ho
          refine again ⟨f,⟨o',out',v',hs'.1,hs'.2,?_⟩,by omega⟩
          rcases hq with ⟨q',e,h'⟩ | ⟨z,q',hz,e,h'⟩
          · have hqq:=(Fr.le (.block _ _ _ _) h3.le e).1
            rw [z9 e] at hR
            refine .inl ⟨q',h',?_⟩
            by_cases h1:(a':Int)=1
            · rw [if_pos h1] at hR
              rw [if_neg (by omega)]
              exact hR.symm
            · rw [if_neg h1] at hR
              rw [if_pos (by omega)]
              exact ⟨hR,by omega⟩
          · rw [za e] at hR
            exact .inr ⟨z,q',hz,hR.symm,h'⟩
         clear hR
         refine zu ?_
         unfold zb6 at hfin
         rcases (by omega:b'=0\/b'=1\/b'=2\/b'=3) with rfl | rfl | rfl | rfl
         · rw [if_pos (show ((0:Nat):Int)=0 by decide)] at hfin
           refine ifT rfl ?_
           refine z0 (zhu (k:=z0i) (h3.bump 10) (z5P _ _ _)) ?_
           rintro _ σ4 hq
           exact hfin σ4 (zbC.of (g3.bump 10) hq)
         · rw [if_neg (show ¬ ((1:Nat):Int)=0 by decide),if_pos (show ((1:Nat):Int)=1 by decide)] at hfin
           refine ifF (by decide) ?_
           refine zu ?_
           refine ifT rfl ?_
           refine z0 (zi9 (σ3.bump 16)) ?_
           rintro _ σ4 ⟨la,lb,rfl,ha1,hb1,hbl,s4⟩
           have hbl':∀ z∈z3 lb,z<σ4.next/\z≠x:=λz hz=>by
            have:=hbl z (by simp [hz])
            have:=h3.lt x (by rw [h3.eqo];simp)
            simp only [Mem.next_bump] at *
            omega
           repeat (first | refine To.go ?_ | ((with_reducible apply opt);(· (rfl))))
           refine z0 (zbE (F:=F) (σ:=σ4.bump 4) ((h3.same s4.ob).bump 4) (ha1.keep λ_ _=>rfl) (hb1.keep λ_ _=>rfl) (λz hz=>by have:=hbl' z hz;simp only [Mem.next_bump];omega) (by rw [zcV];omega) (by rw [zgz];omega) (by omega)) ?_
           rintro _ σ5 hq
           exact hfin σ5 (zbC.of ((g3.then s4.ob).bump 4) hq)
         · rw [if_neg (show ¬ ((2:Nat):Int)=0 by decide),if_neg (show ¬ ((2:Nat):Int)=1 by decide),if_pos (show ((2:Nat):Int)=2 by decide)] at hfin
           refine ifF (by decide) ?_
           refine zu ?_
           refine ifF (by decide) ?_
           refine zu ?_
           refine ifT rfl ?_
           refine z0 (zkS (k:=z0i) (h3.bump 19) (z5P _ _ _)) ?_
           rintro _ σ4 ⟨g4,la,lb,rfl,h4⟩
           have n4:=g4.only.next
           simp only [Mem.next_bump] at n4
           replace g4:=g3.trans g4.ob
           rcases h4 with ⟨l,d,q4,hl,h4,ha1,hb1,hbl,hl1,hl2⟩ | ⟨z,q4,hz,hl,h4⟩
           · have hl:zo9 s q3=.ok ((l,d),q4):=hl.symm
             have hq4:=(Fr.le .dyn h3.le hl).1
             rw [z9 hl] at hfin
             have hbl':∀ z∈z3 lb,z<σ4.next/\z≠x:=λz hz=>by
              have:=hbl z (by simp [hz])
              have:=h3.lt x (by rw [h3.eqo];simp)
              simp only [Mem.next_bump] at *
              omega
             repeat (first | refine To.go ?_ | ((with_reducible apply opt);(· (rfl))))
             refine ldrw h4.gx (v:=.int .i64 0) rfl ?_
             refine To.go ?_
             refine zu ?_
             refine ifT rfl ?_
             refine z0 (zbE (F:=F) (σ:=σ4.bump 9) (h4.bump 9) (ha1.keep λ_ _=>rfl) (hb1.keep λ_ _=>rfl) (λz hz=>by have:=hbl' z hz;simp only [Mem.next_bump];omega) hl1 hl2 (by omega)) ?_
             rintro _ σ5 hq
             exact hfin σ5 (zbC.of (g4.bump 9) hq)
           · rw [za hl] at hfin
             repeat (first | refine To.go ?_ | ((with_reducible apply opt);(· (rfl))))
             refine ldrw h4.gx (v:=.int .i64 z) rfl ?_
             refine To.go ?_
             refine zu ?_
             refine ifF hz ?_
             exact hfin _ (zbC.dead (g4.bump 5) hz rfl (h4.bump 5))
         · rw [if_neg (show ¬ ((3:Nat):Int)=0 by decide),if_neg (show ¬ ((3:Nat):Int)=1 by decide),if_neg (show ¬ ((3:Nat):Int)=2 by decide)] at hfin
           refine ifF (by decide) ?_
           refine zu ?_
           refine ifF (by decide) ?_
           refine zu ?_
           refine ifF (by decide) ?_
           refine zu ?_
           refine ifT rfl ?_
           repeat (refine To.go ?_)
           refine st1 h3.gx (by simp) rfl ?_
           have hs:=(h3.bump 18).set 13
           exact hfin _ (zbC.dead (g3.bump 18 |>.trans hs.2) (by decide) rfl hs.1)
   · repeat (refine To.go ?_)
     refine ldrw h.gx (v:=.int .i64 z) rfl ?_
     refine To.go ?_
     refine ifF hz ?_
     exact z54 hx (s1.bump _) (.inr ⟨z,q,hz,hR,h.bump _⟩)
 · refine z54 (o:=o) (out:=out) (v:=v) (r:=r) (s:=s) (most:=most) hx (s1.bump 9) ?_
   rcases hst with ⟨q,h,hR⟩ | ⟨z,q,hz,hR,h⟩
   · rw [if_neg h0] at hR
     exact .inl ⟨q,h.bump _,hR⟩
   · exact .inr ⟨z,q,hz,hR,h.bump _⟩
end Go.Vit
end
