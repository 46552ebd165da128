/- The document's numbers of symbols (as in the third seat) -/
import Derived.Test.YtloeboiajgfigaaGreatV7W
set_option linter.unusedVariables false
set_option linter.unusedSimpArgs false
set_option maxRecDepth 20000
namespace Go.Vit
open Go.Proofs
section
def zd4 (c:Nat):Nat:=if c<265 then 0 else if c=285 then 0 else (c-261) / 4
def zof:Nat->Nat
 | 0=>3
 | j+1=>zof j+2^zd4 (257+j)
def zfv (c:Nat):Nat:=if c=285 then 258 else zof (c-257)
def zi3 (c:Nat):Nat:=if c<4 then 0 else c / 2-1
def zfu:Nat->Nat
 | 0=>1
 | j+1=>zfu j+2^zi3 j
theorem zpQ:∀ j:Fin 29,zof j<=500/\(j.val<8->zof j=j.val+3)/\(8<=j.val->zof j=(4+j.val % 4)*2^(j.val / 4-1)+3):=by decide
theorem zq2:∀ j:Fin 31,zfu j<=100000/\(j.val<4->zfu j=j.val+1)/\(4<=j.val->zfu j=(2+j.val % 2)*2^(j.val / 2-1)+1):=by decide
theorem znP {c:Nat} (h:c<=285):zd4 c<=5:=by unfold zd4;split;omega;split<;>omega
theorem znd {c:Nat} (h:c<=29):zi3 c<=13:=by unfold zi3;split<;>omega
theorem z83 {c:Nat} (σ:Mem) (hc:c<=285):z1 PG z26 [.int .i64 (c:Nat)] σ λw σ'=>w=.int .i64 (zd4 c:Nat)/\σ.Same σ':=by
 refine zap λlive=>?_
 unfold z6n zd4
 refine ifD (λh=>?_) (λh=>?_)
 · rw [if_pos (by omega)];exact ⟨rfl,(Mem.Same.refl σ).bump _⟩
 rw [if_neg (by omega)]
 refine ifD (λh=>?_) (λh=>?_)
 · rw [if_pos (by omega)];exact ⟨rfl,(Mem.Same.refl σ).bump _⟩
 rw [if_neg (by omega)]
 repeat (first | refine To.go ?_ | with_reducible refine And.intro (by omega) ?_)
 exact ⟨by rw [show ((c:Int)-261) / 4=(((c-261) / 4:Nat):Int) from by omega],(Mem.Same.refl σ).bump _⟩
theorem z65 {c:Nat} (σ:Mem) (hc:c<=29):z1 PG z1w [.int .i64 (c:Nat)] σ λw σ'=>w=.int .i64 (zi3 c:Nat)/\σ.Same σ':=by
 refine z95 λlive=>?_
 unfold z4T zi3
 refine ifD (λh=>?_) (λh=>?_)
 · rw [if_pos (by omega)];exact ⟨rfl,(Mem.Same.refl σ).bump _⟩
 rw [if_neg (by omega)]
 repeat (first | refine To.go ?_ | with_reducible refine And.intro (by omega) ?_)
 exact ⟨by rw [show (c:Int) / 2-1=((c / 2-1:Nat):Int) from by omega],(Mem.Same.refl σ).bump _⟩
theorem zcD {c:Nat} (σ:Mem) (h1:257<=c) (h2:c<=285):z1 PG z4j [.int .i64 (c:Nat)] σ λw σ'=>w=.tup [.int .i64 (zfv c:Nat),.int .i64 (zd4 c:Nat)]/\σ.Same σ':=by
 refine zeM λlive=>?_
 unfold za0
 refine ifD (λh=>?_) (λh=>?_)
 · have hc:c=285:=by omega
   exact ⟨by rw [show zfv c=258 from if_pos hc,show zd4 c=0 from by unfold zd4;rw [if_neg (by omega),if_pos hc]];rfl,(Mem.Same.refl σ).bump _⟩
 rw [show zfv c=zof (c-257) from if_neg (by omega)]
 refine loop2 (λ(j:Nat) (x y:Int) σ'=>x=(zof j:Nat)/\y=((257+j:Nat):Int)/\257+j<=c/\σ.Same σ') (λj=>285-j) 0 ⟨rfl,rfl,by omega,(Mem.Same.refl σ).bump _⟩ ?_
 rintro j _ _ σ1 ⟨rfl,rfl,hj,s1⟩
 have hjs:=(zpQ ⟨j,by omega⟩).1
 dsimp only at hjs
 unfold z77
 refine ifD (λhlt=>?_) (λhge=>?_)
 · refine z0 (z83 (c:=257+j) (σ1.bump 9) (by omega)) ?_
   rintro _ σ2 ⟨rfl,s2⟩
   have hb:=znP (c:=257+j) (by omega)
   have hp:2^zd4 (257+j)<=2^5:=z1y hb
   obtain ⟨k,hk⟩:∃ k,zof (j+1)=k:=⟨_,rfl⟩
   have hk':zof j+2^zd4 (257+j)=k:=hk
   obtain ⟨b,hbb⟩:∃ b,zd4 (257+j)=b:=⟨_,rfl⟩
   rw [hbb] at hb hp hk' ⊢
   obtain ⟨pw,hpw⟩:∃ pw:Nat,2^b=pw:=⟨_,rfl⟩
   rw [hpw] at hp hk'
   obtain ⟨l,hl⟩:∃ l,zof j=l:=⟨_,rfl⟩
   rw [hl] at hjs hk' ⊢
   have hpi:(1:Int)*2^(b:Int).toNat=(pw:Nat):=by rw [Int.toNat_natCast,<- hpw];push_cast;omega
   repeat (first | refine To.go ?_ | with_reducible refine And.intro (by omega) ?_)
   rw [hpi]
   refine again ⟨j+1,⟨by rw [hk];omega,by omega,by omega,(s1.trans s2.ob).bump _⟩,by omega⟩
 · refine z0 (z83 (c:=c) (σ1.bump 8) (by omega)) ?_
   rintro _ σ2 ⟨rfl,s2⟩
   repeat (refine To.go ?_)
   refine ⟨by rw [show c-257=j from by omega],s1.trans s2.ob⟩
theorem z9L {c:Nat} (σ:Mem) (h2:c<=29):z1 PG z3b [.int .i64 (c:Nat)] σ λw σ'=>w=.tup [.int .i64 (zfu c:Nat),.int .i64 (zi3 c:Nat)]/\σ.Same σ':=by
 refine zbU λlive=>?_
 unfold z7Z
 refine loop2 (λ(j:Nat) (x y:Int) σ'=>x=(zfu j:Nat)/\y=(j:Nat)/\j<=c/\σ.Same σ') (λj=>285-j) 0 ⟨rfl,rfl,by omega,(Mem.Same.refl σ).bump _⟩ ?_
 rintro j _ _ σ1 ⟨rfl,rfl,hj,s1⟩
 have hjs:=(zq2 ⟨j,by omega⟩).1
 dsimp only at hjs
 unfold z5o
 refine ifD (λhlt=>?_) (λhge=>?_)
 · refine z0 (z65 (c:=j) (σ1.bump 9) (by omega)) ?_
   rintro _ σ2 ⟨rfl,s2⟩
   have hb:=znd (c:=j) (by omega)
   have hp:2^zi3 j<=2^13:=z1y hb
   obtain ⟨k,hk⟩:∃ k,zfu (j+1)=k:=⟨_,rfl⟩
   have hk':zfu j+2^zi3 j=k:=hk
   obtain ⟨b,hbb⟩:∃ b,zi3 j=b:=⟨_,rfl⟩
   rw [hbb] at hb hp hk' ⊢
   obtain ⟨pw,hpw⟩:∃ pw:Nat,2^b=pw:=⟨_,rfl⟩
   rw [hpw] at hp hk'
   obtain ⟨l,hl⟩:∃ l,zfu j=l:=⟨_,rfl⟩
   rw [hl] at hjs hk' ⊢
   have hpi:(1:Int)*2^(b:Int).toNat=(pw:Nat):=by rw [Int.toNat_natCast,<- hpw];push_cast;omega
   repeat (first | refine To.go ?_ | with_reducible refine And.intro (by omega) ?_)
   rw [hpi]
   refine again ⟨j+1,⟨by rw [hk];omega,by omega,by omega,(s1.trans s2.ob).bump _⟩,by omega⟩
 · refine z0 (z65 (c:=c) (σ1.bump 8) (by omega)) ?_
   rintro _ σ2 ⟨rfl,s2⟩
   repeat (refine To.go ?_)
   refine ⟨by rw [show c=j from by omega],s1.trans s2.ob⟩
theorem zkh (σ:Mem):z1 PG z7v [] σ λw σ'=>w=.slice (σ.next+1) 0 19 (.ex 19)/\σ'.get (σ.next+1)=some (.rw (ic ordr))/\σ'.next=σ.next+3/\σ.Same σ':=by
 refine zfz λlive=>?_
 unfold zbC
 refine To.go ?_
 refine ⟨rfl,?_,rfl,?_⟩
 · rw [gS'];rfl
 · repeat (with_reducible first | exact Mem.Same.refl _ | refine Mem.Same.bump ?_ _ | refine Mem.Same.put ?_ (by omega) _)
end
section
theorem zii (f:Nat->Int) (n:Nat):arr f (n+1)=arr f n++[f n]:=by
 unfold arr
 rw [List.range_succ,List.map_append];rfl
theorem zjy (σ:Mem):z1 PG z7e [] σ λw σ'=>∃ a b,w=.tup [a,b]/\RdO 1 σ' a (ic zjq) zjq.length/\RdO 1 σ' b (ic zl7) zl7.length/\(∀ z∈z3 a++z3 b,σ.next<=z/\z<σ'.next)/\σ.Same σ':=by
 refine zfG λlive=>?_
 unfold zbc
 refine loop2 (λ(i:Nat) (u:AV) (y:Int) σ'=>y=i/\i<=288/\Own 1 σ σ' u (ic (arr zeO i)) i/\σ.Same σ') (λi=>288-i) 0 ⟨rfl,by omega,Own.nil 1 _ _,(Mem.Same.refl σ).bump _⟩ ?_
 rintro i u _ σ1 ⟨rfl,hi,own,s1⟩
 unfold z7Y
 have step:∀ (z:Int) (k nb:Nat) (K:AV->Mem->Prop),i<288->z=zeO i->nb+2<=k->(∀ u' σ',Own 1 σ σ' u' (ic (arr zeO (i+1))) (i+1)->σ.Same σ'->K u' σ') ->
  zH (σ1.bump k) (σ1.next+nb) (.rw [.int .i64 z]) λσ8=>apW 1 8 (σ1.next+nb+1) σ8 u (.slice (σ1.next+nb) 0 1 (.ex 1)) K:=by
  rintro z k nb K hil rfl hnb hK
  refine To.go ?_
  refine own.push (m:=1) (c:=ic [zeO i]) s1 rfl (by omega) (by omega) (by omega) rfl rfl (z2G _) (by omega) ?_ (by simp only [Mem.next_put,Mem.next_bump];omega)
  intro v' σ' own' s' _ _ _
  rw [<- z2Y,<- zii] at own'
  exact hK v' σ' own' s'
 refine ifD (λhlt=>?_) (λhge=>?_)
 · have hil:i<288:=by omega
   have fin:∀ (u':AV) (σ':Mem),Own 1 σ σ' u' (ic (arr zeO (i+1))) (i+1)->σ.Same σ'->iW ((i:Int)+1) λv6=>(λ(x1:AV) (x2:Int) (σ_1:Mem)=>Again (∃ j:Nat,(x2=j/\j<=288/\Own 1 σ σ_1 x1 (ic (arr zeO j)) j/\σ.Same σ_1)/\288-j<288-i)) u' v6 (σ'.bump 3):=by
    intro u' σ' o' s'
    refine z5 (by omega) ?_
    exact again ⟨i+1,⟨by omega,by omega,o'.same ((Mem.Same.refl σ').bump 3),s'.bump _⟩,by omega⟩
   refine ifD (λh1=>?_) (λh1=>?_)
   · refine zN ?_
     refine step 8 13 10 _ hil (by unfold zeO;rw [if_pos (by omega)]) (by omega) ?_
     intro u' σ' o' s'
     unfold z84
     exact fin u' σ' o' s'
   refine zN ?_
   refine ifD (λh2=>?_) (λh2=>?_)
   · refine step 8 13 10 _ hil (by unfold zeO;rw [if_pos (by omega)]) (by omega) ?_
     intro u' σ' o' s'
     unfold z3c
     exact fin u' σ' o' s'
   refine zN ?_
   refine ifD (λh3=>?_) (λh3=>?_)
   · refine step 9 16 13 _ hil (by unfold zeO;rw [if_neg (by omega),if_pos (by omega)]) (by omega) ?_
     intro u' σ' o' s'
     unfold z4I z3c
     exact fin u' σ' o' s'
   · refine step 7 16 13 _ hil (by unfold zeO;rw [if_neg (by omega),if_neg (by omega)]) (by omega) ?_
     intro u' σ' o' s'
     unfold z4I z3c
     exact fin u' σ' o' s'
 · obtain rfl:i=288:=by omega
   rw [<- zmC] at own
   clear step hge hi
   refine loop2 (λ(i:Nat) (w:AV) (y:Int) σ'=>y=i/\i<=32/\Own 1 σ1 σ' w (ic (arr (λ_=>5) i)) i/\σ1.Same σ') (λi=>32-i) 0 ⟨rfl,by omega,Own.nil 1 _ _,(Mem.Same.refl σ1).bump _⟩ ?_
   rintro i w _ σ2 ⟨rfl,hi,own2,s2⟩
   unfold z8a
   refine ifD (λhlt=>?_) (λhge=>?_)
   · refine To.go ?_
     refine own2.push (m:=1) (c:=ic [5]) s2 rfl (by omega) (by omega) (by omega) rfl rfl (z2G _) (by omega) ?_ (by simp only [Mem.next_put,Mem.next_bump];omega)
     intro v' σ' own' s' _ _ _
     rw [<- z2Y,<- zii (λ_=>(5:Int))] at own'
     refine z5 (by omega) ?_
     exact again ⟨i+1,⟨by omega,by omega,own'.same ((Mem.Same.refl σ').bump 3),s'.bump _⟩,by omega⟩
   · obtain rfl:i=32:=by omega
     have n1:=s1.next
     have n2:=s2.next
     refine ⟨u,w,rfl,?_,?_,?_,(s1.trans s2).bump _⟩
     · exact (own.same (s2.bump 6)).1.rdO
     · exact (own2.same ((Mem.Same.refl σ2).bump 6)).1.rdO
     · intro z hz
       simp only [Mem.next_bump]
       rcases List.mem_append.1 hz with h | h
       · have:=own.2 z h;omega
       · have:=own2.2 z h;omega
end
end Go.Vit
