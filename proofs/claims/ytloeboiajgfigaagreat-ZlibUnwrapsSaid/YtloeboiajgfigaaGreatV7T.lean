/- The document's numbers of symbols (as in the third seat) -/
import Derived.Test.YtloeboiajgfigaaGreatV7W
set_option linter.unusedVariables false
set_option linter.unusedSimpArgs false
set_option maxRecDepth 20000
namespace Go.Vit
open Go.Proofs
section
def zav (c:Nat):Nat:=if c<265 then 0 else if c=285 then 0 else (c-261) / 4
def zlo:Nat->Nat
 | 0=>3
 | j+1=>zlo j+2^zav (257+j)
def zeC (c:Nat):Nat:=if c=285 then 258 else zlo (c-257)
def zev (c:Nat):Nat:=if c<4 then 0 else c / 2-1
def zez:Nat->Nat
 | 0=>1
 | j+1=>zez j+2^zev j
theorem zio:∀ j:Fin 29,zlo j<=500/\(j.val<8->zlo j=j.val+3)/\(8<=j.val->zlo j=(4+j.val % 4)*2^(j.val / 4-1)+3):=by decide
theorem zgv:∀ j:Fin 31,zez j<=100000/\(j.val<4->zez j=j.val+1)/\(4<=j.val->zez j=(2+j.val % 2)*2^(j.val / 2-1)+1):=by decide
theorem zcg {s:ByteArray} {p:Nat} (h:p<=8*s.size):zZ 0 s p=.ok (0,p):=by
 unfold zZ
 rw [if_neg (by omega)];rfl
theorem zpj {c p:Nat} {s:ByteArray} (h1:257<=c) (h2:c<=285) (h:p<=8*s.size):zmW c s p=zi (zZ (zav c)) (λv=>z0i (zeC c+v)) s p:=by
 unfold zmW
 rw [if_neg (by omega)]
 by_cases h3:c=285
 · rw [if_pos h3,show zav c=0 from by unfold zav;rw [if_neg (by omega),if_pos h3],z9 (zcg h),show zeC c=258 from if_pos h3]
 rw [if_neg h3,show zeC c=zlo (c-257) from if_neg h3]
 obtain ⟨j,hj⟩:∃ j,c-257=j:=⟨_,rfl⟩
 rw [hj]
 obtain ⟨_,ha,hb⟩:=zio ⟨j,by omega⟩
 dsimp only at ha hb
 by_cases h4:j<8
 · rw [if_pos h4,show zav c=0 from if_pos (by omega),z9 (zcg h),ha h4]
 · rw [if_neg h4,show zav c=j / 4-1 from by unfold zav;rw [if_neg (by omega),if_neg h3];omega,hb (by omega)]
theorem znm {c p:Nat} {s:ByteArray} (h2:c<=29) (h:p<=8*s.size):zcQ c s p=zi (zZ (zev c)) (λv=>z0i (zez c+v)) s p:=by
 unfold zcQ
 rw [if_neg (by omega)]
 obtain ⟨_,ha,hb⟩:=zgv ⟨c,by omega⟩
 dsimp only at ha hb
 by_cases h4:c<4
 · rw [if_pos h4,show zev c=0 from if_pos h4,z9 (zcg h),ha h4]
 · rw [if_neg h4,show zev c=c / 2-1 from if_neg h4,hb (by omega)]
theorem ziK {c:Nat} (h:c<=285):zav c<=5:=by unfold zav;split;omega;split<;>omega
theorem ziH {c:Nat} (h:c<=29):zev c<=13:=by unfold zev;split<;>omega
theorem z82 {c:Nat} (σ:Mem) (hc:c<=285):z1 PG z2t [.int .i64 (c:Nat)] σ λw σ'=>w=.int .i64 (zav c:Nat)/\σ.Same σ':=by
 refine zaf λlive=>?_
 unfold z6A zav
 refine ifD (λh=>?_) (λh=>?_)
 · rw [if_pos (by omega)];exact ⟨rfl,(Mem.Same.refl σ).bump _⟩
 rw [if_neg (by omega)]
 refine ifD (λh=>?_) (λh=>?_)
 · rw [if_pos (by omega)];exact ⟨rfl,(Mem.Same.refl σ).bump _⟩
 rw [if_neg (by omega)]
 repeat (first | refine To.go ?_ | with_reducible refine And.intro (by omega) ?_)
 exact ⟨by rw [show ((c:Int)-261) / 4=(((c-261) / 4:Nat):Int) from by omega],(Mem.Same.refl σ).bump _⟩
theorem z6l {c:Nat} (σ:Mem) (hc:c<=29):z1 PG z1H [.int .i64 (c:Nat)] σ λw σ'=>w=.int .i64 (zev c:Nat)/\σ.Same σ':=by
 refine z98 λlive=>?_
 unfold z5f zev
 refine ifD (λh=>?_) (λh=>?_)
 · rw [if_pos (by omega)];exact ⟨rfl,(Mem.Same.refl σ).bump _⟩
 rw [if_neg (by omega)]
 repeat (first | refine To.go ?_ | with_reducible refine And.intro (by omega) ?_)
 exact ⟨by rw [show (c:Int) / 2-1=((c / 2-1:Nat):Int) from by omega],(Mem.Same.refl σ).bump _⟩
theorem zhz {c:Nat} (σ:Mem) (h1:257<=c) (h2:c<=285):z1 PG z6E [.int .i64 (c:Nat)] σ λw σ'=>w=.tup [.int .i64 (zeC c:Nat),.int .i64 (zav c:Nat)]/\σ.Same σ':=by
 refine ze8 λlive=>?_
 unfold z9y
 refine ifD (λh=>?_) (λh=>?_)
 · have hc:c=285:=by omega
   exact ⟨by rw [show zeC c=258 from if_pos hc,show zav c=0 from by unfold zav;rw [if_neg (by omega),if_pos hc]];rfl,(Mem.Same.refl σ).bump _⟩
 rw [show zeC c=zlo (c-257) from if_neg (by omega)]
 refine loop2 (λ(j:Nat) (x y:Int) σ'=>x=(zlo j:Nat)/\y=((257+j:Nat):Int)/\257+j<=c/\σ.Same σ') (λj=>285-j) 0 ⟨rfl,rfl,by omega,(Mem.Same.refl σ).bump _⟩ ?_
 rintro j _ _ σ1 ⟨rfl,rfl,hj,s1⟩
 have hjs:=(zio ⟨j,by omega⟩).1
 dsimp only at hjs
 unfold z7b
 refine ifD (λhlt=>?_) (λhge=>?_)
 · refine z0 (z82 (c:=257+j) (σ1.bump 9) (by omega)) ?_
   rintro _ σ2 ⟨rfl,s2⟩
   have hb:=ziK (c:=257+j) (by omega)
   have hp:2^zav (257+j)<=2^5:=z1D hb
   obtain ⟨k,hk⟩:∃ k,zlo (j+1)=k:=⟨_,rfl⟩
   have hk':zlo j+2^zav (257+j)=k:=hk
   obtain ⟨b,hbb⟩:∃ b,zav (257+j)=b:=⟨_,rfl⟩
   rw [hbb] at hb hp hk' ⊢
   obtain ⟨pw,hpw⟩:∃ pw:Nat,2^b=pw:=⟨_,rfl⟩
   rw [hpw] at hp hk'
   obtain ⟨l,hl⟩:∃ l,zlo j=l:=⟨_,rfl⟩
   rw [hl] at hjs hk' ⊢
   have hpi:(1:Int)*2^(b:Int).toNat=(pw:Nat):=by rw [Int.toNat_natCast,<- hpw];push_cast;omega
   repeat (first | refine To.go ?_ | with_reducible refine And.intro (by omega) ?_)
   rw [hpi]
   refine again ⟨j+1,⟨by rw [hk];omega,by omega,by omega,(s1.trans s2.ob).bump _⟩,by omega⟩
 · refine z0 (z82 (c:=c) (σ1.bump 8) (by omega)) ?_
   rintro _ σ2 ⟨rfl,s2⟩
   repeat (refine To.go ?_)
   refine ⟨by rw [show c-257=j from by omega],s1.trans s2.ob⟩
theorem zeG {c:Nat} (σ:Mem) (h2:c<=29):z1 PG z3A [.int .i64 (c:Nat)] σ λw σ'=>w=.tup [.int .i64 (zez c:Nat),.int .i64 (zev c:Nat)]/\σ.Same σ':=by
 refine zce λlive=>?_
 unfold z81
 refine loop2 (λ(j:Nat) (x y:Int) σ'=>x=(zez j:Nat)/\y=(j:Nat)/\j<=c/\σ.Same σ') (λj=>285-j) 0 ⟨rfl,rfl,by omega,(Mem.Same.refl σ).bump _⟩ ?_
 rintro j _ _ σ1 ⟨rfl,rfl,hj,s1⟩
 have hjs:=(zgv ⟨j,by omega⟩).1
 dsimp only at hjs
 unfold z5E
 refine ifD (λhlt=>?_) (λhge=>?_)
 · refine z0 (z6l (c:=j) (σ1.bump 9) (by omega)) ?_
   rintro _ σ2 ⟨rfl,s2⟩
   have hb:=ziH (c:=j) (by omega)
   have hp:2^zev j<=2^13:=z1D hb
   obtain ⟨k,hk⟩:∃ k,zez (j+1)=k:=⟨_,rfl⟩
   have hk':zez j+2^zev j=k:=hk
   obtain ⟨b,hbb⟩:∃ b,zev j=b:=⟨_,rfl⟩
   rw [hbb] at hb hp hk' ⊢
   obtain ⟨pw,hpw⟩:∃ pw:Nat,2^b=pw:=⟨_,rfl⟩
   rw [hpw] at hp hk'
   obtain ⟨l,hl⟩:∃ l,zez j=l:=⟨_,rfl⟩
   rw [hl] at hjs hk' ⊢
   have hpi:(1:Int)*2^(b:Int).toNat=(pw:Nat):=by rw [Int.toNat_natCast,<- hpw];push_cast;omega
   repeat (first | refine To.go ?_ | with_reducible refine And.intro (by omega) ?_)
   rw [hpi]
   refine again ⟨j+1,⟨by rw [hk];omega,by omega,by omega,(s1.trans s2.ob).bump _⟩,by omega⟩
 · refine z0 (z6l (c:=c) (σ1.bump 8) (by omega)) ?_
   rintro _ σ2 ⟨rfl,s2⟩
   repeat (refine To.go ?_)
   refine ⟨by rw [show c=j from by omega],s1.trans s2.ob⟩
theorem ziS (σ:Mem):z1 PG z7I [] σ λw σ'=>w=.slice (σ.next+1) 0 19 (.ex 19)/\σ'.get (σ.next+1)=some (.rw (ic ordr))/\σ'.next=σ.next+3/\σ.Same σ':=by
 refine zeR λlive=>?_
 unfold zbH
 refine To.go ?_
 refine ⟨rfl,?_,rfl,?_⟩
 · rw [gS'];rfl
 · repeat (with_reducible first | exact Mem.Same.refl _ | refine Mem.Same.bump ?_ _ | refine Mem.Same.put ?_ (by omega) _)
end
section
theorem zhc (f:Nat->Int) (n:Nat):arr f (n+1)=arr f n++[f n]:=by
 unfold arr
 rw [List.range_succ,List.map_append];rfl
theorem zi9 (σ:Mem):z1 PG z7S [] σ λw σ'=>∃ a b,w=.tup [a,b]/\RdO 1 σ' a (ic ziU) ziU.length/\RdO 1 σ' b (ic zkT) zkT.length/\(∀ z∈z3 a++z3 b,σ.next<=z/\z<σ'.next)/\σ.Same σ':=by
 refine zeO λlive=>?_
 unfold zaJ
 refine loop2 (λ(i:Nat) (u:AV) (y:Int) σ'=>y=i/\i<=288/\Own 1 σ σ' u (ic (arr zen i)) i/\σ.Same σ') (λi=>288-i) 0 ⟨rfl,by omega,Own.nil 1 _ _,(Mem.Same.refl σ).bump _⟩ ?_
 rintro i u _ σ1 ⟨rfl,hi,own,s1⟩
 unfold z87
 have step:∀ (z:Int) (k nb:Nat) (K:AV->Mem->Prop),i<288->z=zen i->nb+2<=k->(∀ u' σ',Own 1 σ σ' u' (ic (arr zen (i+1))) (i+1)->σ.Same σ'->K u' σ') ->
  z15 (σ1.bump k) (σ1.next+nb) (.rw [.int .i64 z]) λσ8=>apW 1 8 (σ1.next+nb+1) σ8 u (.slice (σ1.next+nb) 0 1 (.ex 1)) K:=by
  rintro z k nb K hil rfl hnb hK
  refine To.go ?_
  refine own.push (m:=1) (c:=ic [zen i]) s1 rfl (by omega) (by omega) (by omega) rfl rfl (z3s _) (by omega) ?_ (by simp only [Mem.next_put,Mem.next_bump];omega)
  intro v' σ' own' s' _ _ _
  rw [<- z3k,<- zhc] at own'
  exact hK v' σ' own' s'
 refine ifD (λhlt=>?_) (λhge=>?_)
 · have hil:i<288:=by omega
   have fin:∀ (u':AV) (σ':Mem),Own 1 σ σ' u' (ic (arr zen (i+1))) (i+1)->σ.Same σ'->iW ((i:Int)+1) λv6=>(λ(x1:AV) (x2:Int) (σ_1:Mem)=>Again (∃ j:Nat,(x2=j/\j<=288/\Own 1 σ σ_1 x1 (ic (arr zen j)) j/\σ.Same σ_1)/\288-j<288-i)) u' v6 (σ'.bump 3):=by
    intro u' σ' o' s'
    refine z6 (by omega) ?_
    exact again ⟨i+1,⟨by omega,by omega,o'.same ((Mem.Same.refl σ').bump 3),s'.bump _⟩,by omega⟩
   refine ifD (λh1=>?_) (λh1=>?_)
   · refine zu ?_
     refine step 8 13 10 _ hil (by unfold zen;rw [if_pos (by omega)]) (by omega) ?_
     intro u' σ' o' s'
     unfold z84
     exact fin u' σ' o' s'
   refine zu ?_
   refine ifD (λh2=>?_) (λh2=>?_)
   · refine step 8 13 10 _ hil (by unfold zen;rw [if_pos (by omega)]) (by omega) ?_
     intro u' σ' o' s'
     unfold z3z
     exact fin u' σ' o' s'
   refine zu ?_
   refine ifD (λh3=>?_) (λh3=>?_)
   · refine step 9 16 13 _ hil (by unfold zen;rw [if_neg (by omega),if_pos (by omega)]) (by omega) ?_
     intro u' σ' o' s'
     unfold z53 z3z
     exact fin u' σ' o' s'
   · refine step 7 16 13 _ hil (by unfold zen;rw [if_neg (by omega),if_neg (by omega)]) (by omega) ?_
     intro u' σ' o' s'
     unfold z53 z3z
     exact fin u' σ' o' s'
 · obtain rfl:i=288:=by omega
   rw [<- zmH] at own
   clear step hge hi
   refine loop2 (λ(i:Nat) (w:AV) (y:Int) σ'=>y=i/\i<=32/\Own 1 σ1 σ' w (ic (arr (λ_=>5) i)) i/\σ1.Same σ') (λi=>32-i) 0 ⟨rfl,by omega,Own.nil 1 _ _,(Mem.Same.refl σ1).bump _⟩ ?_
   rintro i w _ σ2 ⟨rfl,hi,own2,s2⟩
   unfold z7Z
   refine ifD (λhlt=>?_) (λhge=>?_)
   · refine To.go ?_
     refine own2.push (m:=1) (c:=ic [5]) s2 rfl (by omega) (by omega) (by omega) rfl rfl (z3s _) (by omega) ?_ (by simp only [Mem.next_put,Mem.next_bump];omega)
     intro v' σ' own' s' _ _ _
     rw [<- z3k,<- zhc (λ_=>(5:Int))] at own'
     refine z6 (by omega) ?_
     exact again ⟨i+1,⟨by omega,by omega,own'.same ((Mem.Same.refl σ').bump 3),s'.bump _⟩,by omega⟩
   · obtain rfl:i=32:=by omega
     have n1:=s1.next
     have n2:=s2.next
     refine ⟨u,w,rfl,?_,?_,?_,(s1.trans s2).bump _⟩
     · exact (own.same (s2.bump 6)).1.rdO
     · exact (own2.same ((Mem.Same.refl σ2).bump 6)).1.rdO
     · intro z hz
       simp only [Mem.next_bump]
       rcases List.mem_append.1 hz with h | h
       · have:=own.2 z h;omega
       · have:=own2.2 z h;omega
end
end Go.Vit
