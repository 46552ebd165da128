/- The document's numbers of symbols (as in the third seat) -/
import Derived.Test.YtcliekhikcaoiaaV5W
set_option linter.unusedVariables false
set_option linter.unusedSimpArgs false
set_option linter.unusedSimpArgs false
set_option maxRecDepth 20000
namespace Go.Vit
open Go.Proofs
section
def lenB (c:Nat):Nat:=if c<265 then 0 else if c=285 then 0 else (c-261) / 4
def lenS:Nat->Nat
 | 0=>3
 | j+1=>lenS j+2^lenB (257+j)
def lenA (c:Nat):Nat:=if c=285 then 258 else lenS (c-257)
def disB (c:Nat):Nat:=if c<4 then 0 else c / 2-1
def disS:Nat->Nat
 | 0=>1
 | j+1=>disS j+2^disB j
theorem lenS_le:∀ j:Fin 29,lenS j<=500/\(j.val<8->lenS j=j.val+3)/\(8<=j.val->lenS j=(4+j.val % 4)*2^(j.val / 4-1)+3):=by decide
theorem disS_le:∀ j:Fin 31,disS j<=100000/\(j.val<4->disS j=j.val+1)/\(4<=j.val->disS j=(2+j.val % 2)*2^(j.val / 2-1)+1):=by decide
theorem lenB_le {c:Nat} (h:c<=285):lenB c<=5:=by unfold lenB;split;omega;split<;>omega
theorem disB_le {c:Nat} (h:c<=29):disB c<=13:=by unfold disB;split<;>omega
theorem ref03_lengthBits {c:Nat} (σ:Mem) (hc:c<=285):ACalls PG n_ref03_lengthBits [.int .i64 (c:Nat)] σ fun w σ'=>w=.int .i64 (lenB c:Nat)/\σ.Same σ':=by
 refine ok_ref03_lengthBits fun live=>?_
 unfold F_ref03_lengthBits lenB
 refine ifD (fun h=>?_) (fun h=>?_)
 · rw [if_pos (by omega)];exact ⟨rfl,(Mem.Same.refl σ).bump _⟩
 rw [if_neg (by omega)]
 refine ifD (fun h=>?_) (fun h=>?_)
 · rw [if_pos (by omega)];exact ⟨rfl,(Mem.Same.refl σ).bump _⟩
 rw [if_neg (by omega)]
 repeat (first | refine To.go ?_ | with_reducible refine And.intro (by omega) ?_)
 exact ⟨by rw [show ((c:Int)-261) / 4=(((c-261) / 4:Nat):Int) from by omega],(Mem.Same.refl σ).bump _⟩
theorem ref03_distanceBits {c:Nat} (σ:Mem) (hc:c<=29):ACalls PG n_ref03_distanceBits [.int .i64 (c:Nat)] σ fun w σ'=>w=.int .i64 (disB c:Nat)/\σ.Same σ':=by
 refine ok_ref03_distanceBits fun live=>?_
 unfold F_ref03_distanceBits disB
 refine ifD (fun h=>?_) (fun h=>?_)
 · rw [if_pos (by omega)];exact ⟨rfl,(Mem.Same.refl σ).bump _⟩
 rw [if_neg (by omega)]
 repeat (first | refine To.go ?_ | with_reducible refine And.intro (by omega) ?_)
 exact ⟨by rw [show (c:Int) / 2-1=((c / 2-1:Nat):Int) from by omega],(Mem.Same.refl σ).bump _⟩
theorem ref03_Length {c:Nat} (σ:Mem) (h1:257<=c) (h2:c<=285):ACalls PG n_ref03_Length [.int .i64 (c:Nat)] σ fun w σ'=>w=.tup [.int .i64 (lenA c:Nat),.int .i64 (lenB c:Nat)]/\σ.Same σ':=by
 refine ok_ref03_Length fun live=>?_
 unfold F_ref03_Length
 refine ifD (fun h=>?_) (fun h=>?_)
 · have hc:c=285:=by omega
   exact ⟨by rw [show lenA c=258 from if_pos hc,show lenB c=0 from by unfold lenB;rw [if_neg (by omega),if_pos hc]];rfl,(Mem.Same.refl σ).bump _⟩
 rw [show lenA c=lenS (c-257) from if_neg (by omega)]
 refine loop2 (fun (j:Nat) (x y:Int) σ'=>x=(lenS j:Nat)/\y=((257+j:Nat):Int)/\257+j<=c/\σ.Same σ') (fun j=>285-j) 0 ⟨rfl,rfl,by omega,(Mem.Same.refl σ).bump _⟩ ?_
 rintro j _ _ σ1 ⟨rfl,rfl,hj,s1⟩
 have hjs:=(lenS_le ⟨j,by omega⟩).1
 dsimp only at hjs
 unfold F_ref03_Length_l1
 refine ifD (fun hlt=>?_) (fun hge=>?_)
 · refine callW_of (ref03_lengthBits (c:=257+j) (σ1.bump 9) (by omega)) ?_
   rintro _ σ2 ⟨rfl,s2⟩
   have hb:=lenB_le (c:=257+j) (by omega)
   have hp:2^lenB (257+j)<=2^5:=pow_le hb
   obtain ⟨k,hk⟩:∃ k,lenS (j+1)=k:=⟨_,rfl⟩
   have hk':lenS j+2^lenB (257+j)=k:=hk
   obtain ⟨b,hbb⟩:∃ b,lenB (257+j)=b:=⟨_,rfl⟩
   rw [hbb] at hb hp hk' ⊢
   obtain ⟨pw,hpw⟩:∃ pw:Nat,2^b=pw:=⟨_,rfl⟩
   rw [hpw] at hp hk'
   obtain ⟨l,hl⟩:∃ l,lenS j=l:=⟨_,rfl⟩
   rw [hl] at hjs hk' ⊢
   have hpi:(1:Int)*2^(b:Int).toNat=(pw:Nat):=by rw [Int.toNat_natCast,<- hpw];push_cast;omega
   repeat (first | refine To.go ?_ | with_reducible refine And.intro (by omega) ?_)
   rw [hpi]
   refine again ⟨j+1,⟨by rw [hk];omega,by omega,by omega,(s1.trans s2.ob).bump _⟩,by omega⟩
 · refine callW_of (ref03_lengthBits (c:=c) (σ1.bump 8) (by omega)) ?_
   rintro _ σ2 ⟨rfl,s2⟩
   repeat (refine To.go ?_)
   refine ⟨by rw [show c-257=j from by omega],s1.trans s2.ob⟩
theorem ref03_Distance {c:Nat} (σ:Mem) (h2:c<=29):ACalls PG n_ref03_Distance [.int .i64 (c:Nat)] σ fun w σ'=>w=.tup [.int .i64 (disS c:Nat),.int .i64 (disB c:Nat)]/\σ.Same σ':=by
 refine ok_ref03_Distance fun live=>?_
 unfold F_ref03_Distance
 refine loop2 (fun (j:Nat) (x y:Int) σ'=>x=(disS j:Nat)/\y=(j:Nat)/\j<=c/\σ.Same σ') (fun j=>285-j) 0 ⟨rfl,rfl,by omega,(Mem.Same.refl σ).bump _⟩ ?_
 rintro j _ _ σ1 ⟨rfl,rfl,hj,s1⟩
 have hjs:=(disS_le ⟨j,by omega⟩).1
 dsimp only at hjs
 unfold F_ref03_Distance_l1
 refine ifD (fun hlt=>?_) (fun hge=>?_)
 · refine callW_of (ref03_distanceBits (c:=j) (σ1.bump 9) (by omega)) ?_
   rintro _ σ2 ⟨rfl,s2⟩
   have hb:=disB_le (c:=j) (by omega)
   have hp:2^disB j<=2^13:=pow_le hb
   obtain ⟨k,hk⟩:∃ k,disS (j+1)=k:=⟨_,rfl⟩
   have hk':disS j+2^disB j=k:=hk
   obtain ⟨b,hbb⟩:∃ b,disB j=b:=⟨_,rfl⟩
   rw [hbb] at hb hp hk' ⊢
   obtain ⟨pw,hpw⟩:∃ pw:Nat,2^b=pw:=⟨_,rfl⟩
   rw [hpw] at hp hk'
   obtain ⟨l,hl⟩:∃ l,disS j=l:=⟨_,rfl⟩
   rw [hl] at hjs hk' ⊢
   have hpi:(1:Int)*2^(b:Int).toNat=(pw:Nat):=by rw [Int.toNat_natCast,<- hpw];push_cast;omega
   repeat (first | refine To.go ?_ | with_reducible refine And.intro (by omega) ?_)
   rw [hpi]
   refine again ⟨j+1,⟨by rw [hk];omega,by omega,by omega,(s1.trans s2.ob).bump _⟩,by omega⟩
 · refine callW_of (ref03_distanceBits (c:=c) (σ1.bump 8) (by omega)) ?_
   rintro _ σ2 ⟨rfl,s2⟩
   repeat (refine To.go ?_)
   refine ⟨by rw [show c=j from by omega],s1.trans s2.ob⟩
theorem ref03_Order (σ:Mem):ACalls PG n_ref03_Order [] σ fun w σ'=>w=.slice (σ.next+1) 0 19 (.ex 19)/\σ'.get (σ.next+1)=some (.rw (ic ordr))/\σ'.next=σ.next+3/\σ.Same σ':=by
 refine ok_ref03_Order fun live=>?_
 unfold F_ref03_Order
 refine To.go ?_
 refine ⟨rfl,?_,rfl,?_⟩
 · rw [gS'];rfl
 · repeat (with_reducible first | exact Mem.Same.refl _ | refine Mem.Same.bump ?_ _ | refine Mem.Same.put ?_ (by omega) _)
end
section
theorem arr_succ' (f:Nat->Int) (n:Nat):arr f (n+1)=arr f n++[f n]:=by
 unfold arr
 rw [List.range_succ,List.map_append];rfl
theorem ref03_Fixed (σ:Mem):ACalls PG n_ref03_Fixed [] σ fun w σ'=>∃ a b,w=.tup [a,b]/\RdO 1 σ' a (ic fixL) fixL.length/\RdO 1 σ' b (ic fixD) fixD.length/\(∀ z∈blkOf a++blkOf b,σ.next<=z/\z<σ'.next)/\σ.Same σ':=by
 refine ok_ref03_Fixed fun live=>?_
 unfold F_ref03_Fixed
 refine loop2 (fun (i:Nat) (u:AV) (y:Int) σ'=>y=i/\i<=288/\Own 1 σ σ' u (ic (arr fixF i)) i/\σ.Same σ') (fun i=>288-i) 0 ⟨rfl,by omega,Own.nil 1 _ _,(Mem.Same.refl σ).bump _⟩ ?_
 rintro i u _ σ1 ⟨rfl,hi,own,s1⟩
 unfold F_ref03_Fixed_l1
 have step:∀ (z:Int) (k nb:Nat) (K:AV->Mem->Prop),i<288->z=fixF i->nb+2<=k->(∀ u' σ',Own 1 σ σ' u' (ic (arr fixF (i+1))) (i+1)->σ.Same σ'->K u' σ') ->
  newW (σ1.bump k) (σ1.next+nb) (.rw [.int .i64 z]) fun σ8=>apW 1 8 (σ1.next+nb+1) σ8 u (.slice (σ1.next+nb) 0 1 (.ex 1)) K:=by
  rintro z k nb K hil rfl hnb hK
  refine To.go ?_
  refine own.push (m:=1) (c:=ic [fixF i]) s1 rfl (by omega) (by omega) (by omega) rfl rfl (ic_one _) (by omega) ?_ (by simp only [Mem.next_put,Mem.next_bump];omega)
  intro v' σ' own' s' _ _ _
  rw [<- ic_append,<- arr_succ'] at own'
  exact hK v' σ' own' s'
 refine ifD (fun hlt=>?_) (fun hge=>?_)
 · have hil:i<288:=by omega
   have fin:∀ (u':AV) (σ':Mem),Own 1 σ σ' u' (ic (arr fixF (i+1))) (i+1)->σ.Same σ'->iW ((i:Int)+1) fun v6=>(fun (x1:AV) (x2:Int) (σ_1:Mem)=>Again (∃ j:Nat,(x2=j/\j<=288/\Own 1 σ σ_1 x1 (ic (arr fixF j)) j/\σ.Same σ_1)/\288-j<288-i)) u' v6 (σ'.bump 3):=by
    intro u' σ' o' s'
    refine iW_of (by omega) ?_
    exact again ⟨i+1,⟨by omega,by omega,o'.same ((Mem.Same.refl σ').bump 3),s'.bump _⟩,by omega⟩
   refine ifD (fun h1=>?_) (fun h1=>?_)
   · refine joinI ?_
     refine step 8 13 10 _ hil (by unfold fixF;rw [if_pos (by omega)]) (by omega) ?_
     intro u' σ' o' s'
     unfold F_ref03_Fixed_j1
     exact fin u' σ' o' s'
   refine joinI ?_
   refine ifD (fun h2=>?_) (fun h2=>?_)
   · refine step 8 13 10 _ hil (by unfold fixF;rw [if_pos (by omega)]) (by omega) ?_
     intro u' σ' o' s'
     unfold F_ref03_Fixed_j2
     exact fin u' σ' o' s'
   refine joinI ?_
   refine ifD (fun h3=>?_) (fun h3=>?_)
   · refine step 9 16 13 _ hil (by unfold fixF;rw [if_neg (by omega),if_pos (by omega)]) (by omega) ?_
     intro u' σ' o' s'
     unfold F_ref03_Fixed_j3 F_ref03_Fixed_j2
     exact fin u' σ' o' s'
   · refine step 7 16 13 _ hil (by unfold fixF;rw [if_neg (by omega),if_neg (by omega)]) (by omega) ?_
     intro u' σ' o' s'
     unfold F_ref03_Fixed_j3 F_ref03_Fixed_j2
     exact fin u' σ' o' s'
 · obtain rfl:i=288:=by omega
   rw [<- fixL_eq] at own
   clear step hge hi
   refine loop2 (fun (i:Nat) (w:AV) (y:Int) σ'=>y=i/\i<=32/\Own 1 σ1 σ' w (ic (arr (fun _=>5) i)) i/\σ1.Same σ') (fun i=>32-i) 0 ⟨rfl,by omega,Own.nil 1 _ _,(Mem.Same.refl σ1).bump _⟩ ?_
   rintro i w _ σ2 ⟨rfl,hi,own2,s2⟩
   unfold F_ref03_Fixed_l2
   refine ifD (fun hlt=>?_) (fun hge=>?_)
   · refine To.go ?_
     refine own2.push (m:=1) (c:=ic [5]) s2 rfl (by omega) (by omega) (by omega) rfl rfl (ic_one _) (by omega) ?_ (by simp only [Mem.next_put,Mem.next_bump];omega)
     intro v' σ' own' s' _ _ _
     rw [<- ic_append,<- arr_succ' (fun _=>(5:Int))] at own'
     refine iW_of (by omega) ?_
     exact again ⟨i+1,⟨by omega,by omega,own'.same ((Mem.Same.refl σ').bump 3),s'.bump _⟩,by omega⟩
   · obtain rfl:i=32:=by omega
     have n1:=s1.next
     have n2:=s2.next
     refine ⟨u,w,rfl,?_,?_,?_,(s1.trans s2).bump _⟩
     · exact (own.same (s2.bump 6)).1.rdO
     · exact (own2.same ((Mem.Same.refl σ2).bump 6)).1.rdO
     · intro z hz
       simp only [Mem.next_bump]
       rcases List.mem_append.1 hz with h | h
       · have:=own.2 z h;omega
       · have:=own2.2 z h;omega
end
end Go.Vit
