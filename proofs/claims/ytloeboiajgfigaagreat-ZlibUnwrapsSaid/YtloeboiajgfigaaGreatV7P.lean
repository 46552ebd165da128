/- Runs of lengths. -/
import Derived.Test.YtloeboiajgfigaaGreatV7O
import Derived.Test.YtloeboiajgfigaaGreatV7G
import Derived.Test.YtloeboiajgfigaaGreatVm3
set_option linter.unusedVariables false
set_option linter.unusedSimpArgs false
set_option maxRecDepth 20000
namespace Go.Vit
open Go.Proofs
def rC (r:Int×Int):List AV:=[.int .i64 r.1,.int .i64 r.2]
theorem zow (r:Int×Int):(rC r).length=2:=rfl
def ic2 (X:List (Int×Int)):List AV:=X.flatMap rC
theorem zpr (X:List (Int×Int)):(ic2 X).length=X.length*2:=z7v zow X
theorem zn6 (X:List (Int×Int)):(ic2 X).all AV.one=true:=by
 unfold ic2
 rw [List.all_flatMap]
 exact List.all_eq_true.2 λx _=>rfl
theorem zkv (X Y:List (Int×Int)):ic2 X++ic2 Y=ic2 (X++Y):=by unfold ic2;rw [List.flatMap_append]
theorem zqC {b n m:Nat} {c:Cap} {X:List (Int×Int)} {σ:Mem} {i:Int} {x:Int×Int} {K:AV->Prop} (hg:σ.get b=some (.rw (ic2 X))) (hn:X.length=n) (hi:i=(m:Nat)) (hx:X[m]? = some x) (hk:K (.agg (rC x))):zz 2 (.slice b 0 n c) i λv=>z5x 2 σ v K:=by
 subst hi
 have hm:=(List.getElem?_eq_some_iff.1 hx).1
 rw [List.getElem?_eq_getElem hm] at hx
 injection hx with hx
 subst hx
 show (0<=(m:Int)/\(m:Int)<n)/\z5x 2 σ (.ptr b (0+(m:Int).toNat*2)) K
 refine ⟨by omega,?_⟩
 rw [Int.toNat_natCast,Nat.zero_add]
 refine ldnq hg rfl ?_ ?_
 · rw [zpr];omega
 · unfold ic2;rw [z77 zow hm];exact hk
def rl (L:List Int) (i:Nat):Nat:=((L.drop i).takeWhile λx=>decide (x=L.getD i 0)).length
theorem zoC {v:Int}:∀ {l:List Int} {n:Nat},n<=l.length->(∀ j,j<n->l.getD j 0=v)->(n<l.length->l.getD n 0≠v)->(l.takeWhile λx=>decide (x=v)).length=n
 | [],n,h,_,_=>by simp at h;simp [h]
 | a::l,0,_,_,h2=>by
   have:=h2 (by simp)
   simp only [List.getD_cons_zero] at this
   rw [List.takeWhile_cons,decide_eq_false this];simp
 | a::l,n+1,h,h1,h2=>by
   have h0:=h1 0 (by omega)
   simp only [List.getD_cons_zero] at h0
   rw [List.takeWhile_cons,decide_eq_true h0]
   simp only [if_true,List.length_cons]
   rw [zoC (n:=n) (by simp at h;omega) (λj hj=>by have:=h1 (j+1) (by omega);simpa using this) (λhj=>by have:=h2 (by simp;omega);simpa using this)]
theorem zgW (L:List Int) (i j:Nat):(L.drop i).getD j 0=L.getD (i+j) 0:=by
 rw [List.getD_eq_getElem?_getD,List.getElem?_drop,<- List.getD_eq_getElem?_getD]
theorem zqd {L:List Int} {i n:Nat} (h:i+n<=L.length) (h1:∀ j,j<n->L.getD (i+j) 0=L.getD i 0) (h2:i+n<L.length->L.getD (i+n) 0≠L.getD i 0):rl L i=n:=by
 unfold rl
 refine zoC (by rw [List.length_drop];omega) (λj hj=>by rw [zgW];exact h1 j hj) (λhn=>by rw [zgW];rw [List.length_drop] at hn;exact h2 (by omega))
def z69 (v:Int) (b:Bool) (n:Nat):(Int×Int)×Nat:=
 if v=0 then (if 10<n then ((18,((min n 138-11:Nat):Int)),min n 138) else if 2<n then ((17,((n-3:Nat):Int)),n) else ((v,0),1))
 else if b=true/\2<n then ((16,((min n 6-3:Nat):Int)),min n 6) else ((v,0),1)
def rstep (L:List Int) (i:Nat):(Int×Int)×Nat:=z69 (L.getD i 0) (decide (0<i/\L.getD (i-1) 0=L.getD i 0)) (rl L i)
theorem zl0 {v:Int} {b:Bool} {n:Nat} (h:1<=n):1<=(z69 v b n).2/\(z69 v b n).2<=n:=by
 unfold z69
 split
 · split
   · show 1<=min n 138/\min n 138<=n;omega
   · split
     · show 1<=n/\n<=n;omega
     · show 1<=1/\1<=n;omega
 · split
   · show 1<=min n 6/\min n 6<=n;omega
   · show 1<=1/\1<=n;omega
def z6k (L:List Int):Nat->Nat->List (Int×Int)
 | 0,_=>[]
 | f+1,i=>if i<L.length then (rstep L i).1::z6k L f (i+(rstep L i).2) else []
def runs (L:List Int):List (Int×Int):=z6k L L.length 0
theorem zox {L:List Int} {i:Nat} (h:i<L.length):1<=rl L i/\i+rl L i<=L.length:=by
 constructor
 · unfold rl
   rw [List.drop_eq_getElem_cons h,List.takeWhile_cons,decide_eq_true (show L[i]=L.getD i 0 from (zA h).symm)]
   simp
 · have:rl L i<=(L.drop i).length:=by unfold rl;exact (List.takeWhile_sublist _).length_le
   rw [List.length_drop] at this;omega
theorem zek {L:List Int} {i:Nat} (h:i<L.length):1<=(rstep L i).2/\i+(rstep L i).2<=L.length:=by
 have h1:=zox h
 have h2:=zl0 (v:=L.getD i 0) (b:=decide (0<i/\L.getD (i-1) 0=L.getD i 0)) h1.1
 unfold rstep;omega
theorem zbT {L:List Int}:∀ {f i:Nat},L.length-i<=f->z6k L f i=z6k L (L.length-i) i
 | 0,i,h=>by rw [show L.length-i=0 from by omega]
 | f+1,i,h=>by
   by_cases hi:i<L.length
   · have hp:=zek hi
     rw [show L.length-i=(L.length-i-1)+1 from by omega,z6k,z6k,if_pos hi,if_pos hi,zbT (f:=f) (by omega),zbT (f:=L.length-i-1) (by omega)]
   · rw [show L.length-i=0 from by omega,z6k,z6k,if_neg hi]
theorem zku {L:List Int} {i:Nat} (h:i<L.length):z6k L (L.length-i) i=(rstep L i).1::z6k L (L.length-(i+(rstep L i).2)) (i+(rstep L i).2):=by
 have hp:=zek h
 rw [show L.length-i=(L.length-i-1)+1 from by omega,z6k,if_pos h,zbT (by omega)]
theorem zlR (L:List Int) {i:Nat} (h:L.length<=i):z6k L (L.length-i) i=[]:=by
 rw [show L.length-i=0 from by omega,z6k]
theorem zfu (n m:Nat):imin (n:Nat) (m:Nat)=((min n m:Nat):Int):=by
 unfold imin;split<;>omega
theorem zdv {L:List Int}:∀ (f i:Nat),(z6k L f i).length<=f
 | 0,_=>Nat.le_refl _
 | f+1,i=>by
   unfold z6k
   split
   · simp only [List.length_cons];have:=zdv (L:=L) f (i+(rstep L i).2);omega
   · simp
theorem zho {a:AV} {L:List Int} {σ:Mem} (ha:RdO 1 σ a (ic L) L.length) (hl:L.length<=2^40) :
 z1 PG z6K [a] σ λv σ'=>Own 2 σ σ' v (ic2 (runs L)) (runs L).length/\σ.Same σ':=by
 refine ze2 λlive=>?_
 unfold z9O
 have hla:=ha.lt live
 have hf:∀ {σ':Mem},σ.Same σ'->∀ b∈z3 a,σ'.get b=σ.get b:=λs b hb=>s.get b (hla b hb)
 refine loop2 (λ(i:Nat) (u:AV) (y:Int) σ'=>y=i/\i<=L.length/\σ.Same σ'/\∃ R,Own 2 σ σ' u (ic2 R) R.length/\R.length<=i/\R++z6k L (L.length-i) i=runs L) (λi=>L.length-i) 0 ⟨rfl,by omega,(Mem.Same.refl σ).bump _,[],Own.nil 2 _ _,by simp,rfl⟩ ?_
 rintro i u _ σ1 ⟨rfl,hi,s1,R,own,hR,hr⟩
 unfold z73
 refine (ha.keep (hf s1)).len ?_
 refine ifD (λhlt=>?_) (λhge=>?_)
 · have hil:i<L.length:=by omega
   obtain ⟨v,hv⟩:∃ v,L.getD i 0=v:=⟨_,rfl⟩
   refine join1 (λ(x:Int) σ'=>x=(rl L i:Nat)/\σ1.Same σ') ?_ ?_
   · refine loop1 (λ(n:Nat) (x:Int) σ'=>x=n/\1<=n/\i+n<=L.length/\(∀ j,j<n->L.getD (i+j) 0=v)/\σ1.Same σ') (λn=>L.length-(i+n)) 1 ⟨rfl,by omega,by omega,λj hj=>by rw [show i+j=i from by omega];exact hv,(Mem.Same.refl σ1).bump _⟩ ?_
     rintro n _ σ2 ⟨rfl,h1,h2,h3,s2⟩
     unfold z6U
     refine z6 (by omega) ?_
     refine (ha.keep (hf (s1.trans s2))).len ?_
     refine ifD (λhn=>?_) (λhn=>?_)
     · refine z6 (by omega) ?_
       refine ha.rd (i:=i+n) (hf ((s1.trans s2).bump _)) (by omega) (by omega) ?_
       refine ha.rd (i:=i) (hf ((s1.trans s2).bump _)) hil rfl ?_
       rw [hv]
       refine ifD (λhe=>?_) (λhe=>?_)
       · refine z6 (by omega) ?_
         refine again ⟨n+1,⟨by omega,by omega,by omega,λj hj=>?_,s2.bump _⟩,by omega⟩
         by_cases e:j<n
         · exact h3 j e
         · rw [show j=n from by omega];exact he
       · exact ⟨by rw [zqd (by omega) (λj hj=>by rw [hv];exact h3 j hj) (λ_=>by rw [hv];exact he)],s2.bump _⟩
     · exact ⟨by rw [zqd (by omega) (λj hj=>by rw [hv];exact h3 j hj) (λ_=>by omega)],s2.bump _⟩
   · rintro _ σ2 ⟨rfl,s2⟩
     unfold z7h
     obtain ⟨n,hn⟩:∃ n,rl L i=n:=⟨_,rfl⟩
     have hp:=zox hil
     have hsp:=zek hil
     have hstep:=zku hil
     have hrs:rstep L i=z69 v (decide (0<i/\L.getD (i-1) 0=v)) n:=by unfold rstep;rw [hv,hn]
     rw [hn] at hp ⊢
     obtain ⟨p,hpe⟩:∃ p,decide (0<i/\L.getD (i-1) 0=v)=p:=⟨_,rfl⟩
     rw [hpe] at hrs
     obtain ⟨⟨c,k⟩,m⟩:(Int×Int)×Nat:=rstep L i
     obtain ⟨⟨⟨c,k⟩,m⟩,hst⟩:∃ t,rstep L i=t:=⟨_,rfl⟩
     rw [hst] at hrs hsp hstep
     refine join1 (λ(q:Bool) σ'=>q=p/\σ2.Same σ') ?_ ?_
     · refine ifD (λh0=>?_) (λh0=>?_)
       · refine z6 (by omega) ?_
         refine ha.rd (i:=i-1) (hf ((s1.trans s2).bump _)) (by omega) (by omega) ?_
         refine ha.rd (i:=i) (hf ((s1.trans s2).bump _)) hil rfl ?_
         rw [hv]
         refine ⟨?_,(Mem.Same.refl σ2).bump _⟩
         rw [<- hpe]
         exact decide_eq_decide.2 ⟨λh=>⟨by omega,h⟩,λh=>h.2⟩
       · refine ⟨?_,(Mem.Same.refl σ2).bump _⟩
         rw [<- hpe]
         exact (decide_eq_false λh=>h0 (by omega)).symm
     · rintro q σ3 ⟨rfl,s3⟩
       unfold z7f
       have s123:=(s1.trans s2).trans s3
       refine ha.rd (i:=i) (hf (s123.bump _)) hil rfl ?_
       rw [hv]
       refine To.go ?_
       refine stn gS' (by simp) rfl rfl ?_
       obtain ⟨rb,hrb⟩:∃ rb,σ3.next+5=rb:=⟨_,rfl⟩
       rw [hrb]
       obtain ⟨σ4,h4⟩:∃ σ4,σ4=((σ3.bump 7).put rb (some (.rw [.int .i64 0,.int .i64 0]))).put rb (some (.rw (setAt [.int .i64 0,.int .i64 0] 0 [.int .i64 v,.int .i64 0]))):=⟨_,rfl⟩
       rw [<- h4]
       have s4:σ3.Same σ4:=by rw [h4];repeat (with_reducible first | exact Mem.Same.refl _ | refine Mem.Same.bump ?_ _ | refine Mem.Same.put ?_ (by omega) _)
       have n4:σ4.next=σ3.next+7:=by rw [h4];rfl
       have g4:σ4.get rb=some (.rw [.int .i64 v,.int .i64 0]):=by rw [h4,gS'];rfl
       clear h4
       have s04:=s123.trans s4
       refine ha.rd (i:=i) (hf (s04.bump _)) hil rfl ?_
       rw [hv]
       obtain ⟨Rj,hRj⟩:∃ Rj:Int->Mem->Prop,Rj=λ(x:Int) σ'=>x=((m:Nat):Int)/\σ3.Same σ'/\rb<σ'.next/\σ'.get rb=some (.rw [.int .i64 c,.int .i64 k]):=⟨_,rfl⟩
       have leafS:∀ (c' k':Int) (m' j:Nat),z69 v q n=((c',k'),m')->stW 2 (σ4.bump j) (.ptr rb 0) (.agg [.int .i64 c',.int .i64 k']) λσ'=>Rj (m':Nat) σ':=by
        intro c' k' m' j e
        rw [e] at hrs
        injection hrs with e1 e2
        injection e1 with e1 e3
        subst e1;subst e2;subst e3
        refine stn (gB g4) (by simp) rfl rfl ?_
        rw [hRj]
        refine ⟨rfl,Mem.Same.put (s4.bump _) (by omega) _,by simp only [Mem.next_put,Mem.next_bump];omega,by rw [gS'];rfl⟩
       have leaf1:∀ (j:Nat),z69 v q n=((v,0),1)->Rj 1 (σ4.bump j):=by
        intro j e
        rw [e] at hrs
        injection hrs with e1 e2
        injection e1 with e1 e3
        subst e1;subst e2;subst e3
        rw [hRj]
        exact ⟨rfl,s4.bump _,by simp only [Mem.next_bump];omega,gB g4⟩
       have rest:∀ (next0:AV->Int->Mem->Prop),(∀ u' σ' ,Own 2 σ σ' u' (ic2 (R++[(c,k)])) (R++[(c,k)]).length->σ.Same σ'->next0 u' ((i+m:Nat):Int) σ')->∀ x σ',Rj x σ'->z4x next0 u i σ3 x σ':=by
        intro next0 hnext x σ' h
        rw [hRj] at h
        obtain ⟨rfl,s5,n5,g5⟩:=h
        unfold z4x
        rw [hrb]
        refine ldnq (gB g5) rfl (by simp) ?_
        refine And.intro ⟨rfl,rfl⟩ ?_
        refine To.go ?_
        refine Own.push (m:=1) (c:=ic2 [(c,k)]) (own.same ((s2.trans s3).trans s5)) (s123.trans s5) rfl (by omega) (by omega) (by omega) rfl (zn6 _) (zn6 _) (by omega) ?_ (by simp only [Mem.next_put,Mem.next_bump];omega)
        intro u' σ6 own6 s6 _ _ _
        refine z6 (by omega) ?_
        rw [zkv] at own6
        rw [show ((i:Nat):Int)+((m:Nat):Int)=((i+m:Nat):Int) from by omega]
        refine hnext u' _ ?_ (s6.bump _)
        rw [List.length_append]
        exact own6.same ((Mem.Same.refl σ6).bump _)
       have next:∀ u' σ' ,Own 2 σ σ' u' (ic2 (R++[(c,k)])) (R++[(c,k)]).length->σ.Same σ'->Again (∃ j:Nat,(((i+m:Nat):Int)=j/\j<=L.length/\σ.Same σ'/\∃ R,Own 2 σ σ' u' (ic2 R) R.length/\R.length<=j/\R++z6k L (L.length-j) j=runs L)/\L.length-j<L.length-i):=by
        intro u' σ' own' s'
        refine again ⟨i+m,⟨rfl,hsp.2,s',R++[(c,k)],own',?_,?_⟩,?_⟩
        · have:=hsp.1;simp only [List.length_append,List.length_cons,List.length_nil];omega
        · rw [hstep] at hr
          rw [List.append_assoc];exact hr
        · have:=hsp.1;omega
       have rest2:=rest (λ(x1:AV) (x2:Int) (σ':Mem)=>Again (∃ j:Nat,(x2=((j:Nat):Int)/\j<=L.length/\σ.Same σ'/\∃ R,Own 2 σ σ' x1 (ic2 R) R.length/\R.length<=j/\R++z6k L (L.length-j) j=runs L)/\L.length-j<L.length-i)) next
       have e138:imin ((n:Nat):Int) 138=((min n 138:Nat):Int):=zfu n 138
       have e6:imin ((n:Nat):Int) 6=((min n 6:Nat):Int):=zfu n 6
       by_cases hv0:v=0
       · refine ifT hv0 ?_
         refine join1 Rj ?_ (rest _ next)
         refine ifD (λh10=>?_) (λh10=>?_)
         · show iW (imin ((n:Nat):Int) 138-11) _
           rw [e138]
           refine z6 (by omega) ?_
           have:=leafS 18 ((min n 138-11:Nat):Int) (min n 138) 17 (by unfold z69;rw [if_pos hv0,if_pos (by omega)])
           rw [show ((min n 138-11:Nat):Int)=((min n 138:Nat):Int)-11 from by omega] at this
           exact this
         · refine ha.rd (i:=i) (hf (s04.bump _)) hil rfl ?_
           rw [hv]
           refine ifT hv0 ?_
           refine zu ?_
           refine ifD (λh2=>?_) (λh2=>?_)
           · refine z6 (by omega) ?_
             have:=leafS 17 ((n-3:Nat):Int) n 24 (by unfold z69;rw [if_pos hv0,if_neg (by omega),if_pos (by omega)])
             rw [show ((n-3:Nat):Int)=((n:Nat):Int)-3 from by omega] at this
             exact this
           · refine ha.rd (i:=i) (hf (s04.bump _)) hil rfl ?_
             rw [hv]
             refine ifF (λh=>h hv0) ?_
             refine zu ?_
             exact leaf1 34 (by unfold z69;rw [if_pos hv0,if_neg (by omega),if_neg (by omega)])
       · refine ifF hv0 ?_
         refine join1 Rj ?_ rest2
         refine ha.rd (i:=i) (hf (s04.bump _)) hil rfl ?_
         rw [hv]
         refine ifF hv0 ?_
         refine zu ?_
         refine ha.rd (i:=i) (hf (s04.bump _)) hil rfl ?_
         rw [hv]
         refine ifT hv0 ?_
         cases hq:q with
         | true=>
           refine zu ?_
           refine ifD (λh2=>?_) (λh2=>?_)
           · show iW (imin ((n:Nat):Int) 6-3) _
             rw [e6]
             refine z6 (by omega) ?_
             have:=leafS 16 ((min n 6-3:Nat):Int) (min n 6) 40 (by unfold z69;rw [if_neg hv0,if_pos ⟨hq,by omega⟩])
             rw [show ((min n 6-3:Nat):Int)=((min n 6:Nat):Int)-3 from by omega] at this
             exact this
           · exact leaf1 34 (by unfold z69;rw [if_neg hv0,if_neg (λh=>by omega)])
         | false=>
           refine zu ?_
           exact leaf1 34 (by unfold z69;rw [if_neg hv0,if_neg (λh=>by rw [hq] at h;exact Bool.noConfusion h.1)])
 · obtain rfl:i=L.length:=by omega
   rw [zlR L (Nat.le_refl _),List.append_nil] at hr
   rw [<- hr]
   exact ⟨own.same ((Mem.Same.refl σ1).bump _),s1.bump _⟩
end Go.Vit
