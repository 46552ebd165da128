/- The library. -/
import Derived.Test.YtloeboiajgfigaaGreatV7I
set_option linter.unusedVariables false
set_option linter.unusedSimpArgs false
section
/- Items: their order, a copy of them, two at a time, and the coins in them. -/
set_option maxRecDepth 20000
namespace Go.Vit
open Go.Proofs
theorem zhp (x y:It) (σ:Mem):z1 PG z3l [.agg (itC x),.agg (itC y)] σ λv σ'=>∃ c,v=.int .i64 c/\(c<0↔x.n<y.n)/\σ.Same σ':=by
 refine zdV λlive=>?_
 unfold z9S
 refine And.intro (zah x) ?_
 refine To.go ?_
 refine And.intro (zah y) ?_
 refine To.go ?_
 have hx:(AV.agg (itC x)).cells=[.int .i64 x.n,.int .i64 x.s,x.v]:=rfl
 have hy:(AV.agg (itC y)).cells=[.int .i64 y.n,.int .i64 y.s,y.v]:=rfl
 rw [hx,hy]
 obtain ⟨σ1,h1⟩:∃ σ1,σ1=(((σ.bump 3).put σ.next (some (.rw [.int .i64 x.n,.int .i64 x.s,x.v]))).put (σ.next+1) (some (.rw [.int .i64 y.n,.int .i64 y.s,y.v]))):=⟨_,rfl⟩
 rw [<- h1]
 have s1:σ.Same σ1:=by rw [h1];repeat (with_reducible first | exact Mem.Same.refl _ | refine Mem.Same.bump ?_ _ | refine Mem.Same.put ?_ (by omega) _)
 have e1:σ1.get σ.next=some (.rw [.int .i64 x.n,.int .i64 x.s,x.v]):=by rw [h1,Mem.get_put_ne _ (by omega),gS']
 have e2:σ1.get (σ.next+1)=some (.rw [.int .i64 y.n,.int .i64 y.s,y.v]):=by rw [h1,gS']
 clear h1 hx hy
 refine To.go ?_
 refine To.go ?_
 refine ldrw e1 (v:=.int .i64 x.n) rfl ?_
 refine To.go ?_
 refine To.go ?_
 refine To.go ?_
 refine ldrw e2 (v:=.int .i64 y.n) rfl ?_
 refine To.go ?_
 refine z0 (z8q _ _ _) ?_
 rintro _ σ2 ⟨c,rfl,hc,s2⟩
 refine To.go ?_
 exact ⟨c,rfl,hc,s1.trans s2.ob⟩
theorem zhi {b:Nat} {σ:Mem}:I3.Cmp σ b (λx=>x.n) (λ_=>True) (.func z3l []):=by
 intro σ1 x y _ _ _ K hK
 refine z1.mono (zhp x y σ1) ?_
 rintro _ σ' ⟨c,rfl,h1,h2⟩
 exact hK c σ' h1 h2
theorem zbB {a:AV} {X:List It} {σ:Mem} (ha:RdO 3 σ a (ic3 X) X.length) (hl:X.length<=2^40) (hne:X≠[]):z1 PG zO [a] σ λv σ'=>Own 3 σ σ' v (ic3 X) X.length/\σ.Same σ':=by
 refine z2V λlive=>?_
 have hla:=ha.lt live
 have ha0:=ha
 unfold z0R
 rcases ha with ⟨rfl,h0,_⟩ | ⟨b,z,c,rfl,hlen,hq⟩
 · exact absurd (List.length_eq_zero_iff.1 h0) hne
 · repeat (refine To.go ?_)
   refine zgY gS' (n:=X.length) (cs:=ic3 X) (ha0.keep λb' hb'=>?_) (zdJ _) (by omega) (λh0=>?_) (λh0=>?_)
   · have:=hla b' hb'
     rw [Mem.get_put_ne _ (by omega),Mem.get_bump]
   · exact absurd (List.length_eq_zero_iff.1 h0) hne
   · refine ⟨⟨.inr ⟨_,rfl,gS',by rw [z7y]⟩,λb' hb'=>?_⟩,by repeat (with_reducible first | exact Mem.Same.refl _ | refine Mem.Same.bump ?_ _ | refine Mem.Same.put ?_ (by omega) _)⟩
     simp only [z3,List.mem_singleton] at hb'
     simp only [Mem.next_put,Mem.next_bump];omega
end Go.Vit
end
section
/- The coins in items are counted. -/
set_option maxRecDepth 20000
namespace Go.Vit
open Go.Proofs
def rep (ok:Nat->Prop) (σ:Mem):Pm->It->Prop
 | .coin n s,x=>x.n=n/\x.s=(s:Nat)/\x.v=.nils
 | .pair a b,x=>x.n=a.wt+b.wt/\∃ blk o c Y xa xb,x.v=.slice blk (o*3) 2 c/\ok blk/\σ.get blk=some (.rw (ic3 Y))/\Y[o]? = some xa/\Y[o+1]? = some xb/\rep ok σ a xa/\rep ok σ b xb
theorem rep.wt {ok:Nat->Prop} {σ:Mem}:∀ {t:Pm} {x:It},rep ok σ t x->x.n=t.wt
 | .coin _ _,_,h=>h.1
 | .pair _ _,_,h=>h.1
theorem rep.frame {ok ok':Nat->Prop} {σ σ':Mem} (hk:∀ b,ok b->ok' b/\σ'.get b=σ.get b):∀ {t:Pm} {x:It},rep ok σ t x->rep ok' σ' t x
 | .coin _ _,_,h=>h
 | .pair _ _,_,⟨h1,blk,o,c,Y,xa,xb,h2,h3,h4,h5,h6,h7,h8⟩=>⟨h1,blk,o,c,Y,xa,xb,h2,(hk blk h3).1,(hk blk h3).2.trans h4,h5,h6,h7.frame hk,h8.frame hk⟩
def Pm.nd:Pm->Nat
 | .coin _ _=>1
 | .pair a b=>1+a.nd+b.nd
def zpw (l:List Pm):Nat:=(l.map Pm.nd).sum
theorem zo1 {l:List Pm} {t:Pm} (h:t∈l):t.nd<=zpw l:=by
 induction l with
 | nil=>simp at h
 | cons a l ih=>
   unfold zpw at ih ⊢
   rw [List.map_cons,List.sum_cons]
   rcases List.mem_cons.1 h with rfl | h
   · omega
   · have:=ih h;omega
theorem zpF (t:Pm):1<=t.nd:=by cases t<;>unfold Pm.nd<;>omega
theorem zmj (i:Nat):∀ l:List Pm,z8I i l<=zgP l
 | []=>Nat.le_refl _
 | a::l=>by
   have:=zmj i l
   have:=zlu i a
   unfold z8I zgP at *
   simp only [List.map_cons,List.sum_cons];omega
theorem zdH (l m:List Pm):zgP (l++m)=zgP l+zgP m:=by unfold zgP;rw [List.map_append,List.sum_append]
theorem z5w (A:List Int) (l:List Pm):(addc A l).length=A.length:=zW _ _
theorem z79 {A:List Int} {l:List Pm} {i:Nat} (h:i<A.length):(addc A l).getD i 0=A.getD i 0+z8I i l:=by
 unfold addc
 rw [zA (by rw [zW];exact h)]
 simp [arr]
theorem zgw (A:List Int):addc A []=A:=by
 refine List.ext_getElem (z5w A []) λi h1 h2=>?_
 have:=z79 (A:=A) (l:=[]) h2
 rw [zA h1,zA h2] at this
 rw [this];simp [z8I]
theorem zlO (A:List Int) (l m:List Pm):addc (addc A l) m=addc A (l++m):=by
 refine List.ext_getElem (by rw [z5w,z5w,z5w]) λi h1 h2=>?_
 have h3:i<A.length:=by rw [z5w] at h2;exact h2
 have e1:=z79 (A:=addc A l) (l:=m) (by rw [z5w];exact h3)
 have e2:=z79 (A:=A) (l:=l) h3
 have e3:=z79 (A:=A) (l:=l++m) h3
 rw [zA h1] at e1
 rw [zA h2] at e3
 rw [e1,e2,e3,zdF];omega
theorem zhb {A:List Int} {n:Int} {s:Nat} (h:s<A.length):addc A [.coin n s]=A.set s (A.getD s 0+1):=by
 refine List.ext_getElem (by rw [z5w,List.length_set]) λi h1 h2=>?_
 have h3:i<A.length:=by rw [z5w] at h1;exact h1
 have e1:=z79 (A:=A) (l:=[.coin n s]) h3
 rw [zA h1] at e1
 rw [e1,zkb,Pm.cnt,List.getElem_set]
 by_cases hs:s=i
 · rw [if_pos hs,if_pos hs];subst hs;rfl
 · rw [if_neg hs,if_neg hs,zA h3];simp
theorem zm0 (A:List Int) (a b:Pm):addc A [.pair a b]=addc A [a,b]:=by
 unfold addc
 refine z0e λj _=>?_
 congr 2
theorem zkz {ok:Nat->Prop}:∀ (N:Nat) {σ:Mem} {A:List Int} {Z:List (Pm×It)} {Y:List It} {lb b o:Nat} {c1 c2:Cap},zpw (Z.map Prod.fst)<=N->σ.get lb=some (.rw (ic A))->σ.get b=some (.rw (ic3 Y))->lb<σ.next->b≠lb->b<σ.next->(∀ b,ok b->b≠lb/\b<σ.next) ->
 (∀ i (h:i<Z.length),Y[o+i]? = some Z[i].2)->(∀ z∈Z,rep ok σ z.1 z.2/\z.1.syb A.length)->(∀ i,0<=A.getD i 0/\A.getD i 0+zgP (Z.map Prod.fst)<=2^60)->Z.length<=2^40->A.length<=2^40 ->
 z1 PG z50 [.slice lb 0 A.length c1,.slice b (o*3) Z.length c2] σ λ_ σ'=>Mem.Only [lb] σ σ'/\σ'.get lb=some (.rw (ic (addc A (Z.map Prod.fst)))):=by
 intro N
 induction N with
 | zero=>
   intro σ A Z Y lb b o c1 c2 hN hA hY hlb hne hb hok hZ hrep hbd hl hAl
   refine zaW λlive=>?_
   unfold z8r
   have hZ0:Z=[]:=by
    cases Z with
    | nil=>rfl
    | cons z Z=>
      exfalso
      unfold zpw at hN
      rw [List.map_cons,List.map_cons,List.sum_cons] at hN
      have:=zpF z.1
      omega
   subst hZ0
   refine To.go ?_
   refine loop1 (λ(_:Unit) (y:Int) σ'=>y=0/\σ'=σ.bump 3) (λ_=>0) () ⟨rfl,rfl⟩ ?_
   rintro _ _ _ ⟨rfl,rfl⟩
   unfold z67
   skip
   rw [show List.map Prod.fst ([]:List (Pm×It))=[] from rfl,zgw]
   exact ⟨⟨by simp only [Mem.next_bump];omega,λ_ _ _=>rfl⟩,hA⟩
 | succ N ih=>
   intro σ A Z Y lb b o c1 c2 hN hA hY hlb hne hb hok hZ hrep hbd hl hAl
   refine zaW λlive=>?_
   unfold z8r
   refine To.go ?_
   refine loop1 (λ(i:Nat) (y:Int) σ'=>y=i/\i<=Z.length/\Mem.Only [lb] σ σ'/\σ'.get lb=some (.rw (ic (addc A ((Z.take i).map Prod.fst))))) (λi=>Z.length-i) 0 ⟨rfl,by omega,⟨by simp only [Mem.next_bump];omega,λ_ _ _=>rfl⟩,?_⟩ ?_
   · rw [List.take_zero,show List.map Prod.fst ([]:List (Pm×It))=[] from rfl,zgw];exact hA
   rintro i _ σ1 ⟨rfl,hi,o1,e1⟩
   unfold z67
   have n1:=o1.next
   have get1:∀ b',b'<σ.next->b'≠lb->σ1.get b'=σ.get b':=λb' h h'=>o1.get b' h (by simpa using h')
   refine ifD (λhlt=>?_) (λhge=>?_)
   · have hil:i<Z.length:=by omega
     have hz:=hrep _ (List.getElem_mem hil)
     have hY1:σ1.get b=some (.rw (ic3 Y)):=(get1 b hb hne).trans hY
     have hYi:=hZ i hil
     have htake:(Z.take (i+1)).map Prod.fst=(Z.take i).map Prod.fst++[Z[i].1]:=by rw [List.take_succ_eq_append_getElem hil,List.map_append];rfl
     have hsum:zgP ((Z.take i).map Prod.fst)+Z[i].1.sz<=zgP (Z.map Prod.fst):=by
      have:Z.map Prod.fst=(Z.take (i+1)).map Prod.fst++(Z.drop (i+1)).map Prod.fst:=by rw [<- List.map_append,List.take_append_drop]
      rw [this,htake,zdH,zdH]
      have:zgP [Z[i].1]=Z[i].1.sz:=by simp [zgP]
      omega
     have hmem:Z[i].1∈Z.map Prod.fst:=List.mem_map_of_mem (List.getElem_mem hil)
     have hnd:=zo1 hmem
     obtain ⟨z,hzz⟩:∃ z,Z[i]=z:=⟨_,rfl⟩
     rw [hzz] at hz hYi htake hsum hnd
     clear hzz hmem
     obtain ⟨t,x⟩:=z
     dsimp only at hz hYi htake hsum hnd
     have hoi:=(List.getElem?_eq_some_iff.1 hYi).1
     refine And.intro (show 0<=(i:Int)/\(i:Int)<(Z.length:Nat) by omega) ?_
     rw [Int.toNat_natCast]
     have hldn:∀ {K:AV->Prop},K (.agg (itC x))->z5x 3 (σ1.bump 5) (.ptr b (o*3+i*3)) K:=by
      intro K hK
      rw [<- Nat.add_mul]
      refine ldnq (σ:=σ1.bump 5) hY1 rfl ?_ ?_
      · rw [z7y];omega
      · have hx:Y[o+i]=x:=(List.getElem?_eq_some_iff.1 hYi).2
        unfold ic3;rw [z77 z6g hoi,hx];exact hK
     refine hldn ?_
     obtain ⟨nb,hnb⟩:∃ nb,σ1.next+3=nb:=⟨_,rfl⟩
     rw [hnb]
     refine To.go ?_
     refine stn gS' (by simp) (z6g x) (zah x) ?_
     rw [z6d (by rw [z6g];rfl)]
     obtain ⟨σ2,h2⟩:∃ σ2,σ2=(((σ1.bump 5).put nb (some (.rw [.int .i64 0,.int .i64 0,.nils]))).put nb (some (.rw (itC x)))):=⟨_,rfl⟩
     rw [<- h2]
     have s2:σ1.Same σ2:=by rw [h2];repeat (with_reducible first | exact Mem.Same.refl _ | refine Mem.Same.bump ?_ _ | refine Mem.Same.put ?_ (by omega) _)
     have n2:σ2.next=σ1.next+5:=by rw [h2];simp only [Mem.next_put,Mem.next_bump]
     have x2:σ2.get nb=some (.rw [.int .i64 x.n,.int .i64 x.s,x.v]):=by rw [h2,gS'];rfl
     have e2:σ2.get lb=some (.rw (ic (addc A ((Z.take i).map Prod.fst)))):=(s2.get lb (by omega)).trans e1
     clear h2
     have o2:Mem.Only [lb] σ σ2:=o1.then s2
     refine To.go ?_
     refine ldrw x2 (v:=x.v) rfl ?_
     obtain ⟨A1,hA1⟩:∃ A1,addc A ((Z.take i).map Prod.fst)=A1:=⟨_,rfl⟩
     rw [hA1] at e2
     have hA1l:A1.length=A.length:=by rw [<- hA1,z5w]
     have hA1b:∀ j,0<=A1.getD j 0/\A1.getD j 0+t.sz<=2^60:=by
      intro j
      have hj:=hbd j
      by_cases hjl:j<A.length
      · have:=z79 (A:=A) (l:=(Z.take i).map Prod.fst) hjl
        have h4:=zmj j ((Z.take i).map Prod.fst)
        rw [hA1] at this
        omega
      · have:A1.getD j 0=0:=by rw [List.getD_eq_getElem?_getD,List.getElem?_eq_none (by omega)];rfl
        have h0:A.getD j 0=0:=by rw [List.getD_eq_getElem?_getD,List.getElem?_eq_none (by omega)];rfl
        omega
     have fin:∀ σ3,Mem.Only [lb] σ2 σ3->σ3.get lb=some (.rw (ic (addc A1 [t])))->z64 (λ(y:Int) σ_1=>Again (∃ j,(y=(j:Nat)/\j<=Z.length/\Mem.Only [lb] σ σ_1/\σ_1.get lb=some (.rw (ic (addc A ((Z.take j).map Prod.fst)))))/\Z.length-j<Z.length-i)) (i:Nat) σ3:=by
      intro σ3 o3 e3
      unfold z64
      refine z6 (by omega) ?_
      refine again ⟨i+1,⟨by omega,by omega,(o2.trans o3).bump _,?_⟩,by omega⟩
      rw [Mem.get_bump,e3,htake,<- hA1,zlO]
     cases t with
     | coin n s=>
       obtain ⟨⟨_,hs,hv⟩,hsl⟩:=hz
       have hsl:s<A.length:=hsl
       rw [hv]
       refine To.go ?_
       refine zu ?_
       refine To.go ?_
       refine To.go ?_
       refine To.go ?_
       refine ldrw x2 (v:=.int .i64 x.s) rfl ?_
       refine To.go ?_
       rw [hs]
       have hget:A1[s]? = some (A1.getD s 0):=by rw [zA (by omega),List.getElem?_eq_getElem (by omega)]
       refine rdI (m:=s) (σ:=σ2.bump 11) e2 hA1l rfl hget ?_
       have:=hA1b s
       refine z6 (by omega) ?_
       refine wrI (m:=s) (σ:=σ2.bump 11) e2 hA1l rfl (by omega) ?_
       refine fin _ ⟨?_,λb' hb' hn=>?_⟩ ?_
       · simp only [Mem.next_put,Mem.next_bump];omega
       · rw [Mem.get_put_ne _ (by simpa using hn)];rfl
       · rw [gS',zhb (by omega)]
     | pair ta tb=>
       obtain ⟨⟨_,blk,oo,cc,Y',xa,xb,hv,hokb,hgb,ha,hb',ra,rb⟩,hsl⟩:=hz
       rw [hv]
       refine To.go ?_
       refine zu ?_
       refine To.go ?_
       refine To.go ?_
       rw [hv] at x2
       refine ldrw x2 (v:=.slice blk (oo*3) 2 cc) rfl ?_
       have hk:=hok blk hokb
       have fr:∀ b,ok b->ok b/\(σ2.bump 7).get b=σ.get b:=λb hb=>⟨hb,by
        rw [Mem.get_bump,s2.get b (by have:=hok b hb;omega),get1 b (hok b hb).2 (hok b hb).1]⟩
       have hndp:ta.nd+tb.nd<=N:=by unfold Pm.nd at hnd;omega
       have hszp:ta.sz+tb.sz=(Pm.pair ta tb).sz:=rfl
       refine z0 (show z1 PG z50 [.slice lb 0 A.length c1,.slice blk (oo*3) 2 cc] (σ2.bump 7) λ_ σ3=>Mem.Only [lb] σ2 σ3/\σ3.get lb=some (.rw (ic (addc A1 [.pair ta tb]))) from ?_) λ_ σ3 h3=>fin σ3 h3.1 h3.2
       rw [<- hA1l]
       have:=ih (σ:=σ2.bump 7) (A:=A1) (Z:=[(ta,xa),(tb,xb)]) (Y:=Y') (lb:=lb) (b:=blk) (o:=oo) (c1:=c1) (c2:=cc) (by simp [zpw];omega) e2 ((fr blk hokb).2.trans hgb) (by simp only [Mem.next_bump];omega) hk.1 (by simp only [Mem.next_bump];omega) (λb hb=>by have:=hok b hb;simp only [Mem.next_bump];omega)
        (λj hj=>by
         match j,hj with
         | 0,_=>exact ha
         | 1,_=>exact hb')
        (λz hz=>by
         rw [hA1l]
         rcases List.mem_cons.1 hz with rfl | hz
         · exact ⟨ra.frame fr,hsl.1⟩
         · rw [List.mem_singleton] at hz
           subst hz
           exact ⟨rb.frame fr,hsl.2⟩)
        (λj=>by
         have:=hA1b j
         have e:zgP (List.map Prod.fst [(ta,xa),(tb,xb)])=ta.sz+tb.sz:=by simp [zgP]
         rw [e]
         omega) (by simp) (by omega)
       refine this.mono λ_ σ3 h3=>⟨?_,?_⟩
       · exact ⟨by have:=h3.1.next;simp only [Mem.next_bump] at this;omega,λb hb hn=>h3.1.get b (by simp only [Mem.next_bump];omega) hn⟩
       · rw [zm0];exact h3.2
   · obtain rfl:i=Z.length:=by omega
     rw [List.take_length] at e1
     exact ⟨o1.bump _,e1⟩
end Go.Vit
end
section
/- A row, two items at a time. -/
set_option maxRecDepth 20000
namespace Go.Vit
open Go.Proofs
theorem zl6 {P:Program} {b:Nat} {T:YT} {args:List AV} {σ:Mem} {K K':AV->Mem->Prop} (h:T args σ K') (hk:∀ v σ',K' v σ'->K v σ'):zf3 P (zll b T) (.yld b) args σ K:=by
 have e:zll b T b=some T:=by unfold zll;rw [if_pos rfl]
 unfold zf3
 dsimp only
 rw [e]
 exact ⟨K',h,hk⟩
theorem zh0 {v:AV} {σ:Mem} (hv:v.one=true):z1 PG zP [v,.int .i64 2] σ λw σ'=>∃ p q,w=.func zl [.ptr p 0,.ptr q 0]/\σ'.get p=some (.rw [v])/\σ'.get q=some (.rw [.int .i64 2])/\(σ.next<=p/\p<σ'.next)/\(σ.next<=q/\q<σ'.next)/\σ.Same σ':=by
 refine z2Z λlive=>?_
 unfold z0O
 rw [z3t hv]
 refine zg4 hv ?_
 refine To.go ?_
 refine To.go ?_
 obtain ⟨σ1,h1⟩:∃ σ1,σ1=(((σ.bump 3).put σ.next (some (.rw [v]))).put (σ.next+1) (some (.rw [.int .i64 2]))):=⟨_,rfl⟩
 rw [<- h1]
 have s1:σ.Same σ1:=by rw [h1];repeat (with_reducible first | exact Mem.Same.refl _ | refine Mem.Same.bump ?_ _ | refine Mem.Same.put ?_ (by omega) _)
 have n1:σ1.next=σ.next+3:=by rw [h1];rfl
 have e1:σ1.get σ.next=some (.rw [v]):=by rw [h1,Mem.get_put_ne _ (by omega),gS']
 have e2:σ1.get (σ.next+1)=some (.rw [.int .i64 2]):=by rw [h1,gS']
 clear h1
 refine To.go ?_
 refine ldrw e2 (v:=.int .i64 2) rfl ?_
 refine To.go ?_
 refine zu ?_
 refine ifF (by decide) ?_
 unfold z0l
 exact ⟨σ.next,σ.next+1,rfl,e1,e2,⟨by omega,by simp only [Mem.next_bump];omega⟩,⟨by omega,by simp only [Mem.next_bump];omega⟩,(s1.bump _).bump _⟩
theorem zj5 {p q b n:Nat} {σ:Mem} {T:YT} {K:Mem->Prop} {J:Nat->Mem->Prop} (hn:n<=2^40)
 (hJ:∀ i σ',J i σ'->σ'.get p=some (.rw [.slice b 0 n (.op 3)])/\σ'.get q=some (.rw [.int .i64 2])) (hJb:∀ i σ' k,J i σ'->J i (σ'.bump k)) (h0:J 0 σ)
 (hT:∀ i σ',2*i<n->J i σ'->T [.slice b (2*i*3) (min 2 (n-2*i)) (.ex (min 2 (n-2*i)))] σ' (λv σ''=>v=.bool true/\J (i+1) σ''))
 (hK:∀ i σ',n<=2*i->J i σ'->K σ'):zma PG (.func zl [.ptr p 0,.ptr q 0]) T σ K:=by
 show zY PG (zll σ.next T) zl (.yld σ.next::[.ptr p 0,.ptr q 0]) (σ.bump 1) λ_ σ'=>K σ'
 refine z2v λlive=>?_
 unfold z0o
 refine loop1 (λ(i:Nat) (y:Int) σ'=>y=(2*i:Nat)/\(2*i<=n+1)/\J i σ') (λi=>n-i) 0 ⟨by simp,by omega,hJb _ _ _ (hJb _ _ _ h0)⟩ ?_
 rintro i _ σ1 ⟨rfl,hi,hj⟩
 unfold z0c
 obtain ⟨hp,hq⟩:=hJ i σ1 hj
 refine ldrw hp (v:=.slice b 0 n (.op 3)) rfl ?_
 refine To.go ?_
 refine ifD (λhlt=>?_) (λhge=>?_)
 · have hlt:2*i<n:=by omega
   refine To.go ?_
   refine ldrw hq (v:=.int .i64 2) rfl ?_
   refine To.go ?_
   refine ldrw hp (v:=.slice b 0 n (.op 3)) rfl ?_
   refine And.intro ⟨rfl,show (0:Int)<=(2*i:Nat) by omega,show ((2*i:Nat):Int)<=(n:Nat) by omega,Int.le_refl _⟩ ?_
   refine To.go ?_
   show z4j (imin 2 ((((n:Nat):Int).toNat-(((2*i:Nat):Int)).toNat:Nat):Int)) _
   rw [Int.toNat_natCast,Int.toNat_natCast]
   obtain ⟨m,hm⟩:∃ m,min 2 (n-2*i)=m:=⟨_,rfl⟩
   have him:imin 2 ((n-2*i:Nat):Int)=(m:Nat):=by
    unfold imin
    split<;>omega
   rw [him]
   refine To.go ?_
   refine ldrw hp (v:=.slice b 0 n (.op 3)) rfl ?_
   refine z6 (by omega) ?_
   refine z6 (by omega) ?_
   rw [show ((2*i:Nat):Int)+(m:Nat)=((2*i+m:Nat):Int) from by omega]
   refine And.intro ⟨rfl,show (0:Int)<=(2*i:Nat) by omega,show ((2*i:Nat):Int)<=((2*i+m:Nat):Int) by omega,Int.le_refl _,show ((2*i+m:Nat):Int)<=((n:Nat):Int) by omega⟩ ?_
   have hsl:(AV.slice b (0+(orD 0 (some ((2*i:Nat):Int))).toNat*3) (((2*i+m:Nat):Int).toNat-(orD 0 (some ((2*i:Nat):Int))).toNat) ((Cap.op 3).cut true (orD 0 (some ((2*i:Nat):Int))).toNat ((2*i+m:Nat):Int).toNat))=.slice b (2*i*3) m (.ex m):=by
    show AV.slice b (0+((2*i:Nat):Int).toNat*3) (((2*i+m:Nat):Int).toNat-((2*i:Nat):Int).toNat) (.ex (((2*i+m:Nat):Int).toNat-((2*i:Nat):Int).toNat))=_
    rw [Int.toNat_natCast,Int.toNat_natCast,Nat.zero_add,show 2*i+m-2*i=m from by omega]
   rw [hsl]
   have ht:=hT i (σ1.bump 23) hlt (hJb _ _ _ hj)
   rw [hm] at ht
   refine zl6 ht ?_
   rintro _ σ2 ⟨rfl,hj2⟩
   refine To.go ?_
   refine To.go ?_
   refine To.go ?_
   obtain ⟨_,hq2⟩:=hJ _ _ hj2
   refine To.go ?_
   refine ldrw hq2 (v:=.int .i64 2) rfl ?_
   refine To.go ?_
   refine z6 (by omega) ?_
   exact again ⟨i+1,⟨by omega,by omega,hJb _ _ _ hj2⟩,by omega⟩
 · exact hK i _ (by omega) (hJb _ _ _ hj)
end Go.Vit
end
section
/- Limited codes: the next row. -/
set_option maxRecDepth 20000
namespace Go.Vit
open Go.Proofs
theorem zmF {v:AV} {K:AV->Prop} (h:K v):arg1W [v] K:=h
theorem zoz {Y:List It} {j:Nat} (h:j<Y.length) {c:Nat} (hc:c<3):(ic3 Y)[j*3+c]? = (itC Y[j])[c]? := by
 have:=z77 z6g h
 rw [<- this,List.getElem?_take_of_lt hc,List.getElem?_drop];rfl
theorem zjv:∀ {l:List Pm} {i:Nat} {a b:Pm},l[2*i]? = some a->l[2*i+1]? = some b->pks (l.take (2*(i+1)))=pks (l.take (2*i))++[.pair a b]
 | a::b::r,0,x,y,h1,h2=>by
   simp at h1 h2
   subst h1 h2
   simp [pks]
 | a::b::r,i+1,x,y,h1,h2=>by
   have e1:2*(i+1)=2*i+1+1:=by omega
   rw [e1] at h1 h2
   have ih:=zjv (l:=r) (i:=i) (a:=x) (b:=y) (by simpa using h1) (by simpa using h2)
   rw [show 2*(i+1+1)=2*(i+1)+1+1 from by omega,List.take_succ_cons,List.take_succ_cons,pks,ih,e1,List.take_succ_cons,List.take_succ_cons,pks]
   rfl
 | [],_,_,_,h,_=>by simp at h
 | [_],i,_,_,_,h=>by simp at h
theorem zmh:∀ {l:List Pm} {i:Nat},l.length=2*i+1->pks l=pks (l.take (2*i))
 | [a],0,_=>rfl
 | a::b::r,0,h=>by simp at h
 | a::b::r,i+1,h=>by
   have ih:=zmh (l:=r) (i:=i) (by simp at h;omega)
   rw [show 2*(i+1)=2*i+1+1 from by omega,List.take_succ_cons,List.take_succ_cons,pks,pks,ih]
 | [],_,h=>by simp at h
 | [a],i+1,h=>by simp at h
def okB (lb:Nat) (σ:Mem) (b:Nat):Prop:=b≠lb/\b<σ.next
theorem rep.same {lb:Nat} {σ σ':Mem} (s:σ.Same σ') {t:Pm} {x:It} (h:rep (okB lb σ) σ t x):rep (okB lb σ') σ' t x:=
 h.frame λb hb=>⟨⟨hb.1,Nat.lt_of_lt_of_le hb.2 s.next⟩,s.get b hb.2⟩
structure RowM (lb:Nat) (σ:Mem) (u:AV) (X:List It) (R:List Pm):Prop where
 own:z1Q 3 σ u (ic3 X) X.length
 ts:X.map (λx=>x.t)=R
 rep:∀ x∈X,rep (okB lb σ) σ x.t x
 lt:∀ b∈z3 u,okB lb σ b
theorem RowM.same {lb:Nat} {σ σ':Mem} {u:AV} {X:List It} {R:List Pm} (h:RowM lb σ u X R) (s:σ.Same σ'):RowM lb σ' u X R:=
 ⟨h.own.keep λb hb=>s.get b (h.lt b hb).2,h.ts,λx hx=>(h.rep x hx).same s,λb hb=>⟨(h.lt b hb).1,Nat.lt_of_lt_of_le (h.lt b hb).2 s.next⟩⟩
theorem RowM.len {lb:Nat} {σ:Mem} {u:AV} {X:List It} {R:List Pm} (h:RowM lb σ u X R):X.length=R.length:=by rw [<- h.ts,List.length_map]
def zpN (lb:Nat) (τ:Mem) (nb p q:Nat) (P:List Pm) (row:AV) (σ':Mem):Prop:=
 ∃ XN u,σ'.get nb=some (.rw [u])/\z1Q 3 σ' u (ic3 XN) XN.length/\(∀ b∈z3 u,τ.next<=b/\b<σ'.next/\b≠p/\b≠q/\b≠nb)/\XN.map (λx=>x.t)=P/\(∀ x∈XN,rep (okB lb τ) τ x.t x)/\τ.Same σ' /\
  σ'.get p=some (.rw [row])/\σ'.get q=some (.rw [.int .i64 2])/\p<σ'.next/\q<σ'.next/\nb<σ'.next
theorem zkQ {lb:Nat} {τ:Mem} {u:AV} {row:AV} {X XR:List It} {C R:List Pm} {Q:AV->Mem->Prop} {σ8:Mem} {v20 v27:Int} {k:Nat} {next:AV->Int->Mem->Prop}
 (hlb:lb<τ.next) (hX:RowM lb τ u X C) (hR:RowM lb τ row XR R) (hC1:C.length<=288) (hC0:0<C.length) (hR0:0<R.length) (hR1:R.length<=600) (hw:∀ t∈R,0<=t.wt/\t.wt<=2^50) (hk:(k:Int)<v27) (hv27:v27<=20)
 (hn:∀ u' X' σ',RowM lb σ' u' X' (isort (C++pks R))->τ.Same σ'->next u' ((k+1:Nat):Int) σ'):z3U Q u σ8 v20 v27 next row (k:Nat) τ:=by
 unfold z3U
 refine ifT hk ?_
 have hXl:=hX.len
 have hRl:=hR.len
 refine z0 (zbB (σ:=τ.bump 5) (X:=X) (hX.own.rdO.keep λ_ _=>rfl) (by omega) (by intro h;rw [h] at hXl;simp at hXl;omega)) ?_
 rintro w τ1 ⟨own1,s1⟩
 have n1:=s1.next
 simp only [Mem.next_bump] at n1
 have own1b:∀ b∈z3 w,τ.next+5<=b/\b<τ1.next:=own1.2
 replace s1:=s1.ob
 obtain ⟨nb,hnb⟩:∃ nb,τ.next+3=nb:=⟨_,rfl⟩
 rw [hnb]
 refine To.go ?_
 refine st1 gS' (by simp) own1.1.one ?_
 obtain ⟨τ2,h2⟩:∃ τ2,τ2=((τ1.put nb (some (.rw [.nils]))).put nb (some (.rw ([.nils].set 0 w)))):=⟨_,rfl⟩
 rw [<- h2]
 have s2:τ.Same τ2:=by rw [h2];repeat (with_reducible first | assumption | refine Mem.Same.put ?_ (by omega) _)
 have n2:τ2.next=τ1.next:=by rw [h2];rfl
 have e2:τ2.get nb=some (.rw [w]):=by rw [h2,gS'];rfl
 have g2:∀ b,b≠nb->τ2.get b=τ1.get b:=λb hb=>by rw [h2,Mem.get_put_ne _ hb,Mem.get_put_ne _ hb]
 clear h2
 have own2:z1Q 3 τ2 w (ic3 X) X.length:=own1.1.keep λb hb=>g2 b (by have:=own1b b hb;omega)
 obtain ⟨rb,hrow,hrb,_⟩:=hR.own.sl (by omega)
 have hrbk:=hR.lt rb (by rw [hrow];simp [z3])
 refine z0 (zh0 (σ:=τ2.bump 2) (v:=row) (by rw [hrow];rfl)) ?_
 rintro _ τ3 ⟨p,q,rfl,hp,hq,hp',hq',s3⟩
 have n3:=s3.next
 simp only [Mem.next_bump] at n3 hp' hq'
 replace s3:=s3.ob
 have hrb3:τ3.get rb=some (.rw (ic3 XR)):=by rw [s3.get rb (by have:=hrbk.2;omega),s2.get rb hrbk.2];exact hrb
 have hpq:p≠q:=by
  rintro rfl
  rw [hp] at hq
  rw [hrow] at hq
  simp at hq
 -- the pairs
 rw [hrow] at hp
 refine zj5 (b:=rb) (n:=XR.length) (J:=λi σ'=>zpN lb τ nb p q (C++pks (R.take (2*i))) (.slice rb 0 XR.length (.op 3)) σ') (by omega) ?_ ?_ ?_ ?_ ?_
 · rintro i σ' ⟨XN,u',h⟩
   exact ⟨h.2.2.2.2.2.2.1,h.2.2.2.2.2.2.2.1⟩
 · rintro i σ' m ⟨XN,u',h1,h2,h3,h4,h5,h6,h7,h8,h9,h10,h11⟩
   exact ⟨XN,u',h1,h2.keep λ_ _=>rfl,λb hb=>by have:=h3 b hb;simp only [Mem.next_bump];omega,h4,h5,h6.bump _,h7,h8,by simp only [Mem.next_bump];omega,by simp only [Mem.next_bump];omega,by simp only [Mem.next_bump];omega⟩
 · refine ⟨X,w,?_,own2.keep λb hb=>s3.get b (by have:=own1b b hb;omega),λb hb=>?_,?_,λx hx=>hX.rep x hx,s2.trans s3,hp,hq,by omega,by omega,by omega⟩
   · rw [s3.get nb (by omega)];exact e2
   · have:=own1b b hb;omega
   · rw [hX.ts];simp [pks]
 · rintro i σ' hi ⟨XN,u',h1,h2,h3,h4,h5,h6,h7,h8,h9,h10,h11⟩
   have hXNl:XN.length=C.length+i:=by
    have:=congrArg List.length h4
    rw [List.length_map,List.length_append,za2,List.length_take] at this
    omega
   have hgR:σ'.get rb=some (.rw (ic3 XR)):=(h6.get rb hrbk.2).trans hrb
   by_cases hodd:XR.length=2*i+1
   · rw [show min 2 (XR.length-2*i)=1 from by omega]
     refine zmF ?_
     refine To.go ?_
     refine zu ?_
     refine ifF (by decide) ?_
     unfold z3T
     refine ⟨rfl,XN,u',h1,h2.keep λ_ _=>rfl,λb hb=>by have:=h3 b hb;simp only [Mem.next_bump];omega,?_,h5,h6.bump _,h7,h8,by simp only [Mem.next_bump];omega,by simp only [Mem.next_bump];omega,by simp only [Mem.next_bump];omega⟩
     rw [h4,List.take_of_length_le (l:=R) (i:=2*(i+1)) (by omega),<- zmh (l:=R) (i:=i) (by omega)]
   · have hi1:2*i+1<XR.length:=by omega
     rw [show min 2 (XR.length-2*i)=2 from by omega]
     refine zmF ?_
     refine To.go ?_
     refine zu ?_
     refine ifT rfl ?_
     refine zu ?_
     refine ldrw h1 (v:=u') rfl ?_
     have hx0:2*i<XR.length:=by omega
     have w0:=(hR.rep _ (List.getElem_mem hx0)).wt
     have w1:=(hR.rep _ (List.getElem_mem hi1)).wt
     have m0:XR[2*i].t∈R:=by rw [<- hR.ts];exact List.mem_map_of_mem (List.getElem_mem hx0)
     have m1:XR[2*i+1].t∈R:=by rw [<- hR.ts];exact List.mem_map_of_mem (List.getElem_mem hi1)
     have b0:=hw _ m0
     have b1:=hw _ m1
     have g0:(ic3 XR)[2*i*3]? = some (.int .i64 XR[2*i].n):=zoz hx0 (c:=0) (by decide)
     have g1:(ic3 XR)[2*i*3+3]? = some (.int .i64 XR[2*i+1].n):=by
      rw [show 2*i*3+3=(2*i+1)*3+0 from by omega];exact zoz hi1 (c:=0) (by decide)
     refine And.intro (show (0:Int)<=0/\(0:Int)<(2:Nat) by decide) ?_
     refine To.go ?_
     refine To.go ?_
     refine ldrw (σ:=σ'.bump 22) hgR (v:=.int .i64 XR[2*i].n) g0 ?_
     refine To.go ?_
     refine And.intro (show (0:Int)<=1/\(1:Int)<(2:Nat) by decide) ?_
     refine To.go ?_
     refine To.go ?_
     refine ldrw (σ:=σ'.bump 22) hgR (v:=.int .i64 XR[2*i+1].n) g1 ?_
     refine To.go ?_
     refine z6 (by omega) ?_
     refine To.go ?_
     refine h2.rdO.len ?_
     refine And.intro ⟨rfl,rfl⟩ ?_
     refine To.go ?_
     obtain ⟨tb,htb⟩:∃ b,σ'.next+17=b:=⟨_,rfl⟩
     obtain ⟨id,hid⟩:∃ b,σ'.next+18=b:=⟨_,rfl⟩
     rw [htb,hid]
     obtain ⟨σa,ha⟩:∃ σa,σa=(σ'.bump 22).put tb (some (.rw [.int .i64 0,.int .i64 0,.nils])):=⟨_,rfl⟩
     rw [<- ha]
     have sa:σ'.Same σa:=by rw [ha];repeat (with_reducible first | exact Mem.Same.refl _ | refine Mem.Same.bump ?_ _ | refine Mem.Same.put ?_ (by omega) _)
     have na:σa.next=σ'.next+22:=by rw [ha];rfl
     have ea:σa.get tb=some (.rw [.int .i64 0,.int .i64 0,.nils]):=by rw [ha,gS']
     clear ha
     refine z1Q.append (n:=XN.length) (m:=1) (cs:=ic3 XN) (c:=ic3 [dI]) (h2.keep λb hb=>sa.get b (h3 b hb).2.1) (λK hK=>z6R ea rfl rfl K hK) (λh=>absurd h (by decide)) rfl (zdJ _) (zdJ _) (by omega) (λhb=>by have:=h3 id hb;omega) ?_
     intro u2 σb own2b nb2 gb hub
     rw [zfp] at own2b
     have hu2:∀ b∈z3 u2,τ.next<=b/\b<σb.next/\b≠p/\b≠q/\b≠nb:=λb hb=>by
      rcases hub b hb with h | h
      · have:=h3 b h;omega
      · omega
     obtain ⟨b2,rfl,hgb2,hlen2⟩:=own2b.sl (by omega)
     have hb2:=hu2 b2 (by simp [z3])
     have gb':∀ b,b<σ'.next->b ∉ z3 u'->σb.get b=σ'.get b:=λb hb hn=>by rw [gb b hn (by omega),sa.get b hb]
     have hnn:∀ b,b=nb\/b=p\/b=q\/b<τ.next->b ∉ z3 u':=λb hb hm=>by have:=h3 b hm;have:=hlb;omega
     have fb:∀ b,b=nb\/b=p\/b=q\/b<τ.next->σb.get b=σ'.get b:=λb hb=>gb' b (by have:=h6.next;omega) (hnn b hb)
     refine And.intro (show (0:Int)<=(XN.length:Nat)/\((XN.length:Nat):Int)<((XN.length+1:Nat):Int) by omega) ?_
     rw [Int.toNat_natCast,Nat.zero_add]
     -- the pair
     obtain ⟨z,hz⟩:∃ z:It,z=⟨XR[2*i].n+XR[2*i+1].n,0,.slice rb (2*i*3) 2 (.ex 2),rfl,.pair XR[2*i].t XR[2*i+1].t⟩:=⟨_,rfl⟩
     have hzc:(AV.agg (setAt [.int .i64 (XR[2*i].n+XR[2*i+1].n),.int .i64 0,.nils] 2 (AV.slice rb (2*i*3) 2 (.ex 2)).cells))=.agg (itC z):=by rw [hz];rfl
     rw [hzc]
     have hzr:rep (okB lb τ) τ z.t z:=by
      rw [hz]
      refine ⟨?_,rb,2*i,.ex 2,XR,XR[2*i],XR[2*i+1],rfl,hrbk,hrb,by rw [List.getElem?_eq_getElem hx0],by rw [List.getElem?_eq_getElem hi1],hR.rep _ (List.getElem_mem hx0),hR.rep _ (List.getElem_mem hi1)⟩
      show XR[2*i].n+XR[2*i+1].n=_
      rw [w0,w1]
     have hzt:z.t=.pair XR[2*i].t XR[2*i+1].t:=by rw [hz]
     have hset:setAt (ic3 (XN++[dI])) (XN.length*3) (itC z)=ic3 (XN++[z]):=by
      unfold ic3
      rw [zgg z6g _ _ _ (by simp)]
      congr 1
      rw [List.set_append_right _ _ (Nat.le_refl _),Nat.sub_self];rfl
     have fin:∀ σf:Mem,σf.next=σb.next->σf.get nb=some (.rw [.slice b2 0 (XN.length+1) (.op 3)])->σf.get b2=some (.rw (ic3 (XN++[z])))->(∀ b,b≠nb->b≠b2->σf.get b=σb.get b)->z5O (z3T λv σ''=>v=.bool true/\zpN lb τ nb p q (C++pks (R.take (2*(i+1)))) (.slice rb 0 XR.length (.op 3)) σ'') σf:=by
      intro σf nf f1 f2 f3
      unfold z5O z3T
      have same:∀ b,b=p\/b=q\/b<τ.next->σf.get b=σ'.get b:=λb hb=>by rw [f3 b (by omega) (by omega),fb b (by omega)]
      refine ⟨rfl,XN++[z],.slice b2 0 (XN.length+1) (.op 3),f1,?_,?_,?_,?_,⟨?_,λb hb=>?_⟩,?_,?_,by omega,by omega,by omega⟩
      · rw [show (XN++[z]).length=XN.length+1 from by simp]
        exact .inr ⟨b2,rfl,f2,by rw [z7y];simp⟩
      · intro b hb
        simp only [z3,List.mem_singleton] at hb
        omega
      · rw [List.map_append,h4,List.append_assoc]
        congr 1
        have e0:R[2*i]? = some XR[2*i].t:=by rw [<- hR.ts,List.getElem?_map,List.getElem?_eq_getElem hx0];rfl
        have e1:R[2*i+1]? = some XR[2*i+1].t:=by rw [<- hR.ts,List.getElem?_map,List.getElem?_eq_getElem hi1];rfl
        rw [zjv e0 e1]
        simp [hzt]
      · intro x hx
        rcases List.mem_append.1 hx with hx | hx
        · exact h5 x hx
        · rw [List.mem_singleton] at hx;subst hx;exact hzr
      · have:=h6.next;omega
      · rw [same b (by omega)];exact h6.get b hb
      · rw [same p (by omega)];exact h7
      · rw [same q (by omega)];exact h8
     have hnb':σb.get nb=some (.rw [u']):=(fb nb (by omega)).trans h1
     refine ⟨?_,?_⟩
     · refine stn hgb2 (by rw [z7y];simp;omega) (z6g z) (zah z) ?_
       rw [hset]
       refine st1 (by rw [Mem.get_put_ne _ (by omega)];exact hnb') (by simp) rfl ?_
       refine fin _ rfl (by rw [gS'];rfl) (by rw [Mem.get_put_ne _ (by omega),gS']) λb h h'=>by rw [Mem.get_put_ne _ h,Mem.get_put_ne _ h']
     · refine st1 hnb' (by simp) rfl ?_
       refine stn (by rw [Mem.get_put_ne _ (by omega)];exact hgb2) (by rw [z7y];simp;omega) (z6g z) (zah z) ?_
       rw [hset]
       refine fin _ rfl (by rw [Mem.get_put_ne _ (by omega),gS'];rfl) gS' λb h h'=>by rw [Mem.get_put_ne _ h',Mem.get_put_ne _ h]
 · rintro i σ' hi ⟨XN,u',h1,h2,h3,h4,h5,h6,h7,h8,h9,h10,h11⟩
   rw [List.take_of_length_le (by omega)] at h4
   have hXNl:XN.length=C.length+R.length / 2:=by
    have:=congrArg List.length h4
    rw [List.length_map,List.length_append,za2] at this
    omega
   refine ldrw h1 (v:=u') rfl ?_
   obtain ⟨b2,rfl,hgb2,_⟩:=h2.sl (by omega)
   have hb2:=h3 b2 (by simp [z3])
   refine z0 (I3.slices_SortStable (σ:=σ'.bump 2) (X:=XN) (b:=b2) (c:=.op 3) (key:=λx=>x.n) (S:=λ_=>True) (cmp:=.func z3l []) hgb2 (by simp only [Mem.next_bump];omega) rfl (by omega) (λ_ _=>trivial) zhi) ?_
   rintro _ σs ⟨C',sC,oC,ar⟩
   have ns:=ar.1.next
   simp only [Mem.next_bump] at ns
   refine ldrw (σ:=σs.bump 2) (o:=0) (l:=[.slice b2 0 XN.length (.op 3)]) ((ar.1.get nb (by simp only [Mem.next_bump];omega) (by simp;omega)).trans h1) (v:=.slice b2 0 XN.length (.op 3)) rfl ?_
   refine z6 (by omega) ?_
   have sτ:τ.Same σs:=by
    have:=h6.next
    exact ⟨by omega,λb hb=>by rw [ar.1.get b (by simp only [Mem.next_bump];omega) (by simp;omega)];exact h6.get b hb⟩
   have hwt:∀ x∈XN,x.t.wt=x.n:=λx hx=>(h5 x hx).wt.symm
   have hl':C'.length=XN.length:=sC.1
   refine hn _ C' _ ?_ (sτ.bump _)
   refine RowM.same (σ:=σs) ?_ ((Mem.Same.refl σs).bump _)
   refine ⟨?_,?_,λx hx=>?_,λb hb=>?_⟩
   · rw [<- hl']
     exact .inr ⟨b2,rfl,ar.2,by rw [z7y]⟩
   · refine zgi ?_ ?_
     · rw [<- h4];exact sC.map hwt
     · exact oC.map λx hx=>hwt x ((sC.mem x).1 hx)
   · exact (h5 x ((sC.mem x).1 hx)).same sτ
   · simp only [z3,List.mem_singleton] at hb
     subst hb
     exact ⟨by omega,by omega⟩
end Go.Vit
end
