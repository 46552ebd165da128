/- The library. -/
import Derived.Test.YtloeboiajgfigaaGreatV7O
import Derived.Test.YtloeboiajgfigaaGreatVm3
set_option linter.unusedVariables false
set_option linter.unusedSimpArgs false
section
/- The document's rows: coins and pairs are merged. -/
set_option maxRecDepth 20000
namespace Go.Vit
open Go.Proofs
structure Th where
 n:Int
 c:Bool
 v:AV
 one:v.one=true
 t:Pm
def thC (x:Th):List AV:=[.int .i64 x.n,.bool x.c,x.v]
theorem zdS (x:Th):(thC x).length=3:=rfl
theorem zmV (x:Th):(thC x).all AV.one=true:=by
 unfold thC
 simp only [List.all_cons,List.all_nil,x.one,Bool.and_true];rfl
def th3 (X:List Th):List AV:=X.flatMap thC
theorem zjw (X:List Th):(th3 X).length=X.length*3:=z5E zdS X
theorem z7t (X:List Th):(th3 X).all AV.one=true:=by
 unfold th3
 rw [List.all_flatMap]
 exact List.all_eq_true.2 λx _=>zmV x
theorem z9l (X Y:List Th):th3 X++th3 Y=th3 (X++Y):=by unfold th3;rw [List.flatMap_append]
theorem zoZ (X:List Th) (n:Nat):(th3 X).take (n*3)=th3 (X.take n):=zjf zdS X n
theorem zpk (X:List Th) (n:Nat):(th3 X).drop (n*3)=th3 (X.drop n):=zeL zdS X n
theorem z0g.rdT {σ σ':Mem} {v:AV} {X:List Th} (h:z0g 3 σ v (th3 X) X.length) (hb:∀ b∈z3 v,σ'.get b=σ.get b) {i:Nat} (hi:i<X.length) {j:Int} (hj:j=(i:Nat)) {K:AV->Prop} (hk:K (.agg (thC X[i]))):zd 3 v j λp=>z3n 3 σ' p K:=by
 subst hj
 obtain ⟨b,rfl,hg,_⟩:=h.sl (by omega)
 refine And.intro (show (0:Int)<=(i:Nat)/\((i:Nat):Int)<(X.length:Nat) by omega) ?_
 rw [Int.toNat_natCast,Nat.zero_add]
 refine ldnq ((hb b (by simp [z3])).trans hg) rfl (by rw [zjw];omega) ?_
 unfold th3;rw [z4c zdS hi];exact hk
theorem z0g.fldT {σ σ':Mem} {v:AV} {X:List Th} (h:z0g 3 σ v (th3 X) X.length) (hb:∀ b∈z3 v,σ'.get b=σ.get b) {i k:Nat} (hi:i<X.length) (hk3:k<3) {j:Int} (hj:j=(i:Nat)) {x:AV} (hx:(thC X[i])[k]? = some x) {K:AV->Prop} (hk:K x):zd 3 v j λp=>z2H k p λq=>ldW σ' q K:=by
 subst hj
 obtain ⟨b,rfl,hg,_⟩:=h.sl (by omega)
 refine And.intro (show (0:Int)<=(i:Nat)/\((i:Nat):Int)<(X.length:Nat) by omega) ?_
 rw [Int.toNat_natCast,Nat.zero_add]
 show ldW σ' (.ptr b (i*3+k)) K
 refine ldq ((hb b (by simp [z3])).trans hg) ?_ hk
 show (th3 X)[i*3+k]? = _
 unfold th3
 rw [zhz zdS hi hk3]
 exact hx
theorem z0g.fldN {σ σ':Mem} {v:AV} {X:List Th} (h:z0g 3 σ v (th3 X) X.length) (hb:∀ b∈z3 v,σ'.get b=σ.get b) {i:Nat} (hi:i<X.length) {j:Int} (hj:j=(i:Nat)) {K:Int->Prop} (hk:K X[i].n):zd 3 v j λp=>z2H 0 p λq=>ldI σ' q K:=
 h.fldT (k:=0) hb hi (by decide) hj (x:=.int .i64 X[i].n) rfl (K:=λa=>zB .i64 a K) hk
def zg2:List Th->List Th->List Th
 | [],P=>P
 | C,[]=>C
 | a::C,b::P=>if a.n<=b.n then a::zg2 C (b::P) else b::zg2 (a::C) P
termination_by C P=>C.length+P.length
theorem zdR (P:List Th):zg2 [] P=P:=by unfold zg2;rfl
theorem ze7 (C:List Th):zg2 C []=C:=by cases C<;>(unfold zg2;rfl)
theorem zf5 (a b:Th) (C P:List Th):zg2 (a::C) (b::P)=if a.n<=b.n then a::zg2 C (b::P) else b::zg2 (a::C) P:=by
 rw [zg2]
theorem zh2:∀ (N:Nat) (C P:List Th),C.length+P.length<=N->(∀ x∈C,x.n=x.t.wt)->(∀ x∈P,x.n=x.t.wt)->(zg2 C P).map (λx=>x.t)=mrg (C.map λx=>x.t) (P.map λx=>x.t)/\(∀ x,x∈zg2 C P↔x∈C\/x∈P)/\(zg2 C P).length=C.length+P.length
 | _,[],P,_,_,_=>by rw [zdR,List.map_nil,zk6];exact ⟨rfl,by simp,by simp⟩
 | _,a::C,[],_,_,_=>by rw [ze7,List.map_nil,zhh];exact ⟨rfl,by simp,by simp⟩
 | 0,a::C,b::P,h,_,_=>by simp at h
 | N+1,a::C,b::P,h,h1,h2=>by
   simp only [List.length_cons] at h
   have ha:=h1 a (by simp)
   have hb:=h2 b (by simp)
   rw [zf5,List.map_cons,List.map_cons,zhb,ha,hb]
   split
   · obtain ⟨e1,e2,e3⟩:=zh2 N C (b::P) (by simp only [List.length_cons];omega) (λx hx=>h1 x (by simp [hx])) h2
     refine ⟨by rw [List.map_cons,e1,List.map_cons],λx=>?_,by rw [List.length_cons,e3];simp only [List.length_cons];omega⟩
     rw [List.mem_cons,e2,List.mem_cons (l:=C),or_assoc]
   · obtain ⟨e1,e2,e3⟩:=zh2 N (a::C) P (by simp only [List.length_cons];omega) h1 (λx hx=>h2 x (by simp [hx]))
     refine ⟨by rw [List.map_cons,e1,List.map_cons],λx=>?_,by rw [List.length_cons,e3];simp only [List.length_cons];omega⟩
     rw [List.mem_cons,e2,List.mem_cons (l:=P)]
     constructor
     · rintro (h | h | h)
       · exact .inr (.inl h)
       · exact .inl h
       · exact .inr (.inr h)
     · rintro (h | h | h)
       · exact .inr (.inl h)
       · exact .inl h
       · exact .inr (.inr h)
theorem znt {a b:AV} {X Y:List Th} {σ:Mem} (ha:z0g 3 σ a (th3 X) X.length) (hb:z0g 3 σ b (th3 Y) Y.length) (hX:X.length<=2^30) (hY:Y.length<=2^30) :
 z1 PG zag [a,b] σ λv σ'=>Own 3 σ σ' v (th3 (zg2 X Y)) (zg2 X Y).length/\σ.Same σ':=by
 refine zix λlive=>?_
 unfold zfg
 have hla:=ha.lt live
 have hlb:=hb.lt live
 have fa:∀ {σ':Mem},σ.Same σ'->∀ x∈z3 a,σ'.get x=σ.get x:=λs x hx=>s.get x (hla x hx)
 have fb:∀ {σ':Mem},σ.Same σ'->∀ x∈z3 b,σ'.get x=σ.get x:=λs x hx=>s.get x (hlb x hx)
 refine loop3 (λ(p:Nat×Nat) (u:AV) (x y:Int) σ'=>x=(p.1:Nat)/\y=(p.2:Nat)/\p.1<=X.length/\p.2<=Y.length/\σ.Same σ'/\∃ Z,Own 3 σ σ' u (th3 Z) Z.length/\Z.length=p.1+p.2/\Z++zg2 (X.drop p.1) (Y.drop p.2)=zg2 X Y) (λp=>X.length-p.1+(Y.length-p.2)) (0,0) ⟨rfl,rfl,by dsimp only;omega,by dsimp only;omega,(Mem.Same.refl σ).bump _,[],Own.nil 3 _ _,rfl,rfl⟩ ?_
 rintro ⟨i,k⟩ u _ _ σ1 ⟨rfl,rfl,hi,hk,s1,Z,own,hZ,hm⟩
 unfold z9y
 dsimp only at hi hk hZ hm ⊢
 obtain ⟨Rj,hRj⟩:∃ Rj:AV->Int->Int->Mem->Prop,Rj=λu' (x y:Int) σ'=>Again (∃ j:Nat×Nat,(x=((j.1:Nat):Int)/\y=((j.2:Nat):Int)/\j.1<=X.length/\j.2<=Y.length/\σ.Same σ'/\∃ Z,Own 3 σ σ' u' (th3 Z) Z.length/\Z.length=j.1+j.2/\Z++zg2 (X.drop j.1) (Y.drop j.2)=zg2 X Y)/\X.length-j.1+(Y.length-j.2)<X.length-i+(Y.length-k)):=⟨_,rfl⟩
 have push:∀ (z:Th) (K:AV->Mem->Prop),(∀ u' σ',Own 3 σ σ' u' (th3 (Z++[z])) (Z++[z]).length->σ.Same σ'->K u' σ')->za (.agg (thC z)) 3 (zH (σ1.bump 41) (σ1.next+38) (.rw (setAt [.int .i64 0,.bool false,.nils] 0 (AV.agg (thC z)).cells)) λσ14=>apW 3 40 (σ1.next+39) σ14 u (.slice (σ1.next+38) 0 1 (.ex 1)) K):=by
  intro z K hK
  refine z5v rfl (zmV z) ?_
  refine To.go ?_
  refine Own.push (m:=1) (c:=th3 [z]) own s1 rfl (by omega) (by omega) (by omega) rfl (z7t _) (z7t _) (by omega) ?_ (by simp only [Mem.next_put,Mem.next_bump];omega)
  intro u' σ6 own6 s6 _ _ _
  rw [z9l] at own6
  refine hK u' σ6 ?_ s6
  rw [List.length_append]
  exact own6
 have coin:∀ (h:i<X.length),(k<Y.length->∀ h':k<Y.length,X[i].n<=Y[k].n)->zd 3 a (i:Nat) λv=>z3n 3 (σ1.bump 41) v λv=>za v 3 (zH (σ1.bump 41) (σ1.next+38) (.rw (setAt [.int .i64 0,.bool false,.nils] 0 v.cells)) λσ14=>apW 3 40 (σ1.next+39) σ14 u (.slice (σ1.next+38) 0 1 (.ex 1)) λv15 σ16=>iW ((i:Nat)+1) λv17=>Rj v15 v17 (k:Nat) (σ16.bump 3)):=by
  intro h hle
  refine ha.rdT (i:=i) (fa (s1.bump _)) h rfl ?_
  refine push X[i] _ ?_
  intro u' σ' own' s'
  refine z5 (by omega) ?_
  rw [hRj]
  refine again ⟨(i+1,k),⟨rfl,rfl,by dsimp only;omega,hk,s'.bump _,Z++[X[i]],own'.same ((Mem.Same.refl σ').bump _),by simp only [List.length_append,List.length_cons,List.length_nil];omega,?_⟩,by dsimp only;omega⟩
  dsimp only
  rw [<- hm,List.append_assoc,List.singleton_append]
  congr 1
  rw [List.drop_eq_getElem_cons h]
  by_cases hkY:k<Y.length
  · rw [List.drop_eq_getElem_cons hkY,zf5,if_pos (hle hkY hkY)]
  · rw [List.drop_of_length_le (by omega:Y.length<=k),ze7,ze7]
 have pair:∀ (h:k<Y.length),(i<X.length->∀ h':i<X.length,¬ X[i].n<=Y[k].n)->zd 3 b (k:Nat) λv=>z3n 3 (σ1.bump 41) v λv=>za v 3 (zH (σ1.bump 41) (σ1.next+38) (.rw (setAt [.int .i64 0,.bool false,.nils] 0 v.cells)) λσ14=>apW 3 40 (σ1.next+39) σ14 u (.slice (σ1.next+38) 0 1 (.ex 1)) λv15 σ16=>iW ((k:Nat)+1) λv17=>Rj v15 (i:Nat) v17 (σ16.bump 3)):=by
  intro h hle
  refine hb.rdT (i:=k) (fb (s1.bump _)) h rfl ?_
  refine push Y[k] _ ?_
  intro u' σ' own' s'
  refine z5 (by omega) ?_
  rw [hRj]
  refine again ⟨(i,k+1),⟨rfl,rfl,hi,by dsimp only;omega,s'.bump _,Z++[Y[k]],own'.same ((Mem.Same.refl σ').bump _),by simp only [List.length_append,List.length_cons,List.length_nil];omega,?_⟩,by dsimp only;omega⟩
  dsimp only
  rw [<- hm,List.append_assoc,List.singleton_append]
  congr 1
  rw [List.drop_eq_getElem_cons h]
  by_cases hiX:i<X.length
  · rw [List.drop_eq_getElem_cons hiX,zf5,if_neg (hle hiX hiX)]
  · rw [List.drop_of_length_le (by omega:X.length<=i),zdR,zdR]
 rw [hRj] at coin pair
 refine (ha.keep (fa s1)).rdO.len ?_
 refine ifD (λh1=>?_) (λh1=>?_)
 · refine (hb.keep (fb s1)).rdO.len ?_
   refine ifD (λh2=>?_) (λh2=>?_)
   · refine zN ?_
     exact coin (by omega) (λh=>by omega)
   · refine (ha.keep (fa s1)).rdO.len ?_
     refine ifT h1 ?_
     refine ha.fldN (i:=i) (fa (s1.bump _)) (by omega) rfl ?_
     refine hb.fldN (i:=k) (fb (s1.bump _)) (by omega) rfl ?_
     refine zN ?_
     refine ifD (λh3=>?_) (λh3=>?_)
     · exact coin (by omega) (λ_ _=>h3)
     · exact pair (by omega) (λ_ _=>h3)
 · refine (hb.keep (fb s1)).rdO.len ?_
   refine ifD (λh2=>?_) (λh2=>?_)
   · refine (hb.keep (fb s1)).rdO.len ?_
     refine ifF (by omega) ?_
     refine (ha.keep (fa s1)).rdO.len ?_
     refine ifF h1 ?_
     refine zN ?_
     exact pair (by omega) (λh=>by omega)
   · obtain rfl:i=X.length:=by omega
     obtain rfl:k=Y.length:=by omega
     rw [List.drop_length,List.drop_length,zdR,List.append_nil] at hm
     rw [<- hm]
     exact ⟨own.same ((Mem.Same.refl σ1).bump _),s1.bump _⟩
end Go.Vit
end
section
/- Things of the document, and rows of them. -/
set_option maxRecDepth 20000
namespace Go.Vit
open Go.Proofs
def tms (m:Nat) (t:Pm):List Int:=arr (λi=>((t.cnt i:Nat):Int)) m
def zro (lb m:Nat) (σ:Mem) (x:Th):Prop:=x.n=x.t.wt/\∃ b,x.v=.slice b 0 m (.ex m)/\b≠lb/\b<σ.next/\σ.get b=some (.rw (ic (tms m x.t)))
structure RowT (lb m:Nat) (σ:Mem) (u:AV) (X:List Th) (R:List Pm):Prop where
 own:z0g 3 σ u (th3 X) X.length
 ts:X.map (λx=>x.t)=R
 rep:∀ x∈X,zro lb m σ x
 lt:∀ b∈z3 u,b<σ.next/\b≠lb
theorem zro.frame {lb m:Nat} {σ σ':Mem} {x:Th} (h:zro lb m σ x) (hn:σ.next<=σ'.next) (hg:∀ b,b<σ.next->b≠lb->σ'.get b=σ.get b):zro lb m σ' x:=by
 obtain ⟨h1,b,h2,h3,h4,h5⟩:=h
 exact ⟨h1,b,h2,h3,by omega,(hg b h4 h3).trans h5⟩
theorem RowT.frame {lb m:Nat} {σ σ':Mem} {u:AV} {X:List Th} {R:List Pm} (h:RowT lb m σ u X R) (hn:σ.next<=σ'.next) (hg:∀ b,b<σ.next->b≠lb->σ'.get b=σ.get b):RowT lb m σ' u X R:=
 ⟨h.own.keep λb hb=>hg b (h.lt b hb).1 (h.lt b hb).2,h.ts,λx hx=>(h.rep x hx).frame hn hg,λb hb=>⟨Nat.lt_of_lt_of_le (h.lt b hb).1 hn,(h.lt b hb).2⟩⟩
theorem RowT.same {lb m:Nat} {σ σ':Mem} {u:AV} {X:List Th} {R:List Pm} (h:RowT lb m σ u X R) (s:σ.Same σ'):RowT lb m σ' u X R:=h.frame s.next λb hb _=>s.get b hb
theorem RowT.len {lb m:Nat} {σ:Mem} {u:AV} {X:List Th} {R:List Pm} (h:RowT lb m σ u X R):X.length=R.length:=by rw [<- h.ts,List.length_map]
theorem RowT.nil (lb m:Nat) (σ:Mem):RowT lb m σ .nils [] []:=⟨.nil 3 σ,rfl,λx hx=>by simp at hx,λb hb=>by simp [z3] at hb⟩
theorem z0g.front {k n m:Nat} {σ:Mem} {v:AV} {cs:List AV} (h:z0g k σ v cs n) (hm:m<=n) {K:AV->Prop} (hk0:k≠0) (hk:∀ w,RdO k σ w (cs.take (m*k)) m->K w):zbQ k v none (some (m:Nat)) K:=by
 rcases h with ⟨rfl,rfl,rfl⟩ | ⟨b,rfl,hg,hl⟩
 · obtain rfl:m=0:=by omega
   refine And.intro (show (0:Int)<=0/\(0:Int)<=((0:Nat):Int)/\((0:Nat):Int)<=((0:Nat):Int) by decide) ?_
   exact hk _ (.inl ⟨rfl,rfl,by simp⟩)
 · refine And.intro ⟨by simp [Cap.fits],Int.le_refl _,show (0:Int)<=((m:Nat):Int) by omega,show ((m:Nat):Int)<=((n:Nat):Int) by omega⟩ ?_
   show K (.slice b (0+(0:Int).toNat*k) (((m:Nat):Int).toNat-(0:Int).toNat) _)
   rw [Int.toNat_natCast,Int.toNat_zero,Nat.zero_mul,Nat.sub_zero]
   have:m*k<=n*k:=Nat.mul_le_mul_right k hm
   exact hk _ (.inr ⟨b,0,_,rfl,by rw [List.length_take];omega,_,cs,hg,rfl,by rw [List.drop_zero],by omega⟩)
theorem z0g.back {k n m:Nat} {σ:Mem} {v:AV} {cs:List AV} (h:z0g k σ v cs n) (hm:m<=n) {K:AV->Prop} (hk0:k≠0) (hk:∀ w,RdO k σ w (cs.drop (m*k)) (n-m)->K w):zbQ k v (some (m:Nat)) none K:=by
 rcases h with ⟨rfl,rfl,rfl⟩ | ⟨b,rfl,hg,hl⟩
 · obtain rfl:m=0:=by omega
   refine And.intro (show (0:Int)<=((0:Nat):Int)/\((0:Nat):Int)<=((0:Nat):Int)/\((0:Nat):Int)<=((0:Nat):Int) by decide) ?_
   exact hk _ (.inl ⟨rfl,rfl,by simp⟩)
 · refine And.intro ⟨by simp [Cap.fits],show (0:Int)<=((m:Nat):Int) by omega,show ((m:Nat):Int)<=((n:Nat):Int) by omega,show ((n:Nat):Int)<=((n:Nat):Int) by omega⟩ ?_
   show K (.slice b (0+((m:Nat):Int).toNat*k) (((n:Nat):Int).toNat-((m:Nat):Int).toNat) _)
   rw [Int.toNat_natCast,Int.toNat_natCast,Nat.zero_add]
   have:m*k<=n*k:=Nat.mul_le_mul_right k hm
   have e:(n-m)*k=n*k-m*k:=Nat.sub_mul n m k
   refine hk _ (.inr ⟨b,m*k,_,rfl,by rw [List.length_drop];omega,_,cs,hg,rfl,?_,by omega⟩)
   rw [List.take_of_length_le (by rw [List.length_drop];omega)]
theorem zni {x:Pm}:∀ {l:List Pm} {p:Nat},p<=l.length->(∀ j y,j<p->l[j]? = some y->y.wt<=x.wt)->(∀ y,l[p]? = some y->¬ y.wt<=x.wt)->zgr x l=l.take p++x::l.drop p
 | [],p,h,_,_=>by simp at h;subst h;rfl
 | y::l,0,_,_,h2=>by
   unfold zgr
   rw [if_neg (h2 y rfl)];rfl
 | y::l,p+1,h,h1,h2=>by
   unfold zgr
   rw [if_pos (h1 0 y (by omega) rfl),zni (l:=l) (p:=p) (by simpa using h) (λj z hj hz=>h1 (j+1) z (by omega) (by simpa using hz)) (λz hz=>h2 z (by simpa using hz))]
   rfl
theorem zoY {n:Int} {i m:Nat} (hi:i<m):(arr (λ_=>0) m).set i 1=tms m (.coin n i):=by
 unfold tms
 refine List.ext_getElem (by rw [List.length_set,zy,zy]) λj h1 h2=>?_
 rw [List.getElem_set]
 simp only [arr,List.getElem_map,List.getElem_range,Pm.cnt]
 split<;>rfl
theorem zjG {m i:Nat} (t:Pm) (h:i<m):(tms m t)[i]? = some ((t.cnt i:Nat):Int):=by
 unfold tms arr
 rw [List.getElem?_map,List.getElem?_range h];rfl
def zod (f g:Nat->Int) (s m:Nat):List Int:=arr (λi=>if i<s then f i else g i) m
theorem ziT (f g:Nat->Int) (m:Nat):zod f g 0 m=arr g m:=zT λj _=>if_neg (by omega)
theorem zkU (f g:Nat->Int) (m:Nat):zod f g m m=arr f m:=zT λj hj=>if_pos hj
theorem zdH (f g:Nat->Int) (s m:Nat):(zod f g s m).length=m:=zy _ _
theorem zl8 {f g:Nat->Int} {s m:Nat}:(zod f g s m).set s (f s)=zod f g (s+1) m:=by
 refine List.ext_getElem (by rw [List.length_set,zdH,zdH]) λj h1 h2=>?_
 rw [List.getElem_set]
 unfold zod
 simp only [arr,List.getElem_map,List.getElem_range]
 by_cases e:s=j
 · subst e;rw [if_pos rfl,if_pos (by omega)]
 · rw [if_neg e]
   by_cases h:j<s
   · rw [if_pos h,if_pos (by omega)]
   · rw [if_neg h,if_neg (by omega)]
theorem zp5 {f g:Nat->Int} {s m i:Nat} (h:i<m) (hs:s<=i):(zod f g s m)[i]? = some (g i):=by
 unfold zod arr
 rw [List.getElem?_map,List.getElem?_range h]
 show some (if i<s then f i else g i)=_
 rw [if_neg (by omega)]
theorem zog {σ σ':Mem} {b n i:Nat} {c:Cap} {L:List Int} (hg:σ.get b=some (.rw (ic L))) (hb:σ'.get b=σ.get b) (hi:i<n) {x:Int} (hx:L[i]? = some x) {j:Int} (hj:j=(i:Nat)) {K:Int->Prop} (hk:K x):zd 1 (.slice b 0 n c) j λp=>ldI σ' p K:=by
 subst hj
 refine And.intro (show (0:Int)<=(i:Nat)/\((i:Nat):Int)<(n:Nat) by omega) ?_
 rw [Int.toNat_natCast,Nat.zero_add,Nat.mul_one]
 refine ldq (σ:=σ') (K:=λa=>zB .i64 a K) (hb.trans hg) (v:=.int .i64 x) ?_ hk
 show (ic L)[i]? = _
 have h:=(List.getElem?_eq_some_iff.1 hx).1
 rw [zgz h]
 rw [List.getElem?_eq_getElem h] at hx
 injection hx with hx
 rw [hx]
end Go.Vit
end
section
/- The document's next row. -/
set_option maxRecDepth 20000
namespace Go.Vit
open Go.Proofs
theorem zlD {a row coins:AV} {lb m:Nat} {L:List Int} {σ:Mem} {XC XR:List Th} {C R:List Pm} {k:Nat} {next66:AV->Int->Mem->Prop}
 (ha:RdO 1 σ a (ic L) L.length) (hla:∀ b∈z3 a,b<σ.next) (hm:L.length=m) (hm2:m<=2^20) (hlb:lb<σ.next)
 (hC:RowT lb m σ coins XC C) (hR:RowT lb m σ row XR R) (hCl:C.length<=1000) (hRl:R.length<=1000) (hk:k<=100)
 (hw:∀ t∈R,(0<=t.wt/\t.wt<=2^60)/\t.sz<=2^20)
 (hnext:∀ u X' σ',RowT lb m σ' u X' (mrg C (pks R))->σ.Same σ'->next66 u ((k+1:Nat):Int) σ') :
 zf [.v,tI] (z4J a coins next66 row (k:Nat)) .nils 0 σ:=by
 have hXR:=hR.len
 have hXC:=hC.len
 have hpl:=z8W R
 refine loop2 (λ(p:Nat) (u:AV) (y:Int) σ'=>y=((2*p:Nat):Int)/\2*p<=R.length/\σ.Same σ'/\(∀ b∈z3 u,σ.next<=b)/\∃ X,RowT lb m σ' u X ((pks R).take p)) (λp=>R.length-p) 0 ⟨rfl,by omega,Mem.Same.refl σ,λb hb=>by simp [z3] at hb,[],by rw [List.take_zero];exact RowT.nil _ _ _⟩ ?_
 rintro p u _ σ1 ⟨rfl,hp,s1,hub,X,hu⟩
 unfold z4J
 have n1:=s1.next
 have hXl:=hu.len
 rw [List.length_take] at hXl
 refine z5 (by omega) ?_
 have hR1:=hR.same s1
 refine hR1.own.rdO.len ?_
 refine ifD (λhlt=>?_) (λhge=>?_)
 · have h1:2*p<XR.length:=by omega
   have h2:2*p+1<XR.length:=by omega
   have r1:=hR1.rep XR[2*p] (List.getElem_mem h1)
   have r2:=hR1.rep XR[2*p+1] (List.getElem_mem h2)
   have w1:=hw XR[2*p].t (by rw [<- hR.ts];exact List.mem_map_of_mem (List.getElem_mem h1))
   have w2:=hw XR[2*p+1].t (by rw [<- hR.ts];exact List.mem_map_of_mem (List.getElem_mem h2))
   have c1:=λi=>zg0 i XR[2*p].t
   have c2:=λi=>zg0 i XR[2*p+1].t
   obtain ⟨r1n,b1,r1v,r1l,r1b,r1g⟩:=r1
   obtain ⟨r2n,b2,r2v,r2l,r2b,r2g⟩:=r2
   have e1:R[2*p]? = some XR[2*p].t:=by rw [<- hR.ts,List.getElem?_map,List.getElem?_eq_getElem h1];rfl
   have e2:R[2*p+1]? = some XR[2*p+1].t:=by rw [<- hR.ts,List.getElem?_map,List.getElem?_eq_getElem h2];rfl
   obtain ⟨x1,hx1⟩:∃ x,XR[2*p]=x:=⟨_,rfl⟩
   obtain ⟨x2,hx2⟩:∃ x,XR[2*p+1]=x:=⟨_,rfl⟩
   rw [hx1] at r1n r1v r1g w1 c1 e1
   rw [hx2] at r2n r2v r2g w2 c2 e2
   refine hR1.own.fldN (σ':=σ1.bump 23) (λ_ _=>rfl) h1 (by omega) ?_
   refine z5 (by omega) ?_
   refine hR1.own.fldN (σ':=σ1.bump 23) (λ_ _=>rfl) h2 (by omega) ?_
   rw [hx1,hx2,r1n,r2n]
   refine z5 (by omega) ?_
   have ha1:=ha.keep (σ':=σ1) λb hb=>s1.get b (hla b hb)
   refine ha1.len ?_
   rw [hm]
   refine And.intro (by omega) ?_
   rw [Int.toNat_natCast,z5y]
   refine To.go ?_
   refine To.go ?_
   refine stn gS' (by simp) rfl rfl ?_
   obtain ⟨tb,htb⟩:∃ tb,σ1.next+19=tb:=⟨_,rfl⟩
   obtain ⟨cb,hcb⟩:∃ cb,σ1.next+21=cb:=⟨_,rfl⟩
   rw [htb,hcb]
   obtain ⟨σ2,h2'⟩:∃ σ2,σ2=((((σ1.bump 23).put tb (some (.rw (ic (arr (λ_=>0) m))))).put cb (some (.rw [.int .i64 0,.bool false,.nils]))).put cb (some (.rw (setAt [.int .i64 0,.bool false,.nils] 0 [.int .i64 (x1.t.wt+x2.t.wt),.bool false,.slice tb 0 m (.ex m)])))).bump 1:=⟨_,rfl⟩
   rw [<- h2']
   have s2:σ1.Same σ2:=by rw [h2'];repeat (with_reducible first | exact Mem.Same.refl _ | refine Mem.Same.bump ?_ _ | refine Mem.Same.put ?_ (by omega) _)
   have n2:σ2.next=σ1.next+24:=by rw [h2'];rfl
   have gt:σ2.get tb=some (.rw (ic (arr (λ_=>0) m))):=by rw [h2'];exact gB (gN (by omega) (gN (by omega) gS'))
   have gc:σ2.get cb=some (.rw [.int .i64 (x1.t.wt+x2.t.wt),.bool false,.slice tb 0 m (.ex m)]):=by rw [h2'];exact gB gS'
   clear h2'
   refine loop1 (λ(s:Nat) (y:Int) σ'=>y=s/\s<=m/\σ1.Same σ'/\σ2.next<=σ'.next/\σ'.get tb=some (.rw (ic (zod (λi=>(((Pm.pair x1.t x2.t).cnt i:Nat):Int)) (λ_=>0) s m)))/\σ'.get cb=some (.rw [.int .i64 (x1.t.wt+x2.t.wt),.bool false,.slice tb 0 m (.ex m)])) (λs=>m-s) 0 ⟨rfl,by omega,s2,Nat.le_refl _,by rw [ziT];exact gt,gc⟩ ?_
   rintro s _ σ3 ⟨rfl,hs,s3,n3,gt3,gc3⟩
   unfold z7V
   have ha3:=ha1.keep (σ':=σ3) λb hb=>s3.get b (by have:=hla b hb;omega)
   refine ha3.len ?_
   rw [hm,hcb]
   refine ifD (λhlt=>?_) (λhge=>?_)
   · have hsm:s<m:=by omega
     refine To.go ?_
     refine ldrw (σ:=σ3.bump 27) gc3 (v:=.slice tb 0 m (.ex m)) rfl ?_
     have hR3:=hR1.same s3
     refine hR3.own.fldT (k:=2) (σ':=σ3.bump 27) (λ_ _=>rfl) h1 (by decide) rfl (x:=.slice b1 0 m (.ex m)) (by rw [hx1];show some x1.v=_;rw [r1v]) ?_
     refine zog (i:=s) (σ':=σ3.bump 27) r1g (s3.get b1 r1b) hsm (zjG _ hsm) rfl ?_
     refine z5 (by omega) ?_
     refine hR3.own.fldT (k:=2) (σ':=σ3.bump 27) (λ_ _=>rfl) h2 (by decide) (by omega) (x:=.slice b2 0 m (.ex m)) (by rw [hx2];show some x2.v=_;rw [r2v]) ?_
     refine zog (i:=s) (σ':=σ3.bump 27) r2g (s3.get b2 r2b) hsm (zjG _ hsm) rfl ?_
     have c1:=c1 s
     have c2:=c2 s
     refine z5 (by omega) ?_
     refine wrI (m:=s) (σ:=σ3.bump 27) gt3 (zdH _ _ _ _) rfl hsm ?_
     refine z5 (by omega) ?_
     refine again ⟨s+1,⟨by omega,by omega,?_,by simp only [Mem.next_put,Mem.next_bump];omega,?_,?_⟩,by omega⟩
     · exact Mem.Same.bump (Mem.Same.put (s3.bump _) (by omega) _) _
     · refine gB (gS'.trans ?_)
       rw [show ((x1.t.cnt s:Nat):Int)+((x2.t.cnt s:Nat):Int)=(λi=>(((Pm.pair x1.t x2.t).cnt i:Nat):Int)) s from rfl,zl8]
     · exact gB (gN (by omega) gc3)
   · obtain rfl:s=m:=by omega
     rw [zkU] at gt3
     refine ldnq (gB gc3) rfl (by simp) ?_
     refine z5v rfl rfl ?_
     refine To.go ?_
     obtain ⟨z,hz⟩:∃ z:Th,z=⟨x1.t.wt+x2.t.wt,false,.slice tb 0 s (.ex s),rfl,.pair x1.t x2.t⟩:=⟨_,rfl⟩
     have hu3:=hu.same s3
     refine Own.push (σ:=σ) (m:=1) (c:=th3 [z]) (cs:=th3 X) (n:=X.length) ⟨hu3.own,λb hb=>⟨hub b hb,(hu3.lt b hb).1⟩⟩ (s1.trans s3) (by rw [hz];rfl) (by omega) (by omega) (by omega) rfl (z7t _) (z7t _) (by omega) ?_ (by simp only [Mem.next_put,Mem.next_bump];omega)
     intro u' σ6 own6 s6 hid6 o6 hb6
     rw [z9l] at own6
     refine z5 (by omega) ?_
     have n6:=o6.next
     have g6:∀ b,b<σ3.next->b ∉ z3 u->σ6.get b=σ3.get b:=λb h h'=>o6.get b h h'
     have htu:tb ∉ z3 u:=λh=>by have:=(hu.lt tb h).1;omega
     refine again ⟨p+1,⟨by omega,by omega,s6.bump _,λb hb=>(own6.2 b hb).1,X++[z],⟨?_,?_,?_,?_⟩⟩,by omega⟩
     · rw [List.length_append];exact own6.1.keep λ_ _=>rfl
     · rw [List.map_append,hu.ts,List.take_succ_eq_append_getElem (by omega)]
       congr 1
       have:=zpm e1 e2
       rw [List.getElem?_eq_getElem (by omega)] at this
       injection this with this
       rw [this,hz];rfl
     · intro x hx
       rcases List.mem_append.1 hx with hx | hx
       · obtain ⟨q1,b,q2,q3,q4,q5⟩:=hu3.rep x hx
         by_cases hbu:b∈z3 u
         · have q6:=hu3.own
           exfalso
           have hX0:0<X.length:=by cases X with | nil=>simp at hx | cons=>simp
           obtain ⟨b',e,hg,_⟩:=q6.sl hX0
           rw [e] at hbu
           simp only [z3,List.mem_singleton] at hbu
           subst hbu
           rw [q5] at hg
           injection hg with hg
           injection hg with hg
           have h3:=congrArg (λl:List AV=>l.all λv=>match v with | .int _ _=>true | _=>false) hg
           have h4:((ic (tms s x.t)).all λv=>match v with | .int _ _=>true | _=>false)=true:=by
            unfold ic;rw [List.all_map];simp [List.all_eq_true]
           rw [h4] at h3
           cases X with
           | nil=>simp at hX0
           | cons y X=>simp [th3,thC] at h3
         · exact ⟨q1,b,q2,q3,by simp only [Mem.next_bump];omega,(g6 b q4 hbu).trans q5⟩
       · rw [List.mem_singleton] at hx
         subst hx
         rw [hz]
         exact ⟨rfl,tb,rfl,by omega,by simp only [Mem.next_bump];omega,(g6 tb (by omega) htu).trans gt3⟩
     · intro b hb
       have h7:=own6.2 b hb
       exact ⟨by simp only [Mem.next_bump];omega,by omega⟩
 · have hX2:(pks R).take p=pks R:=List.take_of_length_le (by omega)
   rw [hX2] at hu
   have hC1:=hC.same s1
   refine z0 (znt (σ:=σ1.bump 9) (hC1.own.keep λ_ _=>rfl) (hu.own.keep λ_ _=>rfl) (by omega) (by omega)) ?_
   rintro _ σ4 ⟨own4,s4⟩
   replace s4:=s4.ob
   refine z5 (by omega) ?_
   obtain ⟨f1,f2,_⟩:=zh2 _ XC X (Nat.le_refl _) (λx hx=>(hC1.rep x hx).1) (λx hx=>(hu.rep x hx).1)
   rw [hC.ts,hu.ts] at f1
   have:=hnext _ (zg2 XC X) (σ4.bump 3) ⟨own4.1.keep λ_ _=>rfl,f1,λx hx=>?_,λb hb=>?_⟩ ((s1.trans s4).bump _)
   · exact this
   · rcases (f2 x).1 hx with hx | hx
     · exact (hC1.rep x hx).frame (by have:=s4.next;simp only [Mem.next_bump];omega) λb hb _=>s4.get b hb
     · exact (hu.rep x hx).frame (by have:=s4.next;simp only [Mem.next_bump];omega) λb hb _=>s4.get b hb
   · have:=own4.2 b hb
     simp only [Mem.next_bump] at this ⊢
     exact ⟨by omega,by omega⟩
end Go.Vit
end
section
/- The document's limited codes. -/
set_option maxRecDepth 20000
namespace Go.Vit
open Go.Proofs
theorem zlK {a row:AV} {lb m n:Nat} {L:List Int} {σ:Mem} {XR:List Th} {R:List Pm} {v18:Int} {σ4:Mem} {Q:AV->Mem->Prop} {Z:List Int}
 (ha:RdO 1 σ a (ic L) L.length) (hla:∀ b∈z3 a,b<σ.next/\b≠lb) (hm:L.length=m) (hm2:m<=2^20) (hlb:lb<σ.next) (hlbe:σ4.next+10=lb) (h18:v18=(m:Nat))
 (hR:RowT lb m σ row XR R) (hn:n<=1000) (hRl:2*n-2<=R.length) (hZ:Z.length=m) (hZ0:∀ j,Z.getD j 0=0) (hg:σ.get lb=some (.rw (ic Z)))
 (hw:∀ t∈R,t.sz<=2^20)
 (hQ:∀ σ',Mem.Only [lb] σ σ'->σ'.get lb=some (.rw (ic (addc Z (R.take (2*n-2)))))->Q (.tup [.slice lb 0 m (.ex m),.int .i64 0]) σ') :
 zf [tI] (z4F a Q (n:Nat) σ4 v18 row) 0 σ:=by
 have hXR:=hR.len
 have hsz:∀ l,(∀ t∈l,t∈R)->l.length<=2000->∀ i,z8j i l<=2000*2^20:=by
  intro l hl hll i
  refine Nat.le_trans (zk8 i l) (Nat.le_trans (zjW λt ht=>hw t (hl t ht)) (Nat.mul_le_mul_right _ hll))
 refine loop1 (λ(j:Nat) (y:Int) σ'=>y=j/\j<=2*n-2/\Mem.Only [lb] σ σ'/\σ'.get lb=some (.rw (ic (addc Z (R.take j))))) (λj=>2*n-2-j) 0 ⟨rfl,by omega,Mem.Only.refl _ _,by rw [List.take_zero,zdC];exact hg⟩ ?_
 rintro j _ σ1 ⟨rfl,hj,o1,g1⟩
 unfold z4F
 have n1:=o1.next
 have f1:∀ b,b<σ.next->b≠lb->σ1.get b=σ.get b:=λb h h'=>o1.get b h (by simpa using h')
 have hR1:=hR.frame n1 f1
 have ha1:=ha.keep (σ':=σ1) λb hb=>f1 b (hla b hb).1 (hla b hb).2
 refine z5 (by omega) ?_
 refine z5 (by omega) ?_
 refine ifD (λhlt=>?_) (λhge=>?_)
 · have hjR:j<XR.length:=by omega
   obtain ⟨rn,b,rv,rl,rb,rg⟩:=hR1.rep XR[j] (List.getElem_mem hjR)
   have e1:R[j]? = some XR[j].t:=by rw [<- hR.ts,List.getElem?_map,List.getElem?_eq_getElem hjR];rfl
   have hRj:R.take (j+1)=R.take j++[XR[j].t]:=by
    rw [List.take_succ_eq_append_getElem (by omega)]
    rw [List.getElem?_eq_getElem (by omega)] at e1
    injection e1 with e1
    rw [e1]
   obtain ⟨A,hA⟩:∃ A,addc Z (R.take j)=A:=⟨_,rfl⟩
   have hAl:A.length=m:=by rw [<- hA,z4i];exact hZ
   have hA2:∀ i,i<m->0<=A.getD i 0/\A.getD i 0<=2000*2^20:=by
    intro i hi
    rw [<- hA,z5H (by omega),hZ0]
    have:=hsz (R.take j) (λt ht=>List.mem_of_mem_take ht) (by rw [List.length_take];omega) i
    omega
   have hAe:addc Z (R.take (j+1))=arr (λi=>A.getD i 0+((XR[j].t.cnt i:Nat):Int)) m:=by
    rw [hRj,<- ziV,hA]
    unfold addc
    rw [hAl]
    exact zT λi _=>by rw [zhU]
   have hAa:A=arr (λi=>A.getD i 0) m:=by
    refine List.ext_getElem (by rw [zy,hAl]) λi h1 h2=>?_
    simp [arr,List.getElem?_eq_getElem h1]
   have cl:=λi=>zg0 i XR[j].t
   have wj:=hw XR[j].t (by rw [<- hR.ts];exact List.mem_map_of_mem (List.getElem_mem hjR))
   obtain ⟨x,hx⟩:∃ x,XR[j]=x:=⟨_,rfl⟩
   rw [hx] at rv rg hAe cl wj
   rw [hA] at g1
   refine loop1 (λ(s:Nat) (y:Int) σ'=>y=s/\s<=m/\Mem.Only [lb] σ σ'/\σ1.next<=σ'.next/\(∀ b,b<σ1.next->b≠lb->σ'.get b=σ1.get b)/\σ'.get lb=some (.rw (ic (zod (λi=>A.getD i 0+((x.t.cnt i:Nat):Int)) (λi=>A.getD i 0) s m)))) (λs=>m-s) 0 ⟨rfl,by omega,o1.bump _,by simp only [Mem.next_bump];omega,λ_ _ _=>rfl,by rw [ziT,<- hAa];exact g1⟩ ?_
   rintro s _ σ2 ⟨rfl,hs,o2,n2,f2,g2⟩
   unfold z7N
   rw [hlbe,h18,Int.toNat_natCast]
   have ha2:=ha1.keep (σ':=σ2) λb hb=>f2 b (by have:=(hla b hb).1;omega) (hla b hb).2
   refine ha2.len ?_
   rw [hm]
   refine ifD (λhlt'=>?_) (λhge'=>?_)
   · have hsm:s<m:=by omega
     refine zog (i:=s) (σ':=σ2.bump 21) g2 rfl hsm (zp5 hsm (Nat.le_refl _)) rfl ?_
     have hR2:=hR1.frame n2 f2
     refine hR2.own.fldT (k:=2) (σ':=σ2.bump 21) (λ_ _=>rfl) hjR (by decide) rfl (x:=.slice b 0 m (.ex m)) (by rw [hx];show some x.v=_;rw [rv]) ?_
     refine zog (i:=s) (σ':=σ2.bump 21) rg (f2 b rb rl) hsm (zjG _ hsm) rfl ?_
     have c1:=cl s
     have a1:=hA2 s hsm
     refine z5 (by omega) ?_
     refine wrI (m:=s) (σ:=σ2.bump 21) g2 (zdH _ _ _ _) rfl hsm ?_
     refine z5 (by omega) ?_
     refine again ⟨s+1,⟨by omega,by omega,?_,by simp only [Mem.next_put,Mem.next_bump];omega,λb' h1 h2=>?_,?_⟩,by omega⟩
     · exact Mem.Only.bump (Mem.Only.put (o2.bump _) (.inl (by simp)) _) _
     · exact (gB (gN h2 rfl)).trans (f2 b' h1 h2)
     · refine gB (gS'.trans ?_)
       rw [zl8 (f:=λi=>A.getD i 0+((x.t.cnt i:Nat):Int)) (g:=λi=>A.getD i 0)]
   · obtain rfl:s=m:=by omega
     rw [zkU,<- hAe] at g2
     refine z5 (by omega) ?_
     exact again ⟨j+1,⟨by omega,by omega,o2.bump _,g2⟩,by omega⟩
 · obtain rfl:j=2*n-2:=by omega
   rw [hlbe,h18,Int.toNat_natCast]
   exact hQ _ (o1.bump _) g1
end Go.Vit
end
section
/- The document's limited codes, put together. -/
set_option maxRecDepth 20000
namespace Go.Vit
open Go.Proofs
theorem zgy {L:List Int} {i:Nat} (h:0<L.getD i 0):zs L (i+1)=zs L i++[.coin (L.getD i 0) i]:=by rw [z6l,if_pos h]
theorem zfZ {L:List Int} {i:Nat} (h:¬ 0<L.getD i 0):zs L (i+1)=zs L i:=by rw [z6l,if_neg h,List.append_nil]
theorem zfp (σ:Mem) (a b:Nat):(σ.bump a).bump b=σ.bump (a+b):=by
 unfold Mem.bump
 rw [Nat.add_assoc]
theorem zam {a:AV} {L:List Int} {most:Int} {σ:Mem} (ha:RdO 1 σ a (ic L) L.length) (hl:L.length<=2^44) :
 z1 PG z3K [.int .i64 most,a] σ λw σ'=>∃ c,w=.tup [c,.int .i64 (if zcz most L then 1 else 0)]/\σ.Same σ'/\((zcz most L/\c=.nils)\/(¬ zcz most L/\RdX σ' c (limit most.toNat L)/\∀ b∈z3 c,σ.next<=b/\b<σ'.next)):=by
 refine zfB λlive=>?_
 unfold zaF
 have hla:=ha.lt live
 have hf:∀ {σ':Mem},σ.Same σ'->∀ b∈z3 a,σ'.get b=σ.get b:=λs b hb=>s.get b (hla b hb)
 have bad:∀ (σ':Mem),zcz most L->σ.Same σ'->∃ c,AV.tup [.nils,.int .i64 1]=.tup [c,.int .i64 (if zcz most L then 1 else 0)]/\σ.Same σ'/\((zcz most L/\c=.nils)\/(¬ zcz most L/\RdX σ' c (limit most.toNat L)/\∀ b∈z3 c,σ.next<=b/\b<σ'.next)):=λ_ h s=>⟨.nils,by rw [if_pos h],s,.inl ⟨h,rfl⟩⟩
 refine ha.len ?_
 refine ifD (λh=>bad _ (.inr (.inr (.inl (by omega)))) ((Mem.Same.refl σ).bump _)) (λh1=>?_)
 refine ifD (λh=>bad _ (.inl h) ((Mem.Same.refl σ).bump _)) (λh2=>?_)
 refine ifD (λh=>bad _ (.inr (.inl h)) ((Mem.Same.refl σ).bump _)) (λh3=>?_)
 obtain ⟨mt,hmt⟩:∃ mt:Nat,most=mt:=⟨most.toNat,by omega⟩
 subst hmt
 refine loop2 (λ(i:Nat) (x y:Int) σ'=>x=((zs L i).length:Nat)/\y=i/\i<=L.length/\(∀ j<i,0<=L.getD j 0/\L.getD j 0<=1000000000)/\σ.Same σ') (λi=>L.length-i) 0 ⟨rfl,rfl,by omega,λj hj=>absurd hj (by omega),(Mem.Same.refl σ).bump _⟩ ?_
 rintro i _ _ σ1 ⟨rfl,rfl,hi,hb,s1⟩
 unfold z89
 have hcl:=z5F L i
 refine (ha.keep (hf s1)).len ?_
 refine ifD (λhlt=>?_) (λhge=>?_)
 · have hil:i<L.length:=by omega
   have hmem:L.getD i 0∈L:=by rw [zp hil];exact List.getElem_mem hil
   refine ha.rd (i:=i) (hf (s1.bump _)) hil rfl ?_
   refine ifD (λh=>bad _ (.inr (.inr (.inr (.inl ⟨_,hmem,.inl h⟩)))) (s1.bump _)) (λh4=>?_)
   refine ha.rd (i:=i) (hf (s1.bump _)) hil rfl ?_
   refine ifD (λh=>bad _ (.inr (.inr (.inr (.inl ⟨_,hmem,.inr h⟩)))) (s1.bump _)) (λh5=>?_)
   refine ha.rd (i:=i) (hf (s1.bump _)) hil rfl ?_
   have hb':∀ j<i+1,0<=L.getD j 0/\L.getD j 0<=1000000000:=by
    intro j hj
    by_cases e:j<i
    · exact hb j e
    · rw [show j=i from by omega];omega
   refine zN ?_
   refine ifD (λh=>?_) (λh=>?_)
   · refine z5 (by omega) ?_
     unfold z4P
     refine z5 (by omega) ?_
     refine again ⟨i+1,⟨?_,by omega,by omega,hb',(s1.bump _).bump _⟩,by omega⟩
     rw [zgy h,List.length_append];rfl
   · unfold z4P
     refine z5 (by omega) ?_
     refine again ⟨i+1,⟨?_,by omega,by omega,hb',(s1.bump _).bump _⟩,by omega⟩
     rw [zfZ h]
 obtain rfl:i=L.length:=by omega
 rw [show zs L L.length=zh L from rfl] at hcl ⊢
 have hLn:∀ n∈L,0<=n/\n<=1000000000:=by
  intro n hn
  obtain ⟨j,hj,rfl⟩:=List.getElem_of_mem hn
  have:=hb j hj
  rw [zp hj] at this
  exact this
 have hpw:(1:Int)*2^((mt:Nat):Int).toNat=((2^mt:Nat):Int):=by rw [Int.toNat_natCast];push_cast;omega
 have hpb:2^mt<=2^15:=z1y (by omega)
 obtain ⟨pw,hpwe⟩:∃ pw:Nat,2^mt=pw:=⟨_,rfl⟩
 rw [hpwe] at hpw hpb
 refine To.go ?_
 refine And.intro (by omega) ?_
 rw [hpw]
 refine z5 (by omega) ?_
 refine ifD (λh=>bad _ (.inr (.inr (.inr (.inr (by rw [Int.toNat_natCast,hpwe];omega))))) (s1.bump _)) (λhpm=>?_)
 have hnb:¬ zcz (mt:Nat) L:=by
  rintro (h | h | h | ⟨x,hx,h⟩ | h)
  · omega
  · omega
  · omega
  · have:=hLn x hx;omega
  · rw [Int.toNat_natCast,hpwe] at h;omega
 clear bad
 rw [if_neg hnb]
 refine (ha.keep (hf s1)).len ?_
 obtain ⟨m,hm⟩:∃ m,L.length=m:=⟨_,rfl⟩
 obtain ⟨n,hn⟩:∃ n,(zh L).length=n:=⟨_,rfl⟩
 obtain ⟨lb,hlb⟩:∃ lb,σ1.next+10=lb:=⟨_,rfl⟩
 rw [hm,hn,hlb]
 rw [hm] at hcl
 rw [hn] at hcl hpm
 refine And.intro (by omega) ?_
 rw [Int.toNat_natCast,z5y]
 refine To.go ?_
 have n1:=s1.next
 obtain ⟨Z,hZ⟩:∃ Z:List Int,arr (λ_=>0) m=Z:=⟨_,rfl⟩
 have hZl:Z.length=m:=by rw [<- hZ,zy]
 have hZ0:∀ j,Z.getD j 0=0:=by
  intro j
  rw [<- hZ,zbj]
  split<;>rfl
 have haddc:∀ l,addc Z l=arr (λi=>((z8j i l:Nat):Int)) m:=by
  intro l
  unfold addc
  rw [hZl]
  refine zT λj _=>?_
  rw [hZ0];omega
 have done:∀ (σ':Mem) (l:List Int),limit mt L=l->σ'.get lb=some (.rw (ic l))->σ.Same σ'->lb<σ'.next->∃ c,AV.tup [.slice lb 0 m (.ex m),.int .i64 0]=.tup [c,.int .i64 0]/\σ.Same σ'/\((zcz (mt:Nat) L/\c=.nils)\/(¬ zcz (mt:Nat) L/\RdX σ' c (limit ((mt:Nat):Int).toNat L)/\∀ b∈z3 c,σ.next<=b/\b<σ'.next)):=by
  intro σ' l hl hg hs hn
  refine ⟨_,rfl,hs,.inr ⟨hnb,?_,λb hb=>?_⟩⟩
  · rw [Int.toNat_natCast,hl]
    exact ⟨lb,by rw [<- hl,z36,hm],hg⟩
  · simp only [z3,List.mem_singleton] at hb
    omega
 rw [hZ]
 refine loop2 (λ(i:Nat) (u:AV) (y:Int) σ'=>y=i/\i<=m/\σ.Same σ'/\lb<σ'.next/\σ'.get lb=some (.rw (ic Z))/\(n=1->zs L i=[])/\∃ X,RowT lb m σ' u X (isort (zs L i))) (λi=>m-i) 0 ⟨rfl,by omega,by repeat (with_reducible first | assumption | refine Mem.Same.bump ?_ _ | refine Mem.Same.put ?_ (by omega) _),by simp only [Mem.next_bump,Mem.next_put];omega,gB gS',λ_=>rfl,[],RowT.nil _ _ _⟩ ?_
 rintro i u _ σ2 ⟨rfl,hi,s2,nlb,glb,hone,X,hu⟩
 unfold z8d
 have n2:=s2.next
 refine (ha.keep (hf s2)).len ?_
 rw [hm]
 refine ifD (λhlt=>?_) (λhge=>?_)
 · have hil:i<L.length:=by omega
   have him:i<m:=by omega
   have hbi:=hLn (L.getD i 0) (by rw [zp hil];exact List.getElem_mem hil)
   have hXl:=hu.len
   rw [z31] at hXl
   have hci:=z5F L i
   refine zN ?_
   refine ha.rd (i:=i) (hf (s2.bump _)) hil rfl ?_
   refine ifD (λh0=>?_) (λh0=>?_)
   · unfold z4K
     refine z5 (by omega) ?_
     have e:=zfZ (L:=L) (i:=i) (by omega)
     exact again ⟨i+1,⟨by omega,by omega,(s2.bump _).bump _,by simp only [Mem.next_bump];omega,gB (gB glb),by rw [e];exact hone,X,by rw [e];exact hu.same (((Mem.Same.refl σ2).bump _).bump _)⟩,by omega⟩
   · have hpos:0<L.getD i 0:=by omega
     have e:=zgy hpos
     refine ha.rd (i:=i) (hf (s2.bump _)) hil rfl ?_
     refine (ha.keep (hf s2)).len ?_
     rw [hm]
     refine And.intro (by omega) ?_
     rw [Int.toNat_natCast,z5y]
     refine To.go ?_
     refine To.go ?_
     refine stn gS' (by simp) rfl rfl ?_
     obtain ⟨w,hw⟩:∃ w,L.getD i 0=w:=⟨_,rfl⟩
     rw [hw] at hpos hbi e ⊢
     obtain ⟨tb,htb⟩:∃ tb,σ2.next+15=tb:=⟨_,rfl⟩
     obtain ⟨cb,hcb⟩:∃ cb,σ2.next+17=cb:=⟨_,rfl⟩
     rw [htb,hcb]
     refine To.go ?_
     obtain ⟨σ3,h3'⟩:∃ σ3,σ3=(((σ2.bump 19).put tb (some (.rw (ic (arr (λ_=>0) m))))).put cb (some (.rw [.int .i64 0,.bool false,.nils]))).put cb (some (.rw (setAt [.int .i64 0,.bool false,.nils] 0 [.int .i64 w,.bool true,.slice tb 0 m (.ex m)]))):=⟨_,rfl⟩
     rw [<- h3']
     have s3:σ2.Same σ3:=by rw [h3'];repeat (with_reducible first | exact Mem.Same.refl _ | refine Mem.Same.bump ?_ _ | refine Mem.Same.put ?_ (by omega) _)
     have n3:σ3.next=σ2.next+19:=by rw [h3'];rfl
     have gt:σ3.get tb=some (.rw (ic (arr (λ_=>0) m))):=by rw [h3'];exact gN (by omega) (gN (by omega) gS')
     have gc:σ3.get cb=some (.rw [.int .i64 w,.bool true,.slice tb 0 m (.ex m)]):=by rw [h3'];exact gS'
     clear h3'
     refine ldrw (σ:=σ3.bump 5) gc (v:=.slice tb 0 m (.ex m)) rfl ?_
     refine wrI (m:=i) (σ:=σ3.bump 5) gt (zy _ _) rfl him ?_
     rw [zoY (n:=w) him]
     obtain ⟨σ4,h4'⟩:∃ σ4,σ4=(σ3.bump 5).put tb (some (.rw (ic (tms m (.coin w i))))):=⟨_,rfl⟩
     rw [<- h4']
     have s4:σ2.Same σ4:=by rw [h4'];exact Mem.Same.put (s3.bump _) (by omega) _
     have n4:σ4.next=σ3.next+5:=by rw [h4'];rfl
     have gt4:σ4.get tb=some (.rw (ic (tms m (.coin w i)))):=by rw [h4'];exact gS'
     have gc4:σ4.get cb=some (.rw [.int .i64 w,.bool true,.slice tb 0 m (.ex m)]):=by rw [h4'];exact gN (by omega) gc
     have glb4:σ4.get lb=some (.rw (ic Z)):=(s4.get lb nlb).trans glb
     clear h4'
     have hXw:∀ j (h:j<X.length),(isort (zs L i))[j]? = some X[j].t/\X[j].n=X[j].t.wt:=by
      intro j h
      refine ⟨?_,(hu.rep _ (List.getElem_mem h)).1⟩
      rw [<- hu.ts,List.getElem?_map,List.getElem?_eq_getElem h];rfl
     refine join1 (λ(x:Int) σ'=>∃ p:Nat,x=p/\p<=X.length/\zgr (.coin w i) (isort (zs L i))=(isort (zs L i)).take p++.coin w i::(isort (zs L i)).drop p/\∃ j,σ'=σ4.bump j) ?_ ?_
     · refine loop1 (λ(p:Nat) (x:Int) σ'=>x=p/\p<=X.length/\(∀ j,j<p->∀ h:j<X.length,X[j].n<=w)/\∃ j,σ'=σ4.bump j) (λp=>X.length-p) 0 ⟨rfl,by omega,λj hj=>absurd hj (by omega),1,rfl⟩ ?_
       rintro p _ _ ⟨rfl,hp,hle,q,rfl⟩
       unfold z87
       rw [hcb]
       have stop:(∀ h:p<X.length,¬ X[p].n<=w)->zgr (.coin w i) (isort (zs L i))=(isort (zs L i)).take p++.coin w i::(isort (zs L i)).drop p:=by
        intro h
        refine zni (by rw [z31,<- hXl];exact hp) (λj y hj hy=>?_) (λy hy=>?_)
        · have hjX:j<X.length:=by omega
          have h1:=hXw j hjX
          rw [h1.1] at hy
          injection hy with hy
          rw [<- hy,<- h1.2]
          exact hle j hj hjX
        · have hpX:p<X.length:=by
           have:=(List.getElem?_eq_some_iff.1 hy).1
           rw [z31] at this;omega
          have h1:=hXw p hpX
          rw [h1.1] at hy
          injection hy with hy
          rw [<- hy,<- h1.2]
          exact h hpX
       have hu4:=hu.same (s4.bump q)
       refine hu4.own.rdO.len ?_
       refine ifD (λhlt'=>?_) (λhge'=>?_)
       · have hpX:p<X.length:=by omega
         refine hu4.own.fldN (σ':=(σ4.bump q).bump 14) (λ_ _=>rfl) hpX rfl ?_
         refine To.go ?_
         refine ldrw (σ:=(σ4.bump q).bump 14) (K:=λa=>zB .i64 a _) gc4 (v:=.int .i64 w) rfl ?_
         refine ifD (λhc=>?_) (λhc=>?_)
         · refine z5 (by omega) ?_
           refine again ⟨p+1,⟨by omega,by omega,λj hj h=>?_,q+17,zfp _ _ _⟩,by omega⟩
           by_cases ej:j<p
           · exact hle j ej h
           · obtain rfl:j=p:=by omega
             exact hc
         · exact ⟨p,rfl,hp,stop λ_=>hc,q+14,zfp _ _ _⟩
       · exact ⟨p,rfl,hp,stop λh=>absurd h (by omega),q+14,zfp _ _ _⟩
     · rintro _ _ ⟨p,rfl,hp,hins,q,rfl⟩
       unfold z8c
       rw [hcb,hlb,Int.toNat_natCast]
       obtain ⟨σ5,h5⟩:∃ σ5,σ5=σ4.bump q:=⟨_,rfl⟩
       rw [<- h5]
       have s5:σ2.Same σ5:=by rw [h5];exact s4.bump _
       have n5:σ4.next<=σ5.next:=by rw [h5];simp only [Mem.next_bump];omega
       have gt5:σ5.get tb=some (.rw (ic (tms m (.coin w i)))):=by rw [h5];exact gt4
       have gc5:σ5.get cb=some (.rw [.int .i64 w,.bool true,.slice tb 0 m (.ex m)]):=by rw [h5];exact gc4
       have glb5:σ5.get lb=some (.rw (ic Z)):=by rw [h5];exact glb4
       clear h5
       have hu5:=hu.same s5
       refine hu5.own.front hp (by decide) λv1 r1=>?_
       rw [zoZ] at r1
       have ht1:(X.take p).length=p:=by rw [List.length_take];omega
       refine z0g.append (σ:=σ5.bump 7) (n:=0) (cs:=[]) (m:=p) (c:=th3 (X.take p)) (.nil 3 _) (λK hK=>zeC (r1.keep λ_ _=>rfl) K hK) (λh=>by subst h;rfl) (by rw [zjw,ht1]) (z7t _) rfl (by omega) (by simp [z3]) ?_
       intro u1 σ6 own1 hn6 hg6 hb6
       rw [List.nil_append,Nat.zero_add] at own1
       have k6:∀ b,b<σ5.next->σ6.get b=σ5.get b:=λb h=>hg6 b (by simp [z3]) (by omega)
       refine ldnq (gB ((k6 cb (by omega)).trans gc5)) rfl (by simp) ?_
       refine z5v rfl rfl ?_
       refine To.go ?_
       simp only [Mem.next_bump] at hn6
       have s56:σ5.Same σ6:=⟨by omega,k6⟩
       obtain ⟨z,hz⟩:∃ z:Th,z=⟨w,true,.slice tb 0 m (.ex m),rfl,.coin w i⟩:=⟨_,rfl⟩
       have hub6:∀ b∈z3 u1,σ5.next<=b/\b<σ6.next:=by
        intro b hb
        rcases hb6 b hb with h | h
        · simp [z3] at h
        · omega
       refine Own.push (σ:=σ5) (m:=1) (c:=th3 [z]) (cs:=th3 (X.take p)) (n:=p) ⟨own1,hub6⟩ s56 (by rw [hz];rfl) (by omega) (by omega) (by omega) rfl (z7t _) (z7t _) (by omega) ?_ (by simp only [Mem.next_put,Mem.next_bump];omega)
       intro u2 σ7 own2 s57 hid7 _ _
       rw [z9l] at own2
       have hu7:=hu5.same s57
       refine hu7.own.back hp (by decide) λv3 r3=>?_
       rw [zpk] at r3
       have ht3:(X.drop p).length=X.length-p:=by rw [List.length_drop]
       refine z0g.append (σ:=σ7.bump 6) (n:=p+1) (m:=X.length-p) (c:=th3 (X.drop p)) (own2.1.keep λ_ _=>rfl) (λK hK=>zeC (r3.keep λ_ _=>rfl) K hK) (λh=>by
        have:X.drop p=[]:=List.length_eq_zero_iff.1 (by omega)
        rw [this];rfl) (by rw [zjw,ht3]) (z7t _) (z7t _) (by omega) (λh=>by have:=(own2.2 _ h).2;omega) ?_
       intro u3 σ8 own3 hn8 hg8 hb8
       rw [z9l] at own3
       simp only [Mem.next_bump] at hn8
       have n57:=s57.next
       have k8:∀ b,b<σ5.next->σ8.get b=σ5.get b:=λb h=>(hg8 b (λh'=>by have:=(own2.2 _ h').1;omega) (by omega)).trans (s57.get b h)
       have s58:σ5.Same σ8:=⟨by omega,k8⟩
       have s28:=s5.trans s58
       refine ifD (λh1'=>?_) (λh1'=>?_)
       · have hn1:n=1:=by omega
         refine wrI (m:=i) (σ:=σ8.bump 6) ((k8 lb (by omega)).trans glb5) hZl rfl him ?_
         have hone':=hone hn1
         refine done _ (Z.set i 1) ?_ (gB gS') ?_ ?_
         · obtain ⟨j,hj,h0',hc,huq⟩:=zeU (L:=L) (by omega)
           obtain rfl:i=j:=huq i hil (by omega)
           rw [zeh hc,hm,<- hZ]
           refine List.ext_getElem (by rw [List.length_set,zy,zy]) λj h1 h2=>?_
           rw [List.getElem_set]
           simp only [arr,List.getElem_map,List.getElem_range]
         · exact Mem.Same.bump (Mem.Same.put ((s2.trans s28).bump _) (by omega) _) _
         · have:=s28.next;simp only [Mem.next_bump,Mem.next_put];omega
       · unfold z4K
         refine z5 (by omega) ?_
         have n28:=s28.next
         refine again ⟨i+1,⟨by omega,by omega,(((s2.trans s28).bump _).bump _),by simp only [Mem.next_bump];omega,gB (gB ((k8 lb (by omega)).trans glb5)),λh=>absurd h (by omega),X.take p++[z]++X.drop p,⟨?_,?_,?_,?_⟩⟩,by omega⟩
         · rw [show (X.take p++[z]++X.drop p).length=p+1+(X.length-p) from by simp only [List.length_append,List.length_cons,List.length_nil];omega]
           exact own3.keep λ_ _=>rfl
         · rw [e,zlQ,hins,List.map_append,List.map_append,List.map_take,List.map_drop,hu.ts,hz];simp
         · intro x hx
           rcases List.mem_append.1 hx with hx | hx
           · rcases List.mem_append.1 hx with hx | hx
             · exact (hu5.rep x (List.mem_of_mem_take hx)).frame (by have:=s58.next;simp only [Mem.next_bump];omega) λb hb _=>k8 b hb
             · rw [List.mem_singleton] at hx
               subst hx
               rw [hz]
               exact ⟨rfl,tb,rfl,by omega,by simp only [Mem.next_bump];omega,(k8 tb (by omega)).trans gt5⟩
           · exact (hu5.rep x (List.mem_of_mem_drop hx)).frame (by have:=s58.next;simp only [Mem.next_bump];omega) λb hb _=>k8 b hb
         · intro b hb
           simp only [Mem.next_bump]
           rcases hb8 b hb with h | h
           · have:=own2.2 b h;omega
           · omega
 · obtain rfl:i=m:=by omega
   have hCe:zs L i=zh L:=by rw [<- hm];rfl
   rw [hCe] at hu hone
   have hn1:n≠1:=by
    intro h
    have:=hone h
    rw [this] at hn
    simp at hn;omega
   obtain ⟨Cs,hCs⟩:∃ Cs,isort (zh L)=Cs:=⟨_,rfl⟩
   have hCsl:Cs.length=n:=by rw [<- hCs,z31,hn]
   have hCsrt:Srt Pm.wt Cs:=by rw [<- hCs];exact (z69 _).2
   rw [hCs] at hu
   have hrp:=zjo hLn (C:=Cs) (λx hx=>by rw [<- hCs,z8O] at hx;exact hx)
   obtain ⟨σ3,h3'⟩:∃ σ3,σ3=σ2.bump 7:=⟨_,rfl⟩
   rw [<- h3']
   have s3:σ2.Same σ3:=by rw [h3'];exact (Mem.Same.refl σ2).bump _
   have hu3:=hu.same s3
   have glb3:σ3.get lb=some (.rw (ic Z)):=by rw [h3'];exact glb
   have n3:=s3.next
   clear h3'
   have s03:=s2.trans s3
   refine loop2 (λ(k:Nat) (row:AV) (y:Int) σ'=>y=((k+1:Nat):Int)/\k<=mt-1/\σ3.Same σ'/\∃ XR,RowT lb i σ' row XR (rows Cs k)) (λk=>mt-1-k) 0 ⟨rfl,by omega,Mem.Same.refl σ3,X,hu3⟩ ?_
   rintro k row _ σ4 ⟨rfl,hk,s4,XR,hR⟩
   unfold z88
   have n4:=s4.next
   have hrl:=zkw Cs k
   have ha4:=ha.keep (hf (s03.trans s4))
   have hwt:∀ t∈rows Cs k,(0<=t.wt/\t.wt<=2^60)/\t.sz<=2^20:=by
    intro t ht
    have h:=hrp k t ht
    have hp:(2:Nat)^k<=2^15:=z1y (by omega)
    have hp':(2:Int)^k<=2^15:=by exact_mod_cast hp
    have h':(1000000000:Int)*2^k<=1000000000*2^15:=Int.mul_le_mul_of_nonneg_left hp' (by decide)
    have h1:=h.1.2
    have h2:=h.2.1
    exact ⟨⟨h.1.1,by omega⟩,by omega⟩
   refine ifD (λhlt=>?_) (λhge=>?_)
   · refine zlD (σ:=σ4.bump 5) (ha4.keep λ_ _=>rfl) (λb hb=>by have:=hla b hb;have:=s03.next;simp only [Mem.next_bump];omega) hm (by omega) (by simp only [Mem.next_bump];omega) ((hu3.same s4).same ((Mem.Same.refl σ4).bump _)) (hR.same ((Mem.Same.refl σ4).bump _)) (by omega) (by omega) (by omega) hwt ?_
     intro u' X' σ' h' s'
     rw [<- zkZ hCsrt] at h'
     exact again ⟨k+1,⟨rfl,by omega,s4.trans s'.ob,X',h'⟩,by omega⟩
   · obtain rfl:k=mt-1:=by omega
     have hlen:=zdG Cs (mt-1) 2 (by
      have:2*2^(mt-1)=2^mt:=by
       obtain ⟨m,rfl⟩:∃ m,mt=m+1:=⟨mt-1,by omega⟩
       rw [Nat.add_sub_cancel,Nat.pow_succ,Nat.mul_comm]
      omega)
     have glb4:σ4.get lb=some (.rw (ic Z)):=(s4.get lb (by omega)).trans glb3
     refine zlK (σ:=σ4.bump 4) (ha4.keep λ_ _=>rfl) (λb hb=>by have:=hla b hb;have:=s03.next;simp only [Mem.next_bump];omega) hm (by omega) (by simp only [Mem.next_bump];omega) hlb rfl (hR.same ((Mem.Same.refl σ4).bump _)) (by omega) (by omega) hZl hZ0 glb4 (λt ht=>(hwt t ht).2) ?_
     intro σ5 o5 g5
     have n5:=o5.next
     simp only [Mem.next_bump] at n5
     refine done _ _ ?_ g5 ?_ (by omega)
     · rw [haddc]
       unfold limit
       rw [if_neg (by omega),hCs,hn,hm]
     · refine ⟨by have:=s03.next;omega,λb' hb'=>?_⟩
       have:=s03.next
       rw [o5.get b' (by simp only [Mem.next_bump];omega) (by simp;omega)]
       exact (s03.trans s4).get b' hb'
end Go.Vit
end
