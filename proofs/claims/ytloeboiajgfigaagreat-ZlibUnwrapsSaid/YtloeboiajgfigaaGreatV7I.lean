/- Sorting of items -/
import Derived.Test.YtloeboiajgfigaaGreatV7H
import Derived.Test.YtloeboiajgfigaaGreatV7L
import Derived.Test.YtloeboiajgfigaaGreatVm3
set_option linter.unusedVariables false
set_option linter.unusedSimpArgs false
set_option maxRecDepth 20000
namespace Go.Vit
open Go.Proofs
structure It where
 n:Int
 s:Int
 v:AV
 one:v.one=true
 t:Pm
def itC (x:It):List AV:=[.int .i64 x.n,.int .i64 x.s,x.v]
theorem z6g (x:It):(itC x).length=3:=rfl
theorem zah (x:It):(itC x).all AV.one=true:=by
 unfold itC
 simp only [List.all_cons,List.all_nil,x.one,Bool.and_true];rfl
def ic3 (X:List It):List AV:=X.flatMap itC
theorem z7y (X:List It):(ic3 X).length=X.length*3:=z7v z6g X
theorem zdJ (X:List It):(ic3 X).all AV.one=true:=by
 unfold ic3
 rw [List.all_flatMap]
 exact List.all_eq_true.2 λx _=>zah x
theorem zfp (X Y:List It):ic3 X++ic3 Y=ic3 (X++Y):=by unfold ic3;rw [List.flatMap_append]
def dI:It:=⟨0,0,.nils,rfl,.coin 0 0⟩
namespace I3
theorem rdI {b n m:Nat} {c:Cap} {X:List It} {σ:Mem} {i:Int} {x:It} {K:AV->Prop} (hg:σ.get b=some (.rw (ic3 X))) (hn:X.length=n) (hi:i=(m:Nat)) (hx:X[m]? = some x) (hk:K (.agg (itC x))):zz 3 (.slice b 0 n c) i λv=>z5x 3 σ v K:=by
 subst hi
 have hm:=(List.getElem?_eq_some_iff.1 hx).1
 rw [List.getElem?_eq_getElem hm] at hx
 injection hx with hx
 subst hx
 show (0<=(m:Int)/\(m:Int)<n)/\z5x 3 σ (.ptr b (0+(m:Int).toNat*3)) K
 refine ⟨by omega,?_⟩
 rw [Int.toNat_natCast,Nat.zero_add]
 refine ldnq hg rfl ?_ ?_
 · rw [z7y];omega
 · unfold ic3;rw [z77 z6g hm];exact hk
theorem wrI {b n m:Nat} {c:Cap} {X:List It} {σ:Mem} {i:Int} {x:It} {K:Mem->Prop} (hg:σ.get b=some (.rw (ic3 X))) (hn:X.length=n) (hi:i=(m:Nat)) (hm:m<n) (hk:K (σ.put b (some (.rw (ic3 (X.set m x)))))):zz 3 (.slice b 0 n c) i λv=>stW 3 σ v (.agg (itC x)) K:=by
 subst hi
 show (0<=(m:Int)/\(m:Int)<n)/\stW 3 σ (.ptr b (0+(m:Int).toNat*3)) (.agg (itC x)) K
 refine ⟨by omega,?_⟩
 rw [Int.toNat_natCast,Nat.zero_add]
 refine stn hg (by rw [z7y];omega) (z6g x) (zah x) ?_
 unfold ic3
 rw [zgg z6g _ _ _ (by omega)]
 exact hk
section
def Arr (σ0 σ:Mem) (b:Nat) (X:List It):Prop:=Mem.Only [b] σ0 σ/\σ.get b=some (.rw (ic3 X))
theorem Arr.bump {σ0 σ:Mem} {b:Nat} {X:List It} (h:Arr σ0 σ b X) (k:Nat):Arr σ0 (σ.bump k) b X:=⟨⟨Nat.le_trans h.1.next (by rw [Mem.next_bump];omega),λb' h1 h2=>h.1.get b' h1 h2⟩,h.2⟩
theorem Arr.put {σ0 σ:Mem} {b:Nat} {X Y:List It} (h:Arr σ0 σ b X):Arr σ0 (σ.put b (some (.rw (ic3 Y)))) b Y:=
 ⟨⟨h.1.next,λb' h1 h2=>by rw [Mem.get_put_ne _ (by simpa using h2)];exact h.1.get b' h1 h2⟩,gS'⟩
theorem Arr.self {σ:Mem} {b:Nat} {X:List It} (h:σ.get b=some (.rw (ic3 X))):Arr σ σ b X:=⟨⟨Nat.le_refl _,λ_ _ _=>rfl⟩,h⟩
theorem Arr.trans {σ0 σ1 σ2:Mem} {b:Nat} {X Y:List It} (h:Arr σ0 σ1 b X) (g:Arr σ1 σ2 b Y):Arr σ0 σ2 b Y:=
 ⟨⟨Nat.le_trans h.1.next g.1.next,λb' h1 h2=>(g.1.get b' (Nat.lt_of_lt_of_le h1 h.1.next) h2).trans (h.1.get b' h1 h2)⟩,g.2⟩
theorem Arr.same {σ0 σ1 σ2:Mem} {b:Nat} {X:List It} (h:Arr σ0 σ1 b X) (s:σ1.Same σ2) (hb:b<σ1.next):Arr σ0 σ2 b X:=
 ⟨⟨Nat.le_trans h.1.next s.next,λb' h1 h2=>(s.get b' (Nat.lt_of_lt_of_le h1 h.1.next)).trans (h.1.get b' h1 h2)⟩,(s.get b hb).trans h.2⟩
theorem Arr.eq {σ0 σ:Mem} {b:Nat} {X Y:List It} (h:Arr σ0 σ b X) (e:X=Y):Arr σ0 σ b Y:=e ▸ h
theorem z0N {b n:Nat} {c:Cap} {cmp:AV} {σ:Mem} {X P U M V R:List It} {a1 a2 a3:Int} (hX:X=P++(U++(M++(V++R)))) (hg:σ.get b=some (.rw (ic3 X))) (hn:X.length=n) (hl:n<=2^60) (h1:a1=P.length) (h2:a2=(P.length+U.length+M.length:Nat)) (h3:a3=U.length) (hv:V.length=U.length) :
 z1 PG zp [.slice b 0 n c,.int .i64 a1,.int .i64 a2,.int .i64 a3,cmp] σ λ_ σ'=>Arr σ σ' b (P++(V++(M++(U++R)))):=by
 refine z3f λlive=>?_
 unfold z10
 subst h1 h2 h3
 have hlen:n=P.length+U.length+M.length+V.length+R.length:=by rw [<- hn,hX];simp only [List.length_append];omega
 refine loop1 (λ(i:Nat) (x:Int) σ'=>x=i/\i<=U.length/\∃ U1 U2 V1 V2,U=U1++U2/\V=V1++V2/\U1.length=i/\V1.length=i/\Arr σ σ' b (P++(V1++(U2++(M++(U1++(V2++R))))))) (λi=>U.length-i) 0 ⟨rfl,by omega,[],U,[],V,rfl,rfl,rfl,rfl,(Arr.self (by rw [hg,hX];rfl)).bump _⟩ ?_
 rintro i _ σ1 ⟨rfl,hi,U1,U2,V1,V2,rfl,rfl,hU1,hV1,ar⟩
 unfold z0s
 simp only [List.length_append] at hi hlen hv ⊢
 refine ifD (λhlt=>?_) (λhge=>?_)
 · obtain ⟨x,U2,rfl⟩:=z2d U2 (by rintro rfl;simp at hlt;omega)
   obtain ⟨y,V2,rfl⟩:=z2d V2 (by rintro rfl;simp at hv hlt;omega)
   simp only [List.length_cons] at hi hlen hv hlt ⊢
   have e:P++(V1++(x::U2++(M++(U1++(y::V2++R)))))=(P++V1)++x::((U2++(M++U1))++y::(V2++R)):=by simp
   rw [e] at ar
   refine z6 (by omega) ?_
   refine z6 (by omega) ?_
   refine z6 (by omega) ?_
   refine rdI (m:=P.length+(U1.length+U2.length+1)+M.length+i) (x:=y) ar.2 (by simp;omega) (by omega) ?_ ?_
   · rw [<- List.cons_append,<- List.append_assoc]
     exact z1K (by simp;omega)
   refine z6 (by omega) ?_
   refine rdI (m:=P.length+i) (x:=x) ar.2 (by simp;omega) (by omega) (z1K (by simp;omega)) ?_
   refine wrI (m:=P.length+i) ar.2 (by simp;omega) (by omega) (by omega) ?_
   refine wrI (m:=P.length+(U1.length+U2.length+1)+M.length+i) gS' (by simp;omega) (by omega) (by omega) ?_
   rw [swap2 (by simp;omega) (by simp;omega)]
   refine z6 (by omega) ?_
   refine again ⟨i+1,⟨by omega,by omega,U1++[x],U2,V1++[y],V2,by simp,by simp,by simp;omega,by simp;omega,?_⟩,by omega⟩
   refine (((ar.bump _).put (Y:=_)).put.bump _).eq ?_
   simp
 · obtain rfl:U2=[]:=List.length_eq_zero_iff.1 (by omega)
   obtain rfl:V2=[]:=List.length_eq_zero_iff.1 (by simp at hv;omega)
   refine (ar.bump _).eq ?_
   simp
theorem z7M {b n:Nat} {c:Cap} {cmp:AV} {σ:Mem} {X P U V R:List It} {a1 a2 a3:Int} (hX:X=P++(U++(V++R))) (hg:σ.get b=some (.rw (ic3 X))) (hn:X.length=n) (hl:n<=2^60) (h1:a1=P.length) (h2:a2=(P.length+U.length:Nat)) (h3:a3=(P.length+U.length+V.length:Nat)) (hu:0<U.length) (hv:0<V.length) :
 z1 PG z09 [.slice b 0 n c,.int .i64 a1,.int .i64 a2,.int .i64 a3,cmp] σ λ_ σ'=>Arr σ σ' b (P++(V++(U++R))):=by
 refine z3R λlive=>?_
 unfold z1l
 subst h1 h3
 have hlen:n=P.length+U.length+V.length+R.length:=by rw [<- hn,hX];simp only [List.length_append];omega
 obtain ⟨m,hm⟩:∃ m,m=P.length+U.length:=⟨_,rfl⟩
 rw [<- hm] at h2
 subst h2
 refine z6 (by omega) ?_
 refine z6 (by omega) ?_
 obtain ⟨T,hT⟩:∃ T,T=P++(V++(U++R)):=⟨_,rfl⟩
 rw [<- hT]
 refine loop2 (λ(s:Nat) (i j:Int) σ'=>∃ P' U' V' R',i=U'.length/\j=V'.length/\s=U'.length+V'.length/\0<U'.length/\0<V'.length/\m=P'.length+U'.length/\n=P'.length+U'.length+V'.length+R'.length/\T=P'++(V'++(U'++R'))/\Arr σ σ' b (P'++(U'++(V'++R')))) (λs=>s) (U.length+V.length) ⟨P,U,V,R,by omega,by omega,rfl,hu,hv,hm,hlen,hT,(Arr.self (by rw [hg,hX])).bump _⟩ ?_
 clear hT hX hm hlen hu hv hg
 rintro s _ _ σ1 ⟨P,U,V,R,rfl,rfl,rfl,hu,hv,hm,hlen,rfl,ar⟩
 unfold z0W
 refine ifD (λhne=>?_) (λheq=>?_)
 · refine zu ?_
   refine ifD (λhlt=>?_) (λhge=>?_)
   · obtain ⟨U1,U2,rfl,hU⟩:=z2n U (k:=V.length) (by omega)
     simp only [List.length_append] at hu hm hlen hne hlt ⊢
     refine z6 (by omega) ?_
     refine z0 (z0N (P:=P) (U:=U1) (M:=U2) (V:=V) (R:=R) rfl (by rw [Mem.get_bump,ar.2];simp) (by simp;omega) hl (by omega) (by omega) (by omega) (by omega)) ?_
     intro v σ2 a2
     refine z6 (by omega) ?_
     unfold zT
     refine again ⟨U2.length+U1.length,⟨P++V,U2,U1,R,by omega,by omega,rfl,by omega,by omega,by simp;omega,by simp;omega,by simp,?_⟩,by omega⟩
     refine (((ar.bump _).trans a2).bump _).eq ?_
     simp
   · obtain ⟨V1,V2,rfl,hV⟩:=z2n V (k:=V.length-U.length) (by omega)
     simp only [List.length_append] at hv hm hlen hne hge hV ⊢
     refine z6 (by omega) ?_
     refine z6 (by omega) ?_
     refine z6 (by omega) ?_
     refine z0 (z0N (P:=P) (U:=U) (M:=V1) (V:=V2) (R:=R) rfl (by rw [Mem.get_bump,ar.2];simp) (by simp;omega) hl (by omega) (by omega) (by omega) (by omega)) ?_
     intro v σ2 a2
     refine z6 (by omega) ?_
     unfold zT
     refine again ⟨V2.length+V1.length,⟨P,V2,V1,U++R,by omega,by omega,rfl,by omega,by omega,by omega,by simp;omega,by simp,?_⟩,by omega⟩
     refine (((ar.bump _).trans a2).bump _).eq ?_
     simp
 · refine z6 (by omega) ?_
   refine z0 (z0N (P:=P) (U:=U) (M:=[]) (V:=V) (R:=R) rfl (by rw [Mem.get_bump,ar.2];simp) (by simp;omega) hl (by omega) (by simp;omega) (by omega) (by omega)) ?_
   intro v σ2 a2
   exact ((ar.bump _).trans a2).eq (by simp)
end
section
def Cmp (σ0:Mem) (b:Nat) (key:It->Int) (S:It->Prop) (cmp:AV):Prop:=
 ∀ σ x y,Mem.Only [b] σ0 σ->S x->S y->∀ K:AV->Mem->Prop,(∀ c σ',(c<0↔key x<key y)->σ.Same σ'->K (.int .i64 c) σ')->z3m PG cmp [.agg (itC x),.agg (itC y)] σ K
theorem Cmp.of {σ0 σ1:Mem} {b:Nat} {key:It->Int} {S:It->Prop} {cmp:AV} (h:Cmp σ0 b key S cmp) (o:Mem.Only [b] σ0 σ1):Cmp σ1 b key S cmp:=λσ x y o'=>h σ x y ⟨Nat.le_trans o.next o'.next,λb' h1 h2=>(o'.get b' (Nat.lt_of_lt_of_le h1 o.next) h2).trans (o.get b' h1 h2)⟩
theorem Cmp.sub {σ0:Mem} {b:Nat} {key:It->Int} {S S':It->Prop} {cmp:AV} (h:Cmp σ0 b key S cmp) (hs:∀ x,S' x->S x):Cmp σ0 b key S' cmp:=λσ x y o hx hy=>h σ x y o (hs x hx) (hs y hy)
variable {b n:Nat} {c:Cap} {cmp:AV} {key:It->Int} {S:It->Prop}
theorem Arr.lt {σ0 σ:Mem} {X:List It} (h:Arr σ0 σ b X) (hb:b<σ0.next):b<σ.next:=Nat.lt_of_lt_of_le hb h.1.next
theorem z0S {σ:Mem} {X P A R:List It} {a1 a2:Int} (hX:X=P++(A++R)) (hg:σ.get b=some (.rw (ic3 X))) (hb:b<σ.next) (hn:X.length=n) (hl:n<=2^60) (h1:a1=P.length) (h2:a2=(P.length+A.length:Nat)) (hS:∀ x∈A,S x) (hc:Cmp σ b key S cmp) :
 z1 PG zt [.slice b 0 n c,.int .i64 a1,.int .i64 a2,cmp] σ λ_ σ'=>∃ C,Stb key A C/\Srt key C/\Arr σ σ' b (P++(C++R)):=by
 refine z2j λlive=>?_
 unfold z0m
 subst h1 h2
 have hlen:n=P.length+A.length+R.length:=by rw [<- hn,hX];simp only [List.length_append];omega
 refine z6 (by omega) ?_
 refine loop1 (λ(k:Nat) (x:Int) σ'=>x=(P.length+k:Nat)/\1<=k/\(A≠[]->k<=A.length)/\∃ D0 D E,A=D0++E/\(A≠[]->D0.length=k)/\Stb key D0 D/\Srt key D/\Arr σ σ' b (P++(D++(E++R)))) (λk=>A.length-k) 1 ⟨by omega,by omega,λh=>by cases A with | nil=>exact absurd rfl h | cons x l=>simp,?_⟩ ?_
 · cases A with
   | nil=>exact ⟨[],[],[],rfl,λh=>absurd rfl h,Stb.refl _,List.Pairwise.nil,(Arr.self (by rw [hg,hX];rfl)).bump _⟩
   | cons x l=>exact ⟨[x],[x],l,rfl,λ_=>rfl,Stb.refl _,List.pairwise_singleton _ _,(Arr.self (by rw [hg,hX];rfl)).bump _⟩
 rintro k _ σ1 ⟨rfl,hk,hkA,D0,D,E,hA,hD0,sD,oD,ar⟩
 unfold z07
 refine ifD (λhlt=>?_) (λhge=>?_)
 · have hne:A≠[]:=by rintro rfl;simp at hlt;omega
   have hkA:=hkA hne
   have hD0:=hD0 hne
   obtain ⟨x,E,rfl⟩:=z2d E (by rintro rfl;rw [hA] at hlt;simp at hlt;omega)
   have hAl:A.length=D0.length+(E.length+1):=by rw [hA];simp
   have hDl:=sD.1
   have hxS:S x:=hS x (by rw [hA];simp)
   have hDS:∀ y∈D,S y:=λy hy=>hS y (by rw [hA];exact List.mem_append_left _ ((sD.mem y).1 hy))
   refine join0 (λσ'=>∃ D1 D2,D=D1++D2/\(∀ y∈D1,key y<=key x)/\(∀ y∈D2,key x<key y)/\Arr σ σ' b (P++(D1++x::(D2++(E++R))))) ?_ ?_
   · refine loop1 (λ(m:Nat) (j:Int) σ'=>j=(P.length+m:Nat)/\∃ D1 D2,D=D1++D2/\D1.length=m/\(∀ y∈D2,key x<key y)/\Arr σ σ' b (P++(D1++x::(D2++(E++R))))) (λm=>m) k ⟨by omega,D,[],by simp,by omega,λy h=>by simp at h,(ar.bump _).eq (by simp)⟩ ?_
     rintro m _ σ2 ⟨rfl,D1,D2,hD,hD1,gt,ar⟩
     unfold z05
     have hD12:D.length=D1.length+D2.length:=by rw [hD,List.length_append]
     refine ifD (λhlt=>?_) (λhge=>?_)
     · obtain ⟨D1,y,rfl⟩:=z9d D1 (by rintro rfl;simp at hD1;omega)
       have hyS:S y:=hDS y (by rw [hD];simp)
       have e:P++(D1++[y]++x::(D2++(E++R)))=(P++D1)++y::([]++x::(D2++(E++R))):=by simp
       rw [e] at ar
       simp only [List.length_append,List.length_cons,List.length_nil] at hD1 hD12 hD
       refine rdI (m:=P.length+m) (x:=x) ar.2 (by simp;omega) (by omega) ?_ ?_
       · rw [List.nil_append,show (P++D1)++y::x::(D2++(E++R))=((P++D1)++[y])++x::(D2++(E++R)) from by simp]
         exact z1K (by simp;omega)
       refine z6 (by omega) ?_
       refine rdI (m:=P.length+m-1) (x:=y) ar.2 (by simp;omega) (by omega) (z1K (by simp;omega)) ?_
       refine hc _ x y (ar.bump _).1 hxS hyS _ λc σ3 hcmp s3=>?_
       have ar:=(ar.bump _).same s3 ((ar.bump _).lt hb)
       refine To.go ?_
       refine ifD (λhlt=>?_) (λhge=>?_)
       · have hlt:=hcmp.1 hlt
         refine z6 (by omega) ?_
         refine z6 (by omega) ?_
         refine rdI (m:=P.length+m-1) (x:=y) ar.2 (by simp;omega) (by omega) (z1K (by simp;omega)) ?_
         refine rdI (m:=P.length+m) (x:=x) ar.2 (by simp;omega) (by omega) ?_ ?_
         · rw [List.nil_append,show (P++D1)++y::x::(D2++(E++R))=((P++D1)++[y])++x::(D2++(E++R)) from by simp]
           exact z1K (by simp;omega)
         refine wrI (m:=P.length+m) ar.2 (by simp;omega) (by omega) (by omega) ?_
         refine wrI (m:=P.length+m-1) gS' (by simp;omega) (by omega) (by omega) ?_
         rw [swap2' (by simp;omega) (by simp;omega)]
         refine z6 (by omega) ?_
         refine again ⟨m-1,⟨by omega,D1,y::D2,by rw [hD];simp,by omega,?_,?_⟩,by omega⟩
         · intro z hz
           rcases List.mem_cons.1 hz with rfl | hz
           · exact hlt
           · exact gt z hz
         · refine (((ar.bump _).put (Y:=_)).put.bump _).eq ?_
           simp
       · have hge:key y<=key x:=by
          have:=mt hcmp.2 hge
          omega
         refine ⟨D1++[y],D2,by rw [hD],λz hz=>?_,gt,ar.eq (by simp)⟩
         rw [hD] at oD
         have oD:=Srt.left oD
         rcases List.mem_append.1 hz with hz | hz
         · have:=Srt.rel oD z hz y (by simp)
           omega
         · rw [List.mem_singleton] at hz
           subst hz
           exact hge
     · obtain rfl:D1=[]:=List.length_eq_zero_iff.1 (by omega)
       exact ⟨[],D2,hD,λy h=>by simp at h,gt,ar.bump _⟩
   · rintro σ2 ⟨D1,D2,hD,le,gt,ar⟩
     unfold z03
     refine z6 (by omega) ?_
     rw [hD] at sD oD
     refine again ⟨k+1,⟨by omega,by omega,λ_=>by omega,D0++[x],D1++x::D2,E,by rw [hA];simp,λ_=>by simp;omega,?_,?_,?_⟩,by omega⟩
     · refine (sD.append (Stb.refl [x])).trans ?_
       have t:Stb key (D1++(D2++[x])) (D1++([x]++D2)):=(Stb.refl D1).append (Stb.swap λy hy z hz=>by rw [List.mem_singleton] at hz;subst hz;exact gt y hy)
       simpa using t
     · refine oD.left.append ?_ λy hy z hz=>?_
       · exact List.pairwise_cons.2 ⟨λz hz=>Int.le_of_lt (gt z hz),oD.right⟩
       · rcases List.mem_cons.1 hz with rfl | hz
         · exact le y hy
         · exact oD.rel y hy z hz
     · exact (ar.bump _).eq (by simp)
 · by_cases hne:A=[]
   · subst hne
     obtain ⟨rfl,rfl⟩:D0=[]/\E=[]:=by simpa using hA.symm
     obtain rfl:D=[]:=List.length_eq_zero_iff.1 sD.1
     exact ⟨[],Stb.refl _,List.Pairwise.nil,ar.bump _⟩
   · have hD0:=hD0 hne
     have hAl:A.length=D0.length+E.length:=by rw [hA];simp
     obtain rfl:E=[]:=List.length_eq_zero_iff.1 (by omega)
     rw [hA,List.append_nil]
     exact ⟨D,sD,oD,ar.bump _⟩
end
section
section
variable {key:It->Int}
theorem z30 {X L l R:List It} (e:X=L++(l++R)) {i:Nat} (h1:L.length<=i) (h2:i<L.length+l.length):X.getD i dI=l[i-L.length]'(by omega):=by
 subst e
 rw [List.getD_eq_getElem?_getD,List.getElem?_append_right h1,List.getElem?_append_left (by omega),List.getElem?_eq_getElem (by omega)];rfl
theorem Srt.mono {X L l R:List It} (h:Srt key l) (e:X=L++(l++R)) {i j:Nat} (h1:L.length<=i) (h2:i<=j) (h3:j<L.length+l.length):key (X.getD i dI)<=key (X.getD j dI):=by
 rw [z30 e h1 (by omega),z30 e (by omega) h3]
 rcases Nat.eq_or_lt_of_le h2 with rfl | h2
 · exact Int.le_refl _
 · exact List.pairwise_iff_getElem.1 h _ _ _ _ (by omega)
theorem z2N {X L l R:List It} (e:X=L++(l++R)) {x:It} (h:x∈l):∃ i,L.length<=i/\i<L.length+l.length/\X.getD i dI=x:=by
 obtain ⟨k,hk,rfl⟩:=List.mem_iff_getElem.1 h
 refine ⟨L.length+k,by omega,by omega,?_⟩
 rw [z30 e (by omega) (by omega)]
 congr 1
 omega
theorem zec {X L l R:List It} (e:X=L++(l++R)) {i:Nat} (h1:L.length<=i) (h2:i<L.length+l.length):X.getD i dI∈l:=by
 rw [z30 e h1 h2]
 exact List.getElem_mem _
theorem z2W {X:List It} {i:Nat} (h:i<X.length):X[i]? = some (X.getD i dI):=by rw [List.getD_eq_getElem?_getD,List.getElem?_eq_getElem h];rfl
end
theorem zbd {v:Int} {h:Nat} {K:Int->Prop} (e:v=h) (hb:h<=2^62) (hk:K (h / 2:Nat)):wrW .u64 v λx=>z4j (x / 2) λy=>iW y K:=by
 subst e
 refine To.go ?_
 show iW _ _
 rw [show ((h:Int) % 18446744073709551616 / 2)=((h / 2:Nat):Int) from by omega]
 exact z6 (by omega) hk
variable {b n:Nat} {c:Cap} {cmp:AV} {key:It->Int} {S:It->Prop}
theorem z2L:∀ (N:Nat) {σ:Mem} {X P A B R:List It} {a1 a2 a3:Int},A.length+B.length<=N->X=P++(A++(B++R))->σ.get b=some (.rw (ic3 X))->b<σ.next->X.length=n->n<=2^60->a1=P.length->a2=(P.length+A.length:Nat)->a3=(P.length+A.length+B.length:Nat) ->
 0<A.length->0<B.length->Srt key A->Srt key B->(∀ x∈A,S x)->(∀ x∈B,S x)->Cmp σ b key S cmp ->
 z1 PG z7 [.slice b 0 n c,.int .i64 a1,.int .i64 a2,.int .i64 a3,cmp] σ λ_ σ'=>∃ C,Stb key (A++B) C/\Srt key C/\Arr σ σ' b (P++(C++R)):=by
 intro N
 induction N with
 | zero=>intro σ X P A B R a1 a2 a3 hN _ _ _ _ _ _ _ _ hA;omega
 | succ N ih=>
 intro σ X P A B R a1 a2 a3 hN hX hg hb hn hl h1 h2 h3 hA hB oA oB hSA hSB hc
 refine z3r λlive=>?_
 unfold z12
 have hlen:n=P.length+A.length+B.length+R.length:=by rw [<- hn,hX];simp only [List.length_append];omega
 have eA:X=P++(A++(B++R)):=hX
 have eB:X=(P++A)++(B++R):=by rw [hX];simp
 have lPA:(P++A).length=P.length+A.length:=List.length_append
 obtain ⟨a,ha⟩:∃ a,a=P.length:=⟨_,rfl⟩
 obtain ⟨m,hm⟩:∃ m,m=P.length+A.length:=⟨_,rfl⟩
 obtain ⟨d,hd⟩:∃ d,d=P.length+A.length+B.length:=⟨_,rfl⟩
 rw [<- ha] at h1
 rw [<- hm] at h2
 rw [<- hd] at h3
 subst h1 h2 h3
 have mA:∀ {i j:Nat},a<=i->i<=j->j<m->key (X.getD i dI)<=key (X.getD j dI):=λh1 h2 h3=>Srt.mono oA eA (by omega) h2 (by omega)
 have mB:∀ {i j:Nat},m<=i->i<=j->j<d->key (X.getD i dI)<=key (X.getD j dI):=λh1 h2 h3=>Srt.mono oB eB (by omega) h2 (by omega)
 have sA:∀ {i:Nat},a<=i->i<m->S (X.getD i dI):=λh1 h2=>hSA _ (zec eA (by omega) (by omega))
 have sB:∀ {i:Nat},m<=i->i<d->S (X.getD i dI):=λh1 h2=>hSB _ (zec eB (by omega) (by omega))
 have ar0:Arr σ σ b X:=Arr.self hg
 refine z6 (by omega) ?_
 refine ifD (λhone=>?_) (λhne=>?_)
 · -- one thing ahead
   obtain ⟨x,A',rfl⟩:=z2d A (by rintro rfl;simp at hA)
   obtain rfl:A'=[]:=List.length_eq_zero_iff.1 (by simp only [List.length_cons] at hm;omega)
   simp only [List.length_cons,List.length_nil] at hm hd hlen
   have hx:X.getD a dI=x:=by rw [z30 eA (by omega) (by simp;omega)];simp [ha]
   refine loop2 (λ(s:Nat) (i j:Int) σ'=>∃ i' j':Nat,i=i'/\j=j'/\m<=i'/\i'<=j'/\j'<=d/\s=j'-i'/\(∀ t,m<=t->t<i'->key (X.getD t dI)<key x)/\(∀ t,j'<=t->t<d->key x<=key (X.getD t dI))/\Arr σ σ' b X) (λs=>s) (d-m) ⟨m,d,rfl,rfl,by omega,by omega,by omega,rfl,λt h1 h2=>by omega,λt h1 h2=>by omega,ar0.bump _⟩ ?_
   rintro s _ _ σ1 ⟨i,j,rfl,rfl,hmi,hij,hjd,rfl,lo,hi,ar⟩
   unfold z0B
   refine ifD (λhlt=>?_) (λhge=>?_)
   · obtain ⟨h,hh⟩:∃ h,h=(i+j) / 2:=⟨_,rfl⟩
     refine z6 (by omega) ?_
     refine zbd (h:=i+j) (by omega) (by omega) ?_
     rw [<- hh]
     refine rdI (m:=h) ar.2 hn rfl (z2W (by omega)) ?_
     refine rdI (m:=a) ar.2 hn rfl (z2W (by omega)) ?_
     rw [hx]
     refine hc _ _ x (ar.bump _).1 (sB (by omega) (by omega)) (hSA _ (by simp)) _ λc σ2 hcmp s2=>?_
     have ar:=(ar.bump _).same s2 ((ar.bump _).lt hb)
     refine To.go ?_
     refine zu ?_
     unfold z0v
     refine ifD (λhlt=>?_) (λhge=>?_)
     · have hlt:=hcmp.1 hlt
       refine z6 (by omega) ?_
       refine again ⟨j-(h+1),⟨h+1,j,by omega,rfl,by omega,by omega,hjd,rfl,λt h1 h2=>?_,hi,ar.bump _⟩,by omega⟩
       have:=mB h1 (show t<=h by omega) (by omega)
       omega
     · have hge:key x<=key (X.getD h dI):=by have:=mt hcmp.2 hge;omega
       refine again ⟨h-i,⟨i,h,rfl,rfl,hmi,by omega,by omega,rfl,lo,λt h1 h2=>?_,ar.bump _⟩,by omega⟩
       have:=mB (show m<=h by omega) h1 h2
       omega
   · obtain rfl:i=j:=by omega
     obtain ⟨B1,B2,rfl,hB1⟩:=z2n B (k:=i-m) (by omega)
     simp only [List.length_append] at hd hlen hB
     have e1:X=(P++[x])++(B1++(B2++R)):=by rw [hX];simp
     have e2:X=(P++[x]++B1)++(B2++R):=by rw [hX];simp
     have l1:∀ y∈B1,key y<key x:=λy hy=>by
      obtain ⟨t,h1,h2,rfl⟩:=z2N e1 hy
      simp only [List.length_append,List.length_cons,List.length_nil] at h1 h2
      exact lo t (by omega) (by omega)
     have l2:∀ y∈B2,key x<=key y:=λy hy=>by
      obtain ⟨t,h1,h2,rfl⟩:=z2N e2 hy
      simp only [List.length_append,List.length_cons,List.length_nil] at h1 h2
      exact hi t (by omega) (by omega)
     refine loop1 (λ(s:Nat) (k:Int) σ'=>∃ B3 B4,B1=B3++B4/\s=B4.length/\k=(a+B3.length:Nat)/\Arr σ σ' b (P++(B3++x::(B4++(B2++R))))) (λs=>s) B1.length ⟨[],B1,rfl,rfl,by simp,(ar.bump _).eq (by rw [hX];simp)⟩ ?_
     rintro s _ σ2 ⟨B3,B4,rfl,rfl,rfl,ar⟩
     unfold z0H
     simp only [List.length_append] at hB1 hd hlen
     refine z6 (by omega) ?_
     refine ifD (λhlt=>?_) (λhge=>?_)
     · obtain ⟨y,B4,rfl⟩:=z2d B4 (by rintro rfl;simp only [List.length_nil] at hB1;omega)
       simp only [List.length_cons] at hB1 hd hlen ⊢
       have e:P++(B3++x::(y::B4++(B2++R)))=(P++B3)++x::([]++y::(B4++(B2++R))):=by simp
       rw [e] at ar
       refine z6 (by omega) ?_
       refine z6 (by omega) ?_
       refine rdI (m:=a+B3.length+1) (x:=y) ar.2 (by simp;omega) (by omega) ?_ ?_
       · rw [List.nil_append,show (P++B3)++x::y::(B4++(B2++R))=((P++B3)++[x])++y::(B4++(B2++R)) from by simp]
         exact z1K (by simp;omega)
       refine rdI (m:=a+B3.length) (x:=x) ar.2 (by simp;omega) (by omega) (z1K (by simp;omega)) ?_
       refine wrI (m:=a+B3.length) ar.2 (by simp;omega) (by omega) (by omega) ?_
       refine wrI (m:=a+B3.length+1) gS' (by simp;omega) (by omega) (by omega) ?_
       rw [swap2 (by simp;omega) (by simp)]
       refine z6 (by omega) ?_
       refine again ⟨B4.length,⟨B3++[y],B4,by simp,rfl,by simp;omega,?_⟩,by omega⟩
       refine (((ar.bump _).put (Y:=_)).put.bump _).eq ?_
       simp
     · obtain rfl:B4=[]:=List.length_eq_zero_iff.1 (by omega)
       rw [List.append_nil] at l1
       refine ⟨B3++x::B2,?_,?_,(ar.bump _).eq (by simp)⟩
       · have t:Stb key (([x]++B3)++B2) ((B3++[x])++B2):=(Stb.swap λy hy z hz=>by rw [List.mem_singleton] at hy;subst hy;exact l1 z hz).append (Stb.refl B2)
         simpa using t
       · rw [List.append_nil] at oB
         refine oB.left.append (List.pairwise_cons.2 ⟨l2,oB.right⟩) λy hy z hz=>?_
         rcases List.mem_cons.1 hz with rfl | hz
         · exact Int.le_of_lt (l1 y hy)
         · exact oB.rel y hy z hz
 refine z6 (by omega) ?_
 refine ifD (λhone=>?_) (λhne2=>?_)
 · -- one thing behind
   obtain ⟨x,B',rfl⟩:=z2d B (by rintro rfl;simp at hB)
   obtain rfl:B'=[]:=List.length_eq_zero_iff.1 (by simp only [List.length_cons] at hd;omega)
   simp only [List.length_cons,List.length_nil] at hm hd hlen
   have hx:X.getD m dI=x:=by rw [z30 eB (by omega) (by simp;omega)];simp [hm]
   refine loop2 (λ(s:Nat) (i j:Int) σ'=>∃ i' j':Nat,i=i'/\j=j'/\a<=i'/\i'<=j'/\j'<=m/\s=j'-i'/\(∀ t,a<=t->t<i'->key (X.getD t dI)<=key x)/\(∀ t,j'<=t->t<m->key x<key (X.getD t dI))/\Arr σ σ' b X) (λs=>s) (m-a) ⟨a,m,rfl,rfl,by omega,by omega,by omega,rfl,λt h1 h2=>by omega,λt h1 h2=>by omega,ar0.bump _⟩ ?_
   rintro s _ _ σ1 ⟨i,j,rfl,rfl,hmi,hij,hjd,rfl,lo,hi,ar⟩
   unfold z0K
   refine ifD (λhlt=>?_) (λhge=>?_)
   · obtain ⟨h,hh⟩:∃ h,h=(i+j) / 2:=⟨_,rfl⟩
     refine z6 (by omega) ?_
     refine zbd (h:=i+j) (by omega) (by omega) ?_
     rw [<- hh]
     refine rdI (m:=m) ar.2 hn rfl (z2W (by omega)) ?_
     refine rdI (m:=h) ar.2 hn rfl (z2W (by omega)) ?_
     rw [hx]
     refine hc _ x _ (ar.bump _).1 (hSB _ (by simp)) (sA (by omega) (by omega)) _ λc σ2 hcmp s2=>?_
     have ar:=(ar.bump _).same s2 ((ar.bump _).lt hb)
     refine To.go ?_
     refine zu ?_
     unfold z0D
     by_cases hlt:c<0
     · rw [decide_eq_true hlt]
       have hlt:=hcmp.1 hlt
       refine again ⟨h-i,⟨i,h,rfl,rfl,hmi,by omega,by omega,rfl,lo,λt h1 h2=>?_,ar.bump _⟩,by omega⟩
       have:=mA (show a<=h by omega) h1 h2
       omega
     · rw [decide_eq_false hlt]
       have hge:key (X.getD h dI)<=key x:=by have:=mt hcmp.2 hlt;omega
       refine z6 (by omega) ?_
       refine again ⟨j-(h+1),⟨h+1,j,by omega,rfl,by omega,by omega,hjd,rfl,λt h1 h2=>?_,hi,ar.bump _⟩,by omega⟩
       have:=mA h1 (show t<=h by omega) (by omega)
       omega
   · obtain rfl:i=j:=by omega
     obtain ⟨A1,A2,rfl,hA1⟩:=z2n A (k:=i-a) (by omega)
     simp only [List.length_append] at hm hd hlen hA
     have e1:X=P++(A1++(A2++(x::R))):=by rw [hX];simp
     have e2:X=(P++A1)++(A2++(x::R)):=by rw [hX];simp
     have l1:∀ y∈A1,key y<=key x:=λy hy=>by
      obtain ⟨t,h1,h2,rfl⟩:=z2N e1 hy
      exact lo t (by omega) (by omega)
     have l2:∀ y∈A2,key x<key y:=λy hy=>by
      obtain ⟨t,h1,h2,rfl⟩:=z2N e2 hy
      simp only [List.length_append] at h1 h2
      exact hi t (by omega) (by omega)
     refine loop1 (λ(s:Nat) (k:Int) σ'=>∃ A3 A4,A2=A3++A4/\s=A3.length/\k=(i+A3.length:Nat)/\Arr σ σ' b (P++(A1++(A3++x::(A4++R))))) (λs=>s) A2.length ⟨A2,[],by simp,rfl,by omega,(ar.bump _).eq (by rw [hX];simp)⟩ ?_
     rintro s _ σ2 ⟨A3,A4,rfl,rfl,rfl,ar⟩
     unfold z0G
     simp only [List.length_append] at hm hd hlen
     refine ifD (λhlt=>?_) (λhge=>?_)
     · obtain ⟨A3,y,rfl⟩:=z9d A3 (by rintro rfl;simp only [List.length_nil] at hlt;omega)
       simp only [List.length_append,List.length_cons,List.length_nil] at hm hd hlen ⊢
       have e:P++(A1++(A3++[y]++x::(A4++R)))=(P++A1++A3)++y::([]++x::(A4++R)):=by simp
       rw [e] at ar
       refine z6 (by omega) ?_
       refine z6 (by omega) ?_
       refine rdI (m:=i+A3.length) (x:=y) ar.2 (by simp;omega) (by omega) (z1K (by simp;omega)) ?_
       have hgx:((P++A1++A3)++y::([]++x::(A4++R)))[i+A3.length+1]? = some x:=by
        rw [List.nil_append,show (P++A1++A3)++y::x::(A4++R)=((P++A1++A3)++[y])++x::(A4++R) from by simp]
        exact z1K (by simp;omega)
       refine rdI (m:=i+A3.length+1) (x:=x) ar.2 (by simp;omega) (by omega) hgx ?_
       refine wrI (m:=i+A3.length+1) ar.2 (by simp;omega) (by omega) (by omega) ?_
       refine wrI (m:=i+A3.length) gS' (by simp;omega) (by omega) (by omega) ?_
       rw [swap2' (by simp;omega) (by simp)]
       refine z6 (by omega) ?_
       refine again ⟨A3.length,⟨A3,y::A4,by simp,rfl,by omega,?_⟩,by omega⟩
       refine (((ar.bump _).put (Y:=_)).put.bump _).eq ?_
       simp
     · obtain rfl:A3=[]:=List.length_eq_zero_iff.1 (by omega)
       rw [List.nil_append] at l2
       refine ⟨A1++x::A4,?_,?_,(ar.bump _).eq (by simp)⟩
       · have t:Stb key (A1++(A4++[x])) (A1++([x]++A4)):=(Stb.refl A1).append (Stb.swap λy hy z hz=>by rw [List.mem_singleton] at hz;subst hz;exact l2 y hy)
         simpa using t
       · rw [List.nil_append] at oA
         refine oA.left.append (List.pairwise_cons.2 ⟨λz hz=>Int.le_of_lt (l2 z hz),oA.right⟩) λy hy z hz=>?_
         rcases List.mem_cons.1 hz with rfl | hz
         · exact l1 y hy
         · exact oA.rel y hy z hz
 -- halves
 obtain ⟨q,hq⟩:∃ q,q=(a+d) / 2:=⟨_,rfl⟩
 refine z6 (by omega) ?_
 refine zbd (h:=a+d) (by omega) (by omega) ?_
 rw [<- hq]
 refine z6 (by omega) ?_
 refine join2 (λ(i j:Int) σ'=>∃ i' j':Nat,i=i'/\j=j'/\(q<m/\i'=q+m-d/\j'=q\/m<=q/\i'=a/\j'=m)/\Arr σ σ' b X) ?_ ?_
 · refine ifD (λhlt=>?_) (λhge=>?_)
   · refine z6 (by omega) ?_
     exact ⟨q+m-d,q,by omega,rfl,.inl ⟨by omega,rfl,rfl⟩,ar0.bump _⟩
   · exact ⟨a,m,rfl,rfl,.inr ⟨by omega,rfl,rfl⟩,ar0.bump _⟩
 rintro _ _ σ1 ⟨s0,r0,rfl,rfl,hsr,ar⟩
 unfold z0A
 refine z6 (by omega) ?_
 have hs0:a<=s0/\s0<=r0/\r0<=m/\r0<=q/\q+m<=s0+d:=by omega
 refine loop2 (λ(s:Nat) (i j:Int) σ'=>∃ i' j':Nat,i=i'/\j=j'/\s0<=i'/\i'<=j'/\j'<=r0/\s=j'-i'/\(∀ t,s0<=t->t<i'->key (X.getD t dI)<=key (X.getD (q+m-1-t) dI))/\(∀ t,j'<=t->t<r0->key (X.getD (q+m-1-t) dI)<key (X.getD t dI))/\Arr σ σ' b X) (λs=>s) (r0-s0) ⟨s0,r0,rfl,rfl,by omega,by omega,by omega,rfl,λt h1 h2=>by omega,λt h1 h2=>by omega,ar.bump _⟩ ?_
 clear ar
 rintro s _ _ σ2 ⟨i,j,rfl,rfl,hmi,hij,hjd,rfl,lo,hi,ar⟩
 unfold z0w
 refine ifD (λhlt=>?_) (λhge=>?_)
 · obtain ⟨h,hh⟩:∃ h,h=(i+j) / 2:=⟨_,rfl⟩
   refine z6 (by omega) ?_
   refine zbd (h:=i+j) (by omega) (by omega) ?_
   rw [<- hh]
   refine z6 (by omega) ?_
   refine rdI (m:=q+m-1-h) ar.2 hn (by omega) (z2W (by omega)) ?_
   refine rdI (m:=h) ar.2 hn rfl (z2W (by omega)) ?_
   refine hc _ _ _ (ar.bump _).1 (sB (by omega) (by omega)) (sA (by omega) (by omega)) _ λc σ2 hcmp s2=>?_
   have ar:=(ar.bump _).same s2 ((ar.bump _).lt hb)
   refine To.go ?_
   refine zu ?_
   unfold z0I
   by_cases hlt:c<0
   · rw [decide_eq_true hlt]
     have hlt:=hcmp.1 hlt
     refine again ⟨h-i,⟨i,h,rfl,rfl,hmi,by omega,by omega,rfl,lo,λt h1 h2=>?_,ar.bump _⟩,by omega⟩
     have:=mA (show a<=h by omega) h1 (by omega)
     have:=mB (show m<=q+m-1-t by omega) (show q+m-1-t<=q+m-1-h by omega) (by omega)
     omega
   · rw [decide_eq_false hlt]
     have hge:key (X.getD h dI)<=key (X.getD (q+m-1-h) dI):=by have:=mt hcmp.2 hlt;omega
     refine z6 (by omega) ?_
     refine again ⟨j-(h+1),⟨h+1,j,by omega,rfl,by omega,by omega,hjd,rfl,λt h1 h2=>?_,hi,ar.bump _⟩,by omega⟩
     have:=mA (show a<=t by omega) (show t<=h by omega) (by omega)
     have:=mB (show m<=q+m-1-h by omega) (show q+m-1-h<=q+m-1-t by omega) (by omega)
     omega
 obtain rfl:i=j:=by omega
 obtain ⟨A1,A2,rfl,hA1⟩:=z2n A (k:=i-a) (by omega)
 obtain ⟨B1,B2,rfl,hB1⟩:=z2n B (k:=q-i) (by omega)
 simp only [List.length_append] at hm hd hlen hN
 have f1:X=P++(A1++(A2++(B1++(B2++R)))):=by rw [hX];simp
 have f2:X=(P++A1)++(A2++(B1++(B2++R))):=by rw [hX];simp
 have f3:X=(P++A1++A2)++(B1++(B2++R)):=by rw [hX];simp
 have f4:X=(P++A1++A2++B1)++(B2++R):=by rw [hX];simp
 have h12:∀ x∈A1,∀ y∈B2,key x<=key y:=by
  intro x hx y hy
  obtain ⟨t,h1,h2,rfl⟩:=z2N f1 hx
  obtain ⟨u,h3,h4,rfl⟩:=z2N f4 hy
  simp only [List.length_append] at h3 h4
  have g1:=mA (show a<=t by omega) (show t<=i-1 by omega) (by omega)
  have g2:=lo (i-1) (by omega) (by omega)
  have g3:=mB (show m<=q+m-1-(i-1) by omega) (show q+m-1-(i-1)<=u by omega) (by omega)
  omega
 have h21:∀ x∈A2,∀ y∈B1,key y<key x:=by
  intro x hx y hy
  obtain ⟨t,h1,h2,rfl⟩:=z2N f2 hx
  obtain ⟨u,h3,h4,rfl⟩:=z2N f3 hy
  simp only [List.length_append] at h1 h2 h3 h4
  have g1:=mA (show a<=i by omega) (show i<=t by omega) (by omega)
  have g2:=hi i (by omega) (by omega)
  have g3:=mB (show m<=u by omega) (show u<=q+m-1-i by omega) (by omega)
  omega
 obtain ⟨e,he⟩:∃ e,e=q+m-i:=⟨_,rfl⟩
 have right:∀ L σ',Stb key (A1++B1) L->Srt key L->Arr σ σ' b (P++(L++(A2++(B2++R))))->zN (.slice b 0 n c) d cmp (λ_ σ'=>∃ C,Stb key ((A1++A2)++(B1++B2)) C/\Srt key C/\Arr σ σ' b (P++(C++R))) q e σ':=by
  intro L σ' sL oL ar
  have hL:=sL.1
  simp only [List.length_append] at hL
  have fin:∀ R' σ'',Stb key (A2++B2) R'->Srt key R'->Arr σ σ'' b (P++(L++(R'++R)))->∃ C,Stb key ((A1++A2)++(B1++B2)) C/\Srt key C/\Arr σ σ'' b (P++(C++R)):=by
   intro R' σ'' sR oR ar
   obtain ⟨g1,g2⟩:=zcq oA oB h12 h21 sL oL sR oR
   exact ⟨L++R',g2,g1,ar.eq (by simp)⟩
  unfold zN
  refine ifD (λhlt=>?_) (λhge=>?_)
  · refine zu ?_
    unfold z0F
    refine ifD (λhlt2=>?_) (λhge2=>?_)
    · refine z0 (ih (P:=P++L) (A:=A2) (B:=B2) (R:=R) (by omega) rfl (by rw [Mem.get_bump,ar.2];simp) ((ar.bump _).lt hb) (by simp;omega) hl (by simp;omega) (by simp;omega) (by simp;omega) (by omega) (by omega) oA.right oB.right (λx hx=>hSA x (by simp [hx])) (λx hx=>hSB x (by simp [hx])) (hc.of (ar.bump _).1)) ?_
      rintro v σ3 ⟨C,sC,oC,aC⟩
      exact fin C σ3 sC oC (((ar.bump _).trans aC).eq (by simp))
    · obtain rfl:B2=[]:=List.length_eq_zero_iff.1 (by omega)
      exact fin A2 _ (by simpa using Stb.refl A2) oA.right (ar.bump _)
  · refine zu ?_
    unfold z0C
    obtain rfl:A2=[]:=List.length_eq_zero_iff.1 (by omega)
    exact fin B2 _ (by simpa using Stb.refl B2) oB.right (ar.bump _)
 have left:∀ σ',Arr σ σ' b (P++(A1++(B1++(A2++(B2++R)))))->zM (.slice b 0 n c) a d cmp (λ_ σ'=>∃ C,Stb key ((A1++A2)++(B1++B2)) C/\Srt key C/\Arr σ σ' b (P++(C++R))) q i e σ':=by
  intro σ' ar
  unfold zM
  refine ifD (λhlt=>?_) (λhge=>?_)
  · refine zu ?_
    refine ifD (λhlt2=>?_) (λhge2=>?_)
    · refine z0 (ih (P:=P) (A:=A1) (B:=B1) (R:=A2++(B2++R)) (by omega) rfl (by rw [Mem.get_bump,ar.2]) ((ar.bump _).lt hb) (by simp;omega) hl (by omega) (by omega) (by omega) (by omega) (by omega) oA.left oB.left (λx hx=>hSA x (by simp [hx])) (λx hx=>hSB x (by simp [hx])) (hc.of (ar.bump _).1)) ?_
      rintro v σ3 ⟨C,sC,oC,aC⟩
      exact right C σ3 sC oC ((ar.bump _).trans aC)
    · obtain rfl:B1=[]:=List.length_eq_zero_iff.1 (by omega)
      exact right A1 _ (by simpa using Stb.refl A1) oA.left (ar.bump _)
  · refine zu ?_
    obtain rfl:A1=[]:=List.length_eq_zero_iff.1 (by omega)
    exact right B1 _ (by simpa using Stb.refl B1) oB.left (ar.bump _)
 refine z6 (by omega) ?_
 rw [show ((q:Int)+m-i)=(e:Nat) from by omega]
 refine ifD (λhlt=>?_) (λhge=>?_)
 · refine zu ?_
   refine ifD (λhlt2=>?_) (λhge2=>?_)
   · refine z0 (z7M (P:=P++A1) (U:=A2) (V:=B1) (R:=B2++R) rfl (by rw [Mem.get_bump,ar.2,f1];simp) (by simp;omega) hl (by simp;omega) (by simp;omega) (by simp;omega) (by omega) (by omega)) ?_
     intro v σ3 a3
     exact left σ3 (((ar.bump _).trans a3).eq (by simp))
   · obtain rfl:B1=[]:=List.length_eq_zero_iff.1 (by omega)
     exact left _ ((ar.bump _).eq (by rw [f1];simp))
 · refine zu ?_
   obtain rfl:A2=[]:=List.length_eq_zero_iff.1 (by omega)
   exact left _ ((ar.bump _).eq (by rw [f1];simp))
end
section
variable {b n:Nat} {c:Cap} {cmp:AV} {key:It->Int} {S:It->Prop}
def Rows (key:It->Int) (k:Nat) (D:List (List It)):Prop:=∀ l∈D,l.length=k/\Srt key l
theorem Rows.snoc {k:Nat} {D:List (List It)} {l:List It} (h:Rows key k D) (h1:l.length=k) (h2:Srt key l):Rows key k (D++[l]):=by
 intro x hx
 rcases List.mem_append.1 hx with hx | hx
 · exact h x hx
 · rw [List.mem_singleton] at hx;subst hx;exact ⟨h1,h2⟩
theorem Rows.len {k:Nat}:∀ {D:List (List It)},Rows key k D->D.flatten.length=D.length*k
 | [],_=>by simp
 | l::D,h=>by
   rw [List.flatten_cons,List.length_append,(h l (by simp)).1,Rows.len (D:=D) λx hx=>h x (List.mem_cons_of_mem _ hx),List.length_cons,Nat.add_mul]
   omega
theorem z7F {σ:Mem} {X:List It} (hg:σ.get b=some (.rw (ic3 X))) (hb:b<σ.next) (hn:X.length=n) (hl:n<=2^58) (hS:∀ x∈X,S x) (hc:Cmp σ b key S cmp) :
 z1 PG z04 [.slice b 0 n c,.int .i64 (n:Nat),cmp] σ λ_ σ'=>∃ C,Stb key X C/\Srt key C/\Arr σ σ' b C:=by
 refine z3S λlive=>?_
 unfold z1m
 -- the first rows
 refine loop2 (λ(a:Nat) (i j:Int) σ'=>i=a/\j=(a+20:Nat)/\a<=n/\∃ X0 E D,X=X0++E/\Rows key 20 D/\Stb key X0 D.flatten/\a=X0.length/\Arr σ σ' b (D.flatten++E)) (λa=>n-a) 0 ⟨rfl,by omega,by omega,[],X,[],rfl,λl h=>by simp at h,Stb.refl _,rfl,(Arr.self hg).bump _⟩ ?_
 rintro a _ _ σ1 ⟨rfl,rfl,ha,X0,E,D,rfl,rD,sD,hX0,ar⟩
 unfold z0Z
 have hDl:=sD.1
 rw [List.length_append] at hn
 refine ifD (λhle=>?_) (λhgt=>?_)
 · obtain ⟨A,E,rfl,hA⟩:=z2n E (k:=20) (by omega)
   rw [List.length_append] at hn
   refine z0 (z0S (S:=S) (P:=D.flatten) (A:=A) (R:=E) rfl (by rw [Mem.get_bump,ar.2]) ((ar.bump _).lt hb) (by simp [-List.length_flatten];omega) (by omega) (by omega) (by omega) (λx hx=>hS x (by simp [hx])) (hc.of (ar.bump _).1)) ?_
   rintro v σ2 ⟨C,sC,oC,aC⟩
   refine z6 (by omega) ?_
   refine again ⟨a+20,⟨by omega,by omega,by omega,X0++A,E,D++[C],by simp,rD.snoc (by rw [sC.1];exact hA) oC,?_,by simp [-List.length_flatten];omega,?_⟩,by omega⟩
   · rw [List.flatten_append]
     exact sD.append (by simpa using sC)
   · exact (((ar.bump _).trans aC).bump _).eq (by simp)
 · refine z0 (z0S (S:=S) (P:=D.flatten) (A:=E) (R:=[]) rfl (by rw [Mem.get_bump,ar.2];simp) ((ar.bump _).lt hb) (by simp [-List.length_flatten];omega) (by omega) (by omega) (by omega) (λx hx=>hS x (by simp [hx])) (hc.of (ar.bump _).1)) ?_
   rintro v σ2 ⟨C,sC,oC,aC⟩
   have ar:=((ar.bump _).trans aC).eq (Y:=D.flatten++C) (by simp)
   have hCl:=sC.1
   -- greater and greater rows
   refine loop1 (λ(m:Nat) (x:Int) σ'=>∃ k D T,x=(k:Nat)/\20<=k/\k<=2^59/\m=n-k/\Rows key k D/\T.length<k/\Srt key T/\Stb key (X0++E) (D.flatten++T)/\Arr σ σ' b (D.flatten++T)) (λm=>m) (n-20) ⟨20,D,C,rfl,by omega,by omega,rfl,rD,by omega,oC,sD.append sC,ar⟩ ?_
   clear rD sD hDl ar sC oC aC hCl
   rintro _ _ σ3 ⟨k,D,T,rfl,hk,hk2,rfl,rD,hT,oT,sD,ar⟩
   unfold z0Y
   have hl1:=rD.len
   have hl2:=sD.1
   rw [List.length_append,List.length_append] at hl2
   refine ifD (λhlt=>?_) (λhge=>?_)
   · refine z6 (by omega) ?_
     refine loop2 (λ(m:Nat) (i j:Int) σ'=>∃ (a:Nat) (D1 D2:List (List It)),i=a/\j=(a+2*k:Nat)/\m=D2.length/\Rows key (2*k) D1/\Rows key k D2/\D1.flatten.length=a/\a+D2.flatten.length+T.length=n/\Stb key (X0++E) (D1.flatten++(D2.flatten++T))/\Arr σ σ' b (D1.flatten++(D2.flatten++T))) (λm=>m) D.length ⟨0,[],D,rfl,by omega,rfl,λl h=>by simp at h,rD,rfl,by omega,sD,ar.bump _⟩ ?_
     clear sD ar
     rintro _ _ _ σ4 ⟨a,D1,D2,rfl,rfl,rfl,r1,r2,la,ln,sD,ar⟩
     unfold z0X
     have hl3:=r2.len
     have hSD:∀ x∈D1.flatten++(D2.flatten++T),S x:=λx hx=>hS x ((sD.mem x).1 hx)
     refine ifD (λhle=>?_) (λhgt=>?_)
     · -- two rows
       match D2,hl3 with
       | [],hl3=>simp at ln;omega
       | [A],hl3=>simp at hl3;simp at ln;omega
       | A::B::D2,hl3=>
       have hA:=r2 A (by simp)
       have hB:=r2 B (by simp)
       simp only [List.flatten_cons,List.length_append,List.length_cons] at ln hl3
       refine z6 (by omega) ?_
       refine z0 (z2L (S:=S) _ (P:=D1.flatten) (A:=A) (B:=B) (R:=D2.flatten++T) (Nat.le_refl _) rfl (by rw [Mem.get_bump,ar.2];simp) ((ar.bump _).lt hb) (by simp [-List.length_flatten];omega) (by omega) (by omega) (by omega) (by omega) (by omega) (by omega) hA.2 hB.2 (λx hx=>hSD x (by simp [hx])) (λx hx=>hSD x (by simp [hx])) (hc.of (ar.bump _).1)) ?_
       rintro v σ5 ⟨C,sC,oC,aC⟩
       have hCl:=sC.1
       rw [List.length_append] at hCl
       refine z6 (by omega) ?_
       refine z6 (by omega) ?_
       refine again ⟨D2.length,⟨a+2*k,D1++[C],D2,by omega,by omega,rfl,r1.snoc (by omega) oC,λl hl=>r2 l (by simp [hl]),by simp [-List.length_flatten];omega,by omega,?_,?_⟩,by simp only [List.length_cons];omega⟩
       · refine sD.trans ?_
         have t:Stb key (D1.flatten++((A++B)++(D2.flatten++T))) (D1.flatten++(C++(D2.flatten++T))):=(Stb.refl _).append (sC.append (Stb.refl _))
         simpa using t
       · exact (((ar.bump _).trans aC).bump _).eq (by simp)
     · refine z6 (by omega) ?_
       refine join0 (λσ'=>∃ D T,Rows key (2*k) D/\T.length<2*k/\Srt key T/\Stb key (X0++E) (D.flatten++T)/\Arr σ σ' b (D.flatten++T)) ?_ ?_
       · match D2,hl3 with
         | [],hl3=>
           simp at ln
           refine ifD (λh=>absurd h (by omega)) (λ_=>?_)
           exact ⟨D1,T,r1,by omega,oT,by simpa using sD,(ar.bump _).eq (by simp)⟩
         | [A],hl3=>
           have hA:=r2 A (by simp)
           simp only [List.flatten_cons,List.length_append,List.flatten_nil,List.length_nil] at ln
           refine ifD (λh=>?_) (λh=>?_)
           · refine z0 (z2L (S:=S) _ (P:=D1.flatten) (A:=A) (B:=T) (R:=[]) (Nat.le_refl _) rfl (by rw [Mem.get_bump,ar.2];simp) ((ar.bump _).lt hb) (by simp [-List.length_flatten];omega) (by omega) (by omega) (by omega) (by omega) (by omega) (by omega) hA.2 oT (λx hx=>hSD x (by simp [hx])) (λx hx=>hSD x (by simp [hx])) (hc.of (ar.bump _).1)) ?_
             rintro v σ5 ⟨C,sC,oC,aC⟩
             have hCl:=sC.1
             rw [List.length_append] at hCl
             refine ⟨D1,C,r1,by omega,oC,sD.trans ?_,((ar.bump _).trans aC).eq (by simp)⟩
             have t:Stb key (D1.flatten++(A++T)) (D1.flatten++C):=(Stb.refl _).append sC
             simpa using t
           · obtain rfl:T=[]:=List.length_eq_zero_iff.1 (by omega)
             refine ⟨D1,A,r1,by omega,hA.2,by simpa using sD,(ar.bump _).eq (by simp)⟩
         | A::B::D2,hl3=>
           have hA:=r2 A (by simp)
           have hB:=r2 B (by simp)
           simp only [List.flatten_cons,List.length_append,List.length_cons] at ln
           omega
       · rintro σ5 ⟨D,T,rD,hT,oT,sD,ar⟩
         unfold z0V
         refine z6 (by omega) ?_
         exact again ⟨n-2*k,⟨2*k,D,T,by omega,by omega,by omega,rfl,rD,hT,oT,sD,ar.bump _⟩,by omega⟩
   · match D,hl1 with
     | [],hl1=>exact ⟨T,by simpa using sD,oT,(ar.bump _).eq (by simp)⟩
     | [A],hl1=>
       simp at hl1 hl2
       obtain rfl:T=[]:=List.length_eq_zero_iff.1 (by omega)
       exact ⟨A,by simpa using sD,(rD A (by simp)).2,(ar.bump _).eq (by simp)⟩
     | A::B::D,hl1=>
       have hA:=rD A (by simp)
       have hB:=rD B (by simp)
       simp only [List.flatten_cons,List.length_append,List.length_cons] at hl2
       omega
theorem slices_SortStable {σ:Mem} {X:List It} (hg:σ.get b=some (.rw (ic3 X))) (hb:b<σ.next) (hn:X.length=n) (hl:n<=2^58) (hS:∀ x∈X,S x) (hc:Cmp σ b key S cmp) :
 z1 PG zm [.slice b 0 n c,cmp] σ λ_ σ'=>∃ C,Stb key X C/\Srt key C/\Arr σ σ' b C:=by
 refine z1o λlive=>?_
 unfold zU
 show z5 _ _ _ _ _
 refine z0 (z7F (σ:=σ.bump 5) (S:=S) (key:=key) hg (Nat.lt_of_lt_of_le hb (by rw [Mem.next_bump];omega)) hn hl hS (hc.of (Arr.bump (Arr.self hg) 5).1)) ?_
 rintro v σ1 ⟨C,h1,h2,h3⟩
 exact ⟨C,h1,h2,(Arr.bump (Arr.self hg) 5).trans h3⟩
end
end I3
end Go.Vit
