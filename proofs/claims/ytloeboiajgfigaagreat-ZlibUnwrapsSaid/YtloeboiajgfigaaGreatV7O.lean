/- Limited codes. -/
import Derived.Test.YtloeboiajgfigaaGreatV7J
import Derived.Test.YtloeboiajgfigaaGreatVm3
set_option linter.unusedVariables false
set_option linter.unusedSimpArgs false
set_option maxRecDepth 20000
namespace Go.Vit
open Go.Proofs
instance (most:Int) (L:List Int):Decidable (zi4 most L):=by unfold zi4;infer_instance
def itO:Pm->It
 | .coin n s=>⟨n,s,.nils,rfl,.coin n s⟩
 | .pair _ _=>dI
theorem zj0 (L:List Int) (i:Nat):((zX L i).map itO).map (λx=>x.t)=zX L i:=by
 rw [List.map_map]
 refine List.ext_getElem (by simp) λk h1 h2=>?_
 rw [List.getElem_map]
 obtain ⟨j,_,_,e⟩:=z4s (List.getElem_mem h2)
 show (itO (zX L i)[k]).t=_
 rw [e];rfl
theorem zj4 {ok:Nat->Prop} {σ:Mem} {L:List Int} {i:Nat}:∀ x∈(zX L i).map itO,rep ok σ x.t x:=by
 intro x hx
 rw [List.mem_map] at hx
 obtain ⟨t,ht,rfl⟩:=hx
 obtain ⟨j,_,_,rfl⟩:=z4s ht
 exact ⟨rfl,rfl,rfl⟩
theorem z7o (most:Nat) (L:List Int):(limit most L).length=L.length:=by
 unfold limit
 split<;>exact zW _ _
def zqN (m k:Nat) (t:Pm):Prop:=(0<=t.wt/\t.wt<=1000000000*2^k)/\t.sz<=2^k/\t.syb m
theorem zmY {L:List Int} (hL:∀ n∈L,0<=n/\n<=1000000000) {C:List Pm} (hC:∀ x∈C,x∈zk L) (k:Nat):∀ x∈rows C k,zqN L.length k x:=by
 refine zfL (p:=zqN L.length) (λx hx k=>?_) (λk a b ha hb=>?_) k
 · obtain ⟨j,hj,h0,rfl⟩:=z4s (hC x hx)
   have hn:=hL (L.getD j 0) (by rw [zA hj];exact List.getElem_mem hj)
   have hp:1<=2^k:=Nat.one_le_two_pow
   have hp':(1:Int)<=2^k:=by exact_mod_cast hp
   exact ⟨⟨by show 0<=L.getD j 0;omega,by show L.getD j 0<=_;omega⟩,hp,hj⟩
 · obtain ⟨⟨a1,a2⟩,a3,a4⟩:=ha
   obtain ⟨⟨b1,b2⟩,b3,b4⟩:=hb
   refine ⟨⟨?_,?_⟩,?_,a4,b4⟩
   · show 0<=a.wt+b.wt;omega
   · show a.wt+b.wt<=_
     rw [Int.pow_succ];omega
   · show a.sz+b.sz<=_
     rw [Nat.pow_succ];omega
theorem zm9 {n:Nat}:∀ {l:List Pm},(∀ x∈l,x.sz<=n)->zgP l<=l.length*n
 | [],_=>by simp [zgP]
 | a::l,h=>by
   have ih:=zm9 (l:=l) λx hx=>h x (by simp [hx])
   have ha:=h a (by simp)
   unfold zgP at ih ⊢
   rw [List.map_cons,List.sum_cons,List.length_cons,Nat.add_mul];omega
theorem zbM {a:AV} {L:List Int} {most:Int} {σ:Mem} (ha:RdO 1 σ a (ic L) L.length) (hl:L.length<=2^44) :
 z1 PG z3N [.int .i64 most,a] σ λw σ'=>∃ c,w=.tup [c,.int .i64 (if zi4 most L then 1 else 0)]/\σ.Same σ'/\((zi4 most L/\c=.nils)\/(¬ zi4 most L/\RdX σ' c (limit most.toNat L)/\∀ b∈z3 c,σ.next<=b/\b<σ'.next)):=by
 refine zfP λlive=>?_
 unfold zcm
 have hla:=ha.lt live
 have bad:∀ (k:Nat) (σ':Mem),zi4 most L->σ.Same σ'->∃ c,AV.tup [.nils,.int .i64 1]=.tup [c,.int .i64 (if zi4 most L then 1 else 0)]/\σ.Same σ'/\((zi4 most L/\c=.nils)\/(¬ zi4 most L/\RdX σ' c (limit most.toNat L)/\∀ b∈z3 c,σ.next<=b/\b<σ'.next)):=λ_ σ' h s=>⟨.nils,by rw [if_pos h],s,.inl ⟨h,rfl⟩⟩
 refine ifD (λh=>bad 0 _ (.inl h) ((Mem.Same.refl σ).bump _)) (λh1=>?_)
 refine ifD (λh=>bad 0 _ (.inr (.inl h)) ((Mem.Same.refl σ).bump _)) (λh2=>?_)
 refine ha.len ?_
 refine ifD (λh=>bad 0 _ (.inr (.inr (.inl (by omega)))) ((Mem.Same.refl σ).bump _)) (λh3=>?_)
 refine z0 (z6f (σ:=σ.bump 17) (p:=λn=>decide (n<0\/1000000000<n)) (ha.keep λ_ _=>rfl) (by omega) ?_) ?_
 · intro σ' x _ _ n K hK
   refine z1.mono (Q:=λv σ''=>v=.bool (decide (x<0\/1000000000<x))/\σ'.Same σ'') ?_ ?_
   · refine zdg λ_=>?_
     unfold z9E
     refine ifD (λh=>⟨by rw [decide_eq_true (Or.inl h)],((Mem.Same.refl σ').bump _).bump _⟩) (λh=>?_)
     refine ⟨?_,((Mem.Same.refl σ').bump _).bump _⟩
     by_cases h':1000000000<x
     · rw [decide_eq_true h',decide_eq_true (Or.inr h')]
     · rw [decide_eq_false h',decide_eq_false (λe=>e.elim h h')]
   · rintro _ σ'' ⟨rfl,s⟩
     exact hK σ'' s
 rintro _ σ1 ⟨rfl,s1⟩
 replace s1:=s1.ob
 refine To.go ?_
 by_cases h4:∃ x∈L,decide (x<0\/1000000000<x)=true
 · rw [decide_eq_true h4]
   refine To.go ?_
   refine bad 0 _ (.inr (.inr (.inr (.inl ?_)))) (s1.bump _)
   obtain ⟨x,hx,h⟩:=h4
   exact ⟨x,hx,of_decide_eq_true h⟩
 rw [decide_eq_false h4]
 refine To.go ?_
 have hLn:∀ n∈L,0<=n/\n<=1000000000:=λn hn=>by
  have:¬ (n<0\/1000000000<n):=λe=>h4 ⟨n,hn,decide_eq_true e⟩
  omega
 have ha1:=ha.keep (σ':=σ1) λb hb=>s1.get b (hla b hb)
 refine ha1.len ?_
 refine loop2 (λ(i:Nat) (u:AV) (y:Int) σ'=>y=i/\i<=L.length/\Own 3 σ σ' u (ic3 ((zX L i).map itO)) (zX L i).length/\σ.Same σ') (λi=>L.length-i) 0 ⟨rfl,by omega,Own.nil 3 _ _,s1.bump _⟩ ?_
 rintro i u _ σ2 ⟨rfl,hi,own,s2⟩
 unfold z97
 have hcl:=zai L i
 refine ifD (λhlt=>?_) (λhge=>?_)
 · have hil:i<L.length:=by omega
   obtain ⟨ba,baz,ca,rfl,hget⟩:=(ha.keep (σ':=σ2) λb hb=>s2.get b (hla b hb)).at hil
   refine To.go ?_
   refine And.intro hil ?_
   refine To.go ?_
   refine hget _ ?_
   refine To.go ?_
   have hgd:L.getD i 0=L[i]:=zA hil
   have hsucc:=zcD L i
   rw [hgd] at hsucc
   refine zu ?_
   refine ifD (λhpos=>?_) (λhneg=>?_)
   · rw [if_pos hpos] at hsucc
     refine And.intro ⟨rfl,rfl⟩ ?_
     refine To.go ?_
     refine own.push (m:=1) (c:=ic3 [itO (.coin L[i] i)]) s2 rfl (by omega) (by omega) (by omega) rfl (zdJ _) (zdJ _) (by omega) ?_ (by simp only [Mem.next_put,Mem.next_bump];omega)
     intro u' σ3 own3 s3 _ _ _
     rw [zfp,show (zX L i).map itO++[itO (.coin L[i] i)]=(zX L (i+1)).map itO from by rw [hsucc,List.map_append];rfl,show (zX L i).length+1=(zX L (i+1)).length from by rw [hsucc];simp] at own3
     unfold z61
     refine z6 (by omega) ?_
     exact again ⟨i+1,⟨by omega,by omega,own3.same ((Mem.Same.refl σ3).bump _),s3.bump _⟩,by omega⟩
   · rw [if_neg hneg,List.append_nil] at hsucc
     unfold z61
     refine z6 (by omega) ?_
     refine again ⟨i+1,⟨by omega,by omega,?_,(s2.bump _).bump _⟩,by omega⟩
     rw [hsucc]
     exact own.same (((Mem.Same.refl σ2).bump _).bump _)
 · obtain rfl:i=L.length:=by omega
   rw [show zX L L.length=zk L from rfl] at own hcl
   have hits:=zj0 L L.length
   rw [show zX L L.length=zk L from rfl] at hits
   obtain ⟨mt,hmt⟩:∃ mt:Nat,most=mt:=⟨most.toNat,by omega⟩
   subst hmt
   have ha2:=ha.keep (σ':=σ2) λb hb=>s2.get b (hla b hb)
   refine own.1.rdO.len ?_
   have hpw:(1:Int)*2^((mt:Nat):Int).toNat=((2^mt:Nat):Int):=by rw [Int.toNat_natCast];push_cast;omega
   have hpb:2^mt<=2^15:=z1D (by omega)
   obtain ⟨pw,hpwe⟩:∃ pw:Nat,2^mt=pw:=⟨_,rfl⟩
   rw [hpwe] at hpw hpb
   repeat (first | refine To.go ?_ | with_reducible refine And.intro (by omega) ?_)
   rw [hpw]
   refine ifD (λh=>bad 0 _ (.inr (.inr (.inr (.inr (by rw [Int.toNat_natCast,hpwe];omega))))) (s2.bump _)) (λhpm=>?_)
   have hnb:¬ zi4 (mt:Nat) L:=by
    rintro (h | h | h | ⟨x,hx,h⟩ | h)
    · omega
    · omega
    · omega
    · have:=hLn x hx;omega
    · rw [Int.toNat_natCast,hpwe] at h;omega
   clear bad
   rw [if_neg hnb]
   refine ha2.len ?_
   obtain ⟨lb,hlb⟩:∃ lb,σ2.next+8=lb:=⟨_,rfl⟩
   rw [hlb]
   refine To.go ?_
   refine And.intro (by omega) ?_
   rw [Int.toNat_natCast,z8M]
   refine To.go ?_
   obtain ⟨σ3,h3'⟩:∃ σ3,σ3=(σ2.bump 10).put lb (some (.rw (ic (arr (λ_=>0) L.length)))):=⟨_,rfl⟩
   rw [<- h3']
   have s3:σ2.Same σ3:=by rw [h3'];repeat (with_reducible first | exact Mem.Same.refl _ | refine Mem.Same.bump ?_ _ | refine Mem.Same.put ?_ (by omega) _)
   have n3:σ3.next=σ2.next+10:=by rw [h3'];rfl
   have e3:σ3.get lb=some (.rw (ic (arr (λ_=>0) L.length))):=by rw [h3',gS']
   clear h3'
   have s03:=s2.trans s3
   have n2:=s2.next
   have own3:z1Q 3 σ3 u (ic3 ((zk L).map itO)) (zk L).length:=own.1.keep λb hb=>s3.get b (own.2 b hb).2
   have hub:∀ b∈z3 u,σ.next<=b/\b<σ2.next:=own.2
   refine own3.rdO.len ?_
   obtain ⟨Z,hZ⟩:∃ Z:List Int,arr (λ_=>0) L.length=Z:=⟨_,rfl⟩
   have hZl:Z.length=L.length:=by rw [<- hZ,zW]
   have hZ0:∀ j,Z.getD j 0=0:=by
    intro j
    rw [<- hZ]
    by_cases hj:j<L.length
    · rw [zA (by rw [zW];exact hj)];simp [arr]
    · rw [List.getD_eq_getElem?_getD,List.getElem?_eq_none (by rw [zW];omega)];rfl
   have haddc:∀ l,addc Z l=arr (λi=>z8I i l) L.length:=by
    intro l
    unfold addc
    rw [hZl]
    refine z0e λj _=>?_
    rw [hZ0];omega
   rw [hZ] at e3
   have done:∀ (σ':Mem) (l:List Int),limit mt L=l->σ'.get lb=some (.rw (ic l))->σ.Same σ'->lb<σ'.next->∃ c,AV.tup [.slice lb 0 L.length (.ex L.length),.int .i64 0]=.tup [c,.int .i64 0]/\σ.Same σ'/\((zi4 (mt:Nat) L/\c=.nils)\/(¬ zi4 (mt:Nat) L/\RdX σ' c (limit ((mt:Nat):Int).toNat L)/\∀ b∈z3 c,σ.next<=b/\b<σ'.next)):=by
    intro σ' l hl hg hs hn
    refine ⟨_,rfl,hs,.inr ⟨hnb,?_,λb hb=>?_⟩⟩
    · rw [Int.toNat_natCast,hl]
      exact ⟨lb,by rw [<- hl,z7o],hg⟩
    · simp only [z3,List.mem_singleton] at hb
      omega
   refine zu ?_
   by_cases hm1:(zk L).length=1
   · refine ifT (by omega) ?_
     obtain ⟨t,ht⟩:=List.length_eq_one_iff.1 hm1
     obtain ⟨j,hj,_,hjt⟩:=z4s (L:=L) (i:=L.length) (x:=t) (by rw [show zX L L.length=zk L from rfl,ht];simp)
     rw [ht,hjt] at own3
     obtain ⟨b,rfl,hgb,_⟩:=own3.sl (by simp)
     refine And.intro (show (0:Int)<=0/\(0:Int)<(1:Nat) by decide) ?_
     refine To.go ?_
     refine To.go ?_
     refine ldrw (σ:=σ3.bump 10) hgb (v:=.int .i64 (j:Nat)) rfl ?_
     refine To.go ?_
     refine wrI (m:=j) (σ:=σ3.bump 10) e3 hZl rfl hj ?_
     unfold z6e
     rw [hlb,Int.toNat_natCast]
     refine To.go ?_
     refine ifT (by simp) ?_
     refine done _ (Z.set j 1) ?_ ?_ ?_ ?_
     · unfold limit
       rw [if_pos hm1,<- haddc,ht,hjt,zhb (by omega),hZ0];rfl
     · rw [Mem.get_bump,gS']
     · refine Mem.Same.bump (Mem.Same.put (s03.bump _) (by omega) _) _
     · simp only [Mem.next_bump,Mem.next_put];omega
   refine ifF (by omega) ?_
   unfold z6e
   rw [hlb,Int.toNat_natCast]
   refine (own3.keep (σ':=σ3.bump 3) λ_ _=>rfl).rdO.len ?_
   by_cases hm0:(zk L).length=0
   · refine ifT (by omega) ?_
     refine done _ Z ?_ ?_ ?_ ?_
     · unfold limit
       rw [if_neg hm1,hm0]
       show arr (λi=>z8I i (List.take 0 _)) L.length=Z
       rw [List.take_zero,<- haddc,zgw]
     · exact e3
     · exact (s03.bump _).bump _
     · simp only [Mem.next_bump];omega
   refine ifF (by omega) ?_
   have hm2:2<=(zk L).length:=by omega
   -- the coins are sorted
   have hXl:((zk L).map itO).length=(zk L).length:=by rw [List.length_map]
   obtain ⟨b,rfl,hgb,_⟩:=own3.sl (by omega)
   have hb:=hub b (by simp [z3])
   obtain ⟨X0,hX0⟩:∃ X0,(zk L).map itO=X0:=⟨_,rfl⟩
   rw [hX0] at hgb hXl hits
   have hrep0:∀ (ok:Nat->Prop) (σ':Mem),∀ x∈X0,rep ok σ' x.t x:=by
    intro ok σ'
    rw [<- hX0]
    exact zj4
   refine z0 (I3.slices_SortStable (σ:=(σ3.bump 3).bump 5) (X:=X0) (b:=b) (c:=.op 3) (n:=(zk L).length) (key:=λx=>x.n) (S:=λ_=>True) (cmp:=.func z3l []) hgb (by simp only [Mem.next_bump];omega) hXl (by omega) (λ_ _=>trivial) zhi) ?_
   rintro _ σ4 ⟨C',sC,oC,ar⟩
   have n4:=ar.1.next
   simp only [Mem.next_bump] at n4
   have hl':C'.length=(zk L).length:=sC.1.trans hXl
   have hwt:∀ x∈X0,x.t.wt=x.n:=λx hx=>(hrep0 (λ_=>True) σ4 x hx).wt.symm
   obtain ⟨Cs,hCs⟩:∃ Cs,isort (zk L)=Cs:=⟨_,rfl⟩
   have hCsl:Cs.length=(zk L).length:=by rw [<- hCs,z6Z]
   have hCt:C'.map (λx=>x.t)=Cs:=by
    rw [<- hCs]
    refine zgi ?_ ?_
    · rw [<- hits];exact sC.map hwt
    · exact oC.map λx hx=>hwt x ((sC.mem x).1 hx)
   have hU:RowM lb σ4 (.slice b 0 (zk L).length (.op 3)) C' Cs:=by
    refine ⟨?_,hCt,λx hx=>hrep0 _ _ x ((sC.mem x).1 hx),λb' hb'=>?_⟩
    · rw [<- hl'];exact .inr ⟨b,rfl,ar.2,by rw [z7y]⟩
    · simp only [z3,List.mem_singleton] at hb'
      subst hb'
      exact ⟨by omega,by omega⟩
   have s4:σ.Same σ4:=⟨by omega,λb' hb'=>by
    rw [ar.1.get b' (by simp only [Mem.next_bump];omega) (by simp;omega)];exact s03.get b' hb'⟩
   have e4:σ4.get lb=some (.rw (ic Z)):=(ar.1.get lb (by simp only [Mem.next_bump];omega) (by simp;omega)).trans e3
   have hrp:=zmY hLn (C:=Cs) (λx hx=>by rw [<- hCs,zaM] at hx;exact hx)
   refine z6 (by omega) ?_
   refine loop2 (λ(k:Nat) (row:AV) (y:Int) σ'=>y=k/\k<=mt-1/\σ4.Same σ'/\∃ XR,RowM lb σ' row XR (rows Cs k)) (λk=>mt-1-k) 0 ⟨rfl,by omega,(Mem.Same.refl σ4).bump _,C',hU.same ((Mem.Same.refl σ4).bump _)⟩ ?_
   rintro k row _ σ5 ⟨rfl,hk,s5,XR,hR⟩
   have hrl:=zmA Cs k
   have hRl:=hR.len
   have n5:=s5.next
   have hCge:∀ k,Cs.length<=(rows Cs k).length:=by
    intro k
    cases k with
    | zero=>rw [rows];omega
    | succ k=>rw [rows,z6Z,List.length_append];omega
   have hRge:=hCge k
   by_cases hlt:k<mt-1
   · refine zkQ (k:=k) (C:=Cs) (R:=rows Cs k) (by omega) (hU.same s5) hR (by omega) (by omega) (by omega) (by omega) (λt ht=>?_) (by omega) (by omega) ?_
     · have:=(hrp k t ht).1
       have hp:(2:Nat)^k<=2^15:=z1D (by omega)
       have hp':(2:Int)^k<=2^15:=by exact_mod_cast hp
       refine ⟨this.1,?_⟩
       have:(1000000000:Int)*2^k<=1000000000*2^15:=Int.mul_le_mul_of_nonneg_left hp' (by decide)
       omega
     · intro u' X' σ' h' s'
       exact again ⟨k+1,⟨rfl,by omega,s5.trans s',X',h'⟩,by omega⟩
   · obtain rfl:k=mt-1:=by omega
     unfold z3U
     rw [hlb,Int.toNat_natCast]
     refine ifF (by omega) ?_
     refine To.go ?_
     refine z6 (by omega) ?_
     refine z6 (by omega) ?_
     have hlen:=zg7 Cs (mt-1) 2 (by
      have:2*2^(mt-1)=2^mt:=by
       obtain ⟨m,rfl⟩:∃ m,mt=m+1:=⟨mt-1,by omega⟩
       rw [Nat.add_sub_cancel,Nat.pow_succ,Nat.mul_comm]
      omega)
     obtain ⟨h,hh⟩:∃ h,2*(zk L).length-2=h:=⟨_,rfl⟩
     rw [show 2*(((zk L).length:Nat):Int)-2=((h:Nat):Int) from by omega]
     have hhX:h<=XR.length:=by omega
     obtain ⟨rb,rfl,hgr,_⟩:=hR.own.sl (by omega)
     have hrb:=hR.lt rb (by simp [z3])
     refine And.intro ⟨rfl,Int.le_refl _,show (0:Int)<=(h:Nat) by omega,show ((h:Nat):Int)<=((XR.length:Nat):Int) by omega⟩ ?_
     obtain ⟨Zp,hZp⟩:∃ Zp:List (Pm×It),(XR.take h).map (λx=>(x.t,x))=Zp:=⟨_,rfl⟩
     have hZpl:Zp.length=h:=by rw [<- hZp,List.length_map,List.length_take];omega
     have hZp1:Zp.map Prod.fst=(rows Cs (mt-1)).take h:=by rw [<- hZp,List.map_map,<- hR.ts,<- List.map_take];rfl
     have hsl:(AV.slice rb (0+(orD 0 none).toNat*3) ((orD ((XR.length:Nat):Int) (some ((h:Nat):Int))).toNat-(orD 0 none).toNat) ((Cap.op 3).cut false (orD 0 none).toNat ((Cap.op 3).least XR.length)))=.slice rb (0*3) Zp.length (.op 3):=by
      show AV.slice rb 0 (((h:Nat):Int).toNat-0) (.op 3)=_
      rw [Int.toNat_natCast,Nat.sub_zero,hZpl]
     rw [hsl]
     have hsz:∀ t∈(rows Cs (mt-1)).take h,t.sz<=2^15:=λt ht=>by
      have:=(hrp _ t (List.mem_of_mem_take ht)).2.1
      have hp:(2:Nat)^(mt-1)<=2^15:=z1D (by omega)
      omega
     have hsum:zgP ((rows Cs (mt-1)).take h)<=600*2^15:=by
      refine Nat.le_trans (zm9 hsz) (Nat.mul_le_mul_right _ ?_)
      rw [List.length_take];omega
     have e5:σ5.get lb=some (.rw (ic Z)):=(s5.get lb (by omega)).trans e4
     have hsp:=zkz (ok:=okB lb σ5) (zpw (Zp.map Prod.fst)) (σ:=σ5.bump 9) (A:=Z) (Z:=Zp) (Y:=XR) (lb:=lb) (b:=rb) (o:=0) (c1:=.ex L.length) (c2:=.op 3) (Nat.le_refl _) e5 hgr (by simp only [Mem.next_bump];omega) hrb.1 (by have:=hrb.2;simp only [Mem.next_bump];omega) (λb hb=>⟨hb.1,by have:=hb.2;simp only [Mem.next_bump];omega⟩)
      (λi hi=>by
       rw [hZpl] at hi
       rw [Nat.zero_add,List.getElem?_eq_getElem (by omega)]
       congr 1
       simp only [<- hZp,List.getElem_map,List.getElem_take])
      (λz hz=>by
       rw [<- hZp,List.mem_map] at hz
       obtain ⟨x,hx,rfl⟩:=hz
       have hx:=List.mem_of_mem_take hx
       refine ⟨rep.frame (ok:=okB lb σ5) (σ:=σ5) (σ':=σ5.bump 9) (t:=x.t) (x:=x) (λb hb=>⟨hb,rfl⟩) (hR.rep x hx),?_⟩
       rw [hZl]
       exact (hrp _ _ (by rw [<- hR.ts];exact List.mem_map_of_mem hx)).2.2)
      (λi=>by rw [hZ0,hZp1];omega) (by omega) (by omega)
     rw [hZl] at hsp
     refine z0 hsp ?_
     rintro _ σ6 ⟨o6,e6⟩
     have n6:=o6.next
     simp only [Mem.next_bump] at n6
     refine done _ (addc Z (Zp.map Prod.fst)) ?_ ?_ ?_ ?_
     · rw [haddc,hZp1]
       unfold limit
       rw [if_neg hm1,hCs,hh]
     · exact e6
     · refine Mem.Same.bump ⟨by omega,λb' hb'=>?_⟩ _
       rw [o6.get b' (by simp only [Mem.next_bump];omega) (by simp;omega)]
       exact (s4.trans s5).get b' hb'
     · simp only [Mem.next_bump];omega
end Go.Vit
