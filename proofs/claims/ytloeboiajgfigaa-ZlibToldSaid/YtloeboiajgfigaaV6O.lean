/- Limited codes. -/
import Derived.Test.YtloeboiajgfigaaV6J
import Derived.Test.YtloeboiajgfigaaVm3
set_option linter.unusedVariables false
set_option linter.unusedSimpArgs false
set_option linter.unusedSimpArgs false
set_option maxRecDepth 20000
namespace Go.Vit
open Go.Proofs
instance (most:Int) (L:List Int):Decidable (badL most L):=by unfold badL;infer_instance
def itO:Pm->It
 | .coin n s=>⟨n,s,.nils,rfl,.coin n s⟩
 | .pair _ _=>dI
theorem coinsTo_its (L:List Int) (i:Nat):((coinsTo L i).map itO).map (fun x=>x.t)=coinsTo L i:=by
 rw [List.map_map]
 refine List.ext_getElem (by simp) fun k h1 h2=>?_
 rw [List.getElem_map]
 obtain ⟨j,_,_,e⟩:=coinsTo_mem (List.getElem_mem h2)
 show (itO (coinsTo L i)[k]).t=_
 rw [e];rfl
theorem coinsTo_rep {ok:Nat->Prop} {σ:Mem} {L:List Int} {i:Nat}:∀ x∈(coinsTo L i).map itO,rep ok σ x.t x:=by
 intro x hx
 rw [List.mem_map] at hx
 obtain ⟨t,ht,rfl⟩:=hx
 obtain ⟨j,_,_,rfl⟩:=coinsTo_mem ht
 exact ⟨rfl,rfl,rfl⟩
theorem limit_len (most:Nat) (L:List Int):(limit most L).length=L.length:=by
 unfold limit
 split<;>exact arr_len _ _
def rowP (m k:Nat) (t:Pm):Prop:=(0<=t.wt/\t.wt<=1000000000*2^k)/\t.sz<=2^k/\t.syb m
theorem rowP_rows {L:List Int} (hL:∀ n∈L,0<=n/\n<=1000000000) {C:List Pm} (hC:∀ x∈C,x∈coinsOf L) (k:Nat):∀ x∈rows C k,rowP L.length k x:=by
 refine rows_all (p:=rowP L.length) (fun x hx k=>?_) (fun k a b ha hb=>?_) k
 · obtain ⟨j,hj,h0,rfl⟩:=coinsTo_mem (hC x hx)
   have hn:=hL (L.getD j 0) (by rw [getD_of hj];exact List.getElem_mem hj)
   have hp:1<=2^k:=Nat.one_le_two_pow
   have hp':(1:Int)<=2^k:=by exact_mod_cast hp
   exact ⟨⟨by show 0<=L.getD j 0;omega,by show L.getD j 0<=_;omega⟩,hp,hj⟩
 · obtain ⟨⟨a1,a2⟩,a3,a4⟩:=ha
   obtain ⟨⟨b1,b2⟩,b3,b4⟩:=hb
   refine ⟨⟨?_,?_⟩,?_,a4,b4⟩
   · show 0<=a.wt+b.wt;omega
   · show a.wt+b.wt<=_
     rw [Int.pow_succ];omega
   · show a.sz+b.sz<=_
     rw [Nat.pow_succ];omega
theorem sumZ_le {n:Nat}:∀ {l:List Pm},(∀ x∈l,x.sz<=n)->sumZ l<=l.length*n
 | [],_=>by simp [sumZ]
 | a::l,h=>by
   have ih:=sumZ_le (l:=l) fun x hx=>h x (by simp [hx])
   have ha:=h a (by simp)
   unfold sumZ at ih ⊢
   rw [List.map_cons,List.sum_cons,List.length_cons,Nat.add_mul];omega
theorem huff_Limit {a:AV} {L:List Int} {most:Int} {σ:Mem} (ha:RdO 1 σ a (ic L) L.length) (hl:L.length<=2^44) :
 ACalls PG n_huff_Limit [.int .i64 most,a] σ fun w σ'=>∃ c,w=.tup [c,.int .i64 (if badL most L then 1 else 0)]/\σ.Same σ'/\((badL most L/\c=.nils)\/(¬ badL most L/\RdX σ' c (limit most.toNat L)/\∀ b∈blkOf c,σ.next<=b/\b<σ'.next)):=by
 refine ok_huff_Limit fun live=>?_
 unfold F_huff_Limit
 have hla:=ha.lt live
 have bad:∀ (k:Nat) (σ':Mem),badL most L->σ.Same σ'->∃ c,AV.tup [.nils,.int .i64 1]=.tup [c,.int .i64 (if badL most L then 1 else 0)]/\σ.Same σ'/\((badL most L/\c=.nils)\/(¬ badL most L/\RdX σ' c (limit most.toNat L)/\∀ b∈blkOf c,σ.next<=b/\b<σ'.next)):=fun _ σ' h s=>⟨.nils,by rw [if_pos h],s,.inl ⟨h,rfl⟩⟩
 refine ifD (fun h=>bad 0 _ (.inl h) ((Mem.Same.refl σ).bump _)) (fun h1=>?_)
 refine ifD (fun h=>bad 0 _ (.inr (.inl h)) ((Mem.Same.refl σ).bump _)) (fun h2=>?_)
 refine ha.len ?_
 refine ifD (fun h=>bad 0 _ (.inr (.inr (.inl (by omega)))) ((Mem.Same.refl σ).bump _)) (fun h3=>?_)
 refine callW_of (slices_ContainsFunc (σ:=σ.bump 17) (p:=fun n=>decide (n<0\/1000000000<n)) (ha.keep fun _ _=>rfl) (by omega) ?_) ?_
 · intro σ' x _ _ n K hK
   refine ACalls.mono (Q:=fun v σ''=>v=.bool (decide (x<0\/1000000000<x))/\σ'.Same σ'') ?_ ?_
   · refine ok_huff_Limit_1 fun _=>?_
     unfold F_huff_Limit_1
     refine ifD (fun h=>⟨by rw [decide_eq_true (Or.inl h)],((Mem.Same.refl σ').bump _).bump _⟩) (fun h=>?_)
     refine ⟨?_,((Mem.Same.refl σ').bump _).bump _⟩
     by_cases h':1000000000<x
     · rw [decide_eq_true h',decide_eq_true (Or.inr h')]
     · rw [decide_eq_false h',decide_eq_false (fun e=>e.elim h h')]
   · rintro _ σ'' ⟨rfl,s⟩
     exact hK σ'' s
 rintro _ σ1 ⟨rfl,s1⟩
 replace s1:=s1.ob
 refine To.go ?_
 by_cases h4:∃ x∈L,decide (x<0\/1000000000<x)=true
 · rw [decide_eq_true h4]
   refine To.go ?_
   refine bad 0 _ (.inr (.inr (.inr (.inl ?_)))) (s1.bump _)
   obtain ⟨x,hx,h⟩:=h4
   exact ⟨x,hx,of_decide_eq_true h⟩
 rw [decide_eq_false h4]
 refine To.go ?_
 have hLn:∀ n∈L,0<=n/\n<=1000000000:=fun n hn=>by
  have:¬ (n<0\/1000000000<n):=fun e=>h4 ⟨n,hn,decide_eq_true e⟩
  omega
 have ha1:=ha.keep (σ':=σ1) fun b hb=>s1.get b (hla b hb)
 refine ha1.len ?_
 refine loop2 (fun (i:Nat) (u:AV) (y:Int) σ'=>y=i/\i<=L.length/\Own 3 σ σ' u (ic3 ((coinsTo L i).map itO)) (coinsTo L i).length/\σ.Same σ') (fun i=>L.length-i) 0 ⟨rfl,by omega,Own.nil 3 _ _,s1.bump _⟩ ?_
 rintro i u _ σ2 ⟨rfl,hi,own,s2⟩
 unfold F_huff_Limit_l1
 have hcl:=coinsTo_len L i
 refine ifD (fun hlt=>?_) (fun hge=>?_)
 · have hil:i<L.length:=by omega
   obtain ⟨ba,baz,ca,rfl,hget⟩:=(ha.keep (σ':=σ2) fun b hb=>s2.get b (hla b hb)).at hil
   refine To.go ?_
   refine And.intro hil ?_
   refine To.go ?_
   refine hget _ ?_
   refine To.go ?_
   have hgd:L.getD i 0=L[i]:=getD_of hil
   have hsucc:=coinsTo_succ L i
   rw [hgd] at hsucc
   refine joinI ?_
   refine ifD (fun hpos=>?_) (fun hneg=>?_)
   · rw [if_pos hpos] at hsucc
     refine And.intro ⟨rfl,rfl⟩ ?_
     refine To.go ?_
     refine own.push (m:=1) (c:=ic3 [itO (.coin L[i] i)]) s2 rfl (by omega) (by omega) (by omega) rfl (ic3_one _) (ic3_one _) (by omega) ?_ (by simp only [Mem.next_put,Mem.next_bump];omega)
     intro u' σ3 own3 s3 _ _ _
     rw [ic3_append,show (coinsTo L i).map itO++[itO (.coin L[i] i)]=(coinsTo L (i+1)).map itO from by rw [hsucc,List.map_append];rfl,show (coinsTo L i).length+1=(coinsTo L (i+1)).length from by rw [hsucc];simp] at own3
     unfold F_huff_Limit_j1
     refine iW_of (by omega) ?_
     exact again ⟨i+1,⟨by omega,by omega,own3.same ((Mem.Same.refl σ3).bump _),s3.bump _⟩,by omega⟩
   · rw [if_neg hneg,List.append_nil] at hsucc
     unfold F_huff_Limit_j1
     refine iW_of (by omega) ?_
     refine again ⟨i+1,⟨by omega,by omega,?_,(s2.bump _).bump _⟩,by omega⟩
     rw [hsucc]
     exact own.same (((Mem.Same.refl σ2).bump _).bump _)
 · obtain rfl:i=L.length:=by omega
   rw [show coinsTo L L.length=coinsOf L from rfl] at own hcl
   have hits:=coinsTo_its L L.length
   rw [show coinsTo L L.length=coinsOf L from rfl] at hits
   obtain ⟨mt,hmt⟩:∃ mt:Nat,most=mt:=⟨most.toNat,by omega⟩
   subst hmt
   have ha2:=ha.keep (σ':=σ2) fun b hb=>s2.get b (hla b hb)
   refine own.1.rdO.len ?_
   have hpw:(1:Int)*2^((mt:Nat):Int).toNat=((2^mt:Nat):Int):=by rw [Int.toNat_natCast];push_cast;omega
   have hpb:2^mt<=2^15:=pow_le (by omega)
   obtain ⟨pw,hpwe⟩:∃ pw:Nat,2^mt=pw:=⟨_,rfl⟩
   rw [hpwe] at hpw hpb
   repeat (first | refine To.go ?_ | with_reducible refine And.intro (by omega) ?_)
   rw [hpw]
   refine ifD (fun h=>bad 0 _ (.inr (.inr (.inr (.inr (by rw [Int.toNat_natCast,hpwe];omega))))) (s2.bump _)) (fun hpm=>?_)
   have hnb:¬ badL (mt:Nat) L:=by
    rintro (h | h | h | ⟨x,hx,h⟩ | h)
    · omega
    · omega
    · omega
    · have:=hLn x hx;omega
    · rw [Int.toNat_natCast,hpwe] at h;omega
   clear bad
   rw [if_neg hnb]
   refine ha2.len ?_
   obtain ⟨lb,hlb⟩:∃ lb,σ2.next+8=lb:=⟨_,rfl⟩
   rw [hlb]
   refine To.go ?_
   refine And.intro (by omega) ?_
   rw [Int.toNat_natCast,repl_zero]
   refine To.go ?_
   obtain ⟨σ3,h3'⟩:∃ σ3,σ3=(σ2.bump 10).put lb (some (.rw (ic (arr (fun _=>0) L.length)))):=⟨_,rfl⟩
   rw [<- h3']
   have s3:σ2.Same σ3:=by rw [h3'];repeat (with_reducible first | exact Mem.Same.refl _ | refine Mem.Same.bump ?_ _ | refine Mem.Same.put ?_ (by omega) _)
   have n3:σ3.next=σ2.next+10:=by rw [h3'];rfl
   have e3:σ3.get lb=some (.rw (ic (arr (fun _=>0) L.length))):=by rw [h3',gS']
   clear h3'
   have s03:=s2.trans s3
   have n2:=s2.next
   have own3:OwnS 3 σ3 u (ic3 ((coinsOf L).map itO)) (coinsOf L).length:=own.1.keep fun b hb=>s3.get b (own.2 b hb).2
   have hub:∀ b∈blkOf u,σ.next<=b/\b<σ2.next:=own.2
   refine own3.rdO.len ?_
   obtain ⟨Z,hZ⟩:∃ Z:List Int,arr (fun _=>0) L.length=Z:=⟨_,rfl⟩
   have hZl:Z.length=L.length:=by rw [<- hZ,arr_len]
   have hZ0:∀ j,Z.getD j 0=0:=by
    intro j
    rw [<- hZ]
    by_cases hj:j<L.length
    · rw [getD_of (by rw [arr_len];exact hj)];simp [arr]
    · rw [List.getD_eq_getElem?_getD,List.getElem?_eq_none (by rw [arr_len];omega)];rfl
   have haddc:∀ l,addc Z l=arr (fun i=>sumC i l) L.length:=by
    intro l
    unfold addc
    rw [hZl]
    refine arr_ext fun j _=>?_
    rw [hZ0];omega
   rw [hZ] at e3
   have done:∀ (σ':Mem) (l:List Int),limit mt L=l->σ'.get lb=some (.rw (ic l))->σ.Same σ'->lb<σ'.next->∃ c,AV.tup [.slice lb 0 L.length (.ex L.length),.int .i64 0]=.tup [c,.int .i64 0]/\σ.Same σ'/\((badL (mt:Nat) L/\c=.nils)\/(¬ badL (mt:Nat) L/\RdX σ' c (limit ((mt:Nat):Int).toNat L)/\∀ b∈blkOf c,σ.next<=b/\b<σ'.next)):=by
    intro σ' l hl hg hs hn
    refine ⟨_,rfl,hs,.inr ⟨hnb,?_,fun b hb=>?_⟩⟩
    · rw [Int.toNat_natCast,hl]
      exact ⟨lb,by rw [<- hl,limit_len],hg⟩
    · simp only [blkOf,List.mem_singleton] at hb
      omega
   refine joinI ?_
   by_cases hm1:(coinsOf L).length=1
   · refine ifT (by omega) ?_
     obtain ⟨t,ht⟩:=List.length_eq_one_iff.1 hm1
     obtain ⟨j,hj,_,hjt⟩:=coinsTo_mem (L:=L) (i:=L.length) (x:=t) (by rw [show coinsTo L L.length=coinsOf L from rfl,ht];simp)
     rw [ht,hjt] at own3
     obtain ⟨b,rfl,hgb,_⟩:=own3.sl (by simp)
     refine And.intro (show (0:Int)<=0/\(0:Int)<(1:Nat) by decide) ?_
     refine To.go ?_
     refine To.go ?_
     refine ldrw (σ:=σ3.bump 10) hgb (v:=.int .i64 (j:Nat)) rfl ?_
     refine To.go ?_
     refine wrI (m:=j) (σ:=σ3.bump 10) e3 hZl rfl hj ?_
     unfold F_huff_Limit_j2
     rw [hlb,Int.toNat_natCast]
     refine To.go ?_
     refine ifT (by simp) ?_
     refine done _ (Z.set j 1) ?_ ?_ ?_ ?_
     · unfold limit
       rw [if_pos hm1,<- haddc,ht,hjt,addc_coin (by omega),hZ0];rfl
     · rw [Mem.get_bump,gS']
     · refine Mem.Same.bump (Mem.Same.put (s03.bump _) (by omega) _) _
     · simp only [Mem.next_bump,Mem.next_put];omega
   refine ifF (by omega) ?_
   unfold F_huff_Limit_j2
   rw [hlb,Int.toNat_natCast]
   refine (own3.keep (σ':=σ3.bump 3) fun _ _=>rfl).rdO.len ?_
   by_cases hm0:(coinsOf L).length=0
   · refine ifT (by omega) ?_
     refine done _ Z ?_ ?_ ?_ ?_
     · unfold limit
       rw [if_neg hm1,hm0]
       show arr (fun i=>sumC i (List.take 0 _)) L.length=Z
       rw [List.take_zero,<- haddc,addc_nil]
     · exact e3
     · exact (s03.bump _).bump _
     · simp only [Mem.next_bump];omega
   refine ifF (by omega) ?_
   have hm2:2<=(coinsOf L).length:=by omega
   -- the coins are sorted
   have hXl:((coinsOf L).map itO).length=(coinsOf L).length:=by rw [List.length_map]
   obtain ⟨b,rfl,hgb,_⟩:=own3.sl (by omega)
   have hb:=hub b (by simp [blkOf])
   obtain ⟨X0,hX0⟩:∃ X0,(coinsOf L).map itO=X0:=⟨_,rfl⟩
   rw [hX0] at hgb hXl hits
   have hrep0:∀ (ok:Nat->Prop) (σ':Mem),∀ x∈X0,rep ok σ' x.t x:=by
    intro ok σ'
    rw [<- hX0]
    exact coinsTo_rep
   refine callW_of (I3.slices_SortStable (σ:=(σ3.bump 3).bump 5) (X:=X0) (b:=b) (c:=.op 3) (n:=(coinsOf L).length) (key:=fun x=>x.n) (S:=fun _=>True) (cmp:=.func n_huff_byCount []) hgb (by simp only [Mem.next_bump];omega) hXl (by omega) (fun _ _=>trivial) cmp_items) ?_
   rintro _ σ4 ⟨C',sC,oC,ar⟩
   have n4:=ar.1.next
   simp only [Mem.next_bump] at n4
   have hl':C'.length=(coinsOf L).length:=sC.1.trans hXl
   have hwt:∀ x∈X0,x.t.wt=x.n:=fun x hx=>(hrep0 (fun _=>True) σ4 x hx).wt.symm
   obtain ⟨Cs,hCs⟩:∃ Cs,isort (coinsOf L)=Cs:=⟨_,rfl⟩
   have hCsl:Cs.length=(coinsOf L).length:=by rw [<- hCs,isort_len]
   have hCt:C'.map (fun x=>x.t)=Cs:=by
    rw [<- hCs]
    refine isort_eq ?_ ?_
    · rw [<- hits];exact sC.map hwt
    · exact oC.map fun x hx=>hwt x ((sC.mem x).1 hx)
   have hU:RowM lb σ4 (.slice b 0 (coinsOf L).length (.op 3)) C' Cs:=by
    refine ⟨?_,hCt,fun x hx=>hrep0 _ _ x ((sC.mem x).1 hx),fun b' hb'=>?_⟩
    · rw [<- hl'];exact .inr ⟨b,rfl,ar.2,by rw [ic3_len]⟩
    · simp only [blkOf,List.mem_singleton] at hb'
      subst hb'
      exact ⟨by omega,by omega⟩
   have s4:σ.Same σ4:=⟨by omega,fun b' hb'=>by
    rw [ar.1.get b' (by simp only [Mem.next_bump];omega) (by simp;omega)];exact s03.get b' hb'⟩
   have e4:σ4.get lb=some (.rw (ic Z)):=(ar.1.get lb (by simp only [Mem.next_bump];omega) (by simp;omega)).trans e3
   have hrp:=rowP_rows hLn (C:=Cs) (fun x hx=>by rw [<- hCs,isort_mem] at hx;exact hx)
   refine iW_of (by omega) ?_
   refine loop2 (fun (k:Nat) (row:AV) (y:Int) σ'=>y=k/\k<=mt-1/\σ4.Same σ'/\∃ XR,RowM lb σ' row XR (rows Cs k)) (fun k=>mt-1-k) 0 ⟨rfl,by omega,(Mem.Same.refl σ4).bump _,C',hU.same ((Mem.Same.refl σ4).bump _)⟩ ?_
   rintro k row _ σ5 ⟨rfl,hk,s5,XR,hR⟩
   have hrl:=rows_le Cs k
   have hRl:=hR.len
   have n5:=s5.next
   have hCge:∀ k,Cs.length<=(rows Cs k).length:=by
    intro k
    cases k with
    | zero=>rw [rows];omega
    | succ k=>rw [rows,isort_len,List.length_append];omega
   have hRge:=hCge k
   by_cases hlt:k<mt-1
   · refine limit_next (k:=k) (C:=Cs) (R:=rows Cs k) (by omega) (hU.same s5) hR (by omega) (by omega) (by omega) (by omega) (fun t ht=>?_) (by omega) (by omega) ?_
     · have:=(hrp k t ht).1
       have hp:(2:Nat)^k<=2^15:=pow_le (by omega)
       have hp':(2:Int)^k<=2^15:=by exact_mod_cast hp
       refine ⟨this.1,?_⟩
       have:(1000000000:Int)*2^k<=1000000000*2^15:=Int.mul_le_mul_of_nonneg_left hp' (by decide)
       omega
     · intro u' X' σ' h' s'
       exact again ⟨k+1,⟨rfl,by omega,s5.trans s',X',h'⟩,by omega⟩
   · obtain rfl:k=mt-1:=by omega
     unfold F_huff_Limit_l2
     rw [hlb,Int.toNat_natCast]
     refine ifF (by omega) ?_
     refine To.go ?_
     refine iW_of (by omega) ?_
     refine iW_of (by omega) ?_
     have hlen:=rows_len Cs (mt-1) 2 (by
      have:2*2^(mt-1)=2^mt:=by
       obtain ⟨m,rfl⟩:∃ m,mt=m+1:=⟨mt-1,by omega⟩
       rw [Nat.add_sub_cancel,Nat.pow_succ,Nat.mul_comm]
      omega)
     obtain ⟨h,hh⟩:∃ h,2*(coinsOf L).length-2=h:=⟨_,rfl⟩
     rw [show 2*(((coinsOf L).length:Nat):Int)-2=((h:Nat):Int) from by omega]
     have hhX:h<=XR.length:=by omega
     obtain ⟨rb,rfl,hgr,_⟩:=hR.own.sl (by omega)
     have hrb:=hR.lt rb (by simp [blkOf])
     refine And.intro ⟨rfl,Int.le_refl _,show (0:Int)<=(h:Nat) by omega,show ((h:Nat):Int)<=((XR.length:Nat):Int) by omega⟩ ?_
     obtain ⟨Zp,hZp⟩:∃ Zp:List (Pm×It),(XR.take h).map (fun x=>(x.t,x))=Zp:=⟨_,rfl⟩
     have hZpl:Zp.length=h:=by rw [<- hZp,List.length_map,List.length_take];omega
     have hZp1:Zp.map Prod.fst=(rows Cs (mt-1)).take h:=by rw [<- hZp,List.map_map,<- hR.ts,<- List.map_take];rfl
     have hsl:(AV.slice rb (0+(orD 0 none).toNat*3) ((orD ((XR.length:Nat):Int) (some ((h:Nat):Int))).toNat-(orD 0 none).toNat) ((Cap.op 3).cut false (orD 0 none).toNat ((Cap.op 3).least XR.length)))=.slice rb (0*3) Zp.length (.op 3):=by
      show AV.slice rb 0 (((h:Nat):Int).toNat-0) (.op 3)=_
      rw [Int.toNat_natCast,Nat.sub_zero,hZpl]
     rw [hsl]
     have hsz:∀ t∈(rows Cs (mt-1)).take h,t.sz<=2^15:=fun t ht=>by
      have:=(hrp _ t (List.mem_of_mem_take ht)).2.1
      have hp:(2:Nat)^(mt-1)<=2^15:=pow_le (by omega)
      omega
     have hsum:sumZ ((rows Cs (mt-1)).take h)<=600*2^15:=by
      refine Nat.le_trans (sumZ_le hsz) (Nat.mul_le_mul_right _ ?_)
      rw [List.length_take];omega
     have e5:σ5.get lb=some (.rw (ic Z)):=(s5.get lb (by omega)).trans e4
     have hsp:=huff_spend (ok:=okB lb σ5) (sumN (Zp.map Prod.fst)) (σ:=σ5.bump 9) (A:=Z) (Z:=Zp) (Y:=XR) (lb:=lb) (b:=rb) (o:=0) (c1:=.ex L.length) (c2:=.op 3) (Nat.le_refl _) e5 hgr (by simp only [Mem.next_bump];omega) hrb.1 (by have:=hrb.2;simp only [Mem.next_bump];omega) (fun b hb=>⟨hb.1,by have:=hb.2;simp only [Mem.next_bump];omega⟩)
      (fun i hi=>by
       rw [hZpl] at hi
       rw [Nat.zero_add,List.getElem?_eq_getElem (by omega)]
       congr 1
       simp only [<- hZp,List.getElem_map,List.getElem_take])
      (fun z hz=>by
       rw [<- hZp,List.mem_map] at hz
       obtain ⟨x,hx,rfl⟩:=hz
       have hx:=List.mem_of_mem_take hx
       refine ⟨rep.frame (ok:=okB lb σ5) (σ:=σ5) (σ':=σ5.bump 9) (t:=x.t) (x:=x) (fun b hb=>⟨hb,rfl⟩) (hR.rep x hx),?_⟩
       rw [hZl]
       exact (hrp _ _ (by rw [<- hR.ts];exact List.mem_map_of_mem hx)).2.2)
      (fun i=>by rw [hZ0,hZp1];omega) (by omega) (by omega)
     rw [hZl] at hsp
     refine callW_of hsp ?_
     rintro _ σ6 ⟨o6,e6⟩
     have n6:=o6.next
     simp only [Mem.next_bump] at n6
     refine done _ (addc Z (Zp.map Prod.fst)) ?_ ?_ ?_ ?_
     · rw [haddc,hZp1]
       unfold limit
       rw [if_neg hm1,hCs,hh]
     · exact e6
     · refine Mem.Same.bump ⟨by omega,fun b' hb'=>?_⟩ _
       rw [o6.get b' (by simp only [Mem.next_bump];omega) (by simp;omega)]
       exact (s4.trans s5).get b' hb'
     · simp only [Mem.next_bump];omega
end Go.Vit
