/- What is laid is read again: dynamic blocks. -/
import Derived.Test.YtloeboiajgfigaaV6F1
set_option linter.unusedVariables false
set_option linter.unusedSimpArgs false
set_option linter.unusedSimpArgs false
set_option maxRecDepth 20000
namespace Go.Vit
open Go.Proofs
/-! ### The small codes' lengths -/
def small (S:List Int) (is acc:List Int):List Int:=is.foldl (fun a i=>a.set i.toNat (S.getD i.toNat 0)) acc
theorem says_small {S:List Int}:∀ {is acc:List Int} {p:Nat×Nat},(∀ i∈is,0<=S.getD i.toNat 0/\S.getD i.toNat 0<8)->Says (rSmall is acc) p (small S is acc) (fold3 (is.map fun i=>S.getD i.toNat 0) p)
 | [],_,_,_=>.pure _ _
 | i::is,acc,p,h=>by
   obtain ⟨h0,h8⟩:=h i (by simp)
   obtain ⟨x,hx⟩:∃ x:Nat,S.getD i.toNat 0=x:=⟨(S.getD i.toNat 0).toNat,by omega⟩
   have ih:=says_small (S:=S) (is:=is) (acc:=acc.set i.toNat (x:Nat)) (p:=laP p (x:Nat) ((3:Nat):Int)) fun i hi=>h i (by simp [hi])
   have e1:small S (i::is) acc=small S is (acc.set i.toNat (x:Nat)):=by unfold small;rw [List.foldl_cons,hx]
   have e2:fold3 ((i::is).map fun i=>S.getD i.toNat 0) p=fold3 (is.map fun i=>S.getD i.toNat 0) (laP p (x:Nat) ((3:Nat):Int)):=by
    unfold fold3;rw [List.map_cons,List.foldl_cons,hx];rfl
   rw [e1,e2]
   exact .bind (.bits (by decide) (by omega)) ih
theorem getD_set (A:List Int) (i k:Nat) (x:Int):(A.set i x).getD k 0=if k=i/\i<A.length then x else A.getD k 0:=by
 rw [List.getD_eq_getElem?_getD,List.getElem?_set]
 by_cases h:i=k
 · subst h
   by_cases h2:i<A.length
   · rw [if_pos rfl,if_pos h2,if_pos ⟨rfl,h2⟩];rfl
   · rw [if_pos rfl,if_neg h2,if_neg (fun h=>h2 h.2),List.getD_eq_getElem?_getD,List.getElem?_eq_none (by omega)]
 · rw [if_neg h,if_neg (fun h'=>h h'.1.symm),List.getD_eq_getElem?_getD]
theorem small_len (S:List Int):∀ (is acc:List Int),(small S is acc).length=acc.length
 | [],_=>rfl
 | i::is,acc=>by
   have:=small_len S is (acc.set i.toNat (S.getD i.toNat 0))
   rw [List.length_set] at this
   exact this
theorem small_get (S:List Int) (k:Nat):∀ (is acc:List Int),(small S is acc).getD k 0=if k<acc.length/\(∃ i∈is,i.toNat=k) then S.getD k 0 else acc.getD k 0
 | [],acc=>by simp [small]
 | i::is,acc=>by
   have ih:=small_get S k is (acc.set i.toNat (S.getD i.toNat 0))
   rw [show small S (i::is) acc=small S is (acc.set i.toNat (S.getD i.toNat 0)) from rfl,ih,List.length_set,getD_set]
   by_cases h1:k<acc.length
   · by_cases h2:∃ i∈is,i.toNat=k
     · rw [if_pos ⟨h1,h2⟩,if_pos ⟨h1,by obtain ⟨j,hj,e⟩:=h2;exact ⟨j,by simp [hj],e⟩⟩]
     · rw [if_neg (fun h=>h2 h.2)]
       by_cases h3:i.toNat=k
       · rw [if_pos ⟨h3.symm,by omega⟩,if_pos ⟨h1,i,by simp,h3⟩,h3]
       · rw [if_neg (fun h=>h3 h.1.symm),if_neg]
         rintro ⟨_,j,hj,e⟩
         rcases List.mem_cons.1 hj with rfl | hj
         · exact h3 e
         · exact h2 ⟨j,hj,e⟩
   · rw [if_neg (fun h=>h1 h.1),if_neg (fun h=>h1 (by omega)),if_neg (fun h=>h1 h.1)]
theorem ordr_all:∀ k:Fin 19,∃ j:Fin 19,(ordr.getD j.val 0).toNat=k.val:=by decide +kernel
theorem ext_getD {A B:List Int} (hl:A.length=B.length) (h:∀ k<A.length,A.getD k 0=B.getD k 0):A=B:=by
 refine List.ext_getElem hl fun i h1 h2=>?_
 have:=h i h1
 rwa [getD_of h1,getD_of h2] at this
theorem small_all {S:List Int} {m:Nat} (hS:S.length=19) (h:∀ j,m<=j->(ordOf S).getD j 0=0):small S (ordr.take m) (List.replicate 19 0)=S:=by
 have hl:=small_len S (ordr.take m) (List.replicate 19 0)
 rw [List.length_replicate] at hl
 refine ext_getD (by omega) fun k hk=>?_
 rw [small_get,List.length_replicate]
 by_cases hi:∃ i∈ordr.take m,i.toNat=k
 · rw [if_pos ⟨by omega,hi⟩]
 · rw [if_neg (fun h=>hi h.2)]
   obtain ⟨j,hj⟩:=ordr_all ⟨k,by omega⟩
   dsimp only at hj
   have hj19:=j.isLt
   have hlo:ordr.length=19:=rfl
   have hmj:m<=j.val:=by
    rcases Nat.lt_or_ge j.val m with hlt | hge
    · refine absurd ⟨ordr.getD j.val 0,?_,hj⟩ hi
      rw [getD_of (show j.val<ordr.length by omega),List.mem_take_iff_getElem]
      exact ⟨j.val,by omega,rfl⟩
    · exact hge
   have:=h j.val hmj
   have e:(ordOf S).getD j.val 0=S.getD k 0:=by
    unfold ordOf
    rw [List.getD_eq_getElem?_getD,List.getElem?_map,List.getElem?_eq_getElem (show j.val<ordr.length by omega)]
    rw [getD_of (show j.val<ordr.length by omega)] at hj
    rw [<- hj];rfl
   rw [<- e,this,List.getD_eq_getElem?_getD,List.getElem?_replicate]
   split<;>rfl
/-! ### Runs -/
def repR (acc:List Int) (r:Int×Int):List Int:=
 if r.1<16 then [r.1] else if r.1=16 then List.replicate (r.2.toNat+3) (acc.getD (acc.length-1) 0) else if r.1=17 then List.replicate (r.2.toNat+3) 0 else List.replicate (r.2.toNat+11) 0
theorem rep_len (acc:List Int) (r:Int×Int):1<=(repR acc r).length:=by
 unfold repR
 split
 · simp
 · split
   · simp
   · split<;>simp
theorem says_run {S acc:List Int} {r:Int×Int} {p:Nat×Nat} (hc:chk S=0) (hs:hasS S r.1) (hr:okR r) (h16:r.1=16->acc≠[]):∃ x:Int×Nat,List.replicate x.2 x.1=repR acc r/\Says (rRun S acc) p x (layRun S p r):=by
 obtain ⟨c,m⟩:=r
 have hok:=okR_code hr
 dsimp only at hs h16 hok
 unfold rRun repR layRun
 dsimp only
 have base:=Says.next (p:=p) hc hs
 rcases hr with h | h | h | h
 · dsimp only at h
   refine ⟨(c,1),by rw [if_pos (by omega)];rfl,.bind base (.ifT (by omega) ?_)⟩
   rw [if_neg (by omega:¬ c=16),if_neg (by omega:¬ c=17),if_neg (by omega:¬ c=18)]
   exact .pure _ _
 · dsimp only at h
   obtain ⟨rfl,h1,h2⟩:=h
   obtain ⟨m,rfl⟩:=int_nat h1
   have hne:=h16 rfl
   refine ⟨(acc.getD (acc.length-1) 0,m+3),rfl,.bind base (.ifF (by decide) (.ifF (fun h=>hne (List.length_eq_zero_iff.1 h.2)) ?_))⟩
   exact .bind (.bits (n:=2) (by decide) (by omega)) (.pure _ _)
 · dsimp only at h
   obtain ⟨rfl,h1,h2⟩:=h
   obtain ⟨m,rfl⟩:=int_nat h1
   refine ⟨(0,m+3),rfl,.bind base (.ifF (by decide) (.ifF (fun h=>absurd h.1 (by decide)) ?_))⟩
   exact .bind (.bits (n:=3) (by decide) (by omega)) (.pure _ _)
 · dsimp only at h
   obtain ⟨rfl,h1,h2⟩:=h
   obtain ⟨m,rfl⟩:=int_nat h1
   refine ⟨(0,m+11),rfl,.bind base (.ifF (by decide) (.ifF (fun h=>absurd h.1 (by decide)) ?_))⟩
   exact .bind (.bits (n:=7) (by decide) (by omega)) (.pure _ _)
def unrun:List Int->List (Int×Int)->List Int->Prop
 | acc,[],L=>acc=L
 | acc,r::rs,L=>(r.1=16->acc≠[])/\unrun (acc++repR acc r) rs L
theorem unrun_len:∀ {rs:List (Int×Int)} {acc L:List Int},unrun acc rs L->acc.length+rs.length<=L.length
 | [],acc,L,h=>by unfold unrun at h;rw [h];simp
 | r::rs,acc,L,h=>by
   have:=unrun_len h.2
   have h1:=rep_len acc r
   rw [List.length_append] at this
   rw [List.length_cons];omega
theorem says_lens {S L:List Int} (hc:chk S=0):∀ {rs:List (Int×Int)} {f:Nat} {acc:List Int} {p:Nat×Nat},(∀ r∈rs,okR r/\hasS S r.1)->unrun acc rs L->rs.length<f->Says (rLens S L.length f acc) p L (rs.foldl (layRun S) p)
 | _,0,_,_,_,_,hf=>absurd hf (Nat.not_lt_zero _)
 | [],f+1,acc,p,_,hu,_=>by
   unfold unrun at hu
   subst hu
   unfold rLens
   exact .ifF (by omega) (.pure _ _)
 | r::rs,f+1,acc,p,h,hu,hf=>by
   obtain ⟨h16,hu⟩:=hu
   have hl:=unrun_len hu
   have h1:=rep_len acc r
   have hr:=h r (by simp)
   rw [List.length_append] at hl
   rw [List.length_cons] at hf
   obtain ⟨x,hx,hsay⟩:=says_run (acc:=acc) (p:=p) hc hr.2 hr.1 h16
   have hxl:x.2=(repR acc r).length:=by rw [<- hx,List.length_replicate]
   unfold rLens
   rw [List.foldl_cons]
   refine .ifT (by omega) (.bind hsay (.ifF (by omega) ?_))
   rw [hx]
   exact says_lens hc (fun r h'=>h r (by simp [h'])) hu (by omega)
theorem tw_take {v:Int}:∀ {l:List Int} {n:Nat},n<=(l.takeWhile fun x=>decide (x=v)).length->l.take n=List.replicate n v
 | _,0,_=>by simp
 | [],n+1,h=>by simp at h
 | a::l,n+1,h=>by
   rw [List.takeWhile_cons] at h
   by_cases ha:a=v
   · rw [if_pos (decide_eq_true ha),List.length_cons] at h
     rw [List.take_succ_cons,tw_take (v:=v) (by omega),ha,List.replicate_succ]
   · rw [decide_eq_false ha] at h
     simp at h
theorem rl_same {L:List Int} {i n:Nat} (h:n<=rl L i):L.take i++List.replicate n (L.getD i 0)=L.take (i+n):=by
 rw [List.take_add,tw_take h]
theorem rstep_rep {L:List Int} {i:Nat} (hi:i<L.length) (hL:∀ x∈L,0<=x/\x<=15):((rstep L i).1.1=16->L.take i≠[])/\L.take i++repR (L.take i) (rstep L i).1=L.take (i+(rstep L i).2):=by
 obtain ⟨hn1,hn2⟩:=rl_pos hi
 have hv:=hL _ (List.getElem_mem hi)
 rw [<- getD_of hi] at hv
 have hsame:∀ n,n<=rl L i->L.take i++List.replicate n (L.getD i 0)=L.take (i+n):=fun n h=>rl_same h
 unfold rstep
 obtain ⟨v,hve⟩:∃ v,L.getD i 0=v:=⟨_,rfl⟩
 obtain ⟨n,hne⟩:∃ n,rl L i=n:=⟨_,rfl⟩
 rw [hve] at hv hsame ⊢
 rw [hne] at hn1 hn2 hsame ⊢
 unfold rstepN repR
 by_cases h0:v=0
 · rw [if_pos h0]
   by_cases h10:10<n
   · rw [if_pos h10]
     dsimp only
     refine ⟨fun h=>absurd h (by decide),?_⟩
     rw [if_neg (by decide),if_neg (by decide),if_neg (by decide),Int.toNat_natCast,show min n 138-11+11=min n 138 from by omega,<- hsame _ (by omega),h0]
   · rw [if_neg h10]
     by_cases h2:2<n
     · rw [if_pos h2]
       dsimp only
       refine ⟨fun h=>absurd h (by decide),?_⟩
       rw [if_neg (by decide),if_neg (by decide),if_pos rfl,Int.toNat_natCast,show n-3+3=n from by omega,<- hsame _ (Nat.le_refl _),h0]
     · rw [if_neg h2]
       dsimp only
       refine ⟨fun h=>by omega,?_⟩
       rw [if_pos (by omega),<- hsame 1 hn1];rfl
 · rw [if_neg h0]
   by_cases hb:decide (0<i/\L.getD (i-1) 0=v)=true/\2<n
   · rw [if_pos hb]
     dsimp only
     obtain ⟨hb1,hb2⟩:=of_decide_eq_true hb.1
     have hlen:(L.take i).length=i:=by rw [List.length_take];omega
     refine ⟨fun _ h=>by rw [h] at hlen;simp at hlen;omega,?_⟩
     rw [if_neg (by decide),if_pos rfl,Int.toNat_natCast,show min n 6-3+3=min n 6 from by omega,<- hsame _ (by omega),hlen,getD_take (by omega),hb2]
   · rw [if_neg hb]
     dsimp only
     refine ⟨fun h=>by omega,?_⟩
     rw [if_pos (by omega),<- hsame 1 hn1];rfl
theorem unrun_runs {L:List Int} (hL:∀ x∈L,0<=x/\x<=15):∀ {f i:Nat},L.length-i<=f->i<=L.length->unrun (L.take i) (runsF L f i) L
 | 0,i,h,hi=>by
   unfold runsF unrun
   rw [List.take_of_length_le (by omega)]
 | f+1,i,h,hi=>by
   unfold runsF
   by_cases hlt:i<L.length
   · rw [if_pos hlt]
     obtain ⟨h1,h2⟩:=rl_pos hlt
     obtain ⟨h3,h4⟩:=rstepN_pos (v:=L.getD i 0) (b:=decide (0<i/\L.getD (i-1) 0=L.getD i 0)) h1
     rw [show rstepN (L.getD i 0) (decide (0<i/\L.getD (i-1) 0=L.getD i 0)) (rl L i)=rstep L i from rfl] at h3 h4
     obtain ⟨a1,a2⟩:=rstep_rep hlt hL
     refine ⟨a1,?_⟩
     rw [a2]
     exact unrun_runs hL (by omega) (by omega)
   · rw [if_neg hlt]
     unfold unrun
     rw [List.take_of_length_le (by omega)]
/-! ### The symbols that stand have codes -/
theorem addS_get (A:List Int) (i k:Nat):(addS A i).getD k 0=if k=i/\i<A.length then A.getD k 0+1 else A.getD k 0:=by
 unfold addS
 rw [getD_set]
 by_cases h:k=i
 · rw [h]
 · rw [if_neg (fun h'=>h h'.1),if_neg (fun h'=>h h'.1)]
theorem addS_up (A:List Int) (i k:Nat):A.getD k 0<=(addS A i).getD k 0:=by
 rw [addS_get];split<;>omega
theorem addS_pos {A:List Int} {i:Nat} (hi:i<A.length) (h:0<=A.getD i 0):0<(addS A i).getD i 0:=by
 rw [addS_get,if_pos ⟨rfl,hi⟩];omega
section
variable {α:Type} {F:List Int->α->List Int} {k:Nat}
theorem fold_up (hup:∀ A t,A.getD k 0<=(F A t).getD k 0):∀ (l:List α) (A:List Int),A.getD k 0<=(l.foldl F A).getD k 0
 | [],_=>Int.le_refl _
 | t::l,A=>Int.le_trans (hup A t) (fold_up hup l _)
theorem fold_mem {N:Nat} (hlen:∀ A t,(F A t).length=A.length) (hup:∀ A t,A.getD k 0<=(F A t).getD k 0) {t:α} (hp:∀ A:List Int,A.length=N->0<=A.getD k 0->0<(F A t).getD k 0):∀ {l:List α} {A:List Int},t∈l->A.length=N->0<=A.getD k 0->0<(l.foldl F A).getD k 0
 | [],_,h,_,_=>by simp at h
 | x::l,A,h,hA,h0=>by
   rw [List.foldl_cons]
   rcases List.mem_cons.1 h with rfl | h
   · exact Int.lt_of_lt_of_le (hp A hA h0) (fold_up hup l _)
   · exact fold_mem hlen hup hp h ((hlen A x).trans hA) (Int.le_trans h0 (hup A x))
end
theorem has_limit {most least:Nat} {L:List Int} {i:Nat} (h1:1<=most) (hm:L.length<=2^most) (hi:i<L.length) (hp:0<L.getD i 0):hasS (tld least (limit most L)) (i:Nat):=by
 have h:=((limit_all h1 (Nat.le_trans (coins_le L) hm) hi).1).2 hp
 rw [<- tld_getD least] at h
 refine ⟨by omega,?_,by rw [Int.toNat_natCast];omega⟩
 rcases Nat.lt_or_ge i (tld least (limit most L)).length with h' | h'
 · omega
 · rw [List.getD_eq_getElem?_getD,List.getElem?_eq_none h'] at h
   exact absurd h (by decide)
theorem has_times {l:List Tok}:∀ r∈runL l,hasS (smaL l) r.1:=by
 intro r hr
 have hc:=okR_code (runL_ok l r hr)
 obtain ⟨c,hc'⟩:=int_nat hc.1
 have hp:0<(timesOf (runL l)).getD r.1.toNat 0:=by
  unfold timesOf
  refine fold_mem (N:=19) (k:=r.1.toNat) (F:=fun A (r:Int×Int)=>addS A r.1.toNat) (fun A t=>addS_len _ _) (fun A t=>addS_up _ _ _) (t:=r) (fun A hA h0=>addS_pos (by omega) h0) hr (arr_len _ _) ?_
  exact (tim0_bd.get (by decide) _).1
 have hl:=times_length (runL l)
 have:=has_limit (least:=0) (most:=7) (L:=timesOf (runL l)) (i:=r.1.toNat) (by decide) (by rw [hl];decide) (by omega) hp
 rw [Int.toNat_of_nonneg hc.1] at this
 obtain ⟨a1,a2,a3⟩:=this
 rw [tld_getD] at a3
 refine ⟨a1,?_,a3⟩
 rw [smaL_len];omega
theorem litF_up (k:Nat) (A:List Int) (t:Tok):A.getD k 0<=(litF A t).getD k 0:=by
 unfold litF;split<;>exact addS_up _ _ _
theorem farF_up (k:Nat) (A:List Int) (t:Tok):A.getD k 0<=(farF A t).getD k 0:=by
 unfold farF;split
 · exact Int.le_refl _
 · exact addS_up _ _ _
theorem litF_len (A:List Int) (t:Tok):(litF A t).length=A.length:=by
 unfold litF;split<;>exact addS_len _ _
theorem farF_len (A:List Int) (t:Tok):(farF A t).length=A.length:=by
 unfold farF;split
 · rfl
 · exact addS_len _ _
theorem has_256 (l:List Tok):hasS (litL l) 256:=by
 have hp:0<(lits l).getD 256 0:=Int.lt_of_lt_of_le (show 0<lit0.getD 256 0 by decide +kernel) (fold_up (F:=litF) (litF_up 256) l lit0)
 exact has_limit (most:=15) (L:=lits l) (i:=256) (by decide) (by rw [lits_length];decide) (by rw [lits_length];decide) hp
theorem dyn_hasT {l:List Tok} (hok:∀ t∈l,okT t):∀ t∈l,hasT (litL l) (farL l) t:=by
 intro t ht
 have hll:=lits_length l
 have hdl:=dists_length l
 have lit:∀ i:Nat,i<286->(∀ A:List Int,A.length=286->0<=A.getD i 0->0<(litF A t).getD i 0)->hasS (litL l) (i:Nat):=fun i hi h=>
  has_limit (most:=15) (L:=lits l) (by decide) (by rw [hll];decide) (by omega) (fold_mem (F:=litF) (k:=i) litF_len (litF_up i) h ht (show lit0.length=286 from rfl) (lit0_bd.get (by decide) _).1)
 unfold hasT
 split
 · rename_i h0
   have hb:0<=t.1/\t.1<=255:=by
    rcases hok t ht with h | h
    · exact h.2
    · omega
   have:=lit t.1.toNat (by omega) fun A hA h=>by unfold litF;rw [if_pos h0];exact addS_pos (by omega) h
   rwa [Int.toNat_of_nonneg hb.1] at this
 · rename_i h0
   have hb:3<=t.2.1/\t.2.1<=258/\1<=t.2.2/\t.2.2<=512:=by
    rcases hok t ht with h | h
    · exact absurd h.1 h0
    · exact h
   have hs:=lenSym_le ⟨t.2.1.toNat,by omega⟩ (show 3<=t.2.1.toNat by omega)
   have hd:=disSym_le ⟨t.2.2.toNat,by omega⟩ (show 1<=t.2.2.toNat by omega)
   dsimp only at hs hd
   refine ⟨lit _ (by omega) fun A hA h=>by unfold litF;rw [if_neg h0];exact addS_pos (by omega) h,?_⟩
   refine has_limit (most:=15) (L:=dists l) (by decide) (by rw [hdl];decide) (by omega) ?_
   exact fold_mem (F:=farF) (k:=disSym t.2.2.toNat) farF_len (farF_up _) (fun A hA h=>by unfold farF;rw [if_neg h0];exact addS_pos (by omega) h) ht (arr_len (fun _=>0) 30) (dis0_bd.get (by decide) _).1
/-! ### The dynamic block -/
theorem cut_zero {M O:List Int} {k:Nat} (e:M=O++List.replicate k 0) {j:Nat} (hj:O.length<=j):M.getD j 0=0:=by
 subst e
 rw [List.getD_eq_getElem?_getD,List.getElem?_append_right hj,List.getElem?_replicate]
 split<;>rfl
theorem cut_take {M O:List Int} {k:Nat} (e:M=O++List.replicate k 0):O=M.take O.length:=by
 subst e;rw [List.take_left]
theorem ord_take (S:List Int) (n:Nat):(ordOf S).take n=(ordr.take n).map fun i=>S.getD i.toNat 0:=by
 unfold ordOf;rw [List.map_take]
theorem ord_len (S:List Int):(ordOf S).length=19:=by unfold ordOf;rw [List.length_map];rfl
theorem ord_cut {S O:List Int} (hO:tld 4 (ordOf S)=O):O=(ordr.take O.length).map (fun i=>S.getD i.toNat 0)/\(∀ j,O.length<=j->(ordOf S).getD j 0=0)/\4<=O.length/\O.length<=19:=by
 have lO:=ord_len S
 have h1:=tld_len 4 (ordOf S)
 have h2:=tld_ge (least:=4) (L:=ordOf S) (by omega)
 obtain ⟨k,e,_⟩:=tld_split 4 (ordOf S)
 rw [hO] at e h1 h2
 exact ⟨(cut_take e).trans (ord_take S _),fun j hj=>cut_zero e hj,h2,by omega⟩
theorem says_dyn {most:Int} {F:Nat} {s:ByteArray} (hm:(s.size:Int)<=most) {l:List Tok} (ht:∀ t∈l,okT t) (he:exp [] l=(s,0)) (hf:l.length<F):Says (rInfl most F) (0,0) (bytesL s) (dynP l):=by
 refine says_infl (k:=2) (by decide) ?_ (by omega)
 unfold rBlock
 refine .ifF (by decide) (.ifF (by decide) (.ifT rfl ?_))
 rw [show laP (laP (0,0) ((1:Nat):Int) ((1:Nat):Int)) ((2:Nat):Int) ((2:Nat):Int)=laP (0,0) 5 3 from by decide]
 have lA:=litL_len l
 have lB:=farL_len l
 obtain ⟨eO,zO,o4,o19⟩:=ord_cut (S:=smaL l) (O:=ordL l) rfl
 have cA:=litL_chk l
 have cB:=farL_chk l
 have cS:=smaL_chk l
 have hT:=dyn_hasT ht
 have h256:=has_256 l
 have hru:=has_times (l:=l)
 have hro:=runL_ok l
 have hun:=unrun_runs (L:=litL l++farL l) (both_ok l) (f:=(litL l++farL l).length) (i:=0) (by omega) (by omega)
 rw [List.take_zero,show runsF (litL l++farL l) (litL l++farL l).length 0=runL l from rfl] at hun
 have hul:=unrun_len hun
 have hS7:∀ i:Int,0<=(smaL l).getD i.toNat 0/\(smaL l).getD i.toNat 0<8:=by
  intro i
  have hl:=times_length (runL l)
  rcases Nat.lt_or_ge i.toNat 19 with h | h
  · have:=(limit_all (most:=7) (L:=timesOf (runL l)) (i:=i.toNat) (by decide) (Nat.le_trans (coins_le _) (by rw [hl];decide)) (by omega)).2
    have e:smaL l=limit 7 (timesOf (runL l)):=rfl
    rw [e];omega
  · rw [List.getD_eq_getElem?_getD,List.getElem?_eq_none (by rw [smaL_len];exact h)];decide
 have hsm:=small_all (S:=smaL l) (m:=(ordL l).length) (smaL_len l) zO
 unfold dynP
 obtain ⟨O,hO⟩:∃ O,ordL l=O:=⟨_,rfl⟩
 obtain ⟨S,hS⟩:∃ S,smaL l=S:=⟨_,rfl⟩
 obtain ⟨A,hA⟩:∃ A,litL l=A:=⟨_,rfl⟩
 obtain ⟨B,hB⟩:∃ B,farL l=B:=⟨_,rfl⟩
 obtain ⟨R,hR⟩:∃ R,runL l=R:=⟨_,rfl⟩
 rw [hO] at eO o4 o19 hsm ⊢
 rw [hS] at cS hru hS7 hsm eO ⊢
 rw [hA] at lA cA hT h256 hun hul ⊢
 rw [hB] at lB cB hT hun hul ⊢
 rw [hR] at hru hro hun hul ⊢
 clear zO
 refine .bind (a:=(A,B)) (p1:=R.foldl (layRun S) (fold3 O (dynHead A B O))) ?_ (says_codes cA cB h256 hm (fun t h=>⟨ht t h,hT t h⟩) he hf)
 unfold rDyn
 obtain ⟨a,ha⟩:∃ a:Nat,A.length=a+257:=⟨A.length-257,by omega⟩
 obtain ⟨b,hb⟩:∃ b:Nat,B.length=b+1:=⟨B.length-1,by omega⟩
 obtain ⟨c,hc⟩:∃ c:Nat,O.length=c+4:=⟨O.length-4,by omega⟩
 have hh:dynHead A B O=laP (laP (laP (laP (0,0) 5 3) (a:Nat) ((5:Nat):Int)) (b:Nat) ((5:Nat):Int)) (c:Nat) ((4:Nat):Int):=by
  unfold dynHead
  rw [show ((A.length:Nat):Int)-257=(a:Nat) from by omega,show ((B.length:Nat):Int)-1=(b:Nat) from by omega,show ((O.length:Nat):Int)-4=(c:Nat) from by omega]
  rfl
 refine .bind (a:=[((a:Nat):Int),((b:Nat):Int),((c:Nat):Int)]) (p1:=dynHead A B O) ?_ ?_
 · rw [hh]
   exact .bind (.bits (by decide) (by omega)) (.bind (.bits (by decide) (by omega)) (.bind (.bits (by decide) (by omega)) (.pure _ _)))
 · show Says (rDynT a b c) _ _ _
   unfold rDynT
   rw [<- hc]
   have h3:=says_small (S:=S) (is:=ordr.take O.length) (acc:=List.replicate 19 0) (p:=dynHead A B O) fun i _=>hS7 i
   rw [hsm,<- eO] at h3
   refine .bind h3 (.bind (.table cS) ?_)
   have hall:a+257+b+1=(A++B).length:=by rw [List.length_append];omega
   have h4:=says_lens (S:=S) (L:=A++B) cS (rs:=R) (f:=a+257+b+2) (acc:=[]) (p:=fold3 O (dynHead A B O)) (fun r h=>⟨hro r h,hru r h⟩) hun (by simp only [List.length_nil] at hul;omega)
   rw [hall]
   refine .bind h4 ?_
   rw [<- ha,List.take_left,List.drop_left]
   exact .pure _ _
end Go.Vit
