/- Dynamic blocks: the order of the small codes, and what stands ahead. -/
import Derived.Test.YtloeboiajgfigaaV6D2
set_option linter.unusedVariables false
set_option linter.unusedSimpArgs false
set_option linter.unusedSimpArgs false
set_option maxRecDepth 20000
namespace Go.Vit
open Go.Proofs
def fold3 (O:List Int) (p:Nat×Nat):Nat×Nat:=O.foldl (fun p n=>laP p n 3) p
theorem fold3_two:∀ (O:List Int) (p:Nat×Nat),(fold3 O p).2=p.2+3*O.length
 | [],p=>rfl
 | n::O,p=>by
   have h:=fold3_two O (laP p n 3)
   have h3:=laP_two p n (n:=3) (by decide)
   rw [show ((3:Nat):Int)=3 from rfl] at h3
   unfold fold3 at h ⊢
   rw [List.foldl_cons,h,h3,List.length_cons];omega
def dynHead (A B O:List Int):Nat×Nat:=laP (laP (laP (laP (0,0) 5 3) ((A.length:Nat)-257) 5) ((B.length:Nat)-1) 5) ((O.length:Nat)-4) 4
theorem dynHead_two (A B O:List Int):(dynHead A B O).2=17:=by
 unfold dynHead
 have e:∀ (p:Nat×Nat) (v:Int),(laP p v 5).2=p.2+5:=fun p v=>laP_two p v (n:=5) (by decide)
 have e4:∀ (p:Nat×Nat) (v:Int),(laP p v 4).2=p.2+4:=fun p v=>laP_two p v (n:=4) (by decide)
 have e3:∀ (p:Nat×Nat) (v:Int),(laP p v 3).2=p.2+3:=fun p v=>laP_two p v (n:=3) (by decide)
 rw [e4,e,e,e3]
def ordOf (S:List Int):List Int:=ordr.map fun i=>S.getD i.toNat 0
def timesOf (rs:List (Int×Int)):List Int:=rs.foldl (fun A r=>addS A r.1.toNat) (arr (fun _=>0) 19)
theorem timesF_len:∀ (l:List (Int×Int)) (A:List Int),(l.foldl (fun A r=>addS A r.1.toNat) A).length=A.length
 | [],_=>rfl
 | t::l,A=>by rw [List.foldl_cons,timesF_len l];exact addS_len _ _
theorem timesF_bd:∀ (l:List (Int×Int)) (A:List Int) (m:Int),0<=m->bdL A m->bdL (l.foldl (fun A r=>addS A r.1.toNat) A) (m+l.length)
 | [],A,m,_,h=>by simpa using h
 | t::l,A,m,hm,h=>by
   have:=timesF_bd l _ (m+1) (by omega) (h.add hm t.1.toNat)
   rw [List.foldl_cons,List.length_cons]
   exact this.mono (by omega)
theorem tim0_bd:bdL (arr (fun _=>0) 19) 0:=by unfold bdL;decide +kernel
theorem times_not_bad {rs:List (Int×Int)} (hl:rs.length<=2^20):¬ badL 7 (timesOf rs):=by
 have h:=timesF_bd rs _ 0 (by decide) tim0_bd
 have e:(timesOf rs).length=19:=(timesF_len rs _).trans (arr_len _ _)
 exact not_badL (most:=7) (m:=0+rs.length) (by decide) (by decide) (by omega) h (by omega) (by rw [e];decide)
theorem dyn_l3 {σ0 σ:Mem} {w:Nat} {p:Nat×Nat} {S A B O:List Int} {rs:List (Int×Int)} {l:List Tok} {v0 v4 v5 v9 v31 v47:AV} {Q:AV->Mem->Prop} (h:Lone σ0 σ w p)
 (h0:OwnS 3 σ0 v0 (tkl l) l.length) (b0:∀ b∈blkOf v0,b<σ0.next) (h4:RdC σ0 v4 A) (b4:∀ b∈blkOf v4,b<σ0.next) (h5:RdC σ0 v5 B) (b5:∀ b∈blkOf v5,b<σ0.next) (h9:OwnS 2 σ0 v9 (ic2 rs) rs.length) (b9:∀ b∈blkOf v9,b<σ0.next)
 (h31:RdC σ0 v31 S) (b31:∀ b∈blkOf v31,b<σ0.next) (h47:RdC σ0 v47 O) (b47:∀ b∈blkOf v47,b<σ0.next) (bO:∀ x∈O,0<=x/\x<=100)
 (cS:chk S=0) (cA:chk A=0) (cB:chk B=0) (hrs:∀ r∈rs,okR r) (hok:∀ t∈l,okT t) (hl:l.length<=2^20) (hrl:rs.length<=2^20) (hOl:O.length<=2^10) (hp:p.2<=2^20)
 (hQ:∀ σ',σ0.Same σ'->Q (.str (text (layToks A B (rs.foldl (layRun S) (fold3 O p)) l).1 (layToks A B (rs.foldl (layRun S) (fold3 O p)) l).2)) σ') :
 loopF [tI] (F_deflate_Dynamic_l3 Q v0 v4 v5 v9 v31 v47 (.ptr w 0) (O.length:Nat)) 0 σ:=by
 have hS:lens S:=(chk_room cS).1
 refine loop1 (fun (i:Nat) (y:Int) σ'=>y=i/\i<=O.length/\Lone σ0 σ' w (fold3 (O.take i) p)) (fun i=>O.length-i) 0 ⟨rfl,by omega,h⟩ ?_
 rintro i _ σ1 ⟨rfl,hi',lt1⟩
 unfold F_deflate_Dynamic_l3
 have htw:=fold3_two (O.take i) p
 rw [List.length_take] at htw
 obtain ⟨q,hq⟩:∃ q,fold3 (O.take i) p=q:=⟨_,rfl⟩
 rw [hq] at lt1 htw
 obtain ⟨o,w1,s01,st⟩:=(lt1.same ((Mem.Same.refl σ1).bump 7)).step
 have s01':σ0.Same σ1:=by obtain ⟨_,_,_,s⟩:=lt1;exact s
 refine ifD (fun hlt=>?_) (fun hge=>?_)
 · have hiO:i<O.length:=by omega
   have hfs:fold3 (O.take (i+1)) p=laP q O[i] 3:=by
    rw [<- hq]
    exact take_fold (fun p n=>laP p n 3) p hiO
   have hb:=bO O[i] (List.getElem_mem hiO)
   refine (h47.o).rd (i:=i) (σ':=σ1.bump 4) (fun b hb=>s01'.get b (b47 b hb)) hiO rfl ?_
   rw [getD_of hiO]
   refine callW_of (bits_Writer_Bits w1 (by omega) (by omega) (by omega)) ?_
   rintro _ σ2 ⟨rfl,h2⟩
   have lt2:=st _ (laP q O[i] 3) h2
   refine iW_of (by omega) ?_
   exact again ⟨i+1,⟨by omega,by omega,by rw [hfs];exact lt2.same ((Mem.Same.refl σ2).bump _)⟩,by omega⟩
 · obtain rfl:i=O.length:=by omega
   rw [List.take_length] at hq
   refine callW_of (huff_Make (σ:=σ1.bump 8) (L:=S) ((h31.keep (σ':=σ1) fun b hb=>s01'.get b (b31 b hb)).o.keep fun _ _=>rfl) (by have:=hS.1;omega)) ?_
   rintro _ σ2 ⟨pt,rfl,_,hpt,s2⟩
   obtain ⟨_,t,rfl,tab⟩:=hpt cS
   have tab:=tab.b
   have n2:=s2.next
   simp only [Mem.next_bump] at n2 tab
   have s12:=s2.ob
   refine tupW_of rfl ?_
   refine tpI_of rfl ?_
   have n01:=s01'.next
   refine (h9.keep (σ':=σ2) fun b hb=>(s01'.trans s12).get b (b9 b hb)).rdO.len ?_
   obtain ⟨o1,w1,wb,ws⟩:=lt1
   refine dyn_l4 (σ0:=σ0) (σ:=σ2.bump 3) (p:=q) (S:=S) (A:=A) (B:=B) (lo:=σ1.next+8) (hi:=σ2.next) ⟨o1,w1.keep fun b hb=>s12.get b (wb b hb).2,fun b hb=>by simp only [Mem.next_bump];have:=wb b hb;omega,fun b hb=>.inl (by have:=(wb b hb).2;omega),by simp only [Mem.next_bump];omega,tab.keep fun _ _ _=>rfl,(ws.trans s12).bump _⟩ hS h0 b0 h4 b4 h5 b5 h9 b9 cA cB hrs hok hl hrl (by omega) ?_
   rw [<- hq]
   exact hQ
theorem dyn_l2 {σ σ30:Mem} {ob:Nat} {S A B:List Int} {rs:List (Int×Int)} {l:List Tok} {v0 v4 v5 v9 v31:AV} {Q:AV->Mem->Prop} {v34:Int} (hob:σ30.next+1=ob) (hol:ob<σ.next) (hog:σ.get ob=some (.rw (ic ordr))) (h34:v34=19)
 (h0:OwnS 3 σ v0 (tkl l) l.length) (b0:∀ b∈blkOf v0,b<σ.next) (h4:RdC σ v4 A) (b4:∀ b∈blkOf v4,b<σ.next) (h5:RdC σ v5 B) (b5:∀ b∈blkOf v5,b<σ.next) (h9:OwnS 2 σ v9 (ic2 rs) rs.length) (b9:∀ b∈blkOf v9,b<σ.next)
 (h31:RdC σ v31 S) (b31:∀ b∈blkOf v31,b<σ.next) (lS:S.length=19)
 (cS:chk S=0) (cA:chk A=0) (cB:chk B=0) (hrs:∀ r∈rs,okR r) (hok:∀ t∈l,okT t) (hl:l.length<=2^20) (hrl:rs.length<=2^20)
 (hQ:∀ σ',σ.Same σ'->Q (.str (text (layToks A B (rs.foldl (layRun S) (fold3 (tld 4 (ordOf S)) (dynHead A B (tld 4 (ordOf S))))) l).1 (layToks A B (rs.foldl (layRun S) (fold3 (tld 4 (ordOf S)) (dynHead A B (tld 4 (ordOf S))))) l).2)) σ') :
 loopF [.v,tI] (F_deflate_Dynamic_l2 Q v0 v4 v5 v9 σ30 v31 v34) .nils 0 σ:=by
 subst h34
 have hS:lens S:=(chk_room cS).1
 have hlenA:A.length<=288:=(chk_room cA).1.1
 have hlenB:B.length<=288:=(chk_room cB).1.1
 have lO:(ordOf S).length=19:=by unfold ordOf;rw [List.length_map];rfl
 refine loop2 (fun (i:Nat) (u:AV) (y:Int) σ'=>y=i/\i<=19/\σ.Same σ'/\Own 1 σ σ' u (ic ((ordOf S).take i)) i) (fun i=>19-i) 0 ⟨rfl,by omega,Mem.Same.refl σ,by rw [List.take_zero];exact Own.nil 1 _ _⟩ ?_
 rintro i u _ σ1 ⟨rfl,hi',s1,own⟩
 unfold F_deflate_Dynamic_l2
 rw [hob]
 have n1:=s1.next
 refine ifD (fun hlt=>?_) (fun hge=>?_)
 · have hi19:i<19:=by omega
   obtain ⟨j,hj,hj19⟩:=ordr_lt hi19
   have hog1:σ1.get ob=some (.rw (ic ordr)):=(s1.get ob hol).trans hog
   refine rdB1 (i:=i) (σ:=σ1) (σ':=σ1.bump 4) hog1 rfl hi19 hj rfl ?_
   refine (h31.o).rd (i:=j) (σ':=σ1.bump 12) (fun b hb=>s1.get b (b31 b hb)) (by omega) rfl ?_
   have hiO:i<(ordOf S).length:=by omega
   have he:(ordOf S)[i]=S.getD j 0:=by
    have h1:(ordOf S)[i]? = some (S.getD j 0):=by unfold ordOf;rw [List.getElem?_map,hj];rfl
    rw [List.getElem?_eq_getElem hiO] at h1
    injection h1
   refine To.go ?_
   refine Own.push (σ:=σ) (m:=1) (c:=ic [S.getD j 0]) own s1 rfl (by omega) (by omega) (by omega) rfl (ic_one _) (ic_one _) (by omega) ?_ (by simp only [Mem.next_put,Mem.next_bump];omega)
   intro u' σ2 own2 s2 _ _ _
   refine iW_of (by omega) ?_
   refine again ⟨i+1,⟨by omega,by omega,s2.bump _,?_⟩,by omega⟩
   rw [List.take_succ_eq_append_getElem hiO,he,ic_append]
   exact own2.same ((Mem.Same.refl σ2).bump _)
 · obtain rfl:i=19:=by omega
   rw [List.take_of_length_le (by omega)] at own
   have bO:∀ x∈ordOf S,0<=x/\x<=100:=by
    intro x hx
    unfold ordOf at hx
    rw [List.mem_map] at hx
    obtain ⟨i,_,rfl⟩:=hx
    by_cases h:i.toNat<S.length
    · rw [getD_of h];have:=hS.2 _ (List.getElem_mem h);omega
    · rw [List.getD_eq_getElem?_getD,List.getElem?_eq_none (by omega)];decide
   have own1:=own.1
   refine callW_of (deflate_told (σ:=σ1.bump 4) (L:=ordOf S) (least:=4) (own1.c.keep fun _ _=>rfl) (by omega) (by decide)) ?_
   rintro v σ2 ⟨hv,bv,s2⟩
   have s12:=s2.ob
   have n2:=s12.next
   obtain ⟨O,hO⟩:∃ O,tld 4 (ordOf S)=O:=⟨_,rfl⟩
   have lO':=tld_len 4 (ordOf S)
   have bO':∀ x∈O,0<=x/\x<=100:=fun x hx=>bO x (by rw [<- hO] at hx;exact tld_mem hx)
   rw [hO] at hv hQ lO'
   have bv':∀ b∈blkOf v,b<σ2.next:=fun b hb=>by rw [bv] at hb;have:=(own.2 b hb).2;omega
   refine callW_of (bits_New _) ?_
   rintro _ σ3 ⟨w,rfl,hw1,hw2,hwr,s3⟩
   replace s3:=s3.ob
   have n3:=s3.next
   simp only [Mem.next_bump] at hw1
   have s02:=s1.trans s12
   have lone:Lone σ2 (σ3.bump 2) w (0,0):=⟨[w],hwr.keep fun _ _=>rfl,fun b hb=>by simp only [List.mem_singleton] at hb;subst hb;simp only [Mem.next_bump];omega,s3.bump _⟩
   have bits:∀ {σ4:Mem} {q:Nat×Nat} {x:Int} {n:Nat} {K:AV->Mem->Prop},Lone σ2 σ4 w q->q.2<=2^20->(-9223372036854775808<=x/\x<=9223372036854775807)->(∀ r σ5,Lone σ2 σ5 w (laP q x (n:Nat))->K r σ5)->callW PG n_bits_Writer_Bits [.ptr w 0,.int .i64 x,.int .i64 (n:Nat)] σ4 K:=by
    intro σ4 q x n K hq hq2 hx hK
    obtain ⟨o,w1,_,st⟩:=hq.step
    refine callW_of (bits_Writer_Bits w1 (by omega) hx.1 hx.2) ?_
    rintro r σ5 ⟨_,h5⟩
    exact hK r σ5 (st _ (laP q x (n:Nat)) h5)
   refine bits (n:=3) lone (by decide) (by decide) ?_
   intro _ σ4 lone4
   have s04:σ2.Same σ4:=by obtain ⟨_,_,_,s⟩:=lone4;exact s
   refine ((h4.keep (σ':=σ4) fun b hb=>(s02.trans s04).get b (b4 b hb)).o).len ?_
   refine iW_of (by omega) ?_
   have e0:(laP (0,0) 5 ((3:Nat):Int)).2=3:=rfl
   refine bits (n:=5) (lone4.same ((Mem.Same.refl σ4).bump 5)) (by omega) (by omega) ?_
   intro _ σ5 lone5
   have s05:σ2.Same σ5:=by obtain ⟨_,_,_,s⟩:=lone5;exact s
   refine ((h5.keep (σ':=σ5) fun b hb=>(s02.trans s05).get b (b5 b hb)).o).len ?_
   refine iW_of (by omega) ?_
   have e1:=laP_two (laP (0,0) 5 ((3:Nat):Int)) ((A.length:Nat)-257) (n:=5) (by decide)
   refine bits (n:=5) (lone5.same ((Mem.Same.refl σ5).bump 5)) (by omega) (by omega) ?_
   intro _ σ6 lone6
   have s06:σ2.Same σ6:=by obtain ⟨_,_,_,s⟩:=lone6;exact s
   refine ((hv.keep (σ':=σ6) fun b hb=>s06.get b (bv' b hb)).o).len ?_
   refine iW_of (by omega) ?_
   have e2:=laP_two (laP (laP (0,0) 5 ((3:Nat):Int)) ((A.length:Nat)-257) ((5:Nat):Int)) ((B.length:Nat)-1) (n:=5) (by decide)
   refine bits (n:=4) (lone6.same ((Mem.Same.refl σ6).bump 5)) (by omega) (by omega) ?_
   intro _ σ7 lone7
   have s07:σ2.Same σ7:=by obtain ⟨_,_,_,s⟩:=lone7;exact s
   refine ((hv.keep (σ':=σ7) fun b hb=>s07.get b (bv' b hb)).o).len ?_
   refine dyn_l3 (σ0:=σ2) (σ:=σ7.bump 3) (p:=dynHead A B O) (S:=S) (A:=A) (B:=B) (O:=O) (rs:=rs) (l:=l) (lone7.same ((Mem.Same.refl σ7).bump 3)) (h0.keep fun b hb=>s02.get b (b0 b hb)) (fun b hb=>by have:=b0 b hb;omega) (h4.keep fun b hb=>s02.get b (b4 b hb)) (fun b hb=>by have:=b4 b hb;omega) (h5.keep fun b hb=>s02.get b (b5 b hb)) (fun b hb=>by have:=b5 b hb;omega) (h9.keep fun b hb=>s02.get b (b9 b hb)) (fun b hb=>by have:=b9 b hb;omega) (h31.keep fun b hb=>s02.get b (b31 b hb)) (fun b hb=>by have:=b31 b hb;omega) hv bv' bO' cS cA cB hrs hok hl hrl (by omega) (by rw [dynHead_two];decide) ?_
   intro σ8 s8
   exact hQ σ8 (s02.trans s8)
end Go.Vit
