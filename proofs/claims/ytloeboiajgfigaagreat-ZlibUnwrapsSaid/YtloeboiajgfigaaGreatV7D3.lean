/- Dynamic blocks: the order of the small codes, and what stands ahead. -/
import Derived.Test.YtloeboiajgfigaaGreatV7D2
set_option linter.unusedVariables false
set_option linter.unusedSimpArgs false
set_option maxRecDepth 20000
namespace Go.Vit
open Go.Proofs
def fold3 (O:List Int) (p:Nat×Nat):Nat×Nat:=O.foldl (λp n=>laP p n 3) p
theorem zdb:∀ (O:List Int) (p:Nat×Nat),(fold3 O p).2=p.2+3*O.length
 | [],p=>rfl
 | n::O,p=>by
   have h:=zdb O (laP p n 3)
   have h3:=z1Z p n (n:=3) (by decide)
   rw [show ((3:Nat):Int)=3 from rfl] at h3
   unfold fold3 at h ⊢
   rw [List.foldl_cons,h,h3,List.length_cons];omega
def z7u (A B O:List Int):Nat×Nat:=laP (laP (laP (laP (0,0) 5 3) ((A.length:Nat)-257) 5) ((B.length:Nat)-1) 5) ((O.length:Nat)-4) 4
theorem zei (A B O:List Int):(z7u A B O).2=17:=by
 unfold z7u
 have e:∀ (p:Nat×Nat) (v:Int),(laP p v 5).2=p.2+5:=λp v=>z1Z p v (n:=5) (by decide)
 have e4:∀ (p:Nat×Nat) (v:Int),(laP p v 4).2=p.2+4:=λp v=>z1Z p v (n:=4) (by decide)
 have e3:∀ (p:Nat×Nat) (v:Int),(laP p v 3).2=p.2+3:=λp v=>z1Z p v (n:=3) (by decide)
 rw [e4,e,e,e3]
def z8L (S:List Int):List Int:=ordr.map λi=>S.getD i.toNat 0
def zel (rs:List (Int×Int)):List Int:=rs.foldl (λA r=>zk5 A r.1.toNat) (arr (λ_=>0) 19)
theorem z9i:∀ (l:List (Int×Int)) (A:List Int),(l.foldl (λA r=>zk5 A r.1.toNat) A).length=A.length
 | [],_=>rfl
 | t::l,A=>by rw [List.foldl_cons,z9i l];exact zfY _ _
theorem zdk:∀ (l:List (Int×Int)) (A:List Int) (m:Int),0<=m->bdL A m->bdL (l.foldl (λA r=>zk5 A r.1.toNat) A) (m+l.length)
 | [],A,m,_,h=>by simpa using h
 | t::l,A,m,hm,h=>by
   have:=zdk l _ (m+1) (by omega) (h.add hm t.1.toNat)
   rw [List.foldl_cons,List.length_cons]
   exact this.mono (by omega)
theorem zmO:bdL (arr (λ_=>0) 19) 0:=by unfold bdL;decide +kernel
theorem zfS {rs:List (Int×Int)} (hl:rs.length<=2^20):¬ zi4 7 (zel rs):=by
 have h:=zdk rs _ 0 (by decide) zmO
 have e:(zel rs).length=19:=(z9i rs _).trans (zW _ _)
 exact zfr (most:=7) (m:=0+rs.length) (by decide) (by decide) (by omega) h (by omega) (by rw [e];decide)
theorem zpZ {σ0 σ:Mem} {w:Nat} {p:Nat×Nat} {S A B O:List Int} {rs:List (Int×Int)} {l:List Tok} {v0 v4 v5 v9 v31 v47:AV} {Q:AV->Mem->Prop} (h:Lone σ0 σ w p)
 (h0:z1Q 3 σ0 v0 (tkl l) l.length) (b0:∀ b∈z3 v0,b<σ0.next) (h4:RdC σ0 v4 A) (b4:∀ b∈z3 v4,b<σ0.next) (h5:RdC σ0 v5 B) (b5:∀ b∈z3 v5,b<σ0.next) (h9:z1Q 2 σ0 v9 (ic2 rs) rs.length) (b9:∀ b∈z3 v9,b<σ0.next)
 (h31:RdC σ0 v31 S) (b31:∀ b∈z3 v31,b<σ0.next) (h47:RdC σ0 v47 O) (b47:∀ b∈z3 v47,b<σ0.next) (bO:∀ x∈O,0<=x/\x<=100)
 (cS:chk S=0) (cA:chk A=0) (cB:chk B=0) (hrs:∀ r∈rs,okR r) (hok:∀ t∈l,okT t) (hl:l.length<=2^20) (hrl:rs.length<=2^20) (hOl:O.length<=2^10) (hp:p.2<=2^20)
 (hQ:∀ σ',σ0.Same σ'->Q (.str (text (z42 A B (rs.foldl (z3G S) (fold3 O p)) l).1 (z42 A B (rs.foldl (z3G S) (fold3 O p)) l).2)) σ') :
 zj [tI] (z3e Q v0 v4 v5 v9 v31 v47 (.ptr w 0) (O.length:Nat)) 0 σ:=by
 have hS:lens S:=(z2p cS).1
 refine loop1 (λ(i:Nat) (y:Int) σ'=>y=i/\i<=O.length/\Lone σ0 σ' w (fold3 (O.take i) p)) (λi=>O.length-i) 0 ⟨rfl,by omega,h⟩ ?_
 rintro i _ σ1 ⟨rfl,hi',lt1⟩
 unfold z3e
 have htw:=zdb (O.take i) p
 rw [List.length_take] at htw
 obtain ⟨q,hq⟩:∃ q,fold3 (O.take i) p=q:=⟨_,rfl⟩
 rw [hq] at lt1 htw
 obtain ⟨o,w1,s01,st⟩:=(lt1.same ((Mem.Same.refl σ1).bump 7)).step
 have s01':σ0.Same σ1:=by obtain ⟨_,_,_,s⟩:=lt1;exact s
 refine ifD (λhlt=>?_) (λhge=>?_)
 · have hiO:i<O.length:=by omega
   have hfs:fold3 (O.take (i+1)) p=laP q O[i] 3:=by
    rw [<- hq]
    exact z8V (λp n=>laP p n 3) p hiO
   have hb:=bO O[i] (List.getElem_mem hiO)
   refine (h47.o).rd (i:=i) (σ':=σ1.bump 4) (λb hb=>s01'.get b (b47 b hb)) hiO rfl ?_
   rw [zA hiO]
   refine z0 (z0b w1 (by omega) (by omega) (by omega)) ?_
   rintro _ σ2 ⟨rfl,h2⟩
   have lt2:=st _ (laP q O[i] 3) h2
   refine z6 (by omega) ?_
   exact again ⟨i+1,⟨by omega,by omega,by rw [hfs];exact lt2.same ((Mem.Same.refl σ2).bump _)⟩,by omega⟩
 · obtain rfl:i=O.length:=by omega
   rw [List.take_length] at hq
   refine z0 (z4P (σ:=σ1.bump 8) (L:=S) ((h31.keep (σ':=σ1) λb hb=>s01'.get b (b31 b hb)).o.keep λ_ _=>rfl) (by have:=hS.1;omega)) ?_
   rintro _ σ2 ⟨pt,rfl,_,hpt,s2⟩
   obtain ⟨_,t,rfl,tab⟩:=hpt cS
   have tab:=tab.b
   have n2:=s2.next
   simp only [Mem.next_bump] at n2 tab
   have s12:=s2.ob
   refine z43 rfl ?_
   refine z3v rfl ?_
   have n01:=s01'.next
   refine (h9.keep (σ':=σ2) λb hb=>(s01'.trans s12).get b (b9 b hb)).rdO.len ?_
   obtain ⟨o1,w1,wb,ws⟩:=lt1
   refine zpC (σ0:=σ0) (σ:=σ2.bump 3) (p:=q) (S:=S) (A:=A) (B:=B) (lo:=σ1.next+8) (hi:=σ2.next) ⟨o1,w1.keep λb hb=>s12.get b (wb b hb).2,λb hb=>by simp only [Mem.next_bump];have:=wb b hb;omega,λb hb=>.inl (by have:=(wb b hb).2;omega),by simp only [Mem.next_bump];omega,tab.keep λ_ _ _=>rfl,(ws.trans s12).bump _⟩ hS h0 b0 h4 b4 h5 b5 h9 b9 cA cB hrs hok hl hrl (by omega) ?_
   rw [<- hq]
   exact hQ
theorem zq5 {σ σ30:Mem} {ob:Nat} {S A B:List Int} {rs:List (Int×Int)} {l:List Tok} {v0 v4 v5 v9 v31:AV} {Q:AV->Mem->Prop} {v34:Int} (hob:σ30.next+1=ob) (hol:ob<σ.next) (hog:σ.get ob=some (.rw (ic ordr))) (h34:v34=19)
 (h0:z1Q 3 σ v0 (tkl l) l.length) (b0:∀ b∈z3 v0,b<σ.next) (h4:RdC σ v4 A) (b4:∀ b∈z3 v4,b<σ.next) (h5:RdC σ v5 B) (b5:∀ b∈z3 v5,b<σ.next) (h9:z1Q 2 σ v9 (ic2 rs) rs.length) (b9:∀ b∈z3 v9,b<σ.next)
 (h31:RdC σ v31 S) (b31:∀ b∈z3 v31,b<σ.next) (lS:S.length=19)
 (cS:chk S=0) (cA:chk A=0) (cB:chk B=0) (hrs:∀ r∈rs,okR r) (hok:∀ t∈l,okT t) (hl:l.length<=2^20) (hrl:rs.length<=2^20)
 (hQ:∀ σ',σ.Same σ'->Q (.str (text (z42 A B (rs.foldl (z3G S) (fold3 (tld 4 (z8L S)) (z7u A B (tld 4 (z8L S))))) l).1 (z42 A B (rs.foldl (z3G S) (fold3 (tld 4 (z8L S)) (z7u A B (tld 4 (z8L S))))) l).2)) σ') :
 zj [.v,tI] (z3j Q v0 v4 v5 v9 σ30 v31 v34) .nils 0 σ:=by
 subst h34
 have hS:lens S:=(z2p cS).1
 have hlenA:A.length<=288:=(z2p cA).1.1
 have hlenB:B.length<=288:=(z2p cB).1.1
 have lO:(z8L S).length=19:=by unfold z8L;rw [List.length_map];rfl
 refine loop2 (λ(i:Nat) (u:AV) (y:Int) σ'=>y=i/\i<=19/\σ.Same σ'/\Own 1 σ σ' u (ic ((z8L S).take i)) i) (λi=>19-i) 0 ⟨rfl,by omega,Mem.Same.refl σ,by rw [List.take_zero];exact Own.nil 1 _ _⟩ ?_
 rintro i u _ σ1 ⟨rfl,hi',s1,own⟩
 unfold z3j
 rw [hob]
 have n1:=s1.next
 refine ifD (λhlt=>?_) (λhge=>?_)
 · have hi19:i<19:=by omega
   obtain ⟨j,hj,hj19⟩:=ziE hi19
   have hog1:σ1.get ob=some (.rw (ic ordr)):=(s1.get ob hol).trans hog
   refine zqP (i:=i) (σ:=σ1) (σ':=σ1.bump 4) hog1 rfl hi19 hj rfl ?_
   refine (h31.o).rd (i:=j) (σ':=σ1.bump 12) (λb hb=>s1.get b (b31 b hb)) (by omega) rfl ?_
   have hiO:i<(z8L S).length:=by omega
   have he:(z8L S)[i]=S.getD j 0:=by
    have h1:(z8L S)[i]? = some (S.getD j 0):=by unfold z8L;rw [List.getElem?_map,hj];rfl
    rw [List.getElem?_eq_getElem hiO] at h1
    injection h1
   refine To.go ?_
   refine Own.push (σ:=σ) (m:=1) (c:=ic [S.getD j 0]) own s1 rfl (by omega) (by omega) (by omega) rfl (z3s _) (z3s _) (by omega) ?_ (by simp only [Mem.next_put,Mem.next_bump];omega)
   intro u' σ2 own2 s2 _ _ _
   refine z6 (by omega) ?_
   refine again ⟨i+1,⟨by omega,by omega,s2.bump _,?_⟩,by omega⟩
   rw [List.take_succ_eq_append_getElem hiO,he,z3k]
   exact own2.same ((Mem.Same.refl σ2).bump _)
 · obtain rfl:i=19:=by omega
   rw [List.take_of_length_le (by omega)] at own
   have bO:∀ x∈z8L S,0<=x/\x<=100:=by
    intro x hx
    unfold z8L at hx
    rw [List.mem_map] at hx
    obtain ⟨i,_,rfl⟩:=hx
    by_cases h:i.toNat<S.length
    · rw [zA h];have:=hS.2 _ (List.getElem_mem h);omega
    · rw [List.getD_eq_getElem?_getD,List.getElem?_eq_none (by omega)];decide
   have own1:=own.1
   refine z0 (z8T (σ:=σ1.bump 4) (L:=z8L S) (least:=4) (own1.c.keep λ_ _=>rfl) (by omega) (by decide)) ?_
   rintro v σ2 ⟨hv,bv,s2⟩
   have s12:=s2.ob
   have n2:=s12.next
   obtain ⟨O,hO⟩:∃ O,tld 4 (z8L S)=O:=⟨_,rfl⟩
   have lO':=zi8 4 (z8L S)
   have bO':∀ x∈O,0<=x/\x<=100:=λx hx=>bO x (by rw [<- hO] at hx;exact zpa hx)
   rw [hO] at hv hQ lO'
   have bv':∀ b∈z3 v,b<σ2.next:=λb hb=>by rw [bv] at hb;have:=(own.2 b hb).2;omega
   refine z0 (zfH _) ?_
   rintro _ σ3 ⟨w,rfl,hw1,hw2,hwr,s3⟩
   replace s3:=s3.ob
   have n3:=s3.next
   simp only [Mem.next_bump] at hw1
   have s02:=s1.trans s12
   have lone:Lone σ2 (σ3.bump 2) w (0,0):=⟨[w],hwr.keep λ_ _=>rfl,λb hb=>by simp only [List.mem_singleton] at hb;subst hb;simp only [Mem.next_bump];omega,s3.bump _⟩
   have bits:∀ {σ4:Mem} {q:Nat×Nat} {x:Int} {n:Nat} {K:AV->Mem->Prop},Lone σ2 σ4 w q->q.2<=2^20->(-9223372036854775808<=x/\x<=9223372036854775807)->(∀ r σ5,Lone σ2 σ5 w (laP q x (n:Nat))->K r σ5)->z5 PG zg [.ptr w 0,.int .i64 x,.int .i64 (n:Nat)] σ4 K:=by
    intro σ4 q x n K hq hq2 hx hK
    obtain ⟨o,w1,_,st⟩:=hq.step
    refine z0 (z0b w1 (by omega) hx.1 hx.2) ?_
    rintro r σ5 ⟨_,h5⟩
    exact hK r σ5 (st _ (laP q x (n:Nat)) h5)
   refine bits (n:=3) lone (by decide) (by decide) ?_
   intro _ σ4 lone4
   have s04:σ2.Same σ4:=by obtain ⟨_,_,_,s⟩:=lone4;exact s
   refine ((h4.keep (σ':=σ4) λb hb=>(s02.trans s04).get b (b4 b hb)).o).len ?_
   refine z6 (by omega) ?_
   have e0:(laP (0,0) 5 ((3:Nat):Int)).2=3:=rfl
   refine bits (n:=5) (lone4.same ((Mem.Same.refl σ4).bump 5)) (by omega) (by omega) ?_
   intro _ σ5 lone5
   have s05:σ2.Same σ5:=by obtain ⟨_,_,_,s⟩:=lone5;exact s
   refine ((h5.keep (σ':=σ5) λb hb=>(s02.trans s05).get b (b5 b hb)).o).len ?_
   refine z6 (by omega) ?_
   have e1:=z1Z (laP (0,0) 5 ((3:Nat):Int)) ((A.length:Nat)-257) (n:=5) (by decide)
   refine bits (n:=5) (lone5.same ((Mem.Same.refl σ5).bump 5)) (by omega) (by omega) ?_
   intro _ σ6 lone6
   have s06:σ2.Same σ6:=by obtain ⟨_,_,_,s⟩:=lone6;exact s
   refine ((hv.keep (σ':=σ6) λb hb=>s06.get b (bv' b hb)).o).len ?_
   refine z6 (by omega) ?_
   have e2:=z1Z (laP (laP (0,0) 5 ((3:Nat):Int)) ((A.length:Nat)-257) ((5:Nat):Int)) ((B.length:Nat)-1) (n:=5) (by decide)
   refine bits (n:=4) (lone6.same ((Mem.Same.refl σ6).bump 5)) (by omega) (by omega) ?_
   intro _ σ7 lone7
   have s07:σ2.Same σ7:=by obtain ⟨_,_,_,s⟩:=lone7;exact s
   refine ((hv.keep (σ':=σ7) λb hb=>s07.get b (bv' b hb)).o).len ?_
   refine zpZ (σ0:=σ2) (σ:=σ7.bump 3) (p:=z7u A B O) (S:=S) (A:=A) (B:=B) (O:=O) (rs:=rs) (l:=l) (lone7.same ((Mem.Same.refl σ7).bump 3)) (h0.keep λb hb=>s02.get b (b0 b hb)) (λb hb=>by have:=b0 b hb;omega) (h4.keep λb hb=>s02.get b (b4 b hb)) (λb hb=>by have:=b4 b hb;omega) (h5.keep λb hb=>s02.get b (b5 b hb)) (λb hb=>by have:=b5 b hb;omega) (h9.keep λb hb=>s02.get b (b9 b hb)) (λb hb=>by have:=b9 b hb;omega) (h31.keep λb hb=>s02.get b (b31 b hb)) (λb hb=>by have:=b31 b hb;omega) hv bv' bO' cS cA cB hrs hok hl hrl (by omega) (by rw [zei];decide) ?_
   intro σ8 s8
   exact hQ σ8 (s02.trans s8)
end Go.Vit
