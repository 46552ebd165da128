/- The library. -/
import Derived.Test.YtloeboiajgfigaaGreatV7D5
import Derived.Test.YtloeboiajgfigaaGreatV7G2
set_option linter.unusedVariables false
set_option linter.unusedSimpArgs false
section
/- Dynamic blocks, as the document tells them: the runs, and what stands behind. -/
set_option maxRecDepth 20000
namespace Go.Vit
open Go.Proofs
def z8g (σ0 σ:Mem) (w:Nat) (p:Nat×Nat) (lo hi:Nat) (L:List Int) (t:Nat):Prop:=
 ∃ o,WrR σ w o p.1 p.2/\(∀ b∈o,σ0.next<=b/\b<σ.next)/\(∀ b∈o,b<lo\/hi<=b)/\hi<=σ.next/\zlz lo hi L σ t/\σ0.Same σ
theorem z8g.same {σ0 σ σ':Mem} {w lo hi t:Nat} {p:Nat×Nat} {L:List Int} (h:z8g σ0 σ w p lo hi L t) (s:σ.Same σ'):z8g σ0 σ' w p lo hi L t:=by
 obtain ⟨o,h1,h2,h3,h4,h5,h6⟩:=h
 exact ⟨o,h1.keep λb hb=>s.get b (h2 b hb).2,λb hb=>⟨(h2 b hb).1,Nat.lt_of_lt_of_le (h2 b hb).2 s.next⟩,h3,Nat.le_trans h4 s.next,h5.keep λb h1 h2=>s.get b (by omega),h6.trans s⟩
theorem z8g.grow {σ0 σ σ':Mem} {w lo hi t:Nat} {p':Nat×Nat} {L:List Int} {o o':List Nat} (h2:∀ b∈o,σ0.next<=b/\b<σ.next) (h3:∀ b∈o,b<lo\/hi<=b) (h4:hi<=σ.next) (h5:zlz lo hi L σ t) (h6:σ0.Same σ) (hw:WrR σ' w o' p'.1 p'.2) (g:Grow o o' σ σ'):z8g σ0 σ' w p' lo hi L t:=by
 obtain ⟨s,hn⟩:=g.same h6 λb hb=>(h2 b hb).1
 exact ⟨o',hw,λb hb=>⟨hn b hb,g.lt b hb⟩,g.away h3 h4,Nat.le_trans h4 g.only.next,g.keepR h3 h4 h5,s⟩
theorem z8g.lay {σ0 σ:Mem} {w lo hi t:Nat} {p:Nat×Nat} {L:List Int} {x:Int} {K:AV->Mem->Prop} (h:z8g σ0 σ w p lo hi L t) (hL:lens L) (hp:p.2<=2^38)
 (hK:∀ σ',z8g σ0 σ' w (z3V L p x) lo hi L t->K (.int .i64 (znR L x)) σ') :
 z6 PG zI [.ptr t 0,.ptr w 0,.int .i64 x] σ K:=by
 obtain ⟨o,h1,h2,h3,h4,h5,h6⟩:=h
 refine z0 (zil (p:=p) hL h5 h4 h3 h1 (by omega)) ?_
 rintro _ σ' ⟨rfl,o',w',g⟩
 exact hK σ' (.grow h2 h3 h4 h5 h6 w' g)
theorem z8g.bits {σ0 σ:Mem} {w lo hi t n:Nat} {p:Nat×Nat} {L:List Int} {v:Int} {K:AV->Mem->Prop} (h:z8g σ0 σ w p lo hi L t) (hp:p.2<=2^38) (hv : -9223372036854775808<=v/\v<=9223372036854775807)
 (hK:∀ r σ',z8g σ0 σ' w (laP p v (n:Nat)) lo hi L t->K r σ') :
 z6 PG z7 [.ptr w 0,.int .i64 v,.int .i64 (n:Nat)] σ K:=by
 obtain ⟨o,h1,h2,h3,h4,h5,h6⟩:=h
 refine z0 (zJ h1 (by omega) hv.1 hv.2) ?_
 rintro r σ' ⟨_,o',w',g⟩
 exact hK r σ' (.grow h2 h3 h4 h5 h6 w' g)
theorem zqd {σ0 σ σ34:Mem} {w t lo hi:Nat} {p:Nat×Nat} {S A B:List Int} {rs:List (Int×Int)} {l:List Tok} {v0 v4 v5 v9:AV} {Q:AV->Mem->Prop} (hw:σ34.next+1=w) (h:z8g σ0 σ w p lo hi S t) (hS:lens S)
 (h0:z0g 3 σ0 v0 (tkl l) l.length) (b0:∀ b∈z3 v0,b<σ0.next) (h4:RdC σ0 v4 A) (b4:∀ b∈z3 v4,b<σ0.next) (h5:RdC σ0 v5 B) (b5:∀ b∈z3 v5,b<σ0.next) (h9:z0g 2 σ0 v9 (ic2 rs) rs.length) (b9:∀ b∈z3 v9,b<σ0.next)
 (cA:chk A=0) (cB:chk B=0) (hrs:∀ r∈rs,okR r) (hok:∀ t∈l,okT t) (hl:l.length<=2^20) (hrl:rs.length<=2^20) (hp:p.2<=2^30)
 (hQ:∀ σ',σ0.Same σ'->Q (.str (text (z0D A B (rs.foldl (z0J S) p) l).1 (z0D A B (rs.foldl (z0J S) p) l).2)) σ') :
 zf [tI] (z3O Q v0 v4 v5 v9 σ34 (.ptr t 0)) 0 σ:=by
 have hA:lens A:=(z0B cA).1
 have hB:lens B:=(z0B cB).1
 refine loop1 (λ(i:Nat) (y:Int) σ'=>y=i/\i<=rs.length/\z8g σ0 σ' w ((rs.take i).foldl (z0J S) p) lo hi S t) (λi=>rs.length-i) 0 ⟨rfl,by omega,h⟩ ?_
 rintro i _ σ1 ⟨rfl,hi',lt1⟩
 unfold z3O
 rw [hw]
 have htw:=zhu hS (rs.take i) p
 rw [List.length_take] at htw
 obtain ⟨q,hq⟩:∃ q,(rs.take i).foldl (z0J S) p=q:=⟨_,rfl⟩
 rw [hq] at lt1 htw
 have s01:σ0.Same σ1:=by obtain ⟨_,_,_,_,_,_,s⟩:=lt1;exact s
 have n01:=s01.next
 have fr:∀ {σ':Mem},σ0.Same σ'->∀ b∈z3 v9,σ'.get b=σ0.get b:=λs b hb=>s.get b (b9 b hb)
 refine (h9.keep (fr s01)).rdO.len ?_
 refine ifD (λhlt=>?_) (λhge=>?_)
 · have hir:i<rs.length:=by omega
   have hor:=hrs rs[i] (List.getElem_mem hir)
   have hoc:=zdF hor
   have hfs:=z38 (z0J S) p hir
   rw [hq] at hfs
   obtain ⟨⟨c,m⟩,hr⟩:∃ r,rs[i]=r:=⟨_,rfl⟩
   have x0:(rC rs[i])[0]? = some (.int .i64 c):=by rw [hr];rfl
   have x1:(rC rs[i])[1]? = some (.int .i64 m):=by rw [hr];rfl
   rw [hr] at hor hoc hfs
   obtain ⟨Y,hY⟩:∃ Y,(rs.take (i+1)).foldl (z0J S) p=Y:=⟨_,rfl⟩
   rw [hY] at hfs
   dsimp only at hoc
   refine h9.fldR2 (k:=0) (σ':=σ1.bump 12) (fr (s01.bump 12)) hir (by decide) rfl x0 ?_
   refine z8g.lay (lt1.same ((Mem.Same.refl σ1).bump 12)) hS (by omega) ?_
   intro σ3 lt3
   have s03:σ0.Same σ3:=by obtain ⟨_,_,_,_,_,_,s⟩:=lt3;exact s
   refine To.go ?_
   refine h9.fldR2 (k:=0) (σ':=σ3.bump 5) (fr (s03.bump 5)) hir (by decide) rfl x0 ?_
   have e1:=z1K hS q c
   refine join0 (λσ'=>z8g σ0 σ' w Y lo hi S t) ?_ ?_
   · refine ifD (λh16=>?_) (λh16=>?_)
     · subst h16
       refine h9.fldR2 (k:=1) (σ':=σ3.bump 14) (fr (s03.bump 14)) hir (by decide) rfl x1 ?_
       refine z8g.bits (n:=2) (lt3.same ((Mem.Same.refl σ3).bump 14)) (by omega) (by omega) ?_
       intro r σ4 lt4
       rw [hfs];exact lt4
     · refine zN ?_
       refine ifD (λh17=>?_) (λh17=>?_)
       · subst h17
         refine h9.fldR2 (k:=1) (σ':=σ3.bump 16) (fr (s03.bump 16)) hir (by decide) rfl x1 ?_
         refine z8g.bits (n:=3) (lt3.same ((Mem.Same.refl σ3).bump 16)) (by omega) (by omega) ?_
         intro r σ4 lt4
         unfold z28
         rw [hfs];exact lt4
       · refine zN ?_
         refine ifD (λh18=>?_) (λh18=>?_)
         · subst h18
           refine h9.fldR2 (k:=1) (σ':=σ3.bump 18) (fr (s03.bump 18)) hir (by decide) rfl x1 ?_
           refine z8g.bits (n:=7) (lt3.same ((Mem.Same.refl σ3).bump 18)) (by omega) (by omega) ?_
           intro r σ4 lt4
           unfold z3R z28
           rw [hfs];exact lt4
         · unfold z3R z28
           rw [hfs]
           unfold z0J
           dsimp only
           rw [if_neg (by omega),if_neg (by omega),if_neg (by omega)]
           exact lt3.same ((Mem.Same.refl σ3).bump _)
   · rintro σ4 lt4
     unfold z6c
     refine z5 (by omega) ?_
     exact again ⟨i+1,⟨by omega,by omega,by rw [hY];exact lt4.same ((Mem.Same.refl σ4).bump _)⟩,by omega⟩
 · obtain rfl:i=rs.length:=by omega
   rw [List.take_length] at hq
   obtain ⟨o,w1,wb,wa,wh,wt,ws⟩:=lt1
   have lA:A.length<=288:=hA.1
   have lB:B.length<=288:=hB.1
   refine z0 (z6R (σ:=σ1.bump 11) (L:=A) ((h4.keep (σ':=σ1) λb hb=>s01.get b (b4 b hb)).o.keep λ_ _=>rfl) (by omega)) ?_
   rintro _ σ2 ⟨pt,rfl,_,hpt,s2⟩
   obtain ⟨_,ta,rfl,tab⟩:=hpt cA
   have n2:=s2.next
   simp only [Mem.next_bump] at n2 tab
   have s12:=s2.ob
   refine z0O rfl ?_
   refine z04 rfl ?_
   have s02:=s01.trans s12
   refine z0 (z6R (σ:=σ2.bump 7) (L:=B) ((h5.keep (σ':=σ2) λb hb=>s02.get b (b5 b hb)).o.keep λ_ _=>rfl) (by omega)) ?_
   rintro _ σ3 ⟨pt,rfl,_,hpt,s3⟩
   obtain ⟨_,tb,rfl,tab'⟩:=hpt cB
   have n3:=s3.next
   simp only [Mem.next_bump] at n3 tab'
   have s23:=s3.ob
   refine z0O rfl ?_
   refine z04 rfl ?_
   have s13:=s12.trans s23
   have s03:=s01.trans s13
   refine z0 (zij (σ:=σ3.bump 5) (o:=o) (p:=q) (lo:=σ1.next+11) (hi:=σ2.next) (lo':=σ2.next+7) (hi':=σ3.next) hA hB (tab.keep λb h1 h2=>s23.get b (by omega)) (by simp only [Mem.next_bump];omega) (λb hb=>.inl (by have:=(wb b hb).2;omega)) (tab'.keep λ_ _ _=>rfl) (by simp only [Mem.next_bump];omega) (λb hb=>.inl (by have:=(wb b hb).2;omega)) (w1.keep λb hb=>s13.get b (wb b hb).2) (by omega) (h0.keep λb hb=>s03.get b (b0 b hb)) (λb hb hb'=>by have:=b0 b hb;have:=(wb b hb').1;omega) hok hl) ?_
   rintro _ σ4 ⟨o4,w4,g4⟩
   have hfb:=z9p hA hB (l:=l) q hok
   have hfe:=z1K hA (l.foldl (z2X A B) q) 256
   refine z0 (z4a (σ:=σ4.bump 3) (w4.keep λ_ _=>rfl)) ?_
   rintro _ σ5 ⟨rfl,s5⟩
   refine To.go ?_
   have sA:σ0.Same σ4:=(g4.same (s03.bump 5) λb hb=>(wb b hb).1).1
   have:=hQ σ5 (sA.trans s5.ob)
   rw [hq] at this
   exact this
end Go.Vit
end
section
/- Dynamic blocks, as the document tells them: what stands ahead. -/
set_option maxRecDepth 20000
namespace Go.Vit
open Go.Proofs
theorem Own.push2 {k bytes id nb n m:Nat} {σ σ1 σ2:Mem} {v:AV} {cs c:List AV} {K:AV->Mem->Prop} (h:Own k σ σ1 v cs n) (s:σ.Same σ1) (s2:∀ b,b<σ1.next->σ2.get b=σ1.get b) (hn2:σ1.next<=σ2.next) (hg:σ2.get nb=some (.rw c)) (hnb:σ1.next<=nb) (hid:nb<id) (hm:m≠0) (hc:c.length=m*k)
 (h1:c.all AV.one=true) (h2:cs.all AV.one=true) (hr:(n+m)*bytes<=140737488355328/\n+m<=9223372036854775806) {c':Cap}
 (hk:∀ v' σ',Own k σ σ' v' (cs++c) (n+m)->σ.Same σ'->id<σ'.next->σ'.next=σ2.next->K v' σ') (hlt:id<σ2.next):apW k bytes id σ2 v (.slice nb 0 m c') K:=by
 refine z0g.append (n:=n) (m:=m) (cs:=cs) (c:=c) (h.1.keep λb hb=>s2 b (h.2 b hb).2) (λK hK=>z7j hg hc rfl K hK) (λh=>absurd h hm) hc h1 h2 hr (λhb=>by have:=(h.2 _ hb).2;omega) ?_
 intro v' σ3 own3 hn3 hg3 hb3
 refine hk v' σ3 ⟨own3,λb hb=>?_⟩ ⟨Nat.le_trans s.next (by omega),λb hb=>?_⟩ (by omega) hn3
 · rcases hb3 b hb with h' | rfl
   · have:=h.2 b h';omega
   · have:=s.next;omega
 · have hlt1:=Nat.lt_of_lt_of_le hb s.next
   rw [hg3 b (λh'=>by have:=h.2 b h';omega) (by omega),s2 b hlt1]
   exact s.get b hb
theorem zq8 {σ0 σ σ34:Mem} {w:Nat} {p:Nat×Nat} {S A B:List Int} {rs:List (Int×Int)} {l:List Tok} {v0 v4 v5 v9 v31:AV} {Q:AV->Mem->Prop} (hw:σ34.next+1=w) (h:z7o σ0 σ w p)
 (h0:z0g 3 σ0 v0 (tkl l) l.length) (b0:∀ b∈z3 v0,b<σ0.next) (h4:RdC σ0 v4 A) (b4:∀ b∈z3 v4,b<σ0.next) (h5:RdC σ0 v5 B) (b5:∀ b∈z3 v5,b<σ0.next) (h9:z0g 2 σ0 v9 (ic2 rs) rs.length) (b9:∀ b∈z3 v9,b<σ0.next)
 (h31:RdC σ0 v31 S) (b31:∀ b∈z3 v31,b<σ0.next)
 (cS:chk S=0) (cA:chk A=0) (cB:chk B=0) (hrs:∀ r∈rs,okR r) (hok:∀ t∈l,okT t) (hl:l.length<=2^20) (hrl:rs.length<=2^20) (hp:p.2<=2^30)
 (hQ:∀ σ',σ0.Same σ'->Q (.str (text (z0D A B (rs.foldl (z0J S) p) l).1 (z0D A B (rs.foldl (z0J S) p) l).2)) σ') :
 z3P Q v0 v4 v5 v9 v31 σ34 σ:=by
 have hS:lens S:=(z0B cS).1
 unfold z3P
 obtain ⟨o,w1,wb,ws⟩:=h
 have n0:=ws.next
 refine z0 (z6R (σ:=σ.bump 7) (L:=S) ((h31.keep (σ':=σ) λb hb=>ws.get b (b31 b hb)).o.keep λ_ _=>rfl) (by have:=hS.1;omega)) ?_
 rintro _ σ2 ⟨pt,rfl,_,hpt,s2⟩
 obtain ⟨_,t,rfl,tab⟩:=hpt cS
 have n2:=s2.next
 simp only [Mem.next_bump] at n2 tab
 have s12:=s2.ob
 refine z0O rfl ?_
 refine z04 rfl ?_
 exact zqd (σ0:=σ0) (σ:=σ2.bump 1) (p:=p) (S:=S) (A:=A) (B:=B) (lo:=σ.next+7) (hi:=σ2.next) hw ⟨o,w1.keep λb hb=>s12.get b (wb b hb).2,λb hb=>by simp only [Mem.next_bump];have:=wb b hb;omega,λb hb=>.inl (by have:=(wb b hb).2;omega),by simp only [Mem.next_bump];omega,tab.keep λ_ _ _=>rfl,(ws.trans s12).bump _⟩ hS h0 b0 h4 b4 h5 b5 h9 b9 cA cB hrs hok hl hrl hp hQ
theorem zqk {σ0 σ σ34:Mem} {w:Nat} {p:Nat×Nat} {O:List Int} {v:AV} {k:Mem->Prop} (hw:σ34.next+1=w) (h:z7o σ0 σ w p) (hv:RdC σ0 v O) (bv:∀ b∈z3 v,b<σ0.next) (bO:∀ x∈O,0<=x/\x<=100) (hO:O.length<=2^10) (hp:p.2<=2^20)
 (hk:∀ σ',z7o σ0 σ' w (fold3 O p)->k σ'):zf [tI] (z3S v σ34 k) 0 σ:=by
 refine loop1 (λ(i:Nat) (y:Int) σ'=>y=i/\i<=O.length/\z7o σ0 σ' w (fold3 (O.take i) p)) (λi=>O.length-i) 0 ⟨rfl,by omega,h⟩ ?_
 rintro i _ σ1 ⟨rfl,hi',lt1⟩
 unfold z3S
 rw [hw]
 have htw:=z8T (O.take i) p
 rw [List.length_take] at htw
 obtain ⟨q,hq⟩:∃ q,fold3 (O.take i) p=q:=⟨_,rfl⟩
 rw [hq] at lt1 htw
 have s01:σ0.Same σ1:=by obtain ⟨_,_,_,s⟩:=lt1;exact s
 refine ((hv.keep (σ':=σ1) λb hb=>s01.get b (bv b hb)).o).len ?_
 refine ifD (λhlt=>?_) (λhge=>?_)
 · have hiO:i<O.length:=by omega
   have hfs:fold3 (O.take (i+1)) p=laP q O[i] 3:=by
    rw [<- hq]
    exact z38 (λp n=>laP p n 3) p hiO
   have hb:=bO O[i] (List.getElem_mem hiO)
   refine (hv.o).rd (i:=i) (σ':=σ1.bump 10) (λb hb=>s01.get b (bv b hb)) hiO rfl ?_
   rw [zp hiO]
   obtain ⟨o,w1,_,st⟩:=(lt1.same ((Mem.Same.refl σ1).bump 10)).step
   refine z0 (zJ w1 (by omega) (by omega) (by omega)) ?_
   rintro _ σ2 ⟨_,h2⟩
   have lt2:=st _ (laP q O[i] 3) h2
   refine z5 (by omega) ?_
   exact again ⟨i+1,⟨by omega,by omega,by rw [hfs];exact lt2.same ((Mem.Same.refl σ2).bump _)⟩,by omega⟩
 · obtain rfl:i=O.length:=by omega
   rw [List.take_length] at hq
   refine hk _ ?_
   rw [hq]
   exact lt1.same ((Mem.Same.refl σ1).bump _)
theorem zpS {σ:Mem} {S A B:List Int} {rs:List (Int×Int)} {l:List Tok} {v0 v4 v5 v9 v29 v31:AV} {Q:AV->Mem->Prop}
 (h0:z0g 3 σ v0 (tkl l) l.length) (b0:∀ b∈z3 v0,b<σ.next) (h4:RdC σ v4 A) (b4:∀ b∈z3 v4,b<σ.next) (h5:RdC σ v5 B) (b5:∀ b∈z3 v5,b<σ.next) (h9:z0g 2 σ v9 (ic2 rs) rs.length) (b9:∀ b∈z3 v9,b<σ.next)
 (h29:RdC σ v29 S) (b29:∀ b∈z3 v29,b<σ.next) (h31:RdC σ v31 (z1x S)) (b31:∀ b∈z3 v31,b<σ.next)
 (cS:chk S=0) (cA:chk A=0) (cB:chk B=0) (hrs:∀ r∈rs,okR r) (hok:∀ t∈l,okT t) (hl:l.length<=2^20) (hrl:rs.length<=2^20)
 (hQ:∀ σ',σ.Same σ'->Q (.str (text (z0D A B (rs.foldl (z0J S) (fold3 (tld 4 (z1x S)) (z2j A B (tld 4 (z1x S))))) l).1 (z0D A B (rs.foldl (z0J S) (fold3 (tld 4 (z1x S)) (z2j A B (tld 4 (z1x S))))) l).2)) σ') :
 z3B Q v0 v4 v5 v9 v29 v31 σ:=by
 have hS:lens S:=(z0B cS).1
 have hlenA:A.length<=288:=(z0B cA).1.1
 have hlenB:B.length<=288:=(z0B cB).1.1
 have lO:(z1x S).length=19:=by unfold z1x;rw [List.length_map];rfl
 have bO:∀ x∈z1x S,0<=x/\x<=100:=by
  intro x hx
  unfold z1x at hx
  rw [List.mem_map] at hx
  obtain ⟨i,_,rfl⟩:=hx
  by_cases h:i.toNat<S.length
  · rw [zp h];have:=hS.2 _ (List.getElem_mem h);omega
  · rw [List.getD_eq_getElem?_getD,List.getElem?_eq_none (by omega)];decide
 unfold z3B
 refine z0 (zc1 (σ:=σ.bump 3) (L:=z1x S) (least:=4) (h31.keep λ_ _=>rfl) (by omega) (by decide)) ?_
 rintro v σ2 ⟨hv,bv,s2⟩
 have s12:=s2.ob
 have n2:=s12.next
 obtain ⟨O,hO⟩:∃ O,tld 4 (z1x S)=O:=⟨_,rfl⟩
 have lO':=zhO 4 (z1x S)
 have bO':∀ x∈O,0<=x/\x<=100:=λx hx=>bO x (by rw [<- hO] at hx;exact zmZ hx)
 rw [hO] at hv hQ lO'
 have bv':∀ b∈z3 v,b<σ2.next:=λb hb=>by rw [bv] at hb;have:=b31 b hb;omega
 refine z9f rfl ?_
 refine To.go ?_
 obtain ⟨w,hw⟩:∃ w,σ2.next+1=w:=⟨_,rfl⟩
 rw [hw]
 have lone:z7o σ2 (((σ2.bump 3).put w (some (.rw [.nils,.int .i64 0]))).bump 2) w (0,0):=.new (gB gS') (by repeat (with_reducible first | exact Mem.Same.refl _ | refine Mem.Same.bump ?_ _ | refine Mem.Same.put ?_ (by omega) _)) (by omega) (by simp only [Mem.next_put,Mem.next_bump];omega)
 have bits:∀ {σ4:Mem} {q:Nat×Nat} {x:Int} {n:Nat} {K:AV->Mem->Prop},z7o σ2 σ4 w q->q.2<=2^20->(-9223372036854775808<=x/\x<=9223372036854775807)->(∀ r σ5,z7o σ2 σ5 w (laP q x (n:Nat))->K r σ5)->z6 PG z7 [.ptr w 0,.int .i64 x,.int .i64 (n:Nat)] σ4 K:=by
  intro σ4 q x n K hq hq2 hx hK
  obtain ⟨o,w1,_,st⟩:=hq.step
  refine z0 (zJ w1 (by omega) hx.1 hx.2) ?_
  rintro r σ5 ⟨_,h5⟩
  exact hK r σ5 (st _ (laP q x (n:Nat)) h5)
 refine bits (n:=1) lone (by decide) (by decide) ?_
 intro _ σ3 lone3
 refine bits (n:=2) (lone3.same ((Mem.Same.refl σ3).bump 2)) (by decide) (by decide) ?_
 intro _ σ4 lone4
 rw [show laP (laP (0,0) 1 ((1:Nat):Int)) 2 ((2:Nat):Int)=laP (0,0) 5 ((3:Nat):Int) from by decide] at lone4
 have s04:σ2.Same σ4:=by obtain ⟨_,_,_,s⟩:=lone4;exact s
 have s02:=s12
 refine ((h4.keep (σ':=σ4) λb hb=>(s02.trans s04).get b (b4 b hb)).o).len ?_
 refine z5 (by omega) ?_
 have e0:(laP (0,0) 5 ((3:Nat):Int)).2=3:=rfl
 refine bits (n:=5) (lone4.same ((Mem.Same.refl σ4).bump 5)) (by omega) (by omega) ?_
 intro _ σ5 lone5
 have s05:σ2.Same σ5:=by obtain ⟨_,_,_,s⟩:=lone5;exact s
 refine ((h5.keep (σ':=σ5) λb hb=>(s02.trans s05).get b (b5 b hb)).o).len ?_
 refine z5 (by omega) ?_
 have e1:=z0E (laP (0,0) 5 ((3:Nat):Int)) ((A.length:Nat)-257) (n:=5) (by decide)
 refine bits (n:=5) (lone5.same ((Mem.Same.refl σ5).bump 5)) (by omega) (by omega) ?_
 intro _ σ6 lone6
 have s06:σ2.Same σ6:=by obtain ⟨_,_,_,s⟩:=lone6;exact s
 refine ((hv.keep (σ':=σ6) λb hb=>s06.get b (bv' b hb)).o).len ?_
 refine z5 (by omega) ?_
 have e2:=z0E (laP (laP (0,0) 5 ((3:Nat):Int)) ((A.length:Nat)-257) ((5:Nat):Int)) ((B.length:Nat)-1) (n:=5) (by decide)
 refine bits (n:=4) (lone6.same ((Mem.Same.refl σ6).bump 5)) (by omega) (by omega) ?_
 intro _ σ7 lone7
 refine join0 (λσ'=>z7o σ2 σ' w (fold3 O (z2j A B O))) ?_ ?_
 · refine zqk (p:=z2j A B O) hw (lone7.same ((Mem.Same.refl σ7).bump 1)) hv bv' bO' (by omega) (by rw [z7x];decide) ?_
   intro σ' h;exact h
 · intro σ8 lone8
   have e3:=z8T O (z2j A B O)
   rw [z7x] at e3
   refine zq8 (σ0:=σ2) (p:=fold3 O (z2j A B O)) (S:=S) (A:=A) (B:=B) (rs:=rs) (l:=l) hw lone8 (h0.keep λb hb=>s02.get b (b0 b hb)) (λb hb=>by have:=b0 b hb;omega) (h4.keep λb hb=>s02.get b (b4 b hb)) (λb hb=>by have:=b4 b hb;omega) (h5.keep λb hb=>s02.get b (b5 b hb)) (λb hb=>by have:=b5 b hb;omega) (h9.keep λb hb=>s02.get b (b9 b hb)) (λb hb=>by have:=b9 b hb;omega) (h29.keep λb hb=>s02.get b (b29 b hb)) (λb hb=>by have:=b29 b hb;omega) cS cA cB hrs hok hl hrl (by omega) ?_
   intro σ9 s9
   exact hQ σ9 (s02.trans s9)
end Go.Vit
end
section
/- Dynamic blocks, as the document tells them: put together. -/
set_option maxRecDepth 20000
namespace Go.Vit
open Go.Proofs
theorem zhB (n:Nat):repl n [AV.int .i64 0]=ic (arr (λ_=>0) n):=by
 rw [znG,List.flatten_replicate_singleton]
 have:(List.range n).map (λ_=>AV.int .i64 0)=List.replicate n (AV.int .i64 0):=by rw [List.map_const',List.length_range]
 unfold ic arr
 rw [List.map_map]
 exact this.symm
theorem zpN {σ σ24:Mem} {tb:Nat} {A B:List Int} {rs:List (Int×Int)} {l:List Tok} {v0 v4 v5 v9:AV} {Q:AV->Mem->Prop} (htb:σ24.next=tb) (hlt:tb<σ.next) (gT:σ.get tb=some (.rw (ic (z2f rs))))
 (h0:z0g 3 σ v0 (tkl l) l.length) (b0:∀ b∈z3 v0,b<σ.next) (h4:RdC σ v4 A) (b4:∀ b∈z3 v4,b<σ.next) (h5:RdC σ v5 B) (b5:∀ b∈z3 v5,b<σ.next) (h9:z0g 2 σ v9 (ic2 rs) rs.length) (b9:∀ b∈z3 v9,b<σ.next)
 (cS:chk (limit 7 (z2f rs))=0) (cA:chk A=0) (cB:chk B=0) (hrs:∀ r∈rs,okR r) (hok:∀ t∈l,okT t) (hl:l.length<=2^20) (hrl:rs.length<=2^20)
 (hQ:∀ σ',σ.Same σ'->Q (.str (text (z0D A B (rs.foldl (z0J (limit 7 (z2f rs))) (fold3 (tld 4 (z1x (limit 7 (z2f rs)))) (z2j A B (tld 4 (z1x (limit 7 (z2f rs))))))) l).1 (z0D A B (rs.foldl (z0J (limit 7 (z2f rs))) (fold3 (tld 4 (z1x (limit 7 (z2f rs)))) (z2j A B (tld 4 (z1x (limit 7 (z2f rs))))))) l).2)) σ') :
 z3Q Q v0 v4 v5 v9 σ24 σ:=by
 unfold z3Q
 rw [htb]
 have lT:(z2f rs).length=19:=(z59 rs _).trans (zy _ _)
 have nT:=zaT hrl
 obtain ⟨T,hT⟩:∃ T,z2f rs=T:=⟨_,rfl⟩
 rw [hT] at gT lT nT cS hQ
 refine z0 (zam (σ:=σ.bump 7) (L:=T) (most:=7) (.mk (by rw [lT];rfl) ⟨_,gT,rfl⟩ (by rw [z0f,lT])) (by omega)) ?_
 rintro _ σ2 ⟨c,rfl,s2,h2⟩
 have s12:=s2.ob
 have n2:=s2.next
 simp only [Mem.next_bump] at n2
 rcases h2 with ⟨h,_⟩ | ⟨_,rc,bc⟩
 · exact absurd h nT
 rw [if_neg nT]
 refine z0O rfl ?_
 refine z04 rfl ?_
 rw [show limit (7:Int).toNat T=limit 7 T from rfl] at rc
 have lS:(limit 7 T).length=19:=by rw [z36,lT]
 obtain ⟨S,hS⟩:∃ S,limit 7 T=S:=⟨_,rfl⟩
 rw [hS] at rc lS cS hQ
 have bc':∀ b∈z3 c,b<σ2.next:=λb hb=>(bc b hb).2
 have lO:(z1x S).length=19:=by unfold z1x;rw [List.length_map];rfl
 refine join1 (g1:=.v) (λ(u:AV) σ'=>σ2.Same σ'/\Own 1 σ2 σ' u (ic (z1x S)) 19) ?_ ?_
 · refine loop2 (λ(i:Nat) (u:AV) (y:Int) σ'=>y=i/\i<=19/\σ2.Same σ'/\Own 1 σ2 σ' u (ic ((z1x S).take i)) i) (λi=>19-i) 0 ⟨rfl,by omega,(Mem.Same.refl σ2).bump _,by rw [List.take_zero];exact Own.nil 1 _ _⟩ ?_
   rintro i u _ σ3 ⟨rfl,hi',s3,own⟩
   unfold z6k
   have n3:=s3.next
   refine ifD (λhlt=>?_) (λhge=>?_)
   · have hi19:i<19:=by omega
     obtain ⟨j,hj,hj19⟩:=zkk hi19
     refine z0 (zkh (σ3.bump 13)) ?_
     rintro _ σ4 ⟨rfl,g4,n4,s4⟩
     simp only [Mem.next_bump] at n4
     have s34:=s4.ob
     refine zog (i:=i) (σ:=σ4) (σ':=σ4) g4 rfl hi19 hj rfl ?_
     refine (rc.c.o).rd (i:=j) (σ':=σ4) (λb hb=>(s3.trans s34).get b (bc' b hb)) (by omega) rfl ?_
     have hiO:i<(z1x S).length:=by omega
     have he:(z1x S)[i]=S.getD j 0:=by
      have h1:(z1x S)[i]? = some (S.getD j 0):=by unfold z1x;rw [List.getElem?_map,hj];rfl
      rw [List.getElem?_eq_getElem hiO] at h1
      injection h1
     refine To.go ?_
     refine Own.push2 (σ:=σ2) (σ1:=σ3) (m:=1) (c:=ic [S.getD j 0]) own s3 (λb hb=>by rw [Mem.get_put_ne _ (by omega)];exact s34.get b hb) (by simp only [Mem.next_put];omega) gS' (by omega) (by omega) (by omega) rfl (z2G _) (z2G _) (by omega) ?_ (by simp only [Mem.next_put];omega)
     intro u' σ5 own5 s5 _ _
     refine z5 (by omega) ?_
     refine again ⟨i+1,⟨by omega,by omega,s5.bump _,?_⟩,by omega⟩
     rw [List.take_succ_eq_append_getElem hiO,he,z2Y]
     exact own5.same ((Mem.Same.refl σ5).bump _)
   · obtain rfl:i=19:=by omega
     rw [List.take_of_length_le (by omega)] at own
     exact ⟨s3.bump _,own.same ((Mem.Same.refl σ3).bump _)⟩
 · rintro u σ3 ⟨s3,own⟩
   have s13:=s12.trans s3
   have n3:=s13.next
   refine zpS (σ:=σ3) (S:=S) (A:=A) (B:=B) (rs:=rs) (l:=l) (h0.keep λb hb=>s13.get b (b0 b hb)) (λb hb=>by have:=b0 b hb;omega) (h4.keep λb hb=>s13.get b (b4 b hb)) (λb hb=>by have:=b4 b hb;omega) (h5.keep λb hb=>s13.get b (b5 b hb)) (λb hb=>by have:=b5 b hb;omega) (h9.keep λb hb=>s13.get b (b9 b hb)) (λb hb=>by have:=b9 b hb;omega) (rc.c.keep λb hb=>s3.get b (bc' b hb)) (λb hb=>by have:=bc' b hb;have:=s3.next;omega) own.1.c (λb hb=>(own.2 b hb).2) cS cA cB hrs hok hl hrl ?_
   intro σ4 s4
   exact hQ σ4 (s13.trans s4)
theorem zqh {σ σ24:Mem} {tb:Nat} {rs:List (Int×Int)} {v9:AV} {k:Mem->Prop} (htb:σ24.next=tb) (hlt:tb<σ.next) {σ0:Mem} (h00:σ0.next<=tb) (s0:σ0.Same σ) (gT:σ.get tb=some (.rw (ic (arr (λ_=>0) 19))))
 (h9:z0g 2 σ0 v9 (ic2 rs) rs.length) (b9:∀ b∈z3 v9,b<σ0.next) (hrs:∀ r∈rs,okR r) (hrl:rs.length<=2^20)
 (hk:∀ σ',σ0.Same σ'->tb<σ'.next->σ'.get tb=some (.rw (ic (z2f rs)))->k σ'):zf [tI] (z3T v9 σ24 k) 0 σ:=by
 refine loop1 (λ(i:Nat) (y:Int) σ'=>y=i/\i<=rs.length/\σ0.Same σ'/\tb<σ'.next/\σ'.get tb=some (.rw (ic ((rs.take i).foldl (λA r=>zi4 A r.1.toNat) (arr (λ_=>0) 19))))) (λi=>rs.length-i) 0 ⟨rfl,by omega,s0,hlt,gT⟩ ?_
 rintro i _ σ7 ⟨rfl,hi,s57,n7,g7⟩
 unfold z3T
 rw [htb]
 have lT:((rs.take i).foldl (λA r=>zi4 A r.1.toNat) (arr (λ_=>0) 19)).length=19:=(z59 _ _).trans (zy _ _)
 have bT:=zbb (rs.take i) _ 0 (by decide) zk2
 rw [List.length_take] at bT
 refine (h9.keep (σ':=σ7) λb hb=>s57.get b (b9 b hb)).rdO.len ?_
 refine ifD (λhlt=>?_) (λhge=>?_)
 · have hir:i<rs.length:=by omega
   have hor:=zdF (hrs _ (List.getElem_mem hir))
   have eT:=z38 (λA (r:Int×Int)=>zi4 A r.1.toNat) (arr (λ_=>0) 19) hir
   obtain ⟨T,hT⟩:∃ T,(rs.take i).foldl (λA r=>zi4 A r.1.toNat) (arr (λ_=>0) 19)=T:=⟨_,rfl⟩
   rw [hT] at g7 lT bT eT
   obtain ⟨⟨c,m⟩,hr⟩:∃ r,rs[i]=r:=⟨_,rfl⟩
   have x0:(rC rs[i])[0]? = some (.int .i64 c):=by rw [hr];rfl
   rw [hr] at hor eT
   dsimp only at hor eT
   obtain ⟨x,rfl⟩:∃ x:Nat,c=x:=⟨c.toNat,by omega⟩
   rw [Int.toNat_natCast] at eT
   have bx:=bT.get (by omega) x
   have hx19:x<Int.toNat 19:=by have:Int.toNat 19=19:=rfl;omega
   refine h9.fldR2 (k:=0) (σ':=σ7.bump 15) (λb hb=>(s57.bump 15).get b (b9 b hb)) hir (by decide) rfl x0 ?_
   refine zog (i:=x) (σ:=σ7) (σ':=σ7.bump 15) g7 rfl hx19 (x:=T.getD x 0) (by rw [List.getElem?_eq_getElem (by omega),zp (by omega)]) rfl ?_
   refine z5 (by omega) ?_
   refine wrI (σ:=σ7.bump 15) (m:=x) g7 (by rw [lT];rfl) rfl hx19 ?_
   refine z5 (by omega) ?_
   refine again ⟨i+1,⟨by omega,by omega,Mem.Same.bump (Mem.Same.put (s57.bump _) (by omega) _) _,by simp only [Mem.next_put,Mem.next_bump];omega,?_⟩,by omega⟩
   rw [eT]
   exact gB gS'
 · obtain rfl:i=rs.length:=by omega
   rw [List.take_length] at g7
   exact hk _ (s57.bump _) (by simp only [Mem.next_bump];omega) g7
theorem zqo {σ σ1 σ2:Mem} {mb fb:Nat} {l:List Tok} {v0:AV} {Q:AV->Mem->Prop} (hmb:σ1.next=mb) (hfb:σ2.next=fb) (hmlt:mb<σ.next) (hflt:fb<σ.next) (gA:σ.get mb=some (.rw (ic (lits l)))) (gB:σ.get fb=some (.rw (ic (dists l))))
 (h0:z0g 3 σ v0 (tkl l) l.length) (b0:∀ b∈z3 v0,b<σ.next) (hok:∀ t∈l,okT t) (hl:l.length<=2^20)
 (hQ:∀ σ',σ.Same σ'->Q (.str (text (zfU l).1 (zfU l).2)) σ') :
 z3u Q v0 σ1 σ2 σ:=by
 unfold z3u
 rw [hmb,hfb]
 have nA:=zcP hl
 have nB:=zbo hl
 have lA:=z7h l
 have lB:=z6o l
 have fb':=hflt
 refine z0 (zam (σ:=σ.bump 7) (L:=lits l) (most:=15) (.mk (by rw [lA];rfl) ⟨_,gA,rfl⟩ (by rw [z0f,lA])) (by omega)) ?_
 rintro _ σ3 ⟨c,rfl,s3,h3⟩
 have s13:=s3.ob
 have n3:=s3.next
 simp only [Mem.next_bump] at n3
 rcases h3 with ⟨h,_⟩ | ⟨_,rc,bc⟩
 · exact absurd h nA
 rw [if_neg nA]
 refine z0O rfl ?_
 refine z04 rfl ?_
 have f3:=(s13.get fb hflt).trans gB
 refine z0 (zam (σ:=σ3.bump 7) (L:=dists l) (most:=15) (.mk (by rw [lB];rfl) ⟨_,f3,rfl⟩ (by rw [z0f,lB])) (by omega)) ?_
 rintro _ σ4 ⟨d,rfl,s4,h4⟩
 have s34:=s4.ob
 have n4:=s4.next
 simp only [Mem.next_bump] at n4
 rcases h4 with ⟨h,_⟩ | ⟨_,rd,bd⟩
 · exact absurd h nB
 rw [if_neg nB]
 refine z0O rfl ?_
 refine z04 rfl ?_
 have lc:(limit 15 (lits l)).length=286:=by rw [z36,lA]
 have ld:(limit 15 (dists l)).length=30:=by rw [z36,lB]
 refine z0 (zc1 (σ:=σ4.bump 3) (L:=limit 15 (lits l)) (least:=257) (rc.c.keep λb hb=>s34.get b (bc b hb).2) (by omega) (by decide)) ?_
 rintro v4 σ5 ⟨h4,bv4,s5⟩
 have s45:=s5.ob
 refine z0 (zc1 (σ:=σ5.bump 3) (L:=limit 15 (dists l)) (least:=1) (rd.c.keep λb hb=>s45.get b (bd b hb).2) (by omega) (by decide)) ?_
 rintro v5 σ6 ⟨h5,bv5,s6⟩
 have s56:=s6.ob
 have hA:zcu l=tld 257 (limit 15 (lits l)):=rfl
 have hB:zdz l=tld 1 (limit 15 (dists l)):=rfl
 rw [<- hA] at h4
 rw [<- hB] at h5
 have n5:=s45.next
 have n6:=s56.next
 have b4:∀ b∈z3 v4,b<σ5.next:=λb hb=>by rw [bv4] at hb;have:=(bc b hb).2;omega
 have b5:∀ b∈z3 v5,b<σ6.next:=λb hb=>by rw [bv5] at hb;have:=(bd b hb).2;omega
 have h4':=h4.keep (σ':=σ6) λb hb=>s56.get b (b4 b hb)
 have b4':∀ b∈z3 v4,b<σ6.next:=λb hb=>by have:=b4 b hb;omega
 have s16:=((s13.trans s34).trans s45).trans s56
 have lA':=zh1 l
 have lB':=zhG l
 refine Gr.push (σ0:=σ6) (L:=[]) (M:=zcu l) (.inl ⟨rfl,rfl⟩) (h4'.o.keep λ_ _=>rfl) (by omega) (by simp only [Mem.next_bump];omega) (by simp [z3]) (by simp only [List.length_nil];omega) ?_
 intro v7 σ7 g7 n7 f7 bb7
 simp only [Mem.next_bump] at n7
 have s67:σ6.Same σ7:=⟨by omega,λb hb=>f7 b (by simp [z3]) (by omega)⟩
 have bb7':∀ b∈z3 v7,b=σ6.next+3:=λb hb=>by
  rcases bb7 b hb with h | h
  · simp [z3] at h
  · exact h
 refine Gr.push (σ0:=σ6) (σ:=σ7.bump 4) (L:=[]++zcu l) (M:=zdz l) (g7.same ((Mem.Same.refl σ7).bump 4)) ((h5.keep (σ':=σ7) λb hb=>s67.get b (b5 b hb)).o.keep λ_ _=>rfl) (by omega) (by simp only [Mem.next_bump];omega) (λhb=>by have:=bb7' _ hb;omega) (by simp only [List.nil_append];omega) ?_
 intro v8 σ8 g8 n8 f8 bb8
 simp only [Mem.next_bump] at n8
 rw [List.nil_append] at g8
 have s68:σ6.Same σ8:=⟨by omega,λb hb=>(f8 b (λh=>by have:=bb7' _ h;omega) (by omega)).trans (s67.get b hb)⟩
 refine z0 (zmb (σ:=σ8.bump 3) (L:=zcu l++zdz l) (g8.o.keep λ_ _=>rfl) (by rw [List.length_append];omega)) ?_
 rintro v9 σ9 ⟨own9,s9⟩
 have s89:=s9.ob
 have n9:=s89.next
 have h9:z0g 2 σ9 v9 (ic2 (zdu l)) (zdu l).length:=own9.1
 have b9:∀ b∈z3 v9,b<σ9.next:=λb hb=>(own9.2 b hb).2
 have s69:=s68.trans s89
 have n69:=s69.next
 refine And.intro (by decide) ?_
 refine To.go ?_
 rw [zhB]
 obtain ⟨tb,htb⟩:∃ tb,σ9.next=tb:=⟨_,rfl⟩
 rw [htb]
 obtain ⟨σ10,h10⟩:∃ σ10,σ10=(σ9.bump 2).put tb (some (.rw (ic (arr (λ_=>0) (Int.toNat 19))))):=⟨_,rfl⟩
 rw [<- h10]
 have s910:σ9.Same σ10:=by rw [h10];exact Mem.Same.put ((Mem.Same.refl σ9).bump _) (by omega) _
 have n10:σ10.next=σ9.next+2:=by rw [h10];rfl
 have g10:σ10.get tb=some (.rw (ic (arr (λ_=>0) 19))):=by rw [h10,gS'];rfl
 clear h10
 have lr:=zkR l
 refine join0 (λσ'=>σ9.Same σ'/\tb<σ'.next/\σ'.get tb=some (.rw (ic (z2f (zdu l))))) ?_ ?_
 · exact zqh (σ0:=σ9) htb (by simp only [Mem.next_bump];omega) (by omega) (s910.bump _) g10 h9 b9 (zhQ l) (by omega) λσ' h1 h2 h3=>⟨h1,h2,h3⟩
 · rintro σ11 ⟨s11,n11,g11⟩
   have s611:=s69.trans s11
   have n611:=s11.next
   have s111:=s16.trans s611
   have n6':=s16.next
   exact zpN (σ:=σ11) (A:=zcu l) (B:=zdz l) (rs:=zdu l) (l:=l) htb n11 g11 (h0.keep λb hb=>s111.get b (b0 b hb)) (λb hb=>by have:=b0 b hb;omega) (h4'.keep λb hb=>s611.get b (b4' b hb)) (λb hb=>by have:=b4' b hb;omega) (h5.keep λb hb=>s611.get b (b5 b hb)) (λb hb=>by have:=b5 b hb;omega) (h9.keep λb hb=>s11.get b (b9 b hb)) (λb hb=>by have:=b9 b hb;omega) (zgE l) (zdB l) (zgK l) (zhQ l) hok hl (by omega) λσ' s'=>hQ σ' (s111.trans s')
end Go.Vit
end
section
/- Dynamic blocks, as the document tells them; the stream that is taken. -/
set_option maxRecDepth 20000
namespace Go.Vit
open Go.Proofs
theorem zhm {s:ByteArray} (hs:s.size<=20000) {σ:Mem} :
 z1 PG z5Q [.str s] σ λv σ'=>(∃ k,Done s k/\v=.str (text (zfU (toks s k)).1 (zfU (toks s k)).2))/\σ.Same σ':=by
 refine zde λlive=>?_
 unfold z8G
 refine z0 (zcY s hs (σ.bump 4)) ?_
 rintro v0 σ1 ⟨k,hk,own1,s1⟩
 have s01:=s1.ob
 have n1:=s1.next
 simp only [Mem.next_bump] at n1
 have hle:=zdI hk
 have tl:(toks s k).length=k:=zdE s k
 have h0:=own1.1
 have b0:∀ b∈z3 v0,b<σ1.next:=λb hb=>(own1.2 b hb).2
 rw [show tks s k=tkl (toks s k) from rfl,show z0g 3 σ1 v0 (tkl (toks s k)) k↔z0g 3 σ1 v0 (tkl (toks s k)) (toks s k).length from by rw [tl]] at h0
 have hok:=zbN hk
 suffices hQ:∀ σ',σ1.Same σ'->(∃ k',Done s k'/\AV.str (text (zfU (toks s k)).1 (zfU (toks s k)).2)=.str (text (zfU (toks s k')).1 (zfU (toks s k')).2))/\σ.Same σ' by
  obtain ⟨l,hl⟩:∃ l,toks s k=l:=⟨_,rfl⟩
  rw [hl] at h0 hok tl hQ
  have hll:l.length<=2^20:=by omega
  refine And.intro (by decide) ?_
  refine To.go ?_
  rw [zhB]
  obtain ⟨mb,hmb⟩:∃ mb,σ1.next=mb:=⟨_,rfl⟩
  rw [hmb]
  obtain ⟨σ2,h2⟩:∃ σ2,σ2=(σ1.bump 2).put mb (some (.rw (ic (arr (λ_=>0) (Int.toNat 286))))):=⟨_,rfl⟩
  rw [<- h2]
  have s12:σ1.Same σ2:=by rw [h2];exact Mem.Same.put ((Mem.Same.refl σ1).bump _) (by omega) _
  have n2:σ2.next=σ1.next+2:=by rw [h2];rfl
  have g2:σ2.get mb=some (.rw (ic (arr (λ_=>0) 286))):=by rw [h2,gS'];rfl
  clear h2
  refine And.intro (by decide) ?_
  refine To.go ?_
  rw [zhB]
  obtain ⟨fb,hfb⟩:∃ fb,σ2.next=fb:=⟨_,rfl⟩
  rw [hfb]
  obtain ⟨σ3,h3⟩:∃ σ3,σ3=(σ2.bump 2).put fb (some (.rw (ic (arr (λ_=>0) (Int.toNat 30))))):=⟨_,rfl⟩
  rw [<- h3]
  have s23:σ2.Same σ3:=by rw [h3];exact Mem.Same.put ((Mem.Same.refl σ2).bump _) (by omega) _
  have n3:σ3.next=σ2.next+2:=by rw [h3];rfl
  have f3:σ3.get fb=some (.rw (ic (arr (λ_=>0) 30))):=by rw [h3,gS'];rfl
  have g3:=(s23.get mb (by omega)).trans g2
  clear h3
  refine wrI (σ:=σ3.bump 3) (m:=256) g3 (zy _ _) rfl (by decide) ?_
  obtain ⟨σ4,h4⟩:∃ σ4,σ4=(σ3.bump 3).put mb (some (.rw (ic ((arr (λ_=>0) 286).set 256 1)))):=⟨_,rfl⟩
  rw [<- h4]
  have s14:σ1.Same σ4:=by rw [h4];exact Mem.Same.put ((s12.trans s23).bump _) (by omega) _
  have n4:σ4.next=σ3.next+3:=by rw [h4];rfl
  have g4:σ4.get mb=some (.rw (ic lit0)):=by rw [h4,gS'];rfl
  have f4:σ4.get fb=some (.rw (ic (arr (λ_=>0) 30))):=by rw [h4];exact gN (by omega) f3
  clear h4
  refine join0 (λσ'=>σ1.Same σ'/\fb<σ'.next/\σ'.get mb=some (.rw (ic (lits l)))/\σ'.get fb=some (.rw (ic (dists l)))) ?_ ?_
  · refine loop1 (λ(i:Nat) (y:Int) σ'=>y=i/\i<=l.length/\σ1.Same σ'/\fb<σ'.next/\σ'.get mb=some (.rw (ic ((l.take i).foldl zi5 lit0)))/\σ'.get fb=some (.rw (ic ((l.take i).foldl zi2 (arr (λ_=>0) 30))))) (λi=>l.length-i) 0 ⟨rfl,by omega,s14.bump _,by simp only [Mem.next_bump];omega,g4,f4⟩ ?_
    rintro i _ σ5 ⟨rfl,hi,s5,n5,g5,f5⟩
    unfold z66
    rw [hmb,hfb]
    have lA:((l.take i).foldl zi5 lit0).length=286:=zaI _ _
    have lB:((l.take i).foldl zi2 (arr (λ_=>0) 30)).length=30:=(z8E _ _).trans (zy _ _)
    have bA:=zhi (l.take i) lit0 1 (by decide) zjZ
    have bB:=zdK (l.take i) _ 0 (by decide) zkg
    rw [List.length_take] at bA bB
    obtain ⟨A,hA⟩:∃ A,(l.take i).foldl zi5 lit0=A:=⟨_,rfl⟩
    obtain ⟨B,hB⟩:∃ B,(l.take i).foldl zi2 (arr (λ_=>0) 30)=B:=⟨_,rfl⟩
    rw [hA] at g5 lA bA
    rw [hB] at f5 lB bB
    have fr:∀ {σ':Mem},σ1.Same σ'->∀ b∈z3 v0,σ'.get b=σ1.get b:=λs b hb=>s.get b (b0 b hb)
    refine (h0.keep (fr s5)).rdO.len ?_
    refine ifD (λhlt=>?_) (λhge=>?_)
    · have hil:i<l.length:=by omega
      have hokt:=hok l[i] (List.getElem_mem hil)
      have eA:=z38 zi5 lit0 hil
      have eB:=z38 zi2 (arr (λ_=>0) 30) hil
      rw [hA] at eA
      rw [hB] at eB
      obtain ⟨⟨tb0,tl',td⟩,htk⟩:∃ t:Tok,l[i]=t:=⟨_,rfl⟩
      have x0:(zhv l[i])[0]? = some (.int .i64 tb0):=by rw [htk];rfl
      have x1:(zhv l[i])[1]? = some (.int .i64 tl'):=by rw [htk];rfl
      have x2:(zhv l[i])[2]? = some (.int .i64 td):=by rw [htk];rfl
      rw [htk] at eA eB hokt
      obtain ⟨YA,hYA⟩:∃ Y,(l.take (i+1)).foldl zi5 lit0=Y:=⟨_,rfl⟩
      obtain ⟨YB,hYB⟩:∃ Y,(l.take (i+1)).foldl zi2 (arr (λ_=>0) 30)=Y:=⟨_,rfl⟩
      rw [hYA] at eA
      rw [hYB] at eB
      unfold zi5 at eA
      unfold zi2 at eB
      dsimp only at eA eB
      have t286:Int.toNat 286=286:=rfl
      have t30:Int.toNat 30=30:=rfl
      refine join0 (λσ'=>σ1.Same σ'/\fb<σ'.next/\σ'.get mb=some (.rw (ic YA))/\σ'.get fb=some (.rw (ic YB))) ?_ ?_
      · refine h0.fldK (k:=1) (fr (s5.bump 10)) hil (by decide) rfl x1 ?_
        refine ifD (λh00=>?_) (λh00=>?_)
        · rw [if_pos h00] at eA eB
          have hb0:0<=tb0/\tb0<=255:=by
           rcases hokt with h | h
           · exact h.2
           · have:=h.1;dsimp only at this h00;omega
          obtain ⟨x,rfl⟩:∃ x:Nat,tb0=x:=⟨tb0.toNat,by omega⟩
          rw [Int.toNat_natCast] at eA
          have bx:=bA.get (by omega) x
          refine h0.fldK (k:=0) (fr (s5.bump 21)) hil (by decide) rfl x0 ?_
          refine zog (i:=x) (σ:=σ5) (σ':=σ5.bump 21) g5 rfl (by omega) (x:=A.getD x 0) (by rw [List.getElem?_eq_getElem (by omega),zp (by omega)]) rfl ?_
          refine z5 (by omega) ?_
          refine wrI (σ:=σ5.bump 21) (m:=x) g5 (by rw [lA];rfl) rfl (by omega) ?_
          rw [eA,eB]
          exact ⟨Mem.Same.put (s5.bump _) (by omega) _,by simp only [Mem.next_put,Mem.next_bump];omega,gS',gN (by omega) f5⟩
        · rw [if_neg h00] at eA eB
          have hok2:3<=tl'/\tl'<=258/\1<=td/\td<=512:=by
           rcases hokt with h | h
           · exact absurd h.1 h00
           · exact h
          obtain ⟨n,rfl⟩:∃ n:Nat,tl'=n:=⟨tl'.toNat,by omega⟩
          obtain ⟨d,rfl⟩:∃ d:Nat,td=d:=⟨td.toNat,by omega⟩
          rw [Int.toNat_natCast] at eA eB
          have hs:=zbv ⟨n,by omega⟩ (show 3<=n by omega)
          have hd:=zb0 ⟨d,by omega⟩ (show 1<=d by omega)
          dsimp only at hs hd
          have bx:=bA.get (by omega) (zq n)
          have bd:=bB.get (by omega) (zZ d)
          refine h0.fldK (k:=1) (fr (s5.bump 23)) hil (by decide) rfl x1 ?_
          refine z0 (zd1 (by omega) (by omega) _) ?_
          rintro _ σ6 ⟨rfl,s6⟩
          replace s6:=s6.ob
          have n6:=s6.next
          have g6:=(s6.get mb (by omega)).trans g5
          refine z04 rfl ?_
          refine z04 rfl ?_
          refine z04 rfl ?_
          refine zog (i:=zq n) (σ:=σ6) (σ':=σ6.bump 7) g6 rfl (by omega) (x:=A.getD (zq n) 0) (by rw [List.getElem?_eq_getElem (by omega),zp (by omega)]) rfl ?_
          refine z5 (by omega) ?_
          refine wrI (σ:=σ6.bump 7) (m:=zq n) g6 (by rw [lA];rfl) rfl (by omega) ?_
          obtain ⟨σ7,h7⟩:∃ σ7,σ7=(σ6.bump 7).put mb (some (.rw (ic (A.set (zq n) (A.getD (zq n) 0+1))))):=⟨_,rfl⟩
          rw [<- h7]
          have s7:σ1.Same σ7:=by rw [h7];exact Mem.Same.put ((s5.trans s6).bump _) (by omega) _
          have n7:σ7.next=σ6.next+7:=by rw [h7];rfl
          have g7:σ7.get mb=some (.rw (ic YA)):=by rw [h7,gS',eA];rfl
          have f7:σ7.get fb=some (.rw (ic B)):=by rw [h7];exact gN (by omega) ((s6.get fb (by omega)).trans f5)
          clear h7
          refine h0.fldK (k:=2) (fr (s7.bump 11)) hil (by decide) rfl x2 ?_
          refine z0 (z9K (by omega) (by omega) _) ?_
          rintro _ σ8 ⟨rfl,s8⟩
          replace s8:=s8.ob
          have n8:=s8.next
          have f8:=(s8.get fb (by omega)).trans f7
          refine z04 rfl ?_
          refine z04 rfl ?_
          refine z04 rfl ?_
          refine zog (i:=zZ d) (σ:=σ8) (σ':=σ8.bump 7) f8 rfl (by omega) (x:=B.getD (zZ d) 0) (by rw [List.getElem?_eq_getElem (by omega),zp (by omega)]) rfl ?_
          refine z5 (by omega) ?_
          refine wrI (σ:=σ8.bump 7) (m:=zZ d) f8 (by rw [lB];rfl) rfl (by omega) ?_
          rw [eB]
          exact ⟨Mem.Same.put ((s7.trans s8).bump _) (by omega) _,by simp only [Mem.next_put,Mem.next_bump];omega,gN (by omega) ((s8.get mb (by omega)).trans g7),gS'⟩
      · rintro σ6 ⟨s6,n6,g6,f6⟩
        unfold z68
        refine z5 (by omega) ?_
        exact again ⟨i+1,⟨by omega,by omega,s6.bump _,by simp only [Mem.next_bump];omega,by rw [hYA];exact g6,by rw [hYB];exact f6⟩,by omega⟩
    · obtain rfl:i=l.length:=by omega
      rw [List.take_length] at hA hB
      have hA':lits l=A:=hA
      have hB':dists l=B:=hB
      rw [hA',hB']
      exact ⟨s5.bump _,by simp only [Mem.next_bump];omega,g5,f5⟩
  · rintro σ5 ⟨s5,n5,g5,f5⟩
    have n15:=s5.next
    exact zqo (σ:=σ5) hmb hfb (by omega) n5 g5 f5 (h0.keep λb hb=>s5.get b (b0 b hb)) (λb hb=>by have:=b0 b hb;omega) hok hll λσ' s'=>hQ σ' (s5.trans s')
 intro σ' s'
 exact ⟨⟨k,hk,rfl⟩,s01.trans s'⟩
theorem zoE {a b:ByteArray} (h:b.size<a.size):best2 a b=b:=if_pos h
theorem zoL {a b:ByteArray} (h:¬ b.size<a.size):best2 a b=a:=if_neg h
theorem zhM {s:ByteArray} (hs:s.size<=20000) {σ:Mem} :
 z1 PG z5B [.str s] σ λv σ'=>(∃ k,Done s k/\v=.str (best3 s k))/\σ.Same σ':=by
 refine zdk λlive=>?_
 unfold z90
 refine z0 (ziJ (σ:=σ.bump 4) (s:=s) (by omega)) ?_
 rintro _ σ1 ⟨rfl,s1⟩
 refine To.go ?_
 refine z0 (zkm (σ:=σ1.bump 3) hs) ?_
 rintro _ σ2 ⟨⟨k,hk,rfl⟩,s2⟩
 refine To.go ?_
 obtain ⟨A,hA⟩:∃ A,text (stored s).1 (stored s).2=A:=⟨_,rfl⟩
 obtain ⟨B,hB⟩:∃ B,text (z7X (toks s k)).1 (z7X (toks s k)).2=B:=⟨_,rfl⟩
 rw [hA,hB]
 have s02:=s1.ob.trans s2.ob
 refine join1 (λ(u:ByteArray) σ'=>u=best2 A B/\σ.Same σ') ?_ ?_
 · refine ifD (λh=>?_) (λh=>?_)
   · exact ⟨by unfold best2;rw [if_pos (by omega)],s02.bump _⟩
   · exact ⟨by unfold best2;rw [if_neg (by omega)],s02.bump _⟩
 · rintro _ σ3 ⟨rfl,s3⟩
   unfold z6g
   refine z0 (zhm (σ:=σ3.bump 3) hs) ?_
   rintro _ σ4 ⟨⟨k',hk',rfl⟩,s4⟩
   obtain rfl:=z7u hk hk'
   refine To.go ?_
   obtain ⟨C,hC⟩:∃ C,text (zfU (toks s k)).1 (zfU (toks s k)).2=C:=⟨_,rfl⟩
   have e:best3 s k=best2 (best2 A B) C:=by unfold best3 tx;rw [hA,hB,hC]
   rw [hC]
   have s04:=s3.trans s4.ob
   refine join1 (λ(u:ByteArray) σ'=>u=best2 (best2 A B) C/\σ.Same σ') ?_ ?_
   · refine ifD (λh=>?_) (λh=>?_)
     · exact ⟨(zoE (by omega)).symm,s04.bump _⟩
     · exact ⟨(zoL (by omega)).symm,s04.bump _⟩
   · rintro _ σ5 ⟨rfl,s5⟩
     unfold z6q
     exact ⟨⟨k,hk,by rw [e]⟩,s5.bump _⟩
end Go.Vit
end
