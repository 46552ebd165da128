/- Dynamic blocks: small codes are laid. -/
import Derived.Test.YtloeboiajgfigaaGreatV7D1
set_option linter.unusedVariables false
set_option linter.unusedSimpArgs false
set_option maxRecDepth 20000
namespace Go.Vit
open Go.Proofs
def okR (r:Int×Int):Prop:=(0<=r.1/\r.1<=15/\r.2=0)\/(r.1=16/\0<=r.2/\r.2<=3)\/(r.1=17/\0<=r.2/\r.2<=7)\/(r.1=18/\0<=r.2/\r.2<=127)
theorem zlH {v:Int} {b:Bool} {n:Nat} (hv:0<=v/\v<=15):okR (z69 v b n).1:=by
 unfold z69 okR
 split
 · split
   · dsimp only;omega
   · split
     · dsimp only;omega
     · dsimp only;omega
 · split
   · dsimp only;omega
   · dsimp only;omega
theorem zlU {L:List Int} (hL:∀ x∈L,0<=x/\x<=15):∀ (f i:Nat),∀ r∈z6k L f i,okR r
 | 0,_,r,h=>by simp [z6k] at h
 | f+1,i,r,h=>by
   unfold z6k at h
   split at h
   · rename_i hi
     rcases List.mem_cons.1 h with rfl | h
     · exact zlH (by rw [zA hi];exact hL _ (List.getElem_mem hi))
     · exact zlU hL f _ r h
   · simp at h
theorem zjF {r:Int×Int} (h:okR r):0<=r.1/\r.1<=18/\0<=r.2/\r.2<=127:=by
 rcases h with h | h | h | h<;>omega
def z3G (L:List Int) (p:Nat×Nat) (r:Int×Int):Nat×Nat:=
 if r.1=16 then laP (z5m L p r.1) r.2 2 else if r.1=17 then laP (z5m L p r.1) r.2 3 else if r.1=18 then laP (z5m L p r.1) r.2 7 else z5m L p r.1
theorem zks {L:List Int} (hL:lens L) (p:Nat×Nat) (r:Int×Int):(z3G L p r).2<=p.2+22:=by
 have h:=z3V hL p r.1
 have h2:=z1Z (z5m L p r.1) r.2 (n:=2) (by decide)
 have h3:=z1Z (z5m L p r.1) r.2 (n:=3) (by decide)
 have h7:=z1Z (z5m L p r.1) r.2 (n:=7) (by decide)
 rw [show ((2:Nat):Int)=2 from rfl] at h2
 rw [show ((3:Nat):Int)=3 from rfl] at h3
 rw [show ((7:Nat):Int)=7 from rfl] at h7
 unfold z3G
 split
 · omega
 · split
   · omega
   · split<;>omega
theorem zjn {L:List Int} (hL:lens L):∀ (l:List (Int×Int)) (p:Nat×Nat),(l.foldl (z3G L) p).2<=p.2+22*l.length
 | [],p=>by simp
 | r::l,p=>by
   have h1:=zks hL p r
   have h2:=zjn hL l (z3G L p r)
   rw [List.foldl_cons,List.length_cons];omega
theorem z1Q.rdR2 {σ σ':Mem} {v:AV} {X:List (Int×Int)} (h:z1Q 2 σ v (ic2 X) X.length) (hb:∀ b∈z3 v,σ'.get b=σ.get b) {i:Nat} (hi:i<X.length) {j:Int} (hj:j=(i:Nat)) {K:AV->Prop} (hk:K (.agg (rC X[i]))):zz 2 v j λp=>z5x 2 σ' p K:=by
 subst hj
 obtain ⟨b,rfl,hg,_⟩:=h.sl (by omega)
 exact zqC ((hb b (by simp [z3])).trans hg) rfl rfl (List.getElem?_eq_getElem hi) hk
def z8d (σ0 σ:Mem) (w:Nat) (p:Nat×Nat) (lo hi:Nat) (L:List Int) (t:Nat):Prop:=
 ∃ o,WrP σ w o p.1 p.2/\(∀ b∈o,σ0.next<=b/\b<σ.next)/\(∀ b∈o,b<lo\/hi<=b)/\hi<=σ.next/\zcK lo hi L σ t/\σ0.Same σ
theorem z8d.same {σ0 σ σ':Mem} {w lo hi t:Nat} {p:Nat×Nat} {L:List Int} (h:z8d σ0 σ w p lo hi L t) (s:σ.Same σ'):z8d σ0 σ' w p lo hi L t:=by
 obtain ⟨o,h1,h2,h3,h4,h5,h6⟩:=h
 exact ⟨o,h1.keep λb hb=>s.get b (h2 b hb).2,λb hb=>⟨(h2 b hb).1,Nat.lt_of_lt_of_le (h2 b hb).2 s.next⟩,h3,Nat.le_trans h4 s.next,h5.keep λb h1 h2=>s.get b (by omega),h6.trans s⟩
theorem z8d.grow {σ0 σ σ':Mem} {w lo hi t:Nat} {p':Nat×Nat} {L:List Int} {o o':List Nat} (h2:∀ b∈o,σ0.next<=b/\b<σ.next) (h3:∀ b∈o,b<lo\/hi<=b) (h4:hi<=σ.next) (h5:zcK lo hi L σ t) (h6:σ0.Same σ) (hw:WrP σ' w o' p'.1 p'.2) (g:Grow o o' σ σ'):z8d σ0 σ' w p' lo hi L t:=by
 obtain ⟨s,hn⟩:=g.same h6 λb hb=>(h2 b hb).1
 exact ⟨o',hw,λb hb=>⟨hn b hb,g.lt b hb⟩,g.away h3 h4,Nat.le_trans h4 g.only.next,g.keepT h3 h4 h5,s⟩
theorem z8d.lay {σ0 σ:Mem} {w lo hi t:Nat} {p:Nat×Nat} {L:List Int} {x:Int} {K:AV->Mem->Prop} (h:z8d σ0 σ w p lo hi L t) (hL:lens L) (hp:p.2<=2^38)
 (hK:∀ σ',z8d σ0 σ' w (z5m L p x) lo hi L t->(∀ b,b<σ.next->(∀ o,WrP σ w o p.1 p.2->(∀ b∈o,σ0.next<=b/\b<σ.next)->b ∉ o)->σ'.get b=σ.get b)->σ.next<=σ'.next->K (.int .i64 (zne L x)) σ') :
 z5 PG z2f [.ptr t 0,.ptr w 0,.int .i64 x] σ K:=by
 obtain ⟨o,h1,h2,h3,h4,h5,h6⟩:=h
 refine z0 (zfW (p:=p) hL h5 h4 h3 h1 (by omega)) ?_
 rintro _ σ' ⟨rfl,o',w',g⟩
 exact hK σ' (.grow h2 h3 h4 h5 h6 w' g) (λb hb hn=>g.only.get b hb (hn o h1 h2)) g.only.next
theorem z8d.bits {σ0 σ:Mem} {w lo hi t n:Nat} {p:Nat×Nat} {L:List Int} {v:Int} {K:AV->Mem->Prop} (h:z8d σ0 σ w p lo hi L t) (hp:p.2<=2^38) (hv : -9223372036854775808<=v/\v<=9223372036854775807)
 (hK:∀ r σ',z8d σ0 σ' w (laP p v (n:Nat)) lo hi L t->K r σ') :
 z5 PG zg [.ptr w 0,.int .i64 v,.int .i64 (n:Nat)] σ K:=by
 obtain ⟨o,h1,h2,h3,h4,h5,h6⟩:=h
 refine z0 (z0b h1 (by omega) hv.1 hv.2) ?_
 rintro r σ' ⟨_,o',w',g⟩
 exact hK r σ' (.grow h2 h3 h4 h5 h6 w' g)
theorem zpC {σ0 σ:Mem} {w t lo hi:Nat} {p:Nat×Nat} {S A B:List Int} {rs:List (Int×Int)} {l:List Tok} {v0 v4 v5 v9:AV} {Q:AV->Mem->Prop} (h:z8d σ0 σ w p lo hi S t) (hS:lens S)
 (h0:z1Q 3 σ0 v0 (tkl l) l.length) (b0:∀ b∈z3 v0,b<σ0.next) (h4:RdC σ0 v4 A) (b4:∀ b∈z3 v4,b<σ0.next) (h5:RdC σ0 v5 B) (b5:∀ b∈z3 v5,b<σ0.next) (h9:z1Q 2 σ0 v9 (ic2 rs) rs.length) (b9:∀ b∈z3 v9,b<σ0.next)
 (cA:chk A=0) (cB:chk B=0) (hrs:∀ r∈rs,okR r) (hok:∀ t∈l,okT t) (hl:l.length<=2^20) (hrl:rs.length<=2^20) (hp:p.2<=2^30)
 (hQ:∀ σ',σ0.Same σ'->Q (.str (text (z42 A B (rs.foldl (z3G S) p) l).1 (z42 A B (rs.foldl (z3G S) p) l).2)) σ') :
 zj [tI] (z3a Q v0 v4 v5 v9 (.ptr w 0) (.ptr t 0) (rs.length:Nat)) 0 σ:=by
 have hA:lens A:=(z2p cA).1
 have hB:lens B:=(z2p cB).1
 refine loop1 (λ(i:Nat) (y:Int) σ'=>y=i/\i<=rs.length/\z8d σ0 σ' w ((rs.take i).foldl (z3G S) p) lo hi S t) (λi=>rs.length-i) 0 ⟨rfl,by omega,h⟩ ?_
 rintro i _ σ1 ⟨rfl,hi',lt1⟩
 unfold z3a
 have htw:=zjn hS (rs.take i) p
 rw [List.length_take] at htw
 obtain ⟨q,hq⟩:∃ q,(rs.take i).foldl (z3G S) p=q:=⟨_,rfl⟩
 rw [hq] at lt1 htw
 have s01:σ0.Same σ1:=by obtain ⟨_,_,_,_,_,_,s⟩:=lt1;exact s
 have n01:=s01.next
 refine ifD (λhlt=>?_) (λhge=>?_)
 · have hir:i<rs.length:=by omega
   have hor:=hrs rs[i] (List.getElem_mem hir)
   have hoc:=zjF hor
   have hfs:=z8V (z3G S) p hir
   rw [hq] at hfs
   refine h9.rdR2 (σ':=σ1.bump 5) (λb hb=>s01.get b (b9 b hb)) hir rfl ?_
   obtain ⟨⟨c,m⟩,hr⟩:∃ r,rs[i]=r:=⟨_,rfl⟩
   rw [hr] at hor hoc hfs ⊢
   obtain ⟨Y,hY⟩:∃ Y,(rs.take (i+1)).foldl (z3G S) p=Y:=⟨_,rfl⟩
   rw [hY] at hfs
   dsimp only at hoc
   refine To.go ?_
   refine stn gS' (by simp) rfl rfl ?_
   obtain ⟨rb,hrb⟩:∃ rb,σ1.next+3=rb:=⟨_,rfl⟩
   obtain ⟨σ2,h2⟩:∃ σ2,σ2=((σ1.bump 5).put rb (some (.rw [.int .i64 0,.int .i64 0]))).put rb (some (.rw (setAt [.int .i64 0,.int .i64 0] 0 (rC (c,m))))):=⟨_,rfl⟩
   rw [hrb,<- h2]
   have s2:σ1.Same σ2:=by rw [h2];repeat (with_reducible first | exact Mem.Same.refl _ | refine Mem.Same.bump ?_ _ | refine Mem.Same.put ?_ (by omega) _)
   have n2:σ2.next=σ1.next+5:=by rw [h2];rfl
   have g2:σ2.get rb=some (.rw [.int .i64 c,.int .i64 m]):=by rw [h2,gS'];rfl
   clear h2
   refine To.go ?_
   refine ldrw (σ:=σ2.bump 5) (K:=λa=>zq .i64 a _) g2 (v:=.int .i64 c) rfl ?_
   -- the writer's blocks are older
   obtain ⟨o,w1,wb,wa,wh,wt,ws⟩:=lt1
   refine z0 (zfW (σ:=σ2.bump 5) (o:=o) (p:=q) hS (wt.keep λb h1 h2=>s2.get b (by omega)) (by simp only [Mem.next_bump];omega) wa (w1.keep λb hb=>s2.get b (wb b hb).2) (by omega)) ?_
   rintro _ σ3 ⟨rfl,o3,w3,g3⟩
   have lt3:z8d σ0 σ3 w (z5m S q c) lo hi S t:=.grow (σ:=σ2.bump 5) (λb hb=>⟨(wb b hb).1,by simp only [Mem.next_bump];have:=(wb b hb).2;omega⟩) wa (by simp only [Mem.next_bump];omega) (wt.keep λb h1 h2=>s2.get b (by omega)) ((ws.trans s2).bump _) w3 g3
   have k3:σ3.get rb=some (.rw [.int .i64 c,.int .i64 m]):=(g3.only.get rb (by simp only [Mem.next_bump];omega) (λhb=>by have:=(wb rb hb).2;omega)).trans g2
   refine To.go ?_
   refine To.go ?_
   refine ldrw (σ:=σ3.bump 3) (K:=λa=>zq .i64 a _) k3 (v:=.int .i64 c) rfl ?_
   have e1:=z3V hS q c
   refine join0 (λσ'=>z8d σ0 σ' w Y lo hi S t) ?_ ?_
   · refine ifD (λh15=>?_) (λh15=>?_)
     · refine To.go ?_
       refine ldrw (σ:=σ3.bump 12) (K:=λa=>zq .i64 a _) k3 (v:=.int .i64 m) rfl ?_
       refine To.go ?_
       refine ldrw (σ:=σ3.bump 12) (K:=λa=>zq .i64 a _) k3 (v:=.int .i64 c) rfl ?_
       refine To.go ?_
       refine z6 (by omega) ?_
       have hcase:c=16\/c=17\/c=18:=by omega
       rcases hcase with rfl | rfl | rfl
       · refine And.intro (by decide) ?_
         refine z8d.bits (n:=2) (lt3.same ((Mem.Same.refl σ3).bump 12)) (by omega) (by omega) ?_
         intro r σ4 lt4
         rw [hfs];exact lt4
       · refine And.intro (by decide) ?_
         refine z8d.bits (n:=3) (lt3.same ((Mem.Same.refl σ3).bump 12)) (by omega) (by omega) ?_
         intro r σ4 lt4
         rw [hfs];exact lt4
       · refine And.intro (by decide) ?_
         refine z8d.bits (n:=7) (lt3.same ((Mem.Same.refl σ3).bump 12)) (by omega) (by omega) ?_
         intro r σ4 lt4
         rw [hfs];exact lt4
     · rw [hfs]
       unfold z3G
       dsimp only
       rw [if_neg (by omega),if_neg (by omega),if_neg (by omega)]
       exact lt3.same ((Mem.Same.refl σ3).bump _)
   · rintro σ4 lt4
     unfold z5g
     refine z6 (by omega) ?_
     exact again ⟨i+1,⟨by omega,by omega,by rw [hY];exact lt4.same ((Mem.Same.refl σ4).bump _)⟩,by omega⟩
 · obtain rfl:i=rs.length:=by omega
   rw [List.take_length] at hq
   obtain ⟨o,w1,wb,wa,wh,wt,ws⟩:=lt1
   have lA:A.length<=288:=hA.1
   have lB:B.length<=288:=hB.1
   refine z0 (z4P (σ:=σ1.bump 8) (L:=A) ((h4.keep (σ':=σ1) λb hb=>s01.get b (b4 b hb)).o.keep λ_ _=>rfl) (by omega)) ?_
   rintro _ σ2 ⟨pt,rfl,_,hpt,s2⟩
   obtain ⟨_,ta,rfl,tab⟩:=hpt cA
   have tab:=tab.b
   have n2:=s2.next
   simp only [Mem.next_bump] at n2 tab
   have s12:=s2.ob
   refine z43 rfl ?_
   refine z3v rfl ?_
   have s02:=s01.trans s12
   refine z0 (z4P (σ:=σ2.bump 7) (L:=B) ((h5.keep (σ':=σ2) λb hb=>s02.get b (b5 b hb)).o.keep λ_ _=>rfl) (by omega)) ?_
   rintro _ σ3 ⟨pt,rfl,_,hpt,s3⟩
   obtain ⟨_,tb,rfl,tab'⟩:=hpt cB
   have tab':=tab'.b
   have n3:=s3.next
   simp only [Mem.next_bump] at n3 tab'
   have s23:=s3.ob
   refine z43 rfl ?_
   refine z3v rfl ?_
   have s13:=s12.trans s23
   have s03:=s01.trans s13
   refine z0 (z8A (σ:=σ3.bump 5) (o:=o) (p:=q) (lo:=σ1.next+8) (hi:=σ2.next) (lo':=σ2.next+7) (hi':=σ3.next) hA hB (tab.keep λb h1 h2=>s23.get b (by omega)) (by simp only [Mem.next_bump];omega) (λb hb=>.inl (by have:=(wb b hb).2;omega)) (tab'.keep λ_ _ _=>rfl) (by simp only [Mem.next_bump];omega) (λb hb=>.inl (by have:=(wb b hb).2;omega)) (w1.keep λb hb=>s13.get b (wb b hb).2) (by omega) (h0.keep λb hb=>s03.get b (b0 b hb)) (λb hb hb'=>by have:=b0 b hb;have:=(wb b hb').1;omega) hok hl) ?_
   rintro _ σ4 ⟨o4,w4,g4⟩
   have hfb:=zd1 hA hB (l:=l) q hok
   have hfe:=z3V hA (l.foldl (z5R A B) q) 256
   refine z0 (z55 (σ:=σ4.bump 3) (w4.keep λ_ _=>rfl) (by unfold z42;omega)) ?_
   rintro _ σ5 ⟨rfl,s5⟩
   refine To.go ?_
   have sA:σ0.Same σ4:=(g4.same (s03.bump 5) λb hb=>(wb b hb).1).1
   have:=hQ σ5 (sA.trans s5.ob)
   rw [hq] at this
   exact this
end Go.Vit
