/- How often symbols stand. -/
import Derived.Test.YtloeboiajgfigaaGreatV7X
import Derived.Test.YtloeboiajgfigaaGreatV7Y
import Derived.Test.YtloeboiajgfigaaGreatVm3
set_option linter.unusedVariables false
set_option linter.unusedSimpArgs false
set_option maxRecDepth 20000
namespace Go.Vit
open Go.Proofs
theorem rdA {σ σ':Mem} {b n i:Nat} {A:List Int} {j:Int} {K:Int->Prop} (hg:σ.get b=some (.rw (ic A))) (hb:σ'.get b=σ.get b) (hn:A.length=n) (hi:i<n) (hj:j=(i:Nat)) (hk:K (A.getD i 0)):z3F n 1 (.ptr b 0) j λp=>ldI σ' p K:=by
 subst hj
 refine And.intro (show (0:Int)<=(i:Nat)/\((i:Nat):Int)<(n:Nat) by omega) ?_
 rw [Int.toNat_natCast,Nat.zero_add,Nat.mul_one]
 refine ldq (σ:=σ') (K:=λa=>zq .i64 a K) (hb.trans hg) (v:=.int .i64 (A.getD i 0)) ?_ hk
 show (ic A)[i]? = _
 rw [zdW (by omega),zA (by omega)]
theorem wrA {σ:Mem} {b n i:Nat} {A:List Int} {j x:Int} {K:Mem->Prop} (hg:σ.get b=some (.rw (ic A))) (hn:A.length=n) (hi:i<n) (hj:j=(i:Nat)) (hk:K (σ.put b (some (.rw (ic (A.set i x)))))):z3F n 1 (.ptr b 0) j λp=>stW 1 σ p (.int .i64 x) K:=by
 subst hj
 refine And.intro (show (0:Int)<=(i:Nat)/\((i:Nat):Int)<(n:Nat) by omega) ?_
 rw [Int.toNat_natCast,Nat.zero_add,Nat.mul_one]
 refine st1 hg (by rw [z0j];omega) rfl ?_
 rw [zaB]
 exact hk
theorem zkl {a b c:Int} {K:AV->Prop} (hk:K (.int .i64 a)):zqf 0 none (part a b c) K:=hk
def zlk (A:List Int) (t:Tok):List Int:=if t.2.1=0 then zk5 A t.1.toNat else zk5 A (z0k t.2.1.toNat)
def zli (A:List Int) (t:Tok):List Int:=if t.2.1=0 then A else zk5 A (z27 t.2.2.toNat)
def lit0:List Int:=(arr (λ_=>0) 286).set 256 1
def lits (l:List Tok):List Int:=l.foldl zlk lit0
def dists (l:List Tok):List Int:=l.foldl zli (arr (λ_=>0) 30)
theorem zcX:∀ (l:List Tok) (A:List Int),(l.foldl zlk A).length=A.length
 | [],_=>rfl
 | t::l,A=>by
   rw [List.foldl_cons,zcX l]
   unfold zlk
   split<;>exact zfY _ _
theorem zaF:∀ (l:List Tok) (A:List Int),(l.foldl zli A).length=A.length
 | [],_=>rfl
 | t::l,A=>by
   rw [List.foldl_cons,zaF l]
   unfold zli
   split
   · rfl
   · exact zfY _ _
theorem ziy:∀ (l:List Tok) (A:List Int) (m:Int),0<=m->bdL A m->bdL (l.foldl zlk A) (m+l.length)
 | [],A,m,_,h=>by simpa using h
 | t::l,A,m,hm,h=>by
   have h1:bdL (zlk A t) (m+1):=by
    unfold zlk
    split<;>exact h.add hm _
   have:=ziy l _ (m+1) (by omega) h1
   rw [List.foldl_cons,List.length_cons]
   exact this.mono (by omega)
theorem zfO:∀ (l:List Tok) (A:List Int) (m:Int),0<=m->bdL A m->bdL (l.foldl zli A) (m+l.length)
 | [],A,m,_,h=>by simpa using h
 | t::l,A,m,hm,h=>by
   have h1:bdL (zli A t) (m+1):=by
    unfold zli
    split
    · exact h.mono (by omega)
    · exact h.add hm _
   have:=zfO l _ (m+1) (by omega) h1
   rw [List.foldl_cons,List.length_cons]
   exact this.mono (by omega)
theorem zmI:bdL lit0 1:=by unfold bdL;decide +kernel
theorem zlL:bdL (arr (λ_=>0) 30) 0:=by unfold bdL;decide +kernel
theorem z8V {α β:Type} (f:β->α->β) (b:β) {l:List α} {i:Nat} (h:i<l.length):(l.take (i+1)).foldl f b=f ((l.take i).foldl f b) l[i]:=by
 rw [List.take_succ_eq_append_getElem h,List.foldl_append];rfl
theorem zhS {l:List Tok} (hl:l.length<=2^20):¬ zi4 15 (lits l):=by
 have h:=ziy l lit0 1 (by decide) zmI
 have e:(lits l).length=286:=zcX l lit0
 exact zfr (most:=15) (m:=1+l.length) (by decide) (by decide) (by omega) h (by omega) (by omega)
theorem zg3 {l:List Tok} (hl:l.length<=2^20):¬ zi4 15 (dists l):=by
 have h:=zfO l _ 0 (by decide) zlL
 have e:(dists l).length=30:=(zaF l _).trans (zW _ _)
 exact zfr (most:=15) (m:=0+l.length) (by decide) (by decide) (by omega) h (by omega) (by omega)
theorem ze0 {a:AV} {l:List Tok} {σ:Mem} (ha:z1Q 3 σ a (tkl l) l.length) (hok:∀ t∈l,okT t) (hl:l.length<=2^20) :
 z1 PG z4y [a] σ λw σ'=>∃ u v,w=.tup [u,v]/\RdC σ' u (tld 257 (limit 15 (lits l)))/\RdC σ' v (tld 1 (limit 15 (dists l)))/\(∀ b∈z3 u++z3 v,σ.next<=b/\b<σ'.next)/\σ.Same σ':=by
 refine zbm λlive=>?_
 unfold z75
 have hla:=ha.lt live
 refine To.go ?_
 refine To.go ?_
 obtain ⟨mb,hmb⟩:∃ mb,σ.next+2=mb:=⟨_,rfl⟩
 obtain ⟨fb,hfb⟩:∃ fb,((σ.bump 3).put mb (some (.rw (List.replicate 286 (.int .i64 0))))).next=fb:=⟨_,rfl⟩
 have hfb':fb=σ.next+3:=by rw [<- hfb];rfl
 rw [hmb,hfb]
 have z:∀ n,List.replicate n (AV.int .i64 0)=ic (arr (λ_=>0) n):=by
  intro n
  have:(List.range n).map (λ_=>AV.int .i64 0)=List.replicate n (AV.int .i64 0):=by rw [List.map_const',List.length_range]
  unfold ic arr
  rw [List.map_map]
  exact this.symm
 refine wrA (A:=arr (λ_=>0) 286) (i:=256) (gB (gN (by omega) (gB (gS'.trans (by rw [z]))))) (zW _ _) (by decide) rfl ?_
 obtain ⟨σ1,h1⟩:∃ σ1,σ1=(((((σ.bump 3).put mb (some (.rw (List.replicate 286 (.int .i64 0))))).bump 1).put fb (some (.rw (List.replicate 30 (.int .i64 0))))).bump 2).put mb (some (.rw (ic lit0))):=⟨_,rfl⟩
 rw [show (arr (λ_=>(0:Int)) 286).set 256 1=lit0 from rfl,<- h1]
 have s1:σ.Same σ1:=by rw [h1];refine Mem.Same.put (Mem.Same.bump (Mem.Same.put (Mem.Same.bump (Mem.Same.put ((Mem.Same.refl σ).bump _) (by omega) _) _) (by omega) _) _) (by omega) _
 have n1:σ1.next=σ.next+6:=by rw [h1];rfl
 have g1:σ1.get mb=some (.rw (ic lit0)):=by rw [h1,gS']
 have f1:σ1.get fb=some (.rw (ic (arr (λ_=>0) 30))):=by rw [h1];exact gN (by omega) (gB (gS'.trans (by rw [z])))
 clear h1
 have ha1:=ha.keep (σ':=σ1) λb hb=>s1.get b (hla b hb)
 refine ha1.rdO.len ?_
 refine loop1 (λ(i:Nat) (y:Int) σ'=>y=i/\i<=l.length/\σ.Same σ'/\σ1.next<=σ'.next/\σ'.get mb=some (.rw (ic ((l.take i).foldl zlk lit0)))/\σ'.get fb=some (.rw (ic ((l.take i).foldl zli (arr (λ_=>0) 30))))) (λi=>l.length-i) 0 ⟨rfl,by omega,s1.bump _,by simp only [Mem.next_bump];omega,g1,f1⟩ ?_
 rintro i _ σ2 ⟨rfl,hi,s2,n2,g2,f2⟩
 unfold z5l
 rw [hmb,hfb]
 have lA:((l.take i).foldl zlk lit0).length=286:=zcX _ _
 have lB:((l.take i).foldl zli (arr (λ_=>0) 30)).length=30:=(zaF _ _).trans (zW _ _)
 have bA:=ziy (l.take i) lit0 1 (by decide) zmI
 have bB:=zfO (l.take i) _ 0 (by decide) zlL
 rw [List.length_take] at bA bB
 obtain ⟨A,hA⟩:∃ A,(l.take i).foldl zlk lit0=A:=⟨_,rfl⟩
 obtain ⟨B,hB⟩:∃ B,(l.take i).foldl zli (arr (λ_=>0) 30)=B:=⟨_,rfl⟩
 rw [hA] at g2 lA bA
 rw [hB] at f2 lB bB
 have ha2:=ha.keep (σ':=σ2) λb hb=>s2.get b (hla b hb)
 refine ifD (λhlt=>?_) (λhge=>?_)
 · have hil:i<l.length:=by omega
   have hokt:=hok l[i] (List.getElem_mem hil)
   have eA:=z8V zlk lit0 hil
   have eB:=z8V zli (arr (λ_=>0) 30) hil
   rw [hA] at eA
   rw [hB] at eB
   obtain ⟨⟨tb0,tl,td⟩,htk⟩:∃ t:Tok,l[i]=t:=⟨_,rfl⟩
   refine ha2.rdK (σ':=σ2.bump 5) (λ_ _=>rfl) hil rfl ?_
   rw [htk] at eA eB hokt ⊢
   obtain ⟨YA,hYA⟩:∃ Y,(l.take (i+1)).foldl zlk lit0=Y:=⟨_,rfl⟩
   obtain ⟨YB,hYB⟩:∃ Y,(l.take (i+1)).foldl zli (arr (λ_=>0) 30)=Y:=⟨_,rfl⟩
   rw [hYA] at eA
   rw [hYB] at eB
   unfold zlk at eA
   unfold zli at eB
   dsimp only at eA eB
   refine To.go ?_
   refine stn gS' (by simp) rfl rfl ?_
   obtain ⟨kb,hkb⟩:∃ kb,σ2.next+3=kb:=⟨_,rfl⟩
   obtain ⟨σ3,h3⟩:∃ σ3,σ3=((σ2.bump 5).put kb (some (.rw [.int .i64 0,.int .i64 0,.int .i64 0]))).put kb (some (.rw (setAt [.int .i64 0,.int .i64 0,.int .i64 0] 0 (zlh (tb0,tl,td))))):=⟨_,rfl⟩
   rw [hkb,<- h3]
   have s23:σ2.Same σ3:=by rw [h3];repeat (with_reducible first | exact Mem.Same.refl _ | refine Mem.Same.bump ?_ _ | refine Mem.Same.put ?_ (by omega) _)
   have n3:σ3.next=σ2.next+5:=by rw [h3];rfl
   have k3:σ3.get kb=some (.rw [.int .i64 tb0,.int .i64 tl,.int .i64 td]):=by rw [h3,gS'];rfl
   clear h3
   have g3:σ3.get mb=some (.rw (ic A)):=(s23.get mb (by omega)).trans g2
   have f3:σ3.get fb=some (.rw (ic B)):=(s23.get fb (by omega)).trans f2
   have s3:=s2.trans s23
   refine To.go ?_
   refine ldrw (σ:=σ3.bump 3) (K:=λa=>zq .i64 a _) k3 (v:=.int .i64 tl) rfl ?_
   refine join0 (λσ'=>σ.Same σ'/\σ1.next<=σ'.next/\σ'.get mb=some (.rw (ic YA))/\σ'.get fb=some (.rw (ic YB))) ?_ ?_
   · refine ifD (λh0=>?_) (λh0=>?_)
     · rw [if_pos h0] at eA eB
       have hb0:0<=tb0/\tb0<=255:=by
        rcases hokt with h | h
        · exact h.2
        · have:=h.1;dsimp only at this h0;omega
       obtain ⟨x,rfl⟩:∃ x:Nat,tb0=x:=⟨tb0.toNat,by omega⟩
       rw [Int.toNat_natCast] at eA
       have bx:=bA.get (by omega) x
       refine To.go ?_
       refine ldrw (σ:=σ3.bump 10) (K:=λa=>zq .i64 a _) k3 (v:=.int .i64 (x:Nat)) rfl ?_
       refine rdA (i:=x) (σ:=σ3) (σ':=σ3.bump 10) g3 rfl lA (by omega) rfl ?_
       refine z6 (by omega) ?_
       refine wrA (σ:=σ3.bump 10) (i:=x) g3 lA (by omega) rfl ?_
       rw [eA,eB]
       exact ⟨Mem.Same.put (s3.bump _) (by omega) _,by simp only [Mem.next_put,Mem.next_bump];omega,gS',gN (by omega) f3⟩
     · rw [if_neg h0] at eA eB
       have hok2:3<=tl/\tl<=258/\1<=td/\td<=512:=by
        rcases hokt with h | h
        · exact absurd h.1 h0
        · exact h
       obtain ⟨n,rfl⟩:∃ n:Nat,tl=n:=⟨tl.toNat,by omega⟩
       obtain ⟨d,rfl⟩:∃ d:Nat,td=d:=⟨td.toNat,by omega⟩
       rw [Int.toNat_natCast] at eA eB
       have hs:=zhE ⟨n,by omega⟩ (show 3<=n by omega)
       have hd:=zha ⟨d,by omega⟩ (show 1<=d by omega)
       dsimp only at hs hd
       have bx:=bA.get (by omega) (z0k n)
       have bd:=bB.get (by omega) (z27 d)
       refine To.go ?_
       refine ldrw (σ:=σ3.bump 12) (K:=λa=>zq .i64 a _) k3 (v:=.int .i64 (n:Nat)) rfl ?_
       refine z0 (z9P (by omega) (by omega) _) ?_
       rintro _ σ4 ⟨rfl,s4⟩
       replace s4:=s4.ob
       have n4:=s4.next
       have g4:=(s4.get mb (by omega)).trans g3
       refine zkl ?_
       refine To.go ?_
       refine rdA (i:=z0k n) (σ:=σ4) (σ':=σ4) g4 rfl lA (by omega) rfl ?_
       refine z6 (by omega) ?_
       refine wrA (σ:=σ4) (i:=z0k n) g4 lA (by omega) rfl ?_
       obtain ⟨σ5,h5⟩:∃ σ5,σ5=σ4.put mb (some (.rw (ic (A.set (z0k n) (A.getD (z0k n) 0+1))))):=⟨_,rfl⟩
       rw [<- h5]
       have s5:σ.Same σ5:=by rw [h5];exact Mem.Same.put (s3.trans s4) (by omega) _
       have n5:σ5.next=σ4.next:=by rw [h5];rfl
       have g5:σ5.get mb=some (.rw (ic YA)):=by rw [h5,gS',eA];rfl
       have f5:σ5.get fb=some (.rw (ic B)):=by rw [h5];exact gN (by omega) ((s4.get fb (by omega)).trans f3)
       have k5:σ5.get kb=some (.rw [.int .i64 tb0,.int .i64 (n:Nat),.int .i64 (d:Nat)]):=by rw [h5];exact gN (by omega) ((s4.get kb (by omega)).trans k3)
       clear h5
       refine To.go ?_
       refine ldrw (σ:=σ5.bump 9) (K:=λa=>zq .i64 a _) k5 (v:=.int .i64 (d:Nat)) rfl ?_
       refine z0 (z85 (by omega) (by omega) _) ?_
       rintro _ σ6 ⟨rfl,s6⟩
       replace s6:=s6.ob
       have n6:=s6.next
       have f6:=(s6.get fb (by omega)).trans f5
       refine zkl ?_
       refine To.go ?_
       refine rdA (i:=z27 d) (σ:=σ6) (σ':=σ6) f6 rfl lB (by omega) rfl ?_
       refine z6 (by omega) ?_
       refine wrA (σ:=σ6) (i:=z27 d) f6 lB (by omega) rfl ?_
       rw [eB]
       exact ⟨Mem.Same.put (s5.trans s6) (by omega) _,by simp only [Mem.next_put];omega,gN (by omega) ((s6.get mb (by omega)).trans g5),gS'⟩
   · rintro σ4 ⟨s4,n4,g4,f4⟩
     unfold z5e
     refine z6 (by omega) ?_
     exact again ⟨i+1,⟨by omega,by omega,s4.bump _,by simp only [Mem.next_bump];omega,by rw [hYA];exact g4,by rw [hYB];exact f4⟩,by omega⟩
 · obtain rfl:i=l.length:=by omega
   rw [List.take_length] at hA hB
   have hA':lits l=A:=hA
   have hB':dists l=B:=hB
   have nA:=zhS hl
   have nB:=zg3 hl
   rw [hA'] at nA ⊢
   rw [hB'] at nB ⊢
   have slA:∀ {n b:Nat} {K:AV->Prop},K (.slice b 0 n (.ex n))->zom n 1 (.ptr b 0) none none K:=by
    intro n b K hK
    refine And.intro ⟨Int.le_refl _,show (0:Int)<=((n:Nat):Int) by omega,Int.le_refl _⟩ ?_
    show K (.slice b (0+(0:Int).toNat*1) (((n:Nat):Int).toNat-(0:Int).toNat) (.ex (n-(0:Int).toNat)))
    rw [Int.toNat_natCast,Int.toNat_zero,Nat.zero_mul,Nat.sub_zero]
    exact hK
   refine slA ?_
   refine z0 (zbM (σ:=σ2.bump 8) (L:=A) (most:=15) (.mk (by rw [lA]) ⟨_,g2,rfl⟩ (by rw [z0j,Nat.mul_one])) (by omega)) ?_
   rintro _ σ3 ⟨c,rfl,s3,h3⟩
   replace s3:=s3
   have s3':=s3.ob
   have n3:=s3.next
   simp only [Mem.next_bump] at n3
   rcases h3 with ⟨h,_⟩ | ⟨_,rc,bc⟩
   · exact absurd h nA
   rw [if_neg nA]
   refine z43 rfl ?_
   refine z3v rfl ?_
   refine slA ?_
   have f3:=(s3'.get fb (by omega)).trans f2
   refine z0 (zbM (σ:=σ3.bump 7) (L:=B) (most:=15) (.mk (by rw [lB]) ⟨_,f3,rfl⟩ (by rw [z0j,Nat.mul_one])) (by omega)) ?_
   rintro _ σ4 ⟨d,rfl,s4,h4⟩
   have s4':=s4.ob
   have n4:=s4.next
   simp only [Mem.next_bump] at n4
   rcases h4 with ⟨h,_⟩ | ⟨_,rd,bd⟩
   · exact absurd h nB
   rw [if_neg nB]
   refine z43 rfl ?_
   refine z3v rfl ?_
   have lc:(limit 15 A).length=286:=by rw [z7o,lA]
   have ld:(limit 15 B).length=30:=by rw [z7o,lB]
   refine z0 (z8T (σ:=σ4.bump 6) (L:=limit 15 A) (least:=257) (rc.c.keep λb hb=>s4'.get b (bc b hb).2) (by omega) (by decide)) ?_
   rintro u σ5 ⟨hu,bu,s5⟩
   have s5':=s5.ob
   refine z0 (z8T (σ:=σ5) (L:=limit 15 B) (least:=1) (rd.c.keep λb hb=>s5'.get b (bd b hb).2) (by omega) (by decide)) ?_
   rintro v σ6 ⟨hv,bv,s6⟩
   have n5:=s5'.next
   have n6:=s6.next
   have n2':=s2.next
   simp only [Mem.next_bump] at bc bd
   refine ⟨u,v,rfl,hu.keep λb hb=>s6.get b ?_,hv,λb hb=>?_,((((s2.trans s3').trans s4').trans s5').trans s6)⟩
   · rw [bu] at hb;have:=bc b hb;omega
   · rcases List.mem_append.1 hb with hb | hb
     · rw [bu] at hb;have:=bc b hb;omega
     · rw [bv] at hb;have:=bd b hb;omega
end Go.Vit
