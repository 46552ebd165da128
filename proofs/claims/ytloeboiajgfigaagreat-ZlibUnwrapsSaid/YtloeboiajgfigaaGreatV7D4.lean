/- Dynamic blocks. -/
import Derived.Test.YtloeboiajgfigaaGreatV7D3
set_option linter.unusedVariables false
set_option linter.unusedSimpArgs false
set_option maxRecDepth 20000
namespace Go.Vit
open Go.Proofs
def zew (l:List Tok):List Int:=tld 257 (limit 15 (lits l))
def zeB (l:List Tok):List Int:=tld 1 (limit 15 (dists l))
def zeK (l:List Tok):List (Int×Int):=runs (zew l++zeB l)
def zo7 (l:List Tok):List Int:=limit 7 (zel (zeK l))
def zot (l:List Tok):List Int:=tld 4 (z8L (zo7 l))
def znf (l:List Tok):Nat×Nat:=z42 (zew l) (zeB l) ((zeK l).foldl (z3G (zo7 l)) (fold3 (zot l) (z7u (zew l) (zeB l) (zot l)))) l
theorem zas (l:List Tok):(lits l).length=286:=zcX l lit0
theorem z8O (l:List Tok):(dists l).length=30:=(zaF l _).trans (zW _ _)
theorem z8p (rs:List (Int×Int)):(zel rs).length=19:=(z9i rs _).trans (zW _ _)
theorem zfK (l:List Tok):chk (zew l)=0:=zlI (zdR (by decide) (by decide) (by rw [zas];decide) (Nat.le_trans (zfF _) (by rw [zas];decide)))
theorem zjJ (l:List Tok):chk (zeB l)=0:=zlI (zdR (by decide) (by decide) (by rw [z8O];decide) (Nat.le_trans (zfF _) (by rw [z8O];decide)))
theorem zjD (l:List Tok):chk (zo7 l)=0:=zdR (by decide) (by decide) (by rw [z8p];decide) (Nat.le_trans (zfF _) (by rw [z8p];decide))
theorem znl (l:List Tok):(zo7 l).length=19:=by unfold zo7;rw [z7o,z8p]
theorem zjO (l:List Tok):257<=(zew l).length/\(zew l).length<=286:=by
 have e:(limit 15 (lits l)).length=286:=by rw [z7o,zas]
 exact ⟨zop (by omega),by have:=zi8 257 (limit 15 (lits l));unfold zew;omega⟩
theorem zjZ (l:List Tok):1<=(zeB l).length/\(zeB l).length<=30:=by
 have e:(limit 15 (dists l)).length=30:=by rw [z7o,z8O]
 exact ⟨zop (by omega),by have:=zi8 1 (limit 15 (dists l));unfold zeB;omega⟩
theorem zoW (l:List Tok):∀ x∈zew l++zeB l,0<=x/\x<=15:=by
 intro x hx
 rcases List.mem_append.1 hx with hx | hx
 · exact ((z2p (zfK l)).1).2 x hx
 · exact ((z2p (zjJ l)).1).2 x hx
theorem zmx (l:List Tok):∀ r∈zeK l,okR r:=zlU (zoW l) _ _
theorem znO (l:List Tok):(zeK l).length<=316:=by
 have h:=zdv (L:=zew l++zeB l) (zew l++zeB l).length 0
 have h1:=zjO l
 have h2:=zjZ l
 rw [List.length_append] at h
 have:(zeK l).length<=(zew l).length+(zeB l).length:=by
  show (z6k _ (zew l++zeB l).length 0).length<=_
  rw [List.length_append];exact h
 omega
theorem ze3 {s:ByteArray} (hs:s.size<=20000) {σ:Mem} :
 z1 PG z4C [.str s] σ λv σ'=>(∃ k,Done s k/\v=.str (text (znf (toks s k)).1 (znf (toks s k)).2))/\σ.Same σ':=by
 refine zbi λlive=>?_
 unfold z7d
 refine z0 (zh5 s hs (σ.bump 4)) ?_
 rintro v0 σ1 ⟨k,hk,own1,s1⟩
 have s01:=s1.ob
 have n1:=s1.next
 simp only [Mem.next_bump] at n1
 have hle:=zk8 hk
 have tl:(toks s k).length=k:=zjY s k
 have h0:=own1.1
 have b0:=own1.2
 rw [show tks s k=tkl (toks s k) from rfl,show z1Q 3 σ1 v0 (tkl (toks s k)) k↔z1Q 3 σ1 v0 (tkl (toks s k)) (toks s k).length from by rw [tl]] at h0
 have hok:=zfT hk
 obtain ⟨l,hl⟩:∃ l,toks s k=l:=⟨_,rfl⟩
 rw [hl] at h0 hok tl
 have hll:l.length<=2^20:=by omega
 refine z0 (ze0 (σ:=σ1.bump 7) (h0.keep λ_ _=>rfl) hok hll) ?_
 rintro _ σ2 ⟨v4,v5,rfl,h4,h5,b45,s2⟩
 have s12:=s2.ob
 have n2:=s2.next
 simp only [Mem.next_bump] at n2 b45
 refine z43 rfl ?_
 refine z43 rfl ?_
 refine z1Y h4.one ?_
 refine z1Y h5.one ?_
 rw [z3t h4.one,z3t h5.one]
 refine To.go ?_
 obtain ⟨σ3,h3⟩:∃ σ3,σ3=(σ2.bump 6).put (σ2.next+2) (some (.rw [v4,v5])):=⟨_,rfl⟩
 rw [show setAt (setAt [AV.nils,.nils] 0 [v4]) 1 [v5]=[v4,v5] from rfl,<- h3]
 have s23:σ2.Same σ3:=by rw [h3];repeat (with_reducible first | exact Mem.Same.refl _ | refine Mem.Same.bump ?_ _ | refine Mem.Same.put ?_ (by omega) _)
 have n3:σ3.next=σ2.next+6:=by rw [h3];rfl
 have g3:σ3.get (σ2.next+2)=some (.rw [v4,v5]):=by rw [h3,gS']
 clear h3
 have hA:zew l=tld 257 (limit 15 (lits l)):=rfl
 have hB:zeB l=tld 1 (limit 15 (dists l)):=rfl
 rw [<- hA] at h4
 rw [<- hB] at h5
 have b4:∀ b∈z3 v4,b<σ2.next:=λb hb=>(b45 b (List.mem_append.2 (.inl hb))).2
 have b5:∀ b∈z3 v5,b<σ2.next:=λb hb=>(b45 b (List.mem_append.2 (.inr hb))).2
 have lA:=zjO l
 have lB:=zjZ l
 have hfl:[zew l,zeB l].flatten=zew l++zeB l:=by simp
 refine z0 (zb3 (σ:=σ3) (k:=2) (Ls:=[zew l,zeB l]) g3 rfl rfl (by omega) (by decide) (λi v M h1 h2=>?_) (by rw [hfl,List.length_append];omega)) ?_
 · match i,h1,h2 with
   | 0,h1,h2=>injection h1 with h1;injection h2 with h2;subst h1 h2;exact ⟨(h4.keep λb hb=>s23.get b (b4 b hb)).o,λb hb=>by have:=b4 b hb;omega⟩
   | 1,h1,h2=>injection h1 with h1;injection h2 with h2;subst h1 h2;exact ⟨(h5.keep λb hb=>s23.get b (b5 b hb)).o,λb hb=>by have:=b5 b hb;omega⟩
   | i+2,h1,h2=>simp at h1
 rintro v7 σ4 ⟨g4,s34⟩
 rw [hfl] at g4
 have n4:=s34.next
 refine z0 (zho (σ:=σ4) (L:=zew l++zeB l) g4.o (by rw [List.length_append];omega)) ?_
 rintro v9 σ5 ⟨own5,s45⟩
 have n5:=s45.next
 have h9:z1Q 2 σ5 v9 (ic2 (zeK l)) (zeK l).length:=own5.1
 have b9:∀ b∈z3 v9,b<σ5.next:=λb hb=>(own5.2 b hb).2
 refine To.go ?_
 obtain ⟨tb,htb⟩:∃ tb,σ5.next=tb:=⟨_,rfl⟩
 rw [htb]
 have z:List.replicate 19 (AV.int .i64 0)=ic (arr (λ_=>0) 19):=rfl
 obtain ⟨σ6,h6⟩:∃ σ6,σ6=(σ5.bump 1).put tb (some (.rw (List.replicate 19 (.int .i64 0)))):=⟨_,rfl⟩
 rw [<- h6]
 have s56:σ5.Same σ6:=by rw [h6];exact Mem.Same.put ((Mem.Same.refl σ5).bump _) (by omega) _
 have n6:σ6.next=σ5.next+1:=by rw [h6];rfl
 have g6:σ6.get tb=some (.rw (ic (arr (λ_=>0) 19))):=by rw [h6,gS',z]
 clear h6
 refine (h9.keep (σ':=σ6) λb hb=>s56.get b (b9 b hb)).rdO.len ?_
 have s25:σ2.Same σ5:=(s23.trans s34).trans s45
 have s15:σ1.Same σ5:=s12.trans s25
 have lr:=znO l
 refine loop1 (λ(i:Nat) (y:Int) σ'=>y=i/\i<=(zeK l).length/\σ5.Same σ'/\tb<σ'.next/\σ'.get tb=some (.rw (ic (((zeK l).take i).foldl (λA r=>zk5 A r.1.toNat) (arr (λ_=>0) 19))))) (λi=>(zeK l).length-i) 0 ⟨rfl,by omega,s56.bump _,by simp only [Mem.next_bump];omega,g6⟩ ?_
 rintro i _ σ7 ⟨rfl,hi,s57,n7,g7⟩
 unfold z5p
 rw [htb]
 have lT:(((zeK l).take i).foldl (λA r=>zk5 A r.1.toNat) (arr (λ_=>0) 19)).length=19:=(z9i _ _).trans (zW _ _)
 have bT:=zdk ((zeK l).take i) _ 0 (by decide) zmO
 rw [List.length_take] at bT
 obtain ⟨T,hT⟩:∃ T,((zeK l).take i).foldl (λA r=>zk5 A r.1.toNat) (arr (λ_=>0) 19)=T:=⟨_,rfl⟩
 rw [hT] at g7 lT bT
 refine ifD (λhlt=>?_) (λhge=>?_)
 · have hir:i<(zeK l).length:=by omega
   have hor:=zjF (zmx l _ (List.getElem_mem hir))
   have eT:=z8V (λA (r:Int×Int)=>zk5 A r.1.toNat) (arr (λ_=>0) 19) hir
   rw [hT] at eT
   refine h9.rdR2 (σ':=σ7.bump 5) (λb hb=>s57.get b (b9 b hb)) hir rfl ?_
   obtain ⟨⟨c,m⟩,hr⟩:∃ r,(zeK l)[i]=r:=⟨_,rfl⟩
   rw [hr] at hor eT ⊢
   dsimp only at hor eT
   obtain ⟨x,rfl⟩:∃ x:Nat,c=x:=⟨c.toNat,by omega⟩
   rw [Int.toNat_natCast] at eT
   refine To.go ?_
   refine stn gS' (by simp) rfl rfl ?_
   obtain ⟨rb,hrb⟩:∃ rb,σ7.next+3=rb:=⟨_,rfl⟩
   obtain ⟨σ8,h8⟩:∃ σ8,σ8=((σ7.bump 5).put rb (some (.rw [.int .i64 0,.int .i64 0]))).put rb (some (.rw (setAt [.int .i64 0,.int .i64 0] 0 (rC ((x:Nat),m))))):=⟨_,rfl⟩
   rw [hrb,<- h8]
   have s78:σ7.Same σ8:=by rw [h8];repeat (with_reducible first | exact Mem.Same.refl _ | refine Mem.Same.bump ?_ _ | refine Mem.Same.put ?_ (by omega) _)
   have n8:σ8.next=σ7.next+5:=by rw [h8];rfl
   have g8:σ8.get rb=some (.rw [.int .i64 (x:Nat),.int .i64 m]):=by rw [h8,gS'];rfl
   clear h8
   have t8:=(s78.get tb n7).trans g7
   have bx:=bT.get (by omega) x
   refine To.go ?_
   refine ldrw (σ:=σ8.bump 7) (K:=λa=>zq .i64 a _) g8 (v:=.int .i64 (x:Nat)) rfl ?_
   refine rdA (i:=x) (σ:=σ8) (σ':=σ8.bump 7) t8 rfl lT (by omega) rfl ?_
   refine z6 (by omega) ?_
   refine wrA (σ:=σ8.bump 7) (i:=x) t8 lT (by omega) rfl ?_
   refine z6 (by omega) ?_
   refine again ⟨i+1,⟨by omega,by omega,Mem.Same.bump (Mem.Same.put ((s57.trans s78).bump _) (by omega) _) _,by simp only [Mem.next_put,Mem.next_bump];omega,?_⟩,by omega⟩
   rw [eT]
   exact gB gS'
 · obtain rfl:i=(zeK l).length:=by omega
   rw [List.take_length] at hT
   have hT':zel (zeK l)=T:=hT
   have nT:=zfS (rs:=zeK l) (by omega)
   rw [hT'] at nT
   refine And.intro ⟨Int.le_refl _,show (0:Int)<=((19:Nat):Int) by decide,Int.le_refl _⟩ ?_
   show z5 PG z3N [.int .i64 7,.slice tb 0 19 (.ex 19)] _ _
   refine z0 (zbM (σ:=σ7.bump 8) (L:=T) (most:=7) (.mk (by rw [lT]) ⟨_,g7,rfl⟩ (by rw [z0j,Nat.mul_one])) (by omega)) ?_
   rintro _ σ8 ⟨c,rfl,s78,h8⟩
   have s78':=s78.ob
   have n8:=s78.next
   simp only [Mem.next_bump] at n8
   rcases h8 with ⟨h,_⟩ | ⟨_,rc,bc⟩
   · exact absurd h nT
   rw [if_neg nT]
   refine z43 rfl ?_
   refine z3v rfl ?_
   have hS:limit (7:Int).toNat T=zo7 l:=by rw [<- hT'];rfl
   rw [hS] at rc
   refine To.go ?_
   obtain ⟨ob,hob⟩:∃ ob,σ8.next+1=ob:=⟨_,rfl⟩
   obtain ⟨σ9,h9'⟩:∃ σ9,σ9=(σ8.bump 4).put ob (some (.rw [.int .i64 16,.int .i64 17,.int .i64 18,.int .i64 0,.int .i64 8,.int .i64 7,.int .i64 9,.int .i64 6,.int .i64 10,.int .i64 5,.int .i64 11,.int .i64 4,.int .i64 12,.int .i64 3,.int .i64 13,.int .i64 2,.int .i64 14,.int .i64 1,.int .i64 15])):=⟨_,rfl⟩
   rw [hob,<- h9']
   have s89:σ8.Same σ9:=by rw [h9'];repeat (with_reducible first | exact Mem.Same.refl _ | refine Mem.Same.bump ?_ _ | refine Mem.Same.put ?_ (by omega) _)
   have n9:σ9.next=σ8.next+4:=by rw [h9'];rfl
   have g9:σ9.get ob=some (.rw (ic ordr)):=by rw [h9',gS'];rfl
   clear h9'
   have s59:σ5.Same σ9:=(s57.trans s78').trans s89
   have n57:=s57.next
   have n25:=s25.next
   have n15:=s15.next
   refine To.go ?_
   refine zq5 (σ:=σ9) (ob:=ob) (S:=zo7 l) (A:=zew l) (B:=zeB l) (rs:=zeK l) (l:=l) hob (by omega) g9 rfl (h0.keep λb hb=>(s15.trans s59).get b (b0 b hb).2) (λb hb=>by have:=(b0 b hb).2;omega) (h4.keep λb hb=>(s25.trans s59).get b (b4 b hb)) (λb hb=>by have:=b4 b hb;omega) (h5.keep λb hb=>(s25.trans s59).get b (b5 b hb)) (λb hb=>by have:=b5 b hb;omega) (h9.keep λb hb=>s59.get b (b9 b hb)) (λb hb=>by have:=b9 b hb;omega) (rc.c.keep λb hb=>s89.get b (bc b hb).2) (λb hb=>by have:=(bc b hb).2;omega) (znl l) (zjD l) (zfK l) (zjJ l) (zmx l) hok hll (by omega) ?_
   intro σ10 s910
   exact ⟨⟨k,hk,by rw [hl];rfl⟩,((s01.trans s15).trans s59).trans s910⟩
end Go.Vit
