/- Dynamic blocks. -/
import Derived.Test.YtloeboiajgfigaaGreatV7D3
set_option linter.unusedVariables false
set_option linter.unusedSimpArgs false
set_option maxRecDepth 20000
namespace Go.Vit
open Go.Proofs
def zcu (l:List Tok):List Int:=tld 257 (limit 15 (lits l))
def zdz (l:List Tok):List Int:=tld 1 (limit 15 (dists l))
def zdu (l:List Tok):List (Int×Int):=runs (zcu l++zdz l)
def zoK (l:List Tok):List Int:=limit 7 (z2f (zdu l))
def zpE (l:List Tok):List Int:=tld 4 (z1x (zoK l))
def zfU (l:List Tok):Nat×Nat:=z0D (zcu l) (zdz l) ((zdu l).foldl (z0J (zoK l)) (fold3 (zpE l) (z2j (zcu l) (zdz l) (zpE l)))) l
theorem z7h (l:List Tok):(lits l).length=286:=zaI l lit0
theorem z6o (l:List Tok):(dists l).length=30:=(z8E l _).trans (zy _ _)
theorem z8U (rs:List (Int×Int)):(z2f rs).length=19:=(z59 rs _).trans (zy _ _)
theorem zdB (l:List Tok):chk (zcu l)=0:=zmQ (zek (by decide) (by decide) (by rw [z7h];decide) (Nat.le_trans (zh3 _) (by rw [z7h];decide)))
theorem zgK (l:List Tok):chk (zdz l)=0:=zmQ (zek (by decide) (by decide) (by rw [z6o];decide) (Nat.le_trans (zh3 _) (by rw [z6o];decide)))
theorem zgE (l:List Tok):chk (zoK l)=0:=zek (by decide) (by decide) (by rw [z8U];decide) (Nat.le_trans (zh3 _) (by rw [z8U];decide))
theorem zoo (l:List Tok):(zoK l).length=19:=by unfold zoK;rw [z36,z8U]
theorem zh1 (l:List Tok):257<=(zcu l).length/\(zcu l).length<=286:=by
 have e:(limit 15 (lits l)).length=286:=by rw [z36,z7h]
 exact ⟨zpt (by omega),by have:=zhO 257 (limit 15 (lits l));unfold zcu;omega⟩
theorem zhG (l:List Tok):1<=(zdz l).length/\(zdz l).length<=30:=by
 have e:(limit 15 (dists l)).length=30:=by rw [z36,z6o]
 exact ⟨zpt (by omega),by have:=zhO 1 (limit 15 (dists l));unfold zdz;omega⟩
theorem zqv (l:List Tok):∀ x∈zcu l++zdz l,0<=x/\x<=15:=by
 intro x hx
 rcases List.mem_append.1 hx with hx | hx
 · exact ((z0B (zdB l)).1).2 x hx
 · exact ((z0B (zgK l)).1).2 x hx
theorem zhQ (l:List Tok):∀ r∈zdu l,okR r:=zmU (zqv l) _ _
theorem zkR (l:List Tok):(zdu l).length<=316:=by
 have h:=zeS (L:=zcu l++zdz l) (zcu l++zdz l).length 0
 have h1:=zh1 l
 have h2:=zhG l
 rw [List.length_append] at h
 have:(zdu l).length<=(zcu l).length+(zdz l).length:=by
  show (z4L _ (zcu l++zdz l).length 0).length<=_
  rw [List.length_append];exact h
 omega
theorem zf2 {s:ByteArray} (hs:s.size<=20000) {σ:Mem} :
 z1 PG z49 [.str s] σ λv σ'=>(∃ k,Done s k/\v=.str (text (zfU (toks s k)).1 (zfU (toks s k)).2))/\σ.Same σ':=by
 refine zbt λlive=>?_
 unfold z6W
 refine z0 (zim s hs (σ.bump 4)) ?_
 rintro v0 σ1 ⟨k,hk,own1,s1⟩
 have s01:=s1.ob
 have n1:=s1.next
 simp only [Mem.next_bump] at n1
 have hle:=zdI hk
 have tl:(toks s k).length=k:=zdE s k
 have h0:=own1.1
 have b0:=own1.2
 rw [show tks s k=tkl (toks s k) from rfl,show z0g 3 σ1 v0 (tkl (toks s k)) k↔z0g 3 σ1 v0 (tkl (toks s k)) (toks s k).length from by rw [tl]] at h0
 have hok:=zbN hk
 obtain ⟨l,hl⟩:∃ l,toks s k=l:=⟨_,rfl⟩
 rw [hl] at h0 hok tl
 have hll:l.length<=2^20:=by omega
 refine z0 (zf6 (σ:=σ1.bump 7) (h0.keep λ_ _=>rfl) hok hll) ?_
 rintro _ σ2 ⟨v4,v5,rfl,h4,h5,b45,s2⟩
 have s12:=s2.ob
 have n2:=s2.next
 simp only [Mem.next_bump] at n2 b45
 refine z0O rfl ?_
 refine z0O rfl ?_
 refine z1J h4.one ?_
 refine z1J h5.one ?_
 rw [z2V h4.one,z2V h5.one]
 refine To.go ?_
 obtain ⟨σ3,h3⟩:∃ σ3,σ3=(σ2.bump 6).put (σ2.next+2) (some (.rw [v4,v5])):=⟨_,rfl⟩
 rw [show setAt (setAt [AV.nils,.nils] 0 [v4]) 1 [v5]=[v4,v5] from rfl,<- h3]
 have s23:σ2.Same σ3:=by rw [h3];repeat (with_reducible first | exact Mem.Same.refl _ | refine Mem.Same.bump ?_ _ | refine Mem.Same.put ?_ (by omega) _)
 have n3:σ3.next=σ2.next+6:=by rw [h3];rfl
 have g3:σ3.get (σ2.next+2)=some (.rw [v4,v5]):=by rw [h3,gS']
 clear h3
 have hA:zcu l=tld 257 (limit 15 (lits l)):=rfl
 have hB:zdz l=tld 1 (limit 15 (dists l)):=rfl
 rw [<- hA] at h4
 rw [<- hB] at h5
 have b4:∀ b∈z3 v4,b<σ2.next:=λb hb=>(b45 b (List.mem_append.2 (.inl hb))).2
 have b5:∀ b∈z3 v5,b<σ2.next:=λb hb=>(b45 b (List.mem_append.2 (.inr hb))).2
 have lA:=zh1 l
 have lB:=zhG l
 have hfl:[zcu l,zdz l].flatten=zcu l++zdz l:=by simp
 refine z0 (zbO (σ:=σ3) (k:=2) (Ls:=[zcu l,zdz l]) g3 rfl rfl (by omega) (by decide) (λi v M h1 h2=>?_) (by rw [hfl,List.length_append];omega)) ?_
 · match i,h1,h2 with
   | 0,h1,h2=>injection h1 with h1;injection h2 with h2;subst h1 h2;exact ⟨(h4.keep λb hb=>s23.get b (b4 b hb)).o,λb hb=>by have:=b4 b hb;omega⟩
   | 1,h1,h2=>injection h1 with h1;injection h2 with h2;subst h1 h2;exact ⟨(h5.keep λb hb=>s23.get b (b5 b hb)).o,λb hb=>by have:=b5 b hb;omega⟩
   | i+2,h1,h2=>simp at h1
 rintro v7 σ4 ⟨g4,s34⟩
 rw [hfl] at g4
 have n4:=s34.next
 refine z0 (ziH (σ:=σ4) (L:=zcu l++zdz l) g4.o (by rw [List.length_append];omega)) ?_
 rintro v9 σ5 ⟨own5,s45⟩
 have n5:=s45.next
 have h9:z0g 2 σ5 v9 (ic2 (zdu l)) (zdu l).length:=own5.1
 have b9:∀ b∈z3 v9,b<σ5.next:=λb hb=>(own5.2 b hb).2
 refine To.go ?_
 obtain ⟨tb,htb⟩:∃ tb,σ5.next=tb:=⟨_,rfl⟩
 rw [htb]
 have z:List.replicate 19 (AV.int .i64 0)=ic (arr (λ_=>0) 19):=rfl
 obtain ⟨σ6,h6⟩:∃ σ6,σ6=(σ5.bump 1).put tb (some (.rw (List.replicate 19 (.int .i64 0)))):=⟨_,rfl⟩
 rw [<- h6]
 have s56:σ5.Same σ6:=by rw [h6];exact Mem.Same.put ((Mem.Same.refl σ5).bump _) (by omega) _
 have n6:σ6.next=σ5.next+1:=by rw [h6];rfl
 have g6:σ6.get tb=some (.rw (ic (arr (λ_=>0) 19))):=by rw [h6,gS',z]
 clear h6
 refine (h9.keep (σ':=σ6) λb hb=>s56.get b (b9 b hb)).rdO.len ?_
 have s25:σ2.Same σ5:=(s23.trans s34).trans s45
 have s15:σ1.Same σ5:=s12.trans s25
 have lr:=zkR l
 refine loop1 (λ(i:Nat) (y:Int) σ'=>y=i/\i<=(zdu l).length/\σ5.Same σ'/\tb<σ'.next/\σ'.get tb=some (.rw (ic (((zdu l).take i).foldl (λA r=>zi4 A r.1.toNat) (arr (λ_=>0) 19))))) (λi=>(zdu l).length-i) 0 ⟨rfl,by omega,s56.bump _,by simp only [Mem.next_bump];omega,g6⟩ ?_
 rintro i _ σ7 ⟨rfl,hi,s57,n7,g7⟩
 unfold z4S
 rw [htb]
 have lT:(((zdu l).take i).foldl (λA r=>zi4 A r.1.toNat) (arr (λ_=>0) 19)).length=19:=(z59 _ _).trans (zy _ _)
 have bT:=zbb ((zdu l).take i) _ 0 (by decide) zk2
 rw [List.length_take] at bT
 obtain ⟨T,hT⟩:∃ T,((zdu l).take i).foldl (λA r=>zi4 A r.1.toNat) (arr (λ_=>0) 19)=T:=⟨_,rfl⟩
 rw [hT] at g7 lT bT
 refine ifD (λhlt=>?_) (λhge=>?_)
 · have hir:i<(zdu l).length:=by omega
   have hor:=zdF (zhQ l _ (List.getElem_mem hir))
   have eT:=z38 (λA (r:Int×Int)=>zi4 A r.1.toNat) (arr (λ_=>0) 19) hir
   rw [hT] at eT
   refine h9.rdR2 (σ':=σ7.bump 5) (λb hb=>s57.get b (b9 b hb)) hir rfl ?_
   obtain ⟨⟨c,m⟩,hr⟩:∃ r,(zdu l)[i]=r:=⟨_,rfl⟩
   rw [hr] at hor eT ⊢
   dsimp only at hor eT
   obtain ⟨x,rfl⟩:∃ x:Nat,c=x:=⟨c.toNat,by omega⟩
   rw [Int.toNat_natCast] at eT
   refine To.go ?_
   refine stn gS' (by simp) rfl rfl ?_
   obtain ⟨rb,hrb⟩:∃ rb,σ7.next+3=rb:=⟨_,rfl⟩
   obtain ⟨σ8,h8⟩:∃ σ8,σ8=((σ7.bump 5).put rb (some (.rw [.int .i64 0,.int .i64 0]))).put rb (some (.rw (setAt [.int .i64 0,.int .i64 0] 0 (rC ((x:Nat),m))))):=⟨_,rfl⟩
   rw [hrb,<- h8]
   have s78:σ7.Same σ8:=by rw [h8];repeat (with_reducible first | exact Mem.Same.refl _ | refine Mem.Same.bump ?_ _ | refine Mem.Same.put ?_ (by omega) _)
   have n8:σ8.next=σ7.next+5:=by rw [h8];rfl
   have g8:σ8.get rb=some (.rw [.int .i64 (x:Nat),.int .i64 m]):=by rw [h8,gS'];rfl
   clear h8
   have t8:=(s78.get tb n7).trans g7
   have bx:=bT.get (by omega) x
   refine To.go ?_
   refine ldrw (σ:=σ8.bump 7) (K:=λa=>zB .i64 a _) g8 (v:=.int .i64 (x:Nat)) rfl ?_
   refine rdA (i:=x) (σ:=σ8) (σ':=σ8.bump 7) t8 rfl lT (by omega) rfl ?_
   refine z5 (by omega) ?_
   refine wrA (σ:=σ8.bump 7) (i:=x) t8 lT (by omega) rfl ?_
   refine z5 (by omega) ?_
   refine again ⟨i+1,⟨by omega,by omega,Mem.Same.bump (Mem.Same.put ((s57.trans s78).bump _) (by omega) _) _,by simp only [Mem.next_put,Mem.next_bump];omega,?_⟩,by omega⟩
   rw [eT]
   exact gB gS'
 · obtain rfl:i=(zdu l).length:=by omega
   rw [List.take_length] at hT
   have hT':z2f (zdu l)=T:=hT
   have nT:=zaT (rs:=zdu l) (by omega)
   rw [hT'] at nT
   refine And.intro ⟨Int.le_refl _,show (0:Int)<=((19:Nat):Int) by decide,Int.le_refl _⟩ ?_
   show z6 PG z3m [.int .i64 7,.slice tb 0 19 (.ex 19)] _ _
   refine z0 (zcm (σ:=σ7.bump 8) (L:=T) (most:=7) (.mk (by rw [lT]) ⟨_,g7,rfl⟩ (by rw [z0f,Nat.mul_one])) (by omega)) ?_
   rintro _ σ8 ⟨c,rfl,s78,h8⟩
   have s78':=s78.ob
   have n8:=s78.next
   simp only [Mem.next_bump] at n8
   rcases h8 with ⟨h,_⟩ | ⟨_,rc,bc⟩
   · exact absurd h nT
   rw [if_neg nT]
   refine z0O rfl ?_
   refine z04 rfl ?_
   have hS:limit (7:Int).toNat T=zoK l:=by rw [<- hT'];rfl
   rw [hS] at rc
   refine To.go ?_
   obtain ⟨ob,hob⟩:∃ ob,σ8.next+1=ob:=⟨_,rfl⟩
   obtain ⟨σ9,h9'⟩:∃ σ9,σ9=(σ8.bump 4).put ob (some (.rw [.int .i64 16,.int .i64 17,.int .i64 18,.int .i64 0,.int .i64 8,.int .i64 7,.int .i64 9,.int .i64 6,.int .i64 10,.int .i64 5,.int .i64 11,.int .i64 4,.int .i64 12,.int .i64 3,.int .i64 13,.int .i64 2,.int .i64 14,.int .i64 1,.int .i64 15])):=⟨_,rfl⟩
   rw [hob,<- h9']
   have s89:σ8.Same σ9:=by rw [h9'];repeat (with_reducible first | exact Mem.Same.refl _ | refine Mem.Same.bump ?_ _ | refine Mem.Same.put ?_ (by omega) _)
   have n9:σ9.next=σ8.next+4:=by rw [h9'];rfl
   have g9:σ9.get ob=some (.rw (ic ordr)):=by rw [h9',gS'];rfl
   clear h9'
   have s59:σ5.Same σ9:=(s57.trans s78').trans s89
   have n57:=s57.next
   have n25:=s25.next
   have n15:=s15.next
   refine To.go ?_
   refine zqE (σ:=σ9) (ob:=ob) (S:=zoK l) (A:=zcu l) (B:=zdz l) (rs:=zdu l) (l:=l) hob (by omega) g9 rfl (h0.keep λb hb=>(s15.trans s59).get b (b0 b hb).2) (λb hb=>by have:=(b0 b hb).2;omega) (h4.keep λb hb=>(s25.trans s59).get b (b4 b hb)) (λb hb=>by have:=b4 b hb;omega) (h5.keep λb hb=>(s25.trans s59).get b (b5 b hb)) (λb hb=>by have:=b5 b hb;omega) (h9.keep λb hb=>s59.get b (b9 b hb)) (λb hb=>by have:=b9 b hb;omega) (rc.c.keep λb hb=>s89.get b (bc b hb).2) (λb hb=>by have:=(bc b hb).2;omega) (zoo l) (zgE l) (zdB l) (zgK l) (zhQ l) hok hll (by omega) ?_
   intro σ10 s910
   exact ⟨⟨k,hk,by rw [hl];rfl⟩,((s01.trans s15).trans s59).trans s910⟩
end Go.Vit
