/- Dynamic blocks. -/
import Derived.Test.YtloeboiajgfigaaV6D3
set_option linter.unusedVariables false
set_option linter.unusedSimpArgs false
set_option linter.unusedSimpArgs false
set_option maxRecDepth 20000
namespace Go.Vit
open Go.Proofs
def litL (l:List Tok):List Int:=tld 257 (limit 15 (lits l))
def farL (l:List Tok):List Int:=tld 1 (limit 15 (dists l))
def runL (l:List Tok):List (Int×Int):=runs (litL l++farL l)
def smaL (l:List Tok):List Int:=limit 7 (timesOf (runL l))
def ordL (l:List Tok):List Int:=tld 4 (ordOf (smaL l))
def dynP (l:List Tok):Nat×Nat:=layToks (litL l) (farL l) ((runL l).foldl (layRun (smaL l)) (fold3 (ordL l) (dynHead (litL l) (farL l) (ordL l)))) l
theorem lits_length (l:List Tok):(lits l).length=286:=lits_len l lit0
theorem dists_length (l:List Tok):(dists l).length=30:=(dists_len l _).trans (arr_len _ _)
theorem times_length (rs:List (Int×Int)):(timesOf rs).length=19:=(timesF_len rs _).trans (arr_len _ _)
theorem litL_chk (l:List Tok):chk (litL l)=0:=chk_tld (limit_chk (by decide) (by decide) (by rw [lits_length];decide) (Nat.le_trans (coins_le _) (by rw [lits_length];decide)))
theorem farL_chk (l:List Tok):chk (farL l)=0:=chk_tld (limit_chk (by decide) (by decide) (by rw [dists_length];decide) (Nat.le_trans (coins_le _) (by rw [dists_length];decide)))
theorem smaL_chk (l:List Tok):chk (smaL l)=0:=limit_chk (by decide) (by decide) (by rw [times_length];decide) (Nat.le_trans (coins_le _) (by rw [times_length];decide))
theorem smaL_len (l:List Tok):(smaL l).length=19:=by unfold smaL;rw [limit_len,times_length]
theorem litL_len (l:List Tok):257<=(litL l).length/\(litL l).length<=286:=by
 have e:(limit 15 (lits l)).length=286:=by rw [limit_len,lits_length]
 exact ⟨tld_ge (by omega),by have:=tld_len 257 (limit 15 (lits l));unfold litL;omega⟩
theorem farL_len (l:List Tok):1<=(farL l).length/\(farL l).length<=30:=by
 have e:(limit 15 (dists l)).length=30:=by rw [limit_len,dists_length]
 exact ⟨tld_ge (by omega),by have:=tld_len 1 (limit 15 (dists l));unfold farL;omega⟩
theorem both_ok (l:List Tok):∀ x∈litL l++farL l,0<=x/\x<=15:=by
 intro x hx
 rcases List.mem_append.1 hx with hx | hx
 · exact ((chk_room (litL_chk l)).1).2 x hx
 · exact ((chk_room (farL_chk l)).1).2 x hx
theorem runL_ok (l:List Tok):∀ r∈runL l,okR r:=runs_ok (both_ok l) _ _
theorem runL_len (l:List Tok):(runL l).length<=316:=by
 have h:=runs_len_le (L:=litL l++farL l) (litL l++farL l).length 0
 have h1:=litL_len l
 have h2:=farL_len l
 rw [List.length_append] at h
 have:(runL l).length<=(litL l).length+(farL l).length:=by
  show (runsF _ (litL l++farL l).length 0).length<=_
  rw [List.length_append];exact h
 omega
theorem deflate_Dynamic {s:ByteArray} (hs:s.size<=20000) {σ:Mem} :
 ACalls PG n_deflate_Dynamic [.str s] σ fun v σ'=>(∃ k,Done s k/\v=.str (text (dynP (toks s k)).1 (dynP (toks s k)).2))/\σ.Same σ':=by
 refine ok_deflate_Dynamic fun live=>?_
 unfold F_deflate_Dynamic
 refine callW_of (lz_Tokens s hs (σ.bump 4)) ?_
 rintro v0 σ1 ⟨k,hk,own1,s1⟩
 have s01:=s1.ob
 have n1:=s1.next
 simp only [Mem.next_bump] at n1
 have hle:=done_len hk
 have tl:(toks s k).length=k:=toks_len s k
 have h0:=own1.1
 have b0:=own1.2
 rw [show tks s k=tkl (toks s k) from rfl,show OwnS 3 σ1 v0 (tkl (toks s k)) k↔OwnS 3 σ1 v0 (tkl (toks s k)) (toks s k).length from by rw [tl]] at h0
 have hok:=toks_okT hk
 obtain ⟨l,hl⟩:∃ l,toks s k=l:=⟨_,rfl⟩
 rw [hl] at h0 hok tl
 have hll:l.length<=2^20:=by omega
 refine callW_of (deflate_lengths (σ:=σ1.bump 7) (h0.keep fun _ _=>rfl) hok hll) ?_
 rintro _ σ2 ⟨v4,v5,rfl,h4,h5,b45,s2⟩
 have s12:=s2.ob
 have n2:=s2.next
 simp only [Mem.next_bump] at n2 b45
 refine tupW_of rfl ?_
 refine tupW_of rfl ?_
 refine cellOkW_one h4.one ?_
 refine cellOkW_one h5.one ?_
 rw [one_cells h4.one,one_cells h5.one]
 refine To.go ?_
 obtain ⟨σ3,h3⟩:∃ σ3,σ3=(σ2.bump 6).put (σ2.next+2) (some (.rw [v4,v5])):=⟨_,rfl⟩
 rw [show setAt (setAt [AV.nils,.nils] 0 [v4]) 1 [v5]=[v4,v5] from rfl,<- h3]
 have s23:σ2.Same σ3:=by rw [h3];repeat (with_reducible first | exact Mem.Same.refl _ | refine Mem.Same.bump ?_ _ | refine Mem.Same.put ?_ (by omega) _)
 have n3:σ3.next=σ2.next+6:=by rw [h3];rfl
 have g3:σ3.get (σ2.next+2)=some (.rw [v4,v5]):=by rw [h3,gS']
 clear h3
 have hA:litL l=tld 257 (limit 15 (lits l)):=rfl
 have hB:farL l=tld 1 (limit 15 (dists l)):=rfl
 rw [<- hA] at h4
 rw [<- hB] at h5
 have b4:∀ b∈blkOf v4,b<σ2.next:=fun b hb=>(b45 b (List.mem_append.2 (.inl hb))).2
 have b5:∀ b∈blkOf v5,b<σ2.next:=fun b hb=>(b45 b (List.mem_append.2 (.inr hb))).2
 have lA:=litL_len l
 have lB:=farL_len l
 have hfl:[litL l,farL l].flatten=litL l++farL l:=by simp
 refine callW_of (slices_Concat (σ:=σ3) (k:=2) (Ls:=[litL l,farL l]) g3 rfl rfl (by omega) (by decide) (fun i v M h1 h2=>?_) (by rw [hfl,List.length_append];omega)) ?_
 · match i,h1,h2 with
   | 0,h1,h2=>injection h1 with h1;injection h2 with h2;subst h1 h2;exact ⟨(h4.keep fun b hb=>s23.get b (b4 b hb)).o,fun b hb=>by have:=b4 b hb;omega⟩
   | 1,h1,h2=>injection h1 with h1;injection h2 with h2;subst h1 h2;exact ⟨(h5.keep fun b hb=>s23.get b (b5 b hb)).o,fun b hb=>by have:=b5 b hb;omega⟩
   | i+2,h1,h2=>simp at h1
 rintro v7 σ4 ⟨g4,s34⟩
 rw [hfl] at g4
 have n4:=s34.next
 refine callW_of (deflate_Runs (σ:=σ4) (L:=litL l++farL l) g4.o (by rw [List.length_append];omega)) ?_
 rintro v9 σ5 ⟨own5,s45⟩
 have n5:=s45.next
 have h9:OwnS 2 σ5 v9 (ic2 (runL l)) (runL l).length:=own5.1
 have b9:∀ b∈blkOf v9,b<σ5.next:=fun b hb=>(own5.2 b hb).2
 refine To.go ?_
 obtain ⟨tb,htb⟩:∃ tb,σ5.next=tb:=⟨_,rfl⟩
 rw [htb]
 have z:List.replicate 19 (AV.int .i64 0)=ic (arr (fun _=>0) 19):=rfl
 obtain ⟨σ6,h6⟩:∃ σ6,σ6=(σ5.bump 1).put tb (some (.rw (List.replicate 19 (.int .i64 0)))):=⟨_,rfl⟩
 rw [<- h6]
 have s56:σ5.Same σ6:=by rw [h6];exact Mem.Same.put ((Mem.Same.refl σ5).bump _) (by omega) _
 have n6:σ6.next=σ5.next+1:=by rw [h6];rfl
 have g6:σ6.get tb=some (.rw (ic (arr (fun _=>0) 19))):=by rw [h6,gS',z]
 clear h6
 refine (h9.keep (σ':=σ6) fun b hb=>s56.get b (b9 b hb)).rdO.len ?_
 have s25:σ2.Same σ5:=(s23.trans s34).trans s45
 have s15:σ1.Same σ5:=s12.trans s25
 have lr:=runL_len l
 refine loop1 (fun (i:Nat) (y:Int) σ'=>y=i/\i<=(runL l).length/\σ5.Same σ'/\tb<σ'.next/\σ'.get tb=some (.rw (ic (((runL l).take i).foldl (fun A r=>addS A r.1.toNat) (arr (fun _=>0) 19))))) (fun i=>(runL l).length-i) 0 ⟨rfl,by omega,s56.bump _,by simp only [Mem.next_bump];omega,g6⟩ ?_
 rintro i _ σ7 ⟨rfl,hi,s57,n7,g7⟩
 unfold F_deflate_Dynamic_l1
 rw [htb]
 have lT:(((runL l).take i).foldl (fun A r=>addS A r.1.toNat) (arr (fun _=>0) 19)).length=19:=(timesF_len _ _).trans (arr_len _ _)
 have bT:=timesF_bd ((runL l).take i) _ 0 (by decide) tim0_bd
 rw [List.length_take] at bT
 obtain ⟨T,hT⟩:∃ T,((runL l).take i).foldl (fun A r=>addS A r.1.toNat) (arr (fun _=>0) 19)=T:=⟨_,rfl⟩
 rw [hT] at g7 lT bT
 refine ifD (fun hlt=>?_) (fun hge=>?_)
 · have hir:i<(runL l).length:=by omega
   have hor:=okR_code (runL_ok l _ (List.getElem_mem hir))
   have eT:=take_fold (fun A (r:Int×Int)=>addS A r.1.toNat) (arr (fun _=>0) 19) hir
   rw [hT] at eT
   refine h9.rdR2 (σ':=σ7.bump 5) (fun b hb=>s57.get b (b9 b hb)) hir rfl ?_
   obtain ⟨⟨c,m⟩,hr⟩:∃ r,(runL l)[i]=r:=⟨_,rfl⟩
   rw [hr] at hor eT ⊢
   dsimp only at hor eT
   obtain ⟨x,rfl⟩:∃ x:Nat,c=x:=⟨c.toNat,by omega⟩
   rw [Int.toNat_natCast] at eT
   refine To.go ?_
   refine stn gS' (by simp) rfl rfl ?_
   obtain ⟨rb,hrb⟩:∃ rb,σ7.next+3=rb:=⟨_,rfl⟩
   obtain ⟨σ8,h8⟩:∃ σ8,σ8=((σ7.bump 5).put rb (some (.rw [.int .i64 0,.int .i64 0]))).put rb (some (.rw (setAt [.int .i64 0,.int .i64 0] 0 (rC ((x:Nat),m))))):=⟨_,rfl⟩
   rw [hrb,<- h8]
   have s78:σ7.Same σ8:=by rw [h8];repeat (with_reducible first | exact Mem.Same.refl _ | refine Mem.Same.bump ?_ _ | refine Mem.Same.put ?_ (by omega) _)
   have n8:σ8.next=σ7.next+5:=by rw [h8];rfl
   have g8:σ8.get rb=some (.rw [.int .i64 (x:Nat),.int .i64 m]):=by rw [h8,gS'];rfl
   clear h8
   have t8:=(s78.get tb n7).trans g7
   have bx:=bT.get (by omega) x
   refine To.go ?_
   refine ldrw (σ:=σ8.bump 7) (K:=fun a=>castI .i64 a _) g8 (v:=.int .i64 (x:Nat)) rfl ?_
   refine rdA (i:=x) (σ:=σ8) (σ':=σ8.bump 7) t8 rfl lT (by omega) rfl ?_
   refine iW_of (by omega) ?_
   refine wrA (σ:=σ8.bump 7) (i:=x) t8 lT (by omega) rfl ?_
   refine iW_of (by omega) ?_
   refine again ⟨i+1,⟨by omega,by omega,Mem.Same.bump (Mem.Same.put ((s57.trans s78).bump _) (by omega) _) _,by simp only [Mem.next_put,Mem.next_bump];omega,?_⟩,by omega⟩
   rw [eT]
   exact gB gS'
 · obtain rfl:i=(runL l).length:=by omega
   rw [List.take_length] at hT
   have hT':timesOf (runL l)=T:=hT
   have nT:=times_not_bad (rs:=runL l) (by omega)
   rw [hT'] at nT
   refine And.intro ⟨Int.le_refl _,show (0:Int)<=((19:Nat):Int) by decide,Int.le_refl _⟩ ?_
   show callW PG n_huff_Limit [.int .i64 7,.slice tb 0 19 (.ex 19)] _ _
   refine callW_of (huff_Limit (σ:=σ7.bump 8) (L:=T) (most:=7) (.mk (by rw [lT]) ⟨_,g7,rfl⟩ (by rw [ic_len,Nat.mul_one])) (by omega)) ?_
   rintro _ σ8 ⟨c,rfl,s78,h8⟩
   have s78':=s78.ob
   have n8:=s78.next
   simp only [Mem.next_bump] at n8
   rcases h8 with ⟨h,_⟩ | ⟨_,rc,bc⟩
   · exact absurd h nT
   rw [if_neg nT]
   refine tupW_of rfl ?_
   refine tpI_of rfl ?_
   have hS:limit (7:Int).toNat T=smaL l:=by rw [<- hT'];rfl
   rw [hS] at rc
   refine To.go ?_
   obtain ⟨ob,hob⟩:∃ ob,σ8.next+1=ob:=⟨_,rfl⟩
   obtain ⟨σ9,h9'⟩:∃ σ9,σ9=(σ8.bump 4).put ob (some (.rw [.int .i64 16,.int .i64 17,.int .i64 18,.int .i64 0,.int .i64 8,.int .i64 7,.int .i64 9,.int .i64 6,.int .i64 10,.int .i64 5,.int .i64 11,.int .i64 4,.int .i64 12,.int .i64 3,.int .i64 13,.int .i64 2,.int .i64 14,.int .i64 1,.int .i64 15])):=⟨_,rfl⟩
   rw [hob,<- h9']
   have s89:σ8.Same σ9:=by rw [h9'];repeat (with_reducible first | exact Mem.Same.refl _ | refine Mem.Same.bump ?_ _ | refine Mem.Same.put ?_ (by omega) _)
   have n9:σ9.next=σ8.next+4:=by rw [h9'];rfl
   have g9:σ9.get ob=some (.rw (ic ordr)):=by rw [h9',gS'];rfl
   clear h9'
   have s59:σ5.Same σ9:=(s57.trans s78').trans s89
   have n57:=s57.next
   have n25:=s25.next
   have n15:=s15.next
   refine To.go ?_
   refine dyn_l2 (σ:=σ9) (ob:=ob) (S:=smaL l) (A:=litL l) (B:=farL l) (rs:=runL l) (l:=l) hob (by omega) g9 rfl (h0.keep fun b hb=>(s15.trans s59).get b (b0 b hb).2) (fun b hb=>by have:=(b0 b hb).2;omega) (h4.keep fun b hb=>(s25.trans s59).get b (b4 b hb)) (fun b hb=>by have:=b4 b hb;omega) (h5.keep fun b hb=>(s25.trans s59).get b (b5 b hb)) (fun b hb=>by have:=b5 b hb;omega) (h9.keep fun b hb=>s59.get b (b9 b hb)) (fun b hb=>by have:=b9 b hb;omega) (rc.c.keep fun b hb=>s89.get b (bc b hb).2) (fun b hb=>by have:=(bc b hb).2;omega) (smaL_len l) (smaL_chk l) (litL_chk l) (farL_chk l) (runL_ok l) hok hll (by omega) ?_
   intro σ10 s910
   exact ⟨⟨k,hk,by rw [hl];rfl⟩,((s01.trans s15).trans s59).trans s910⟩
end Go.Vit
