/- The law DeflateBack. -/
import Derived.Test.YtcliekhikcaoiaaV5F2
import Derived.Test.YtcliekhikcaoiaaV5LA
set_option linter.unusedVariables false
set_option linter.unusedSimpArgs false
set_option linter.unusedSimpArgs false
set_option maxRecDepth 20000
set_option maxRecDepth 20000
namespace Go.Vit
open Go.Proofs
theorem tpS_of {l : List AV} {i : Nat} {x : ByteArray} {K : ByteArray -> Prop} (h : l[i]? = some (.str x)) (hk : K x) : tpS (.tup l) i K:=by
 show optW l[i]? fun a => castS a K
 rw [h]; exact hk
def Back (s x : ByteArray) : Prop:=x.size <= 2 ^ 30 /\ ∃ k,∀ F t,k <= F -> ∃ q,rInfl (s.size : Nat) F (x ++ t) 0 = .ok (bytesL s,q) /\ (q + 7) / 8 = x.size
theorem back_of {s : ByteArray} {p : Nat × Nat} {k : Nat} (hp : p.2 <= 2 ^ 32) (h : ∀ F,k <= F -> Says (rInfl (s.size : Nat) F) (0,0) (bytesL s) p) : Back s (text p.1 p.2) :=
 ⟨by rw [size_text]; omega,k,fun F t hF => ⟨p.2,(h F hF).all (.infl _ _) t,(size_text _ _).symm⟩⟩
theorem toks_fine {s : ByteArray} {k : Nat} (hs : s.size <= 20000) (hk : Done s k) : (∀ t ∈ toks s k,okT t) /\ exp [] (toks s k) = (s,0) /\ (toks s k).length <= 20000 :=
 ⟨toks_okT hk,exp_toks hk,by have:=done_len hk; rw [toks_len]; omega⟩
theorem back_stored {s : ByteArray} (hs : s.size <= 20000) : Back s (text (stored s).1 (stored s).2) /\ (text (stored s).1 (stored s).2).size = s.size + 5:=by
 have h2 : (stored s).2 = 40 + 8 * s.size:=by
  unfold stored storedF
  rw [if_pos (by omega)]
  unfold stB
  have h3:=laP_two (0,0) (lastB s.size s : Nat) (n:=3) (by decide)
  rw [show ((3 : Nat) : Int) = 3 from rfl] at h3
  rw [laS_two,laS_two,h3,show (hdB s.size).size = 4 from rfl,size_extract]
  omega
 refine ⟨back_of (k:=1) (by omega) fun F hF => says_stored (Int.le_refl _) (by omega) (by omega),?_⟩
 rw [size_text]; omega
theorem back_fixed {s : ByteArray} {k : Nat} (hs : s.size <= 20000) (hk : Done s k) : Back s (text (fixedP (toks s k)).1 (fixedP (toks s k)).2):=by
 obtain ⟨h1,h2,h3⟩:=toks_fine hs hk
 refine back_of (k:=20001) ?_ fun F hF => says_fixed (Int.le_refl _) h1 h2 (by omega)
 have a:=fold_two fixL_lens fixD_lens (l:=toks s k) (laP (0,0) 3 3) h1
 have b:=(layS_two fixL_lens ((toks s k).foldl (layTok fixL fixD) (laP (0,0) 3 3)) 256).1
 have c : (laP (0,0) 3 3).2 = 3:=rfl
 unfold fixedP layToks
 omega
theorem back_dyn {s : ByteArray} {k : Nat} (hs : s.size <= 20000) (hk : Done s k) : Back s (text (dynP (toks s k)).1 (dynP (toks s k)).2):=by
 obtain ⟨h1,h2,h3⟩:=toks_fine hs hk
 refine back_of (k:=20001) ?_ fun F hF => says_dyn (Int.le_refl _) h1 h2 (by omega)
 obtain ⟨l,hl⟩ : ∃ l,toks s k = l:=⟨_,rfl⟩
 rw [hl] at h1 h3 ⊢
 have hL : lens (litL l):=(chk_room (litL_chk l)).1
 have hD : lens (farL l):=(chk_room (farL_chk l)).1
 have hS : lens (smaL l):=(chk_room (smaL_chk l)).1
 have e1:=fold3_two (ordL l) (dynHead (litL l) (farL l) (ordL l))
 rw [dynHead_two] at e1
 have e2:=runs_two hS (runL l) (fold3 (ordL l) (dynHead (litL l) (farL l) (ordL l)))
 have lr:=runL_len l
 have lo:=(ord_cut (S:=smaL l) (O:=ordL l) rfl).2.2.2
 obtain ⟨q,hq⟩ : ∃ q,(runL l).foldl (layRun (smaL l)) (fold3 (ordL l) (dynHead (litL l) (farL l) (ordL l))) = q:=⟨_,rfl⟩
 have a:=fold_two hL hD (l:=l) q h1
 have b:=(layS_two hL (l.foldl (layTok (litL l) (farL l)) q) 256).1
 unfold dynP layToks
 rw [hq] at e2 ⊢
 omega
theorem best2_cases {P : ByteArray -> Prop} {a b : ByteArray} (ha : P a) (hb : P b) : P (best2 a b):=by
 unfold best2; split <;> assumption
theorem best2_least (a b : ByteArray) : (best2 a b).size <= a.size:=by
 unfold best2; split <;> omega
theorem law05_DeflateBack (σ : Mem) (l : List AV) (_ : σ.Ro) (hw : Wts PG σ Try.f9.params.toList l) : ACalls PG n_law05_DeflateBack l σ fun v _ => isTrue v:=by
 obtain ⟨s,t,rfl,hs,ht⟩:=args_ss (show Wts PG σ [9,9] l by rw [Try.params9] at hw; exact hw)
 clear hw
 rw [reach_eq] at hs ht
 refine ok_law05_DeflateBack fun live => ?_
 unfold F_law05_DeflateBack
 refine callW_of (law05_few s _) ?_
 rintro _ σ1 ⟨rfl,s1⟩
 refine To.go ?_
 by_cases h : (s.size : Int) <= 10000
 · rw [decide_eq_true h]
   refine ifF (p:=False) id ?_
   refine callW_of (deflate_Stored (s:=s) (by omega)) ?_
   rintro _ σ2 ⟨rfl,s2⟩
   refine To.go ?_
   refine callW_of (deflate_Fixed (s:=s) (by omega)) ?_
   rintro _ σ3 ⟨⟨k,hk,rfl⟩,s3⟩
   refine To.go ?_
   refine callW_of (deflate_Dynamic (s:=s) (by omega)) ?_
   rintro _ σ4 ⟨⟨k',hk',rfl⟩,s4⟩
   obtain rfl:=done_unique hk hk'
   refine To.go ?_
   refine callW_of (deflate_Deflate (s:=s) (by omega)) ?_
   rintro _ σ5 ⟨⟨k',hk',rfl⟩,s5⟩
   obtain rfl:=done_unique hk hk'
   refine To.go ?_
   obtain ⟨bA,lA⟩:=back_stored (s:=s) (by omega)
   have bB:=back_fixed (s:=s) (by omega) hk
   have bC:=back_dyn (s:=s) (by omega) hk
   obtain ⟨A,hA⟩ : ∃ A,text (stored s).1 (stored s).2 = A:=⟨_,rfl⟩
   obtain ⟨B,hB⟩ : ∃ B,text (fixedP (toks s k)).1 (fixedP (toks s k)).2 = B:=⟨_,rfl⟩
   obtain ⟨C,hC⟩ : ∃ C,text (dynP (toks s k)).1 (dynP (toks s k)).2 = C:=⟨_,rfl⟩
   have e : best3 s k = best2 (best2 A B) C:=by unfold best3 tx; rw [hA,hB,hC]
   rw [hA] at bA lA ⊢
   rw [hB] at bB ⊢
   rw [hC] at bC ⊢
   rw [e]
   have bD : Back s (best2 (best2 A B) C):=best2_cases (best2_cases bA bB) bC
   have lD : (best2 (best2 A B) C).size <= s.size + 5:=by
    have h1:=best2_least (best2 A B) C
    have h2:=best2_least A B
    omega
   obtain ⟨D,hD⟩ : ∃ D,best2 (best2 A B) C = D:=⟨_,rfl⟩
   rw [hD] at bD lD ⊢
   refine To.go ?_
   obtain ⟨b,hb⟩ : ∃ b,σ1.next + 8 = b:=⟨_,rfl⟩
   obtain ⟨σ6,h6⟩ : ∃ σ6,σ6 = σ5.put b (some (.rw [.str A,.str B,.str C,.str D])):=⟨_,rfl⟩
   rw [hb,<- h6]
   have g6 : σ6.get b = some (.rw [.str A,.str B,.str C,.str D]):=by rw [h6,gS']
   have n2:=s2.next
   have n3:=s3.next
   have n4:=s4.next
   have n5:=s5.next
   have n6 : σ6.next = σ5.next:=by rw [h6]; rfl
   simp only [Mem.next_bump] at n2
   clear h6
   refine loop1 (fun (i : Nat) (y : Int) σ' => y = i /\ i <= 4 /\ σ6.Same σ') (fun i => 4 - i) 0 ⟨rfl,by omega,(Mem.Same.refl σ6).bump _⟩ ?_
   rintro i _ σ7 ⟨rfl,hi,s7⟩
   unfold F_law05_DeflateBack_l1
   rw [hb]
   have n7:=s7.next
   have g7:=(s7.get b (by omega)).trans g6
   refine To.go ?_
   refine ifD (fun hlt => ?_) (fun hge => ?_)
   · obtain ⟨x,hx,bx⟩ : ∃ x,[AV.str A,.str B,.str C,.str D][i]? = some (.str x) /\ Back s x:=by
      have hi4 : i = 0 \/ i = 1 \/ i = 2 \/ i = 3:=by omega
      rcases hi4 with rfl | rfl | rfl | rfl
      · exact ⟨A,rfl,bA⟩
      · exact ⟨B,rfl,bB⟩
      · exact ⟨C,rfl,bC⟩
      · exact ⟨D,rfl,bD⟩
     obtain ⟨bz,kk,bx⟩:=bx
     refine rdStr (σ:=σ7.bump 20) (i:=i) g7 (by omega) hx rfl ?_
     have hz:=size_append x t
     refine And.intro (by omega) ?_
     obtain ⟨q,hq,hq8⟩:=bx (8 * (x ++ t).size + 1 + kk) t (by omega)
     refine callW_of (inflate_Inflate (s:=x ++ t) (most:=(s.size : Nat)) (F:=8 * (x ++ t).size + 1 + kk) (by omega) (by omega) (by omega)) ?_
     rintro _ σ8 ⟨rfl,s8⟩
     have s8':=s8.ob
     have g8:=(s8'.get b (by omega)).trans g7
     rw [hq]
     unfold inflR
     dsimp only
     rw [hq8,show (⟨(bytesL s).toArray⟩ : ByteArray) = s from mk_bytesL s]
     refine tpS_of rfl ?_
     refine tpI_of rfl ?_
     refine tpI_of rfl ?_
     refine ifF (not_not_intro rfl) ?_
     refine ifF (not_not_intro rfl) ?_
     refine rdStr (σ:=σ8.bump 16) (i:=i) g8 (by omega) hx rfl ?_
     refine ifF (not_not_intro rfl) ?_
     refine iW_of (by omega) ?_
     exact again ⟨i + 1,⟨by omega,by omega,(s7.trans s8').bump _⟩,by omega⟩
   · refine rdStr (σ:=σ7.bump 16) (i:=3) g7 (by decide) rfl rfl ?_
     refine iW_of (by omega) ?_
     refine ifT (by omega) ?_
     refine callW_of (law05_awake _) ?_
     rintro v σ8 ⟨rfl,_⟩
     exact rfl
 · rw [decide_eq_false h]
   refine ifT (p:=True) trivial ?_
   refine callW_of (law05_awake _) ?_
   rintro v σ2 ⟨rfl,_⟩
   exact rfl
end Go.Vit
