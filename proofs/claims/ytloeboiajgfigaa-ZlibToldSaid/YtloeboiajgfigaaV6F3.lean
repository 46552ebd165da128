/- What streams of bytes say. -/
import Derived.Test.YtloeboiajgfigaaV6F2
set_option linter.unusedVariables false
set_option linter.unusedSimpArgs false
set_option linter.unusedSimpArgs false
set_option maxRecDepth 20000
namespace Go.Vit
open Go.Proofs
theorem aw_done0:Done ⟨#[]⟩ 0:=by unfold Done;decide +kernel
theorem aw_stored0:(tx (stored ⟨#[]⟩)).size=5:=by decide +kernel
theorem aw_fixed0:tx (fixedP (toks ⟨#[]⟩ 0))=⟨#[3,0]⟩:=by decide +kernel
theorem layRun_ge {L:List Int} (hL:lens L) (p:Nat×Nat) (r:Int×Int):p.2<=(layRun L p r).2:=by
 have h:=layS_two hL p r.1
 have h2:=laP_two (layS L p r.1) r.2 (n:=2) (by decide)
 have h3:=laP_two (layS L p r.1) r.2 (n:=3) (by decide)
 have h7:=laP_two (layS L p r.1) r.2 (n:=7) (by decide)
 rw [show ((2:Nat):Int)=2 from rfl] at h2
 rw [show ((3:Nat):Int)=3 from rfl] at h3
 rw [show ((7:Nat):Int)=7 from rfl] at h7
 unfold layRun
 split
 · omega
 · split
   · omega
   · split<;>omega
theorem runs_ge {L:List Int} (hL:lens L):∀ (l:List (Int×Int)) (p:Nat×Nat),p.2<=(l.foldl (layRun L) p).2
 | [],p=>Nat.le_refl _
 | r::l,p=>Nat.le_trans (layRun_ge hL p r) (runs_ge hL l _)
theorem dyn_ge:17<=(dynP []).2:=by
 have hS:lens (smaL []):=(chk_room (smaL_chk [])).1
 have hL:lens (litL []):=(chk_room (litL_chk [])).1
 have h1:=fold3_two (ordL []) (dynHead (litL []) (farL []) (ordL []))
 rw [dynHead_two] at h1
 have h2:=runs_ge hS (runL []) (fold3 (ordL []) (dynHead (litL []) (farL []) (ordL [])))
 have h3:=(layS_two hL ((runL []).foldl (layRun (smaL [])) (fold3 (ordL []) (dynHead (litL []) (farL []) (ordL [])))) 256).2
 unfold dynP layToks
 rw [List.foldl_nil]
 omega
theorem aw_best0:best3 ⟨#[]⟩ 0=⟨#[3,0]⟩:=by
 unfold best3
 have h5:=aw_stored0
 have h17:=dyn_ge
 have ht:toks ⟨#[]⟩ 0=[]:=rfl
 have hd:(tx (dynP [])).size=((dynP []).2+7) / 8:=size_text _ _
 rw [aw_fixed0,ht]
 have e:best2 (tx (stored ⟨#[]⟩)) ⟨#[3,0]⟩=⟨#[3,0]⟩:=by
  unfold best2
  rw [if_pos (show (⟨#[3,0]⟩:ByteArray).size<_ by rw [h5];decide)]
 rw [e]
 unfold best2
 rw [if_neg]
 rw [hd,show (⟨#[3,0]⟩:ByteArray).size=2 from rfl]
 omega
theorem tpS_of {l:List AV} {i:Nat} {x:ByteArray} {K:ByteArray->Prop} (h:l[i]? = some (.str x)) (hk:K x):tpS (.tup l) i K:=by
 show optW l[i]? fun a=>castS a K
 rw [h];exact hk
def Back (s x:ByteArray):Prop:=x.size<=2^30/\∃ k,∀ F t,k<=F->∃ q,rInfl (s.size:Nat) F (x++t) 0=.ok (bytesL s,q)/\(q+7) / 8=x.size
theorem back_of {s:ByteArray} {p:Nat×Nat} {k:Nat} (hp:p.2<=2^32) (h:∀ F,k<=F->Says (rInfl (s.size:Nat) F) (0,0) (bytesL s) p):Back s (text p.1 p.2):=
 ⟨by rw [size_text];omega,k,fun F t hF=>⟨p.2,(h F hF).all (.infl _ _) t,(size_text _ _).symm⟩⟩
theorem toks_fine {s:ByteArray} {k:Nat} (hs:s.size<=20000) (hk:Done s k):(∀ t∈toks s k,okT t)/\exp [] (toks s k)=(s,0)/\(toks s k).length<=20000:=
 ⟨toks_okT hk,exp_toks hk,by have:=done_len hk;rw [toks_len];omega⟩
theorem back_stored {s:ByteArray} (hs:s.size<=20000):Back s (text (stored s).1 (stored s).2)/\(text (stored s).1 (stored s).2).size=s.size+5:=by
 have h2:(stored s).2=40+8*s.size:=by
  unfold stored storedF
  rw [if_pos (by omega)]
  unfold stB
  have h3:=laP_two (0,0) (lastB s.size s:Nat) (n:=3) (by decide)
  rw [show ((3:Nat):Int)=3 from rfl] at h3
  rw [laS_two,laS_two,h3,show (hdB s.size).size=4 from rfl,size_extract]
  omega
 refine ⟨back_of (k:=1) (by omega) fun F hF=>says_stored (Int.le_refl _) (by omega) (by omega),?_⟩
 rw [size_text];omega
theorem back_fixed {s:ByteArray} {k:Nat} (hs:s.size<=20000) (hk:Done s k):Back s (text (fixedP (toks s k)).1 (fixedP (toks s k)).2):=by
 obtain ⟨h1,h2,h3⟩:=toks_fine hs hk
 refine back_of (k:=20001) ?_ fun F hF=>says_fixed (Int.le_refl _) h1 h2 (by omega)
 have a:=fold_two fixL_lens fixD_lens (l:=toks s k) (laP (0,0) 3 3) h1
 have b:=(layS_two fixL_lens ((toks s k).foldl (layTok fixL fixD) (laP (0,0) 3 3)) 256).1
 have c:(laP (0,0) 3 3).2=3:=rfl
 unfold fixedP layToks
 omega
theorem back_dyn {s:ByteArray} {k:Nat} (hs:s.size<=20000) (hk:Done s k):Back s (text (dynP (toks s k)).1 (dynP (toks s k)).2):=by
 obtain ⟨h1,h2,h3⟩:=toks_fine hs hk
 refine back_of (k:=20001) ?_ fun F hF=>says_dyn (Int.le_refl _) h1 h2 (by omega)
 obtain ⟨l,hl⟩:∃ l,toks s k=l:=⟨_,rfl⟩
 rw [hl] at h1 h3 ⊢
 have hL:lens (litL l):=(chk_room (litL_chk l)).1
 have hD:lens (farL l):=(chk_room (farL_chk l)).1
 have hS:lens (smaL l):=(chk_room (smaL_chk l)).1
 have e1:=fold3_two (ordL l) (dynHead (litL l) (farL l) (ordL l))
 rw [dynHead_two] at e1
 have e2:=runs_two hS (runL l) (fold3 (ordL l) (dynHead (litL l) (farL l) (ordL l)))
 have lr:=runL_len l
 have lo:=(ord_cut (S:=smaL l) (O:=ordL l) rfl).2.2.2
 obtain ⟨q,hq⟩:∃ q,(runL l).foldl (layRun (smaL l)) (fold3 (ordL l) (dynHead (litL l) (farL l) (ordL l)))=q:=⟨_,rfl⟩
 have a:=fold_two hL hD (l:=l) q h1
 have b:=(layS_two hL (l.foldl (layTok (litL l) (farL l)) q) 256).1
 unfold dynP layToks
 rw [hq] at e2 ⊢
 omega
theorem best2_cases {P:ByteArray->Prop} {a b:ByteArray} (ha:P a) (hb:P b):P (best2 a b):=by
 unfold best2;split<;>assumption
end Go.Vit
