/- What the laws ask of the program awake; the arguments. -/
import Derived.Test.YtcliekhikcaoiaaV5D5
set_option linter.unusedVariables false
set_option linter.unusedSimpArgs false
set_option linter.unusedSimpArgs false
set_option maxRecDepth 20000
set_option maxRecDepth 20000
namespace Go.Vit
open Go.Proofs
def awL:List Int:=[0,0,0,0,0,0,0,0,0,0,0,0,8,8,8,8,5]
theorem aw_runs:runs awL=[(18,1),(8,0),(16,0),(5,0)]:=by decide +kernel
theorem aw_stored:text (stored ⟨#[97,98]⟩).1 (stored ⟨#[97,98]⟩).2=⟨#[1,2,0,253,255,97,98]⟩:=by decide +kernel
theorem aw_done1:Done ⟨#[97]⟩ 1:=by unfold Done;decide +kernel
theorem aw_done0:Done ⟨#[]⟩ 0:=by unfold Done;decide +kernel
theorem aw_fixed1:text (fixedP (toks ⟨#[97]⟩ 1)).1 (fixedP (toks ⟨#[97]⟩ 1)).2=⟨#[75,4,0]⟩:=by decide +kernel
theorem aw_stored0:(tx (stored ⟨#[]⟩)).size=5:=by decide +kernel
theorem aw_fixed0:tx (fixedP (toks ⟨#[]⟩ 0))=⟨#[3,0]⟩:=by decide +kernel
theorem layRun_ge {L:List Int} (hL:lens L) (p:Nat×Nat) (r:Int×Int):p.2<=(layRun L p r).2:=by
 have h:=layS_two hL p r.1
 have h2:=laP_two (layS L p r.1) r.2 (n:=2) (by decide)
 have h3:=laP_two (layS L p r.1) r.2 (n:=3) (by decide)
 have h7:=laP_two (layS L p r.1) r.2 (n:=7) (by decide)
 rw [show ((2:Nat):Int)=2 from rfl] at h2
 rw [show ((3:Nat):Int)=3 from rfl] at h3
 rw [show ((7:Nat):Int)=7 from rfl] at h7
 unfold layRun
 split
 · omega
 · split
   · omega
   · split<;>omega
theorem runs_ge {L:List Int} (hL:lens L):∀ (l:List (Int×Int)) (p:Nat×Nat),p.2<=(l.foldl (layRun L) p).2
 | [],p=>Nat.le_refl _
 | r::l,p=>Nat.le_trans (layRun_ge hL p r) (runs_ge hL l _)
theorem dyn_ge:17<=(dynP []).2:=by
 have hS:lens (smaL []):=(chk_room (smaL_chk [])).1
 have hL:lens (litL []):=(chk_room (litL_chk [])).1
 have h1:=fold3_two (ordL []) (dynHead (litL []) (farL []) (ordL []))
 rw [dynHead_two] at h1
 have h2:=runs_ge hS (runL []) (fold3 (ordL []) (dynHead (litL []) (farL []) (ordL [])))
 have h3:=(layS_two hL ((runL []).foldl (layRun (smaL [])) (fold3 (ordL []) (dynHead (litL []) (farL []) (ordL [])))) 256).2
 unfold dynP layToks
 rw [List.foldl_nil]
 omega
theorem aw_best0:best3 ⟨#[]⟩ 0=⟨#[3,0]⟩:=by
 unfold best3
 have h5:=aw_stored0
 have h17:=dyn_ge
 have ht:toks ⟨#[]⟩ 0=[]:=rfl
 have hd:(tx (dynP [])).size=((dynP []).2+7) / 8:=size_text _ _
 rw [aw_fixed0,ht]
 have e:best2 (tx (stored ⟨#[]⟩)) ⟨#[3,0]⟩=⟨#[3,0]⟩:=by
  unfold best2
  rw [if_pos (show (⟨#[3,0]⟩:ByteArray).size<_ by rw [h5];decide)]
 rw [e]
 unfold best2
 rw [if_neg]
 rw [hd,show (⟨#[3,0]⟩:ByteArray).size=2 from rfl]
 omega
theorem awR {σ:Mem} {v:AV} {R:List (Int×Int)} {c m:Int} {i:Nat} {K:Bool->Prop} (h:OwnS 2 σ v (ic2 R) R.length) (hi:i<R.length) (hr:R[i]=(c,m)) {j:Int} (hj:j=(i:Nat)) {n:Nat} (hk:K true) :
 idxW 2 v j fun p=>ldnW 2 (σ.bump n) p fun a=>eqW (.flat [(0,1),(1,1)]) a (.agg [.int .i64 c,.int .i64 m]) K:=by
 refine h.rdR2 (σ':=σ.bump n) (fun _ _=>rfl) hi hj ?_
 rw [hr]
 unfold rC
 refine To.go ?_
 refine To.go ?_
 repeat (first | refine To.go ?_ | ((with_reducible apply opt);(· (rfl))))
 simpa using hk
theorem law05_awake (σ:Mem):ACalls PG n_law05_awake [] σ fun v σ'=>v=.bool true/\σ.Same σ':=by
 refine ok_law05_awake fun live=>?_
 unfold F_law05_awake
 refine To.go ?_
 obtain ⟨b,hb⟩:∃ b,σ.next+1=b:=⟨_,rfl⟩
 obtain ⟨σ1,h1⟩:∃ σ1,σ1=(σ.bump 4).put b (some (.rw (List.replicate 12 (.int .i64 0)++[.int .i64 8,.int .i64 8,.int .i64 8,.int .i64 8]++[.int .i64 5]))):=⟨_,rfl⟩
 rw [hb,<- h1]
 have g1:σ1.get b=some (.rw (ic awL)):=by rw [h1,gS'];rfl
 have s1:σ.Same σ1:=by rw [h1];exact Mem.Same.put ((Mem.Same.refl σ).bump _) (by omega) _
 clear h1
 refine callW_of (deflate_Runs (σ:=σ1) (L:=awL) (.mk rfl ⟨_,g1,rfl⟩ rfl) (by decide)) ?_
 rintro v σ2 ⟨own,s2⟩
 rw [aw_runs] at own
 have h2:=own.1
 refine h2.rdO.len ?_
 refine ifT (by decide) ?_
 refine awR h2 (i:=0) (by decide) rfl rfl ?_
 refine ifT (p:=True) trivial ?_
 refine awR h2 (i:=1) (by decide) rfl rfl ?_
 refine ifT (p:=True) trivial ?_
 refine awR h2 (i:=2) (by decide) rfl rfl ?_
 refine ifT (p:=True) trivial ?_
 refine awR h2 (i:=3) (by decide) rfl rfl ?_
 refine ifT (p:=True) trivial ?_
 refine callW_of (deflate_Stored (s:=⟨#[97,98]⟩) (by decide)) ?_
 rintro _ σ3 ⟨rfl,s3⟩
 refine To.go ?_
 rw [aw_stored]
 refine ifT (by decide) ?_
 refine callW_of (deflate_Fixed (s:=⟨#[97]⟩) (by decide)) ?_
 rintro _ σ4 ⟨⟨k,hk,rfl⟩,s4⟩
 obtain rfl:=done_unique hk aw_done1
 refine To.go ?_
 rw [aw_fixed1]
 refine ifT (by decide) ?_
 refine callW_of (deflate_Deflate (s:=⟨#[]⟩) (by decide)) ?_
 rintro _ σ5 ⟨⟨k,hk',rfl⟩,s5⟩
 obtain rfl:=done_unique hk' aw_done0
 refine To.go ?_
 rw [aw_best0]
 exact ⟨rfl,(((s1.trans s2).trans s3.ob).trans s4).trans s5⟩
theorem law05_few (s:ByteArray) (σ:Mem):ACalls PG n_law05_few [.str s] σ fun v σ'=>v=.bool (decide ((s.size:Int)<=10000))/\σ.Same σ':=by
 refine ok_law05_few fun live=>?_
 unfold F_law05_few
 exact ⟨rfl,(Mem.Same.refl σ).bump _⟩
theorem args_s {σ:Mem} {l:List AV} (hw:Wts PG σ [9] l):∃ s,l=[.str s]/\s.size<=reachBytes:=by
 obtain ⟨s,r,rfl,hs,hw⟩:=hw.str (by kernel_rfl)
 obtain rfl:=hw.nil_inv
 exact ⟨s,rfl,hs⟩
end Go.Vit
