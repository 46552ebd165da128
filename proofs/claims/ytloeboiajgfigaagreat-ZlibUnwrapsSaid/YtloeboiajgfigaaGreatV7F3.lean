/- What streams of bytes say. -/
import Derived.Test.YtloeboiajgfigaaGreatV7F2
set_option linter.unusedVariables false
set_option linter.unusedSimpArgs false
set_option maxRecDepth 20000
namespace Go.Vit
open Go.Proofs
theorem zod:Done ⟨#[]⟩ 0:=by unfold Done;decide +kernel
theorem zkr:(tx (stored ⟨#[]⟩)).size=5:=by decide +kernel
theorem zme:tx (zcn (toks ⟨#[]⟩ 0))=⟨#[3,0]⟩:=by decide +kernel
theorem zmQ {L:List Int} (hL:lens L) (p:Nat×Nat) (r:Int×Int):p.2<=(z3G L p r).2:=by
 have h:=z3V hL p r.1
 have h2:=z1Z (z5m L p r.1) r.2 (n:=2) (by decide)
 have h3:=z1Z (z5m L p r.1) r.2 (n:=3) (by decide)
 have h7:=z1Z (z5m L p r.1) r.2 (n:=7) (by decide)
 rw [show ((2:Nat):Int)=2 from rfl] at h2
 rw [show ((3:Nat):Int)=3 from rfl] at h3
 rw [show ((7:Nat):Int)=7 from rfl] at h7
 unfold z3G
 split
 · omega
 · split
   · omega
   · split<;>omega
theorem zmf {L:List Int} (hL:lens L):∀ (l:List (Int×Int)) (p:Nat×Nat),p.2<=(l.foldl (z3G L) p).2
 | [],p=>Nat.le_refl _
 | r::l,p=>Nat.le_trans (zmQ hL p r) (zmf hL l _)
theorem zq6:17<=(znf []).2:=by
 have hS:lens (zo7 []):=(z2p (zjD [])).1
 have hL:lens (zew []):=(z2p (zfK [])).1
 have h1:=zdb (zot []) (z7u (zew []) (zeB []) (zot []))
 rw [zei] at h1
 have h2:=zmf hS (zeK []) (fold3 (zot []) (z7u (zew []) (zeB []) (zot [])))
 have h3:=(z3V hL ((zeK []).foldl (z3G (zo7 [])) (fold3 (zot []) (z7u (zew []) (zeB []) (zot [])))) 256).2
 unfold znf z42
 rw [List.foldl_nil]
 omega
theorem znF:best3 ⟨#[]⟩ 0=⟨#[3,0]⟩:=by
 unfold best3
 have h5:=zkr
 have h17:=zq6
 have ht:toks ⟨#[]⟩ 0=[]:=rfl
 have hd:(tx (znf [])).size=((znf []).2+7) / 8:=z5X _ _
 rw [zme,ht]
 have e:best2 (tx (stored ⟨#[]⟩)) ⟨#[3,0]⟩=⟨#[3,0]⟩:=by
  unfold best2
  rw [if_pos (show (⟨#[3,0]⟩:ByteArray).size<_ by rw [h5];decide)]
 rw [e]
 unfold best2
 rw [if_neg]
 rw [hd,show (⟨#[3,0]⟩:ByteArray).size=2 from rfl]
 omega
theorem zba {l:List AV} {i:Nat} {x:ByteArray} {K:ByteArray->Prop} (h:l[i]? = some (.str x)) (hk:K x):tpS (.tup l) i K:=by
 show z4t l[i]? λa=>z5t a K
 rw [h];exact hk
theorem ziN {s:ByteArray} (hs:s.size<=20000):(text (stored s).1 (stored s).2).size=s.size+5:=by
 have h2:(stored s).2=40+8*s.size:=by
  unfold stored z5d
  rw [if_pos (by omega)]
  unfold stB
  have h3:=z1Z (0,0) (zcL s.size s:Nat) (n:=3) (by decide)
  rw [show ((3:Nat):Int)=3 from rfl] at h3
  rw [zeu,zeu,h3,show (hdB s.size).size=4 from rfl,size_extract]
  omega
 rw [z5X];omega
theorem zeq (a b:ByteArray):(best2 a b).size<=a.size:=by
 unfold best2;split<;>omega
end Go.Vit
