/- What streams of bytes say. -/
import Derived.Test.YtloeboiajgfigaaGreatV7F2
set_option linter.unusedVariables false
set_option linter.unusedSimpArgs false
set_option maxRecDepth 20000
namespace Go.Vit
open Go.Proofs
theorem zoU:Done ⟨#[]⟩ 0:=by unfold Done;decide +kernel
theorem zlS:(tx (stored ⟨#[]⟩)).size=5:=by decide +kernel
theorem zmW:tx (z7X (toks ⟨#[]⟩ 0))=⟨#[3,0]⟩:=by decide +kernel
theorem znh {L:List Int} (hL:lens L) (p:Nat×Nat) (r:Int×Int):p.2<=(z0J L p r).2:=by
 have h:=z1K hL p r.1
 have h2:=z0E (z3V L p r.1) r.2 (n:=2) (by decide)
 have h3:=z0E (z3V L p r.1) r.2 (n:=3) (by decide)
 have h7:=z0E (z3V L p r.1) r.2 (n:=7) (by decide)
 rw [show ((2:Nat):Int)=2 from rfl] at h2
 rw [show ((3:Nat):Int)=3 from rfl] at h3
 rw [show ((7:Nat):Int)=7 from rfl] at h7
 unfold z0J
 split
 · omega
 · split
   · omega
   · split<;>omega
theorem zn2 {L:List Int} (hL:lens L):∀ (l:List (Int×Int)) (p:Nat×Nat),p.2<=(l.foldl (z0J L) p).2
 | [],p=>Nat.le_refl _
 | r::l,p=>Nat.le_trans (znh hL p r) (zn2 hL l _)
theorem zr7:17<=(zfU []).2:=by
 have hS:lens (zoK []):=(z0B (zgE [])).1
 have hL:lens (zcu []):=(z0B (zdB [])).1
 have h1:=z8T (zpE []) (z2j (zcu []) (zdz []) (zpE []))
 rw [z7x] at h1
 have h2:=zn2 hS (zdu []) (fold3 (zpE []) (z2j (zcu []) (zdz []) (zpE [])))
 have h3:=(z1K hL ((zdu []).foldl (z0J (zoK [])) (fold3 (zpE []) (z2j (zcu []) (zdz []) (zpE [])))) 256).2
 unfold zfU z0D
 rw [List.foldl_nil]
 omega
theorem zp0:best3 ⟨#[]⟩ 0=⟨#[3,0]⟩:=by
 unfold best3
 have h5:=zlS
 have h17:=zr7
 have ht:toks ⟨#[]⟩ 0=[]:=rfl
 have hd:(tx (zfU [])).size=((zfU []).2+7) / 8:=z5d _ _
 rw [zmW,ht]
 have e:best2 (tx (stored ⟨#[]⟩)) ⟨#[3,0]⟩=⟨#[3,0]⟩:=by
  unfold best2
  rw [if_pos (show (⟨#[3,0]⟩:ByteArray).size<_ by rw [h5];decide)]
 rw [e]
 unfold best2
 rw [if_neg]
 rw [hd,show (⟨#[3,0]⟩:ByteArray).size=2 from rfl]
 omega
theorem zid {l:List AV} {i:Nat} {x:ByteArray} {K:ByteArray->Prop} (h:l[i]? = some (.str x)) (hk:K x):tpS (.tup l) i K:=by
 show z48 l[i]? λa=>z3i a K
 rw [h];exact hk
theorem zkn {s:ByteArray} (hs:s.size<=20000):(text (stored s).1 (stored s).2).size=s.size+5:=by
 have h2:(stored s).2=40+8*s.size:=by
  unfold stored z44
  rw [if_pos (by omega)]
  unfold stB
  have h3:=z0E (0,0) (z57 s.size s:Nat) (n:=3) (by decide)
  rw [show ((3:Nat):Int)=3 from rfl] at h3
  rw [zep,zep,h3,show (hdB s.size).size=4 from rfl,size_extract]
  omega
 rw [z5d];omega
theorem ze6 (a b:ByteArray):(best2 a b).size<=a.size:=by
 unfold best2;split<;>omega
end Go.Vit
