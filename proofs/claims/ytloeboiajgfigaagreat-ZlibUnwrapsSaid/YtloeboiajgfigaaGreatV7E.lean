/- The library. -/
import Derived.Test.YtloeboiajgfigaaGreatV7D5
import Derived.Test.YtloeboiajgfigaaGreatV7G2
set_option linter.unusedVariables false
set_option linter.unusedSimpArgs false
section
/- Dynamic blocks, as the document tells them: the runs, and what stands behind. -/
set_option maxRecDepth 20000
namespace Go.Vit
open Go.Proofs
def zdY (σ0 σ:Mem) (w:Nat) (p:Nat×Nat) (lo hi:Nat) (L:List Int) (t:Nat):Prop:=
 ∃ o,WrR σ w o p.1 p.2/\(∀ b∈o,σ0.next<=b/\b<σ.next)/\(∀ b∈o,b<lo\/hi<=b)/\hi<=σ.next/\zd0 lo hi L σ t/\σ0.Same σ
theorem zdY.same {σ0 σ σ':Mem} {w lo hi t:Nat} {p:Nat×Nat} {L:List Int} (h:zdY σ0 σ w p lo hi L t) (s:σ.Same σ'):zdY σ0 σ' w p lo hi L t:=by
 obtain ⟨o,h1,h2,h3,h4,h5,h6⟩:=h
 exact ⟨o,h1.keep λb hb=>s.get b (h2 b hb).2,λb hb=>⟨(h2 b hb).1,Nat.lt_of_lt_of_le (h2 b hb).2 s.next⟩,h3,Nat.le_trans h4 s.next,h5.keep λb h1 h2=>s.get b (by omega),h6.trans s⟩
theorem zdY.grow {σ0 σ σ':Mem} {w lo hi t:Nat} {p':Nat×Nat} {L:List Int} {o o':List Nat} (h2:∀ b∈o,σ0.next<=b/\b<σ.next) (h3:∀ b∈o,b<lo\/hi<=b) (h4:hi<=σ.next) (h5:zd0 lo hi L σ t) (h6:σ0.Same σ) (hw:WrR σ' w o' p'.1 p'.2) (g:Grow o o' σ σ'):zdY σ0 σ' w p' lo hi L t:=by
 obtain ⟨s,hn⟩:=g.same h6 λb hb=>(h2 b hb).1
 exact ⟨o',hw,λb hb=>⟨hn b hb,g.lt b hb⟩,g.away h3 h4,Nat.le_trans h4 g.only.next,g.keepR h3 h4 h5,s⟩
theorem zdY.lay {σ0 σ:Mem} {w lo hi t:Nat} {p:Nat×Nat} {L:List Int} {x:Int} {K:AV->Mem->Prop} (h:zdY σ0 σ w p lo hi L t) (hL:lens L) (hp:p.2<=2^38)
 (hK:∀ σ',zdY σ0 σ' w (z5m L p x) lo hi L t->K (.int .i64 (zne L x)) σ') :
 z5 PG z4w [.ptr t 0,.ptr w 0,.int .i64 x] σ K:=by
 obtain ⟨o,h1,h2,h3,h4,h5,h6⟩:=h
 refine z0 (zmP (p:=p) hL h5 h4 h3 h1 (by omega)) ?_
 rintro _ σ' ⟨rfl,o',w',g⟩
 exact hK σ' (.grow h2 h3 h4 h5 h6 w' g)
theorem zdY.bits {σ0 σ:Mem} {w lo hi t n:Nat} {p:Nat×Nat} {L:List Int} {v:Int} {K:AV->Mem->Prop} (h:zdY σ0 σ w p lo hi L t) (hp:p.2<=2^38) (hv : -9223372036854775808<=v/\v<=9223372036854775807)
 (hK:∀ r σ',zdY σ0 σ' w (laP p v (n:Nat)) lo hi L t->K r σ') :
 z5 PG z23 [.ptr w 0,.int .i64 v,.int .i64 (n:Nat)] σ K:=by
 obtain ⟨o,h1,h2,h3,h4,h5,h6⟩:=h
 refine z0 (z7n h1 (by omega) hv.1 hv.2) ?_
 rintro r σ' ⟨_,o',w',g⟩
 exact hK r σ' (.grow h2 h3 h4 h5 h6 w' g)
end Go.Vit
end
section
/- Dynamic blocks, as the document tells them: what stands ahead. -/
set_option maxRecDepth 20000
namespace Go.Vit
open Go.Proofs
end Go.Vit
end
section
/- Dynamic blocks, as the document tells them: put together. -/
set_option maxRecDepth 20000
namespace Go.Vit
open Go.Proofs
end Go.Vit
end
section
/- Dynamic blocks, as the document tells them; the stream that is taken. -/
set_option maxRecDepth 20000
namespace Go.Vit
open Go.Proofs
end Go.Vit
end
