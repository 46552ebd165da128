/- The laws of a stream, in plain words. -/
import Derived.Test.YtloeboiajgfigaaGreatV7F3
import Derived.Test.YtloeboiajgfigaaGreatVm3
set_option linter.unusedVariables false
set_option linter.unusedSimpArgs false
set_option maxRecDepth 20000
namespace Go.Vit
open Go.Proofs
/-! ### Two bounds -/
def Bo (M:Int) (m m':Rd (List UInt8)) (out:List UInt8):Prop:=∀ s p a q,m' s p=.ok (a,q)->out.length<=a.length /\
 ((out=[]\/(out.length:Int)<=M)->(m s p=.ok (a,q)/\(a=[]\/(a.length:Int)<=M))\/(m s p=.error 5/\M<a.length))
section
variable {α:Type} {M M':Int} {m m':Rd (List UInt8)} {out:List UInt8}
theorem Bo.pure:Bo M (z0i out) (z0i out) out:=by
 intro s p a q h
 injection h with h
 obtain ⟨rfl,rfl⟩:=Prod.mk.inj h
 exact ⟨Nat.le_refl _,λhg=>.inl ⟨rfl,hg⟩⟩
theorem Bo.fail {e:Int}:Bo M m (z5a e) out:=by
 intro s p a q h
 exact absurd h (by simp [z5a])
theorem Bo.pre {g:Rd α} {k k':α->Rd (List UInt8)} (h:∀ x,Bo M (k x) (k' x) out):Bo M (zi g k) (zi g k') out:=by
 intro s p a q e
 cases e1:g s p with
 | error z=>rw [za e1] at e;exact absurd e (by simp)
 | ok y=>
   obtain ⟨x,r⟩:=y
   rw [z9 e1] at e
   rw [z9 e1]
   exact h x s r a q e
theorem Bo.seq {k k':List UInt8->Rd (List UInt8)} (h0:Bo M m m' out) (h:∀ x,Bo M (k x) (k' x) x):Bo M (zi m k) (zi m' k') out:=by
 intro s p a q e
 cases e1:m' s p with
 | error z=>rw [za e1] at e;exact absurd e (by simp)
 | ok y=>
   obtain ⟨x,r⟩:=y
   rw [z9 e1] at e
   obtain ⟨h1,h2⟩:=h0 s p x r e1
   obtain ⟨h3,h4⟩:=h x s r a q e
   refine ⟨Nat.le_trans h1 h3,λhg=>?_⟩
   rcases h2 hg with ⟨e2,hg'⟩ | ⟨e2,hlt⟩
   · rw [z9 e2];exact h4 hg'
   · rw [za e2];exact .inr ⟨rfl,by omega⟩
theorem Bo.ite {c:Prop} [Decidable c] {a b a' b':Rd (List UInt8)} (h1:c->Bo M a a' out) (h2:¬ c->Bo M b b' out):Bo M (if c then a else b) (if c then a' else b') out:=by
 by_cases h:c
 · rw [if_pos h,if_pos h];exact h1 h
 · rw [if_neg h,if_neg h];exact h2 h
theorem Bo.room {k k':Unit->Rd (List UInt8)} {n:Nat} {out':List UInt8} (_:M<=M') (hl:out'.length=out.length+n) (h:Bo M (k ()) (k' ()) out') (h1:1<=n\/out'=out):Bo M (zi (z4K M out n) k) (zi (z4K M' out n) k') out:=by
 intro s p a q e
 by_cases hr:M'-out.length<n
 · rw [za (e:=5) (by unfold z4K;rw [if_pos hr];rfl)] at e
   exact absurd e (by simp)
 · rw [z9 (a:=()) (q:=p) (by unfold z4K;rw [if_neg hr];rfl)] at e
   obtain ⟨h2,h3⟩:=h s p a q e
   refine ⟨by omega,λhg=>?_⟩
   by_cases hr':M-out.length<n
   · rw [za (e:=5) (by unfold z4K;rw [if_pos hr'];rfl)]
     exact .inr ⟨rfl,by omega⟩
   · rw [z9 (a:=()) (q:=p) (by unfold z4K;rw [if_neg hr'];rfl)]
     exact h3 (.inr (by omega))
end
section
variable {M M':Int}
theorem zh {α β γ:Type} (m:Rd α) (f:α->Rd β) (g:β->Rd γ):zi (zi m f) g=zi m λa=>zi (f a) g:=by
 funext s p
 unfold zi
 cases m s p with
 | error e=>rfl
 | ok y=>rfl
theorem Bo.stored (h:M<=M') (out:List UInt8):Bo M (z6L M out) (z6L M' out) out:=by
 refine .pre λn=>.pre λk=>.ite (λ_=>.fail) λ_=>?_
 intro s p a q e
 cases e1:z34 n s p with
 | error z=>rw [za e1] at e;exact absurd e (by simp)
 | ok y=>
   obtain ⟨b,r⟩:=y
   rw [z9 e1] at e
   rw [z9 e1]
   have hb:(zI b).length=n:=by
    rw [zL]
    unfold z34 at e1
    split at e1
    · exact absurd e1 (by simp)
    · injection e1 with e1
      rw [<- (Prod.mk.inj e1).1,size_extract];omega
   exact Bo.room h (n:=n) (out':=out++zI b) (by rw [List.length_append,hb]) .pure (by
    by_cases h0:1<=n
    · exact .inl h0
    · right;rw [List.length_eq_zero_iff.1 (show (zI b).length=0 by omega),List.append_nil]) s r a q e
theorem zo2 {c:Nat} {s:ByteArray} {p n q:Nat} (h:zmW c s p=.ok (n,q)):1<=n:=by
 unfold zmW at h
 split at h
 · exact absurd h (by simp [z5a])
 split at h
 · injection h with h;rw [<- (Prod.mk.inj h).1];decide
 split at h
 · injection h with h;rw [<- (Prod.mk.inj h).1];omega
 · cases e1:zZ ((c-257) / 4-1) s p with
   | error z=>rw [za e1] at h;exact absurd h (by simp)
   | ok y=>
     obtain ⟨v,r⟩:=y
     rw [z9 e1] at h
     injection h with h;rw [<- (Prod.mk.inj h).1];omega
theorem Bo.mtch (h:M<=M') (D:List Int) (c:Nat) (out:List UInt8):Bo M (zaL M D c out) (zaL M' D c out) out:=by
 unfold zaL
 intro s p a q e
 cases e1:zmW c s p with
 | error z=>rw [za e1] at e;exact absurd e (by simp)
 | ok y=>
   obtain ⟨n,r⟩:=y
   rw [z9 e1] at e
   rw [z9 e1]
   have hn:=zo2 e1
   have:Bo M (zi (z3o D) λf=>zi (zcQ f.toNat) λd=>if out.length<d then z5a 15 else zi (z4K M out n) λ_=>z0i (z4X out d n)) (zi (z3o D) λf=>zi (zcQ f.toNat) λd=>if out.length<d then z5a 15 else zi (z4K M' out n) λ_=>z0i (z4X out d n)) out:=
    .pre λf=>.pre λd=>.ite (λ_=>.fail) λ_=>.room h (out':=z4X out d n) (zbp out d n) .pure (.inl hn)
   exact this s r a q e
theorem Bo.syms (h:M<=M') (L D:List Int):∀ (f:Nat) (out:List UInt8),Bo M (z9u M L D f out) (z9u M' L D f out) out
 | 0,_=>.fail
 | f+1,out=>.pre λ_=>.ite (λ_=>.room h (n:=1) (by simp) (Bo.syms h L D f _) (.inl (Nat.le_refl _))) λ_=>.ite (λ_=>.pure) λ_=>.seq (.mtch h D _ out) λx=>Bo.syms h L D f x
theorem Bo.codes (h:M<=M') (F:Nat) (L D:List Int) (out:List UInt8):Bo M (z8z M F L D out) (z8z M' F L D out) out:=
 .pre λ_=>.pre λ_=>.syms h _ _ _ _
theorem Bo.block (h:M<=M') (F:Nat) (kind:Int) (out:List UInt8):Bo M (zb6 M F kind out) (zb6 M' F kind out) out:=
 .ite (λ_=>.stored h _) λ_=>.ite (λ_=>.codes h _ _ _ _) λ_=>.ite (λ_=>.pre λ_=>.codes h _ _ _ _) λ_=>.fail
theorem Bo.blocks (h:M<=M') (F:Nat):∀ (f:Nat) (out:List UInt8),Bo M (z6P M F f out) (z6P M' F f out) out
 | 0,_=>.fail
 | f+1,out=>.pre λ_=>.seq (.block h _ _ _) λx=>.ite (λ_=>.pure) λ_=>Bo.blocks h F f x
theorem Bo.infl (h:M<=M') (F:Nat):Bo M (za6 M F) (za6 M' F) []:=.blocks h _ _ _
end
theorem zgK {M:Int} {F p q:Nat} {s:ByteArray} {a:List UInt8} (h:za6 M F s p=.ok (a,q)):a=[]\/(a.length:Int)<=M:=by
 obtain ⟨_,h2⟩:=Bo.infl (Int.le_refl M) F s p a q h
 rcases h2 (.inl rfl) with ⟨_,h⟩ | ⟨e,_⟩
 · exact h
 · rw [h] at e;exact absurd e (by simp)
end Go.Vit
