/- The laws of a stream, in plain words. -/
import Derived.Test.YtloeboiajgfigaaV6F3
import Derived.Test.YtloeboiajgfigaaVm3
set_option linter.unusedVariables false
set_option linter.unusedSimpArgs false
set_option linter.unusedSimpArgs false
set_option maxRecDepth 20000
namespace Go.Vit
open Go.Proofs
/-! ### Two bounds -/
def Bo (M:Int) (m m':Rd (List UInt8)) (out:List UInt8):Prop:=∀ s p a q,m' s p=.ok (a,q)->out.length<=a.length /\
 ((out=[]\/(out.length:Int)<=M)->(m s p=.ok (a,q)/\(a=[]\/(a.length:Int)<=M))\/(m s p=.error 5/\M<a.length))
section
variable {α:Type} {M M':Int} {m m':Rd (List UInt8)} {out:List UInt8}
theorem Bo.pure:Bo M (rPure out) (rPure out) out:=by
 intro s p a q h
 injection h with h
 obtain ⟨rfl,rfl⟩:=Prod.mk.inj h
 exact ⟨Nat.le_refl _,fun hg=>.inl ⟨rfl,hg⟩⟩
theorem Bo.fail {e:Int}:Bo M m (rFail e) out:=by
 intro s p a q h
 exact absurd h (by simp [rFail])
theorem Bo.pre {g:Rd α} {k k':α->Rd (List UInt8)} (h:∀ x,Bo M (k x) (k' x) out):Bo M (rBind g k) (rBind g k') out:=by
 intro s p a q e
 cases e1:g s p with
 | error z=>rw [rBind_er e1] at e;exact absurd e (by simp)
 | ok y=>
   obtain ⟨x,r⟩:=y
   rw [rBind_ok e1] at e
   rw [rBind_ok e1]
   exact h x s r a q e
theorem Bo.seq {k k':List UInt8->Rd (List UInt8)} (h0:Bo M m m' out) (h:∀ x,Bo M (k x) (k' x) x):Bo M (rBind m k) (rBind m' k') out:=by
 intro s p a q e
 cases e1:m' s p with
 | error z=>rw [rBind_er e1] at e;exact absurd e (by simp)
 | ok y=>
   obtain ⟨x,r⟩:=y
   rw [rBind_ok e1] at e
   obtain ⟨h1,h2⟩:=h0 s p x r e1
   obtain ⟨h3,h4⟩:=h x s r a q e
   refine ⟨Nat.le_trans h1 h3,fun hg=>?_⟩
   rcases h2 hg with ⟨e2,hg'⟩ | ⟨e2,hlt⟩
   · rw [rBind_ok e2];exact h4 hg'
   · rw [rBind_er e2];exact .inr ⟨rfl,by omega⟩
theorem Bo.ite {c:Prop} [Decidable c] {a b a' b':Rd (List UInt8)} (h1:c->Bo M a a' out) (h2:¬ c->Bo M b b' out):Bo M (if c then a else b) (if c then a' else b') out:=by
 by_cases h:c
 · rw [if_pos h,if_pos h];exact h1 h
 · rw [if_neg h,if_neg h];exact h2 h
theorem Bo.room {k k':Unit->Rd (List UInt8)} {n:Nat} {out':List UInt8} (_:M<=M') (hl:out'.length=out.length+n) (h:Bo M (k ()) (k' ()) out') (h1:1<=n\/out'=out):Bo M (rBind (rRoom M out n) k) (rBind (rRoom M' out n) k') out:=by
 intro s p a q e
 by_cases hr:M'-out.length<n
 · rw [rBind_er (e:=5) (by unfold rRoom;rw [if_pos hr];rfl)] at e
   exact absurd e (by simp)
 · rw [rBind_ok (a:=()) (q:=p) (by unfold rRoom;rw [if_neg hr];rfl)] at e
   obtain ⟨h2,h3⟩:=h s p a q e
   refine ⟨by omega,fun hg=>?_⟩
   by_cases hr':M-out.length<n
   · rw [rBind_er (e:=5) (by unfold rRoom;rw [if_pos hr'];rfl)]
     exact .inr ⟨rfl,by omega⟩
   · rw [rBind_ok (a:=()) (q:=p) (by unfold rRoom;rw [if_neg hr'];rfl)]
     exact h3 (.inr (by omega))
end
section
variable {M M':Int}
theorem Bo.stored (h:M<=M') (out:List UInt8):Bo M (rStored M out) (rStored M' out) out:=by
 refine .pre fun n=>.pre fun k=>.ite (fun _=>.fail) fun _=>?_
 intro s p a q e
 cases e1:rBytes n s p with
 | error z=>rw [rBind_er e1] at e;exact absurd e (by simp)
 | ok y=>
   obtain ⟨b,r⟩:=y
   rw [rBind_ok e1] at e
   rw [rBind_ok e1]
   have hb:(bytesL b).length=n:=by
    rw [bytesL_length]
    unfold rBytes at e1
    split at e1
    · exact absurd e1 (by simp)
    · injection e1 with e1
      rw [<- (Prod.mk.inj e1).1,size_extract];omega
   exact Bo.room h (n:=n) (out':=out++bytesL b) (by rw [List.length_append,hb]) .pure (by
    by_cases h0:1<=n
    · exact .inl h0
    · right;rw [List.length_eq_zero_iff.1 (show (bytesL b).length=0 by omega),List.append_nil]) s r a q e
theorem rLen_pos {c:Nat} {s:ByteArray} {p n q:Nat} (h:rLen c s p=.ok (n,q)):1<=n:=by
 unfold rLen at h
 split at h
 · exact absurd h (by simp [rFail])
 split at h
 · injection h with h;rw [<- (Prod.mk.inj h).1];decide
 split at h
 · injection h with h;rw [<- (Prod.mk.inj h).1];omega
 · cases e1:rBits ((c-257) / 4-1) s p with
   | error z=>rw [rBind_er e1] at h;exact absurd h (by simp)
   | ok y=>
     obtain ⟨v,r⟩:=y
     rw [rBind_ok e1] at h
     injection h with h;rw [<- (Prod.mk.inj h).1];omega
theorem Bo.mtch (h:M<=M') (D:List Int) (c:Nat) (out:List UInt8):Bo M (rMatch M D c out) (rMatch M' D c out) out:=by
 unfold rMatch
 intro s p a q e
 cases e1:rLen c s p with
 | error z=>rw [rBind_er e1] at e;exact absurd e (by simp)
 | ok y=>
   obtain ⟨n,r⟩:=y
   rw [rBind_ok e1] at e
   rw [rBind_ok e1]
   have hn:=rLen_pos e1
   have:Bo M (rBind (rNext D) fun f=>rBind (rDist f.toNat) fun d=>if out.length<d then rFail 15 else rBind (rRoom M out n) fun _=>rPure (copyN out d n)) (rBind (rNext D) fun f=>rBind (rDist f.toNat) fun d=>if out.length<d then rFail 15 else rBind (rRoom M' out n) fun _=>rPure (copyN out d n)) out:=
    .pre fun f=>.pre fun d=>.ite (fun _=>.fail) fun _=>.room h (out':=copyN out d n) (copyN_len out d n) .pure (.inl hn)
   exact this s r a q e
theorem Bo.syms (h:M<=M') (L D:List Int):∀ (f:Nat) (out:List UInt8),Bo M (rSyms M L D f out) (rSyms M' L D f out) out
 | 0,_=>.fail
 | f+1,out=>.pre fun _=>.ite (fun _=>.room h (n:=1) (by simp) (Bo.syms h L D f _) (.inl (Nat.le_refl _))) fun _=>.ite (fun _=>.pure) fun _=>.seq (.mtch h D _ out) fun x=>Bo.syms h L D f x
theorem Bo.codes (h:M<=M') (F:Nat) (L D:List Int) (out:List UInt8):Bo M (rCodes M F L D out) (rCodes M' F L D out) out:=
 .pre fun _=>.pre fun _=>.syms h _ _ _ _
theorem Bo.block (h:M<=M') (F:Nat) (kind:Int) (out:List UInt8):Bo M (rBlock M F kind out) (rBlock M' F kind out) out:=
 .ite (fun _=>.stored h _) fun _=>.ite (fun _=>.codes h _ _ _ _) fun _=>.ite (fun _=>.pre fun _=>.codes h _ _ _ _) fun _=>.fail
theorem Bo.blocks (h:M<=M') (F:Nat):∀ (f:Nat) (out:List UInt8),Bo M (rBlocks M F f out) (rBlocks M' F f out) out
 | 0,_=>.fail
 | f+1,out=>.pre fun _=>.seq (.block h _ _ _) fun x=>.ite (fun _=>.pure) fun _=>Bo.blocks h F f x
theorem Bo.infl (h:M<=M') (F:Nat):Bo M (rInfl M F) (rInfl M' F) []:=.blocks h _ _ _
end
theorem infl_room {M:Int} {F p q:Nat} {s:ByteArray} {a:List UInt8} (h:rInfl M F s p=.ok (a,q)):a=[]\/(a.length:Int)<=M:=by
 obtain ⟨_,h2⟩:=Bo.infl (Int.le_refl M) F s p a q h
 rcases h2 (.inl rfl) with ⟨_,h⟩ | ⟨e,_⟩
 · exact h
 · rw [h] at e;exact absurd e (by simp)
end Go.Vit
