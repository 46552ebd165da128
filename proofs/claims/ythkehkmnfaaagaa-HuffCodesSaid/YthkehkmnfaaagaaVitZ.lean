/- A law's row: from what the law's function comes to over abstract memory, to what its statement asks of a call. -/
import Derived.Test.YthkehkmnfaaagaaVitY
import Derived.ChangeOld
import Derived.ProofKit
import Derived.WalkKit
import Derived.ChangeShapes
import Derived.SizedLaws
set_option linter.unusedVariables false
set_option linter.unusedSimpArgs false
namespace Go.Vit
open Go.ChangeShapes Go.WideShapes Go.ChangeAt Go.RowKit
section
variable {H : Type} {enc : TypeId × Value → H} {P : Program}

theorem av_of {ρ : Ren} {v : Value} {l : List AV} (h : LRel ρ l v.cells.toList.toArray) : ∃ a : AV, VRel ρ a v ∧ a.cells = l ∧ (a.isAgg = true ↔ ∃ cs, v = .agg cs) := by
  rcases Classical.em (∃ cs, v = .agg cs) with ⟨cs, rfl⟩ | hno
  · refine ⟨.agg l, .agg ?_ ?_, rfl, by simp [AV.isAgg]⟩
    · have := h.1; simpa [Value.cells] using this
    · intro i a v ha hv; exact h.2 i a v ha (by simpa [Value.cells] using hv)
  · have hc : v.cells = #[v] := by cases v <;> first | rfl | exact absurd ⟨_, rfl⟩ hno
    rw [hc] at h
    have hl := h.1
    match l, hl with
    | [x], _ =>
      have hx := h.2 0 x v rfl (by simp)
      refine ⟨x, hx, ?_, ?_⟩
      · cases hx <;> first | rfl | exact absurd ⟨_, rfl⟩ hno
      · cases hx <;> simp [AV.isAgg] <;> exact absurd ⟨_, rfl⟩ hno
theorem okWide_agg {w : World} {n base : Nat} {t : TypeId} {v : Value} (hT : impT P n t = true) (h : Value.okWide P w .any base t v) : (∃ cs, v = .agg cs) ↔ aggT P t = true := by
  cases n with
  | zero => simp [impT] at hT
  | succ n =>
    unfold impT at hT
    unfold aggT
    cases hu : P.underlying t with
    | none => rw [hu] at hT; cases hT
    | some u =>
      rw [hu] at hT
      cases u <;> dsimp only at hT ⊢ <;> first | exact Bool.noConfusion (show false = true from hT) | skip
      case bool => obtain ⟨b, rfl⟩ := (by simp only [Value.okWide, hu, Cell.okWide] at h; cases v <;> simp_all [Cell.ok] : ∃ b, v = .bool b); simp
      case int k => obtain ⟨b, rfl⟩ := okWide_int hu h; simp
      case string => obtain ⟨b, rfl⟩ := okWide_string hu h; simp
      case slice e => obtain ⟨a, b, c, rfl⟩ := okWide_slice hu h; simp
      case struct fs =>
        unfold Value.okWide at h
        rw [hu] at h
        obtain ⟨cs, h, _⟩ := h
        exact ⟨fun _ => rfl, fun _ => ⟨cs, h⟩⟩
      case array k e =>
        unfold Value.okWide at h
        rw [hu] at h
        obtain ⟨cs, h, _⟩ := h
        exact ⟨fun _ => rfl, fun _ => ⟨cs, h⟩⟩

theorem imp_all {w : World} {n base : Nat} : ∀ {ts : List TypeId} {vs : List Value} {ds : List (DataW H)} {ps : List MemPlace}, DataW.TrodAll enc P w 0 (fun _ => true) true ts vs ds ps → (∀ t ∈ ts, impT P n t = true) → (∀ (i : Nat) (t : TypeId) (d : DataW H), ts[i]? = some t → ds[i]? = some d → (d.weights P t).all (· ≤ reachBytes) = true) → (∀ (j : Nat) t v, ts[j]? = some t → vs[j]? = some v → Value.okWide P w .any base t v) →
    ∀ ρ σ, St ρ σ w → σ.Ro → ∃ ρ' σ' xs, More ρ σ w ρ' σ' ∧ LRel ρ' xs vs.toArray ∧ Wts P σ' ts xs
  | [], vs, ds, ps, h, _, _, _, ρ, σ, st, hr => by
    obtain ⟨rfl, rfl, rfl⟩ := trodAll_nil h
    exact ⟨ρ, σ, [], .refl st hr, LRel.nil ρ, .nil⟩
  | t :: ts, vs, ds, ps, h, hT, hwt, hv, ρ, σ, st, hr => by
    obtain ⟨v, vs', d, ds', p, q, rfl, rfl, rfl, ⟨fuel, h0⟩, h1⟩ := trodAll_cons h
    obtain ⟨ρ1, σ1, l, m1, hl, hw⟩ := imp_trod fuel n t _ d p h0 (hT t (by simp)) (hwt 0 t d rfl rfl) ρ σ st hr
    obtain ⟨ρ2, σ2, xs, m2, hl2, hw2⟩ := imp_all h1 (fun t ht => hT t (by simp [ht])) (fun i t d ht hd => hwt (i + 1) t d (by simpa using ht) (by simpa using hd)) (fun j t v ht hv' => hv (j + 1) t v (by simpa using ht) (by simpa using hv')) ρ1 σ1 m1.st m1.ro
    obtain ⟨a, ha, hc, hag⟩ := av_of hl
    have hag' : a.isAgg = aggT P t := Bool.eq_iff_iff.2 (hag.trans (okWide_agg (hT t (by simp)) (hv 0 t v rfl rfl)))
    refine ⟨ρ2, σ2, a :: xs, m1.trans m2, ?_, .cons (by rw [hc]; exact hw.mono m2.keep) hag' hw2⟩
    have h3 : LRel ρ2 [a] [v].toArray := .of_list rfl fun i x u hx hu => by
      cases i with
      | zero => simp at hx hu; subst hx; subst hu; exact ha.mono m2.ext
      | succ i => simp at hx
    have := h3.append hl2
    simpa using this

theorem all_same {W W' : World} (hl : laidOutB P = true) (hb : Below W.heap.size W W') : ∀ {ts : List TypeId} {vs : List Value} {ds : List (DataW H)} {ps : List MemPlace}, DataW.TrodAll enc P W 0 (fun _ => true) true ts vs ds ps →
    (∀ t ∈ ts, P.readableRec t = true ∧ t < P.types.size) → DataW.TrodAll enc P W' 0 (fun b => decide (b < W.heap.size)) true ts vs ds ps
  | [], vs, ds, ps, h, _ => by
    obtain ⟨rfl, rfl, rfl⟩ := trodAll_nil h
    exact trodAll_mk0
  | t :: ts, vs, ds, ps, h, hT => by
    obtain ⟨v, vs', d, ds', p, q, rfl, rfl, rfl, h0, h1⟩ := trodAll_cons h
    have hlt : ∀ x ∈ p, x.block < W.heap.size := by obtain ⟨m, hm⟩ := h0; exact DataW.trod_lt m _ _ _ hm
    exact trodAll_cons_mk (Below.trod hl (hT t (by simp)).1 (hT t (by simp)).2 h0 hb hlt) (all_same hl hb h1 fun t ht => hT t (by simp [ht]))
theorem trodAll_len {w : World} {base : Nat} {spare : Nat → Bool} {held : Bool} : ∀ {ts : List TypeId} {vs : List Value} {ds : List (DataW H)} {ps : List MemPlace}, DataW.TrodAll enc P w base spare held ts vs ds ps → ds.length = ts.length
  | [], vs, ds, ps, h => by
    obtain ⟨rfl, rfl, rfl⟩ := trodAll_nil h
    rfl
  | t :: ts, vs, ds, ps, h => by
    obtain ⟨v, vs', d, ds', p, q, rfl, rfl, rfl, h0, h1⟩ := trodAll_cons h
    simp [trodAll_len h1]

def isTrue (v : AV) : Prop := v = .bool true
/-- THE LAW's STEP. -/
theorem law_step {f : Nat} {fn : Func} {s : ChangeSpec} {tb n : Nat} (hl : laidOutB P = true) (hv : s.vars = []) (hret : fn.resultTypes = #[tb]) (hb : P.underlying tb = some .bool)
    (hread : fn.params.toList.all (fun t => P.readableRec t && decide (t < P.types.size)) = true) (himp : fn.params.toList.all (impT P n) = true)
    (hspec : ∀ ds : List (DataW H), ds.length = fn.params.toList.length → (s.fn H (ds ++ [])).results = [.lit (.bool true)] ∧ (s.fn H (ds ++ [])).args = ds ∧ (s.fn H (ds ++ [])).vars = [])
    (hlaw : ∀ (σ : Mem) (xs : List AV), σ.Ro → Wts P σ fn.params.toList xs → ACalls P f xs σ fun v _ => isTrue v)
    (W : World) (base : Nat) (args : Array Value) (hval : ∀ (j : Nat) t v, fn.params[j]? = some t → args[j]? = some v → Value.okWide P W .any base t v) (ds gs : List (DataW H)) (before : List MemPlace) (hW : DataW.Whole enc P fn.params.toList s.vars false W args.toList ds gs before)
    (hwt : (DataW.weightsEach P (fn.params.toList ++ s.plain.varTypes P) (ds ++ gs)).all (· ≤ reachBytes) = true) :
    Calls P f args W fun e W' => ∃ v, e = .returned v ∧ s.post enc P fn false true false false W args v W' := by
  have hW' := hW
  obtain ⟨p, q, hA, hV, rfl, hfz, hnd⟩ := hW
  rw [hv] at hV
  obtain ⟨rfl, rfl⟩ := trodVars_none hV
  have st0 : St (fun _ => none) ⟨.leaf, 0⟩ W := ⟨fun b p h => (by cases h), fun b k h => (by simp [Mem.get, Tr.get_leaf] at h), fun b k p h => (by simp [Mem.get, Tr.get_leaf] at h), fun b b' k k' p p' h => (by simp [Mem.get, Tr.get_leaf] at h)⟩
  obtain ⟨ρ, σ, xs, m, hlr, hw⟩ := imp_all (n := n) hA (fun t ht => List.all_eq_true.1 himp t ht) (fun i t d ht hd => weightsEach_get hwt i t d (by rw [List.getElem?_append_left (List.getElem?_eq_some_iff.1 ht).1]; exact ht) (by rw [List.getElem?_append_left (List.getElem?_eq_some_iff.1 hd).1]; exact hd)) (fun j t v ht hv => hval j t v (by simpa using ht) (by simpa using hv)) _ _ st0 (fun b k h => by simp [Mem.get, Tr.get_leaf] at h)
  have hlr' : LRel ρ xs args := by simpa using hlr
  refine ((hlaw σ xs m.ro hw).2 ρ W args m.st hlr').mono fun e W' ⟨v, v', σ', ρ', he, hq, hvr, hs⟩ => ?_
  have hv' : v' = .bool true := by
    rw [show v = .bool true from hq] at hvr
    cases hvr; rfl
  subst hv'
  have bel : Below W.heap.size W W' := ⟨hs.os, hs.tape, hs.out, hs.size, fun k hk => hs.frame k hk fun b kk qq h1 h2 => by rw [m.ro b kk h1] at h2; cases h2⟩
  have hread' : ∀ t ∈ fn.params.toList, P.readableRec t = true ∧ t < P.types.size := fun t ht => by
    have := List.all_eq_true.1 hread t ht
    simpa [Bool.and_eq_true] using this
  obtain ⟨e1, e2, e3⟩ := hspec ds (trodAll_len hA)
  refine ⟨_, he, ds, [], p ++ [], [], p, [], hW', ?_, ?_, ?_, bel.frame _, fun h => by cases h⟩
  · rw [e1, hret]
    exact trodAll_mk1 (shut_bool hb _)
  · rw [e2]; exact all_same hl bel hA hread'
  · rw [e3, hv]; exact rfl
end
end Go.Vit
