/- Functions: from a body over abstract memory to a call. -/
import Derived.Test.YthkehkmnfaaagaaVitP
set_option linter.unusedVariables false
set_option linter.unusedSimpArgs false
namespace Go.Vit

def argT : List AV → Nat → Tmps → Tmps
  | [], _, t => t
  | v :: l, i, t => argT l (i + 1) (Tr.put t i (some v))
inductive ARes where
  | tmp (i : Nat)
  | cell (i : Nat) (k : Option Nat)
def ARes.ev (t : Tmps) (σ : Mem) : ARes → Option AV
  | .tmp i => Tr.get t i
  | .cell i k => (Tr.get t i).bind fun v => match v with
    | .ptr b o => match k with
      | none => (σ.cells b o 1).bind fun c => match c with
        | [a] => some a
        | _ => none
      | some n => (σ.cells b o n).bind fun c => some (.agg c)
    | _ => none
def evr (t : Tmps) (σ : Mem) : List ARes → Option (List AV)
  | [] => some []
  | r :: l => (r.ev t σ).bind fun v => (evr t σ l).bind fun vs => some (v :: vs)
def compRes (P : Program) : List ResultVar → Option (List ARes)
  | [] => some []
  | .tmp t :: l => (compRes P l).bind fun r => some (.tmp t :: r)
  | .cell a t :: l => (shapeOf P t).bind fun k => (compRes P l).bind fun r => some (.cell a k :: r)
def packA : List AV → AV
  | [v] => v
  | l => .tup l
def retPost (res : List ARes) (Q : AV → Mem → Prop) : APost
  | .normal, t, σ | .ret, t, σ => match evr t σ res with
    | some l => Q (packA l) σ
    | none => False
  | _, _, _ => False

structure AFunc where
  N : Nat
  body : ACode
  res : List ARes

section
variable {P : Program} {Y : YEnv} {ds : List Deferred} {N : Nat} {ρ ρ' : Ren} {σ σ' : Mem} {t : Tmps} {a : Act} {w w' : World}

theorem argT_get : ∀ (l : List AV) (i : Nat) (t : Tmps) (j : Nat), Tr.get (argT l i t) j = if i ≤ j ∧ j < i + l.length then l[j - i]? else Tr.get t j
  | [], i, t, j => by simp [argT]; intro h1 h2; omega
  | v :: l, i, t, j => by
    rw [argT, argT_get l (i + 1), Tr.get_put]
    by_cases h1 : i + 1 ≤ j ∧ j < i + 1 + l.length
    · rw [if_pos h1, if_pos (by simp; omega)]
      have : j - i = (j - (i + 1)) + 1 := by omega
      rw [this, List.getElem?_cons_succ]
    · rw [if_neg h1]
      by_cases h2 : j = i
      · subst h2; rw [if_pos rfl, if_pos (by simp)]; simp
      · rw [if_neg h2, if_neg (by simp; omega)]

theorem TRel.start {args : List AV} {args' : Array Value} (h : LRel ρ args args') (hN : args.length ≤ N) : TRel [] N (fun _ => False) ρ (argT args 0 .leaf) { tmps := args' ++ Array.replicate (N - args'.size) undef, defers := [] } := by
  have hsz := h.1
  refine ⟨rfl, by simp; omega, fun i v _ hv => ?_⟩
  rw [argT_get] at hv
  split at hv
  · rename_i hi
    rw [Nat.sub_zero] at hv
    have hlt : i < args'.size := by omega
    have e : (args' ++ Array.replicate (N - args'.size) undef).getD i undef = args'[i] := by
      rw [Array.getD_eq_getD_getElem?, Array.getElem?_append_left hlt, Array.getElem?_eq_getElem hlt]; rfl
    show VRel ρ v ((args' ++ Array.replicate (N - args'.size) undef).getD i undef)
    rw [e]
    exact h.2 i v _ hv (Array.getElem?_eq_getElem hlt)
  · rw [Tr.get_leaf] at hv; cases hv

def packV : List Value → Value
  | [v] => v
  | l => .tuple l.toArray
theorem packV_dite (l : List Value) : (if h : l.toArray.size = 1 then l.toArray[0] else .tuple l.toArray) = packV l := by
  match l with
  | [] => rfl
  | [v] => rfl
  | a :: b :: l => simp [packV]
theorem andThen_of {α β : Type} {r : Result α} {x : α} {w' : World} {f : α → World → Result β} {y : Result β} (h : r = .ok x w') (hf : f x w' = y) : r.andThen f = y := by subst h; exact hf

theorem resVal_run {r : ResultVar} {ar : ARes} {l : List ARes} (hr : compRes P [r] = some (ar :: l)) {v : AV} (hv : ar.ev t σ = some v) (ht : TRel ds N (fun _ => False) ρ t a) (st : St ρ σ w) :
    ∃ u, (match r with | .tmp t => (pure (a.tmps.getD t undef) : Sem Value) | .cell b t => (do loadVar t (← asAddr (a.tmps.getD b undef)) : Sem Value)).run P w = .ok u w ∧ VRel ρ v u := by
  cases r with
  | tmp i =>
    simp [compRes] at hr
    obtain ⟨rfl, rfl⟩ := hr
    exact ⟨_, rfl, ht.get i v (fun x => x) hv⟩
  | cell i ty =>
    simp only [compRes, Option.bind_eq_some_iff, Option.some.injEq, List.cons.injEq] at hr
    obtain ⟨k, hk, _, _, rfl, _⟩ := hr
    obtain ⟨inf, hi, hagg, hsz⟩ := shapeOf_spec hk
    simp only [ARes.ev, Option.bind_eq_some_iff] at hv
    obtain ⟨x, hx, hv⟩ := hv
    cases x <;> simp only [reduceCtorEq] at hv
    rename_i b o
    obtain ⟨b', o', m, hρb, e1⟩ := (ht.get i _ (fun x => x) hx).ptr_inv
    cases k with
    | none =>
      simp only [Option.bind_eq_some_iff] at hv
      obtain ⟨c, hc, hv⟩ := hv
      match c, hv with
      | [u], hv =>
        simp only [Option.some.injEq] at hv
        subst hv
        obtain ⟨_, cs, hcl, hcell, hrel⟩ := st.cells hc hρb
        match cs, hcl with
        | [z], _ =>
          have hz := hcell 0 z rfl
          simp only [Nat.add_zero] at hz
          exact ⟨z, by simp [e1, asAddr, loadVar, hagg, hz], hrel 0 u z rfl rfl⟩
    | some n =>
      simp only [Option.bind_eq_some_iff, Option.some.injEq] at hv
      obtain ⟨c, hc, rfl⟩ := hv
      obtain ⟨hlen, cs, hcl, hcell, hrel⟩ := st.cells hc hρb
      have hl := run_loadCells_list (P := P) w ⟨b', o' + o, none⟩ cs (fun j v hj => by rw [add_at]; exact hcell j v hj)
      rw [hcl] at hl
      exact ⟨.agg cs.toArray, by simp [e1, asAddr, loadVar, hagg, sizeOf, typeInfo, hi, hsz n rfl, hl], .agg (by simp [hlen, hcl]) (fun i a v ha hv => hrel i a v ha (by simpa using hv))⟩

theorem results_run (g : ResultVar → Sem Value) (hg : ∀ r, g r = (match r with | .tmp t => (pure (a.tmps.getD t undef) : Sem Value) | .cell b t => (do loadVar t (← asAddr (a.tmps.getD b undef)) : Sem Value))) (ht : TRel ds N (fun _ => False) ρ t a) (st : St ρ σ w) :
    ∀ (rs : List ResultVar) (ars : List ARes) (l : List AV), compRes P rs = some ars → evr t σ ars = some l → ∃ us : List Value, (rs.mapM g).run P w = .ok us w ∧ LRel ρ l us.toArray
  | [], ars, l, hc, hl => by
    simp [compRes] at hc; subst hc; simp [evr] at hl; subst hl
    exact ⟨[], by simp, LRel.nil ρ⟩
  | r :: rs, ars, l, hc, hl => by
    obtain ⟨ar, ars', e, h1, h2⟩ : ∃ ar ars', ars = ar :: ars' ∧ compRes P [r] = some [ar] ∧ compRes P rs = some ars' := by
      cases r with
      | tmp i =>
        simp only [compRes, Option.bind_eq_some_iff, Option.some.injEq] at hc
        obtain ⟨ars', h, rfl⟩ := hc
        exact ⟨_, ars', rfl, by simp [compRes], h⟩
      | cell i ty =>
        simp only [compRes, Option.bind_eq_some_iff, Option.some.injEq] at hc
        obtain ⟨k, hk, ars', h, rfl⟩ := hc
        exact ⟨_, ars', rfl, by simp [compRes, hk], h⟩
    subst e
    simp only [evr, Option.bind_eq_some_iff] at hl
    obtain ⟨v, hv, vs, hvs, e⟩ := hl
    cases e
    obtain ⟨u, hu, hur⟩ := resVal_run h1 hv ht st
    obtain ⟨us, hus, husr⟩ := results_run g hg ht st rs ars' vs h2 hvs
    refine ⟨u :: us, ?_, .of_list (by have := husr.1; simp at this ⊢; exact this) fun j x y hx hy => ?_⟩
    · simp only [List.mapM_cons, Sem.run_bind, hg r, hu, Result.andThen_ok, hus, Sem.run_pure]
    · cases j with
      | zero => simp at hx hy; subst hx; subst hy; exact hur
      | succ j => exact husr.2 j x y (by simpa using hx) (by simpa using hy)
/-- A block that is no cells and no map is turned. -/
theorem BRel.put {k : Blk} {p : Loc} {D : Nat} {o o' : Obj} (h : BRel ρ p w k) (hD : w.heap[D]? = some o) (hc : ∀ cs e fz, o ≠ .cells cs e fz) (hm : ∀ xs c, o ≠ .map xs c) : BRel ρ p (w.putObj D o') k := by
  have key : p.1 ≠ D → (w.putObj D o').heap[p.1]? = w.heap[p.1]? := fun h => World.putObj_heap_other h
  cases k with
  | rw c =>
    obtain ⟨h0, cs, e, fz, h1, h2⟩ := h
    refine ⟨h0, cs, e, fz, (key fun e' => ?_).trans h1, h2⟩
    rw [e', hD] at h1; exact hc _ _ _ (Option.some.inj h1)
  | map es clock =>
    obtain ⟨h0, xs, h1, h2⟩ := h
    refine ⟨h0, xs, (key fun e' => ?_).trans h1, h2⟩
    rw [e', hD] at h1; exact hm _ _ (Option.some.inj h1)
  | ro c =>
    refine ⟨fun e => by rw [World.putObj_size]; exact h.1 e, fun i a ha => ?_⟩
    obtain ⟨v, hv, hr⟩ := h.2 i a ha
    refine ⟨v, ?_, hr⟩
    rw [cell?_congr (w := w)]
    · exact hv
    · refine key fun e' => ?_
      simp only [World.cell?, e', hD] at hv
      cases o <;> simp_all
theorem St.put {D : Nat} {o o' : Obj} (st : St ρ σ w) (hD : w.heap[D]? = some o) (hc : ∀ cs e fz, o ≠ .cells cs e fz) (hm : ∀ xs c, o ≠ .map xs c) : St ρ σ (w.putObj D o') :=
  ⟨st.dom, st.live, fun b k p hk hp => (st.rel b k p hk hp).put hD hc hm, st.inj⟩
theorem Step.put {M : Nat → Prop} {D : Nat} {o o' : Obj} {w0 : World} {ρ0 : Ren} {σ0 : Mem} (h : Step M ρ0 σ0 w0 ρ σ w) (hD : w.heap[D]? = some o) (hc : ∀ cs e fz, o ≠ .cells cs e fz) (hm : ∀ xs c, o ≠ .map xs c) (hn : w0.heap.size ≤ D) : Step M ρ0 σ0 w0 ρ σ (w.putObj D o') :=
  ⟨h.st.put hD hc hm, h.next, h.ext, h.fresh, h.old, h.same, fun c hc' hno => by rw [World.putObj_heap_other (by omega)]; exact h.frame c hc' hno, by rw [World.putObj_size]; exact h.size, h.os, h.tape, h.out⟩
theorem leaves_marks {fn : Func} {tmps : Array Value} {R : Ending → World → Prop} {M : Nat → Prop} {w0 : World} {ρ0 : Ren} {σ0 : Mem} {B : Nat} (hB : w0.heap.size ≤ B)
    (hR : ∀ w, Step M ρ0 σ0 w0 ρ σ w → ∃ v, (results fn tmps).run P w = .ok v w ∧ R (.returned v) w) : ∀ (Ds : List Nat) (w : World), Step M ρ0 σ0 w0 ρ σ w → Marks B Ds w → LeavesInM (Fc none) 0 P fn tmps R (mk Ds) .returning w
  | [], w, hs, _ => hR w hs
  | D :: Ds, w, hs, hm => by
    obtain ⟨h1, h2⟩ := hm.2 D (by simp)
    refine ⟨by simp, .inl ⟨D, w.putObj D (.deferred none), rfl, run_takeDeferred h2, leaves_marks hB hR Ds _ (hs.put h2 (by simp) (by simp) (Nat.le_trans hB h1)) ⟨(List.nodup_cons.1 hm.1).2, fun E hE => ?_⟩⟩⟩
    obtain ⟨h3, h4⟩ := hm.2 E (by simp [hE])
    refine ⟨h3, ?_⟩
    rw [World.putObj_heap_other]
    · exact h4
    · rintro rfl; exact (List.nodup_cons.1 hm.1).1 hE
/-- WHAT A FUNCTION'S BODY SAYS OF A CALL. -/
theorem ACallsY.of_body {f : Nat} {fn : Func} {c : Code} {af : AFunc} {args : List AV} {Q : AV → Mem → Prop} (hf : P.funcs[f]? = some fn) (hb : fn.body = some c) (hname : (fn.name == "runtime.NumGoroutine") = false)
    (hN : fn.ntmps = af.N) (hres : compRes P fn.results.toList = some af.res) (hcode : CodeOk none P Y af.N c af.body) (hlen : args.length ≤ af.N) (h : AW P Y af.body (retPost af.res Q) (argT args 0 .leaf) σ) : ACallsY P Y f args σ Q := by
  refine ⟨⟨fn, hf, by simp [hb], hname⟩, fun ρ w args' st hl hY => ?_⟩
  refine (callsIn_fc (ro := none) (n := 0)).1 (callsIn_of_wp_marks hf hb trivial ?_)
  rw [hN]
  refine wpIn_mono (hcode _ _ _ h ρ _ w w.heap.size [] st (.start hl hlen) hY (Nat.le_refl _) ⟨List.nodup_nil, by simp⟩) ?_
  rintro e a' w' ⟨t', σ', ρ', Ds, hq, ht', hs, hm⟩
  have fin : (match evr t' σ' af.res with | some l => Q (packA l) σ' | none => False) → LeavesInM (Fc none) 0 P fn a'.tmps (fun e w' => ∃ v v' σ' ρ', e = .returned v' ∧ Q v σ' ∧ VRel ρ' v v' ∧ Step (fun b => σ.next ≤ b) ρ σ w ρ' σ' w') a'.defers .returning w' := by
    intro hmm
    split at hmm
    · rename_i l hl2
      rw [ht'.defers]
      refine leaves_marks (Nat.le_refl _) (fun w'' hs'' => ?_) Ds w' hs hm
      obtain ⟨us, hus, hr⟩ := results_run (P := P) (w := w'') (fun x => match x with | .tmp t => (pure (a'.tmps.getD t undef) : Sem Value) | .cell b t => (do loadVar t (← asAddr (a'.tmps.getD b undef)) : Sem Value)) (fun r => rfl) ht' hs''.st _ _ _ hres hl2
      have hrun : (results fn a'.tmps).run P w'' = .ok (packV us) w'' := by
        unfold results
        rw [Sem.run_bind]
        refine andThen_of (x := us.toArray) (w' := w'') ?_ ?_
        · rw [Array.mapM_eq_mapM_toList, Sem.run_map]
          exact andThen_of hus rfl
        · simp only [Sem.run_pure]
          rw [packV_dite]
      refine ⟨_, hrun, packA l, _, σ', ρ', rfl, hmm, ?_, hs''⟩
      have hl3 := hr.1
      match l, us, hl3, hr with
      | [v], [u], _, hr => exact hr.2 0 v u rfl (by simp)
      | [], [], _, hr => exact .tup hr.1 hr.2
      | _ :: _ :: _, _ :: _ :: _, _, hr => exact .tup hr.1 hr.2
    · exact hmm.elim
  cases e with
  | normal => exact fin hq
  | ret => exact fin hq
  | _ => exact hq.elim
theorem ACalls.of_body {f : Nat} {fn : Func} {c : Code} {af : AFunc} {args : List AV} {Q : AV → Mem → Prop} (hf : P.funcs[f]? = some fn) (hb : fn.body = some c) (hname : (fn.name == "runtime.NumGoroutine") = false)
    (hN : fn.ntmps = af.N) (hres : compRes P fn.results.toList = some af.res) (hcode : CodeOk none P noY af.N c af.body) (hlen : args.length ≤ af.N) (h : AW P noY af.body (retPost af.res Q) (argT args 0 .leaf) σ) : ACalls P f args σ Q :=
  (ACallsY.of_body hf hb hname hN hres hcode hlen h).plain
end

end Go.Vit
