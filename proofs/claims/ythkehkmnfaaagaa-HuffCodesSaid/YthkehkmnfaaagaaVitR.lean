/- Regions whose order is drawn: whatever order the edges allow, the region comes to what its plan comes to. -/
import Derived.Test.YthkehkmnfaaagaaVitQ
set_option linter.unusedVariables false
set_option linter.unusedSimpArgs false
namespace Go.Vit

/-! ### What a quiet operation looks at -/
theorem evs_congr {t t' : Tmps} : ∀ {xs : List AOpd}, (∀ x ∈ xs, x.ev t = x.ev t') → evs t xs = evs t' xs
  | [], _ => rfl
  | x :: xs, h => by
    have ih := evs_congr (xs := xs) (fun y hy => h y (by simp [hy]))
    simp only [evs, h x (by simp), ih]
theorem evo_congr {t t' : Tmps} {x : Option AOpd} (h : ∀ y ∈ x.toList, y.ev t = y.ev t') : evo t x = evo t' x := by
  cases x with
  | none => rfl
  | some y => simp only [evo, h y (by simp)]
theorem fillA_congr {t t' : Tmps} : ∀ {ps : List (Nat × Nat × AOpd)} {l : List AV}, (∀ p ∈ ps, p.2.2.ev t = p.2.2.ev t') → fillA t l ps = fillA t' l ps
  | [], _, _ => rfl
  | (off, size, x) :: ps, l, h => by
    have h1 : x.ev t = x.ev t' := h (off, size, x) (by simp)
    simp only [fillA, h1]
    congr 1; funext v
    split
    · exact fillA_congr (fun p hp => h p (by simp [hp]))
    · rfl
theorem nop_congr {id : Nat} {op : AOp} {t t' : Tmps} {σ : Mem} (h : ∀ x ∈ op.opds, x.ev t = x.ev t') : nop id op t σ = nop id op t' σ := by
  cases op <;> simp only [AOp.opds, List.mem_cons, List.not_mem_nil, or_false, forall_eq_or_imp, forall_eq, List.mem_append, Option.mem_toList, List.mem_map, forall_exists_index, and_imp, forall_apply_eq_imp_iff₂] at h
  case build z ps => simp only [nop, fillA_congr h]
  case newSlice n z ps => simp only [nop, fillA_congr h]
  case mkFn f xs => simp only [nop, evs_congr h]
  case slStr x lo hi => simp only [nop, h.1, evo_congr (t := t) (t' := t') (x := lo) (fun y hy => h.2 y (.inl (by simpa using hy))), evo_congr (t := t) (t' := t') (x := hi) (fun y hy => h.2 y (.inr (by simpa using hy)))]
  case slArr n s x lo hi => simp only [nop, h.1, evo_congr (t := t) (t' := t') (x := lo) (fun y hy => h.2 y (.inl (by simpa using hy))), evo_congr (t := t) (t' := t') (x := hi) (fun y hy => h.2 y (.inr (by simpa using hy)))]
  case slSl s x lo hi mx => simp only [nop, h.1, evo_congr (t := t) (t' := t') (x := lo) (fun y hy => h.2 y (.inl (.inl (by simpa using hy)))), evo_congr (t := t) (t' := t') (x := hi) (fun y hy => h.2 y (.inl (.inr (by simpa using hy)))), evo_congr (t := t) (t' := t') (x := mx) (fun y hy => h.2 y (.inr (by simpa using hy)))]
  case minmax mx x xs => simp only [nop, h.1, evs_congr h.2]
  case pick c a b =>
    simp only [nop, h.1]
    congr 1; funext v
    cases v <;> first | rfl | skip
    rename_i r
    cases r
    · simp only [Bool.false_eq_true, if_false, h.2.2]
    · simp only [if_true, h.2.1]
  all_goals first
    | (simp only [nop]; done)
    | (simp only [nop, h]; done)
    | (simp only [nop, h.1, h.2]; done)
    | rfl
theorem nop_pure {id : Nat} {op : AOp} {t : Tmps} (h : op.reads = false) (σ σ' : Mem) : nop id op t σ = nop id op t σ' := by
  cases op <;> first
    | rfl
    | (simp [AOp.reads] at h; done)
    | skip
  rename_i c x
  cases c <;> first
    | rfl
    | (simp [AOp.reads] at h; done)
theorem cells_mono {σ σ' : Mem} (h : ∀ b k, σ.get b = some k → σ'.get b = some k) {b o n : Nat} {l : List AV} (hl : σ.cells b o n = some l) : σ'.cells b o n = some l := by
  simp only [Mem.cells, Option.bind_eq_some_iff] at hl ⊢
  obtain ⟨k, hk, rest⟩ := hl
  exact ⟨k, h b k hk, rest⟩
theorem nop_mono {id : Nat} {op : AOp} {t : Tmps} {σ σ' : Mem} {r : AV × Option Blk} (h : ∀ b k, σ.get b = some k → σ'.get b = some k) (hr : nop id op t σ = some r) : nop id op t σ' = some r := by
  by_cases hrd : op.reads = true
  · cases op <;> simp [AOp.reads] at hrd
    case load k x =>
      simp only [nop, Option.bind_eq_some_iff] at hr ⊢
      obtain ⟨v, hv, hr⟩ := hr
      refine ⟨v, hv, ?_⟩
      cases v <;> simp only [reduceCtorEq] at hr ⊢
      cases k <;> simp only [Option.bind_eq_some_iff] at hr ⊢
      · obtain ⟨c, hc, hr⟩ := hr; exact ⟨c, cells_mono h hc, hr⟩
      · obtain ⟨c, hc, hr⟩ := hr; exact ⟨c, cells_mono h hc, hr⟩
    case conv c x =>
      cases c <;> simp [AOp.reads] at hrd
      simp only [nop, Option.bind_eq_some_iff] at hr ⊢
      obtain ⟨v, hv, hr⟩ := hr
      refine ⟨v, hv, ?_⟩
      cases v <;> simp only [reduceCtorEq, Option.bind_eq_some_iff] at hr ⊢
      · exact hr
      · obtain ⟨l, hl, hr⟩ := hr; exact ⟨l, cells_mono h hl, hr⟩
    case lenMap x =>
      simp only [nop, Option.bind_eq_some_iff] at hr ⊢
      obtain ⟨v, hv, hr⟩ := hr
      refine ⟨v, hv, ?_⟩
      cases v <;> simp only [reduceCtorEq, Option.bind_eq_some_iff] at hr ⊢
      · exact hr
      · obtain ⟨k, hk, hr⟩ := hr; exact ⟨k, h _ k hk, hr⟩
    case lookup kk z ok x k =>
      simp only [nop, Option.bind_eq_some_iff] at hr ⊢
      obtain ⟨v, hv, kv, hkv, hr⟩ := hr
      refine ⟨v, hv, kv, hkv, ?_⟩
      split at hr
      · cases hr
      · rename_i hk
        rw [if_neg hk]
        simp only [Option.bind_eq_some_iff] at hr ⊢
        obtain ⟨es, hes, hr⟩ := hr
        refine ⟨es, ?_, hr⟩
        cases v <;> simp only [reduceCtorEq, Option.bind_eq_some_iff] at hes ⊢
        · exact hes
        · obtain ⟨q, hq, hes⟩ := hes; exact ⟨q, h _ q hq, hes⟩
  · rw [nop_pure (by simpa using hrd) σ' σ]; exact hr
theorem ev_set {t : Tmps} {d : Option Nat} {v : AV} {x : AOpd} (h : ∀ i, d = some i → i ∉ x.ts) : x.ev (Tmps.set t d v) = x.ev t := by
  cases d with
  | none => rfl
  | some i =>
    cases x with
    | tmp j =>
      have : j ≠ i := fun e => h i rfl (by subst e; simp [AOpd.ts])
      simp only [AOpd.ev, Tmps.set, Tr.get_put, if_neg this]
    | _ => rfl
theorem nop_set {id : Nat} {op : AOp} {t : Tmps} {σ : Mem} {d : Option Nat} {v : AV} (h : ∀ i, d = some i → ∀ x ∈ op.opds, i ∉ x.ts) : nop id op (Tmps.set t d v) σ = nop id op t σ :=
  nop_congr fun x hx => ev_set fun i hi => h i hi x hx
theorem gval_set {t : Tmps} {g : Option (Nat × Bool)} {d : Option Nat} {v : AV} (h : ∀ i, d = some i → ∀ p, g = some p → p.1 ≠ i) : gval (Tmps.set t d v) g = gval t g := by
  cases g with
  | none => rfl
  | some p =>
    cases d with
    | none => rfl
    | some i =>
      have := h i rfl p rfl
      obtain ⟨j, want⟩ := p
      simp only [gval, Tmps.set, Tr.get_put, if_neg this]
theorem get_set_other {t : Tmps} {d : Option Nat} {v : AV} {j : Nat} (h : d ≠ some j) : Tr.get (Tmps.set t d v) j = Tr.get t j := by
  cases d with
  | none => rfl
  | some i => simp only [Tmps.set, Tr.get_put]; rw [if_neg (fun e => h (by rw [e]))]
theorem get_set_self {t : Tmps} {v : AV} {j : Nat} : Tr.get (Tmps.set t (some j) v) j = some v := by simp [Tmps.set, Tr.get_put]
theorem mem_ts_opd {o : AOper} {x : AOpd} (hx : x ∈ o.op.opds) {i : Nat} (hi : i ∈ x.ts) : i ∈ o.ts := by
  unfold AOper.ts
  exact List.mem_append_left _ (List.mem_flatMap.2 ⟨x, hx, hi⟩)
theorem mem_ts_guard {o : AOper} {g : Nat × Bool} (h : o.g = some g) : g.1 ∈ o.ts := by
  unfold AOper.ts
  rw [h]; simp

theorem AStep.quiet {P : Program} {Y : YEnv} {id : Nat} {op : AOp} {t : Tmps} {σ : Mem} {k : AV → Mem → Prop} (hne : op.eff = false) (h : AStep P Y id op t σ k) : ∃ v ob, nop id op t σ = some (v, ob) ∧ k v (σ.add id ob) := by
  have key : (match nop id op t σ with | some r => k r.1 (σ.add id r.2) | none => False) → ∃ v ob, nop id op t σ = some (v, ob) ∧ k v (σ.add id ob) := by
    intro h
    split at h
    · rename_i r hr; exact ⟨r.1, r.2, hr, h⟩
    · exact h.elim
  refine key ?_
  clear key
  cases op <;> first
    | (simp [AOp.eff] at hne; done)
    | exact h

/-! ### The plan -/
/-- What the plan's order must bear; 'p' stands ahead of 'q'. -/
structure Pair (anc : Nat → List Nat) (hard : Nat → Bool) (X : Nat → Nat → Prop) (p q : RegE) : Prop where
  hd : hard p.i = true → X p.i q.i ∨ p.i ∈ anc q.i
  raw : ∀ x, p.o.d = some x → x ∈ q.o.ts → p.i ∈ anc q.i
  war : ∀ x, q.o.d = some x → (x ∈ p.o.ts ∨ p.o.d = some x) → hard q.i = true ∧ p.i ∈ anc q.i
  mem : hard q.i = true → p.o.op.reads = true → p.i ∈ anc q.i ∨ (p.i, p.o.op) ∈ q.fl

structure PlanOk (P : Program) (N : Nat) (ops : Array Oper) (l : List RegE) (anc : Nat → List Nat) (hard : Nat → Bool) (X : Nat → Nat → Prop) : Prop where
  comp : ∀ p ∈ l, CompOper P N ops p.i p.o
  nodup : (l.map (·.i)).Nodup
  len : l.length ≤ ops.size
  all : ∀ i, i < ops.size → ∃ p ∈ l, p.i = i
  lt : ∀ p ∈ l, p.i < ops.size
  ancs : ∀ i o, ops[i]? = some o → ∀ x ∈ anc i, ∃ e ∈ o.after, Region.binds .any e = true ∧ (x = e.on ∨ x ∈ anc e.on)
  pair : l.Pairwise (Pair anc hard X)
  ext : ∀ l1 q l2, l = l1 ++ q :: l2 → ∀ o, ops[q.i]? = some o → ∀ e ∈ o.after, Region.binds .any e = true → ∃ p ∈ l1, p.i = e.on
  eff : ∀ p ∈ l, p.o.op.eff = true → hard p.i = true
  self : ∀ p ∈ l, hard p.i = false → ∀ x, p.o.d = some x → x ∉ p.o.ts

def Lst (listed : Array Bool) (i : Nat) : Prop := listed.getD i false = true

/-- A quiet operation that the plan has carried out, and the model has not. -/
structure Pend (base : Nat) (ρ : Ren) (t : Tmps) (σ : Mem) (p : RegE) : Prop where
  g : ∃ b, gval t p.o.g = some b ∧ (b = false → ∀ d, p.o.d = some d → Tr.get t d = some (.tup [])) ∧
    (b = true → ∃ v ob, nop (base + p.i) p.o.op t σ = some (v, ob) ∧ (∀ d, p.o.d = some d → Tr.get t d = some v) ∧ ∀ k, ob = some k → σ.get (base + p.i) = some k)
  free : ρ (base + p.i) = none
  lt : base + p.i < σ.next

structure Inv (P : Program) (Y : YEnv) (ds : List Deferred) (N base : Nat) (RR : List RegE → Tmps → Mem → Prop) (ops : Array Oper) (anc : Nat → List Nat) (hard : Nat → Bool) (ρ0 : Ren) (σ0 : Mem) (w0 : World)
    (listed : Array Bool) (l1 l2 : List RegE) (t : Tmps) (σ : Mem) (ρ : Ren) (a : Act) (w : World) : Prop where
  rest : RR l2 t σ
  new : ∀ p ∈ l2, ¬ Lst listed p.i ∧ Free base ρ σ p.i
  pend : ∀ p ∈ l1, ¬ Lst listed p.i → hard p.i = false ∧ Pend base ρ t σ p
  tmps : TRel ds N (fun d => ∃ p ∈ l1, ¬ Lst listed p.i ∧ p.o.d = some d) ρ t a
  step : Step (fun b => base ≤ b) ρ0 σ0 w0 ρ σ w
  base : base ≤ σ.next
  closed : ∀ i, Lst listed i → ∀ x ∈ anc i, Lst listed x
  lsize : listed.size = ops.size

section
variable {P : Program} {Y : YEnv} {ro : Option Nat} {ds : List Deferred} {N base : Nat} {K : Tmps → Mem → Prop} {RR : List RegE → Tmps → Mem → Prop} {X : Nat → Nat → Prop} {ops : Array Oper} {l : List RegE} {anc : Nat → List Nat} {hard : Nat → Bool} {ρ0 ρ : Ren} {σ0 σ : Mem} {w0 w : World}
  {listed : Array Bool} {l1 l2 : List RegE} {t : Tmps} {a : Act}

theorem lst_set {i j : Nat} (h : i < listed.size) : Lst (listed.setIfInBounds i true) j ↔ j = i ∨ Lst listed j := by
  unfold Lst
  by_cases hij : i = j
  · subst hij; simp [h]
  · rw [getD_set_ne false hij]
    constructor
    · exact .inr
    · rintro (e | e)
      · exact absurd e.symm hij
      · exact e

theorem Pend.kept {ρ' : Ren} {t' : Tmps} {σ' : Mem} {p : RegE} (h : Pend base ρ t σ p) (hg : gval t' p.o.g = gval t p.o.g) (hd : ∀ d, p.o.d = some d → Tr.get t' d = Tr.get t d)
    (hn : ∀ r, nop (base + p.i) p.o.op t σ = some r → nop (base + p.i) p.o.op t' σ' = some r) (hk : ∀ k, σ.get (base + p.i) = some k → σ'.get (base + p.i) = some k) (hρ : ρ' (base + p.i) = none) (hlt : σ.next ≤ σ'.next) : Pend base ρ' t' σ' p := by
  obtain ⟨⟨b, h1, h2, h3⟩, _, h5⟩ := h
  refine ⟨⟨b, hg.trans h1, fun e d hd' => (hd d hd').trans (h2 e d hd'), fun e => ?_⟩, hρ, Nat.lt_of_lt_of_le h5 hlt⟩
  obtain ⟨v, ob, q1, q2, q3⟩ := h3 e
  exact ⟨v, ob, hn _ q1, fun d hd' => (hd d hd').trans (q2 d hd'), fun k ek => hk k (q3 k ek)⟩

theorem pair_of (hp : PlanOk P N ops l anc hard X) (hl : l = l1 ++ l2) {p q : RegE} (h1 : p ∈ l1) (h2 : q ∈ l2) : Pair anc hard X p q := by
  have := hp.pair
  rw [hl, List.pairwise_append] at this
  exact this.2.2 p h1 q h2
theorem ne_of (hp : PlanOk P N ops l anc hard X) (hl : l = l1 ++ l2) {p q : RegE} (h1 : p ∈ l1) (h2 : q ∈ l2) : p.i ≠ q.i := by
  have := hp.nodup
  rw [hl, List.map_append, List.nodup_append] at this
  exact this.2.2 _ (List.mem_map_of_mem h1) _ (List.mem_map_of_mem h2)

/-- What is left begins with an operation. -/
def AUnf (P : Program) (Y : YEnv) (base : Nat) (RR : List RegE → Tmps → Mem → Prop) (q : RegE) (l2 : List RegE) : Prop :=
  ∀ t σ, RR (q :: l2) t σ → match gval t q.o.g with
    | some true => AStep P Y (base + q.i) q.o.op t σ fun v σ' => Floats base t σ σ' q.fl ∧ RR l2 (Tmps.set t q.o.d v) σ'
    | some false => RR l2 (Tmps.set t q.o.d (.tup [])) σ
    | none => False
theorem AUnf.all (q : RegE) (l2 : List RegE) : AUnf P Y base (AOps P Y base K) q l2 := fun t σ h => h
/-- The plan goes on by a quiet operation, ahead of the model. -/
theorem Inv.advance {q : RegE} (hU : AUnf P Y base RR q l2) (hp : PlanOk P N ops l anc hard X) (hl : l = l1 ++ q :: l2) (h : Inv P Y ds N base RR ops anc hard ρ0 σ0 w0 listed l1 (q :: l2) t σ ρ a w) (hq : hard q.i = false) :
    ∃ t' σ', Inv P Y ds N base RR ops anc hard ρ0 σ0 w0 listed (l1 ++ [q]) l2 t' σ' ρ a w := by
  obtain ⟨hrest, hnew, hpend, htm, hst, hbase, hcl, hls⟩ := h
  have hqm : q ∈ l := by rw [hl]; simp
  obtain ⟨hql, f1, f2, f3⟩ := hnew q (by simp)
  have hne : q.o.op.eff = false := by
    cases e : q.o.op.eff with
    | false => rfl
    | true => rw [hp.eff q hqm e] at hq; cases hq
  have hwar : ∀ p ∈ l1, ∀ x, q.o.d = some x → x ∉ p.o.ts ∧ p.o.d ≠ some x := by
    intro p hpm x hx
    refine ⟨fun hm => ?_, fun hm => ?_⟩
    · have := ((pair_of hp hl hpm (by simp)).war x hx (.inl hm)).1; rw [hq] at this; cases this
    · have := ((pair_of hp hl hpm (by simp)).war x hx (.inr hm)).1; rw [hq] at this; cases this
  have hself : ∀ x, q.o.d = some x → x ∉ q.o.ts := hp.self q hqm hq
  -- what is pending stays so
  have keep : ∀ (v : AV) (σ' : Mem), (∀ b k, σ.get b = some k → σ'.get b = some k) → σ.next ≤ σ'.next → ∀ p ∈ l1, ¬ Lst listed p.i → Pend base ρ (Tmps.set t q.o.d v) σ' p := by
    intro v σ' hsub hnx p hpm hpl
    have hpd := (hpend p hpm hpl).2
    refine hpd.kept (gval_set fun i hi g hg e => (hwar p hpm i hi).1 (by rw [← e]; exact mem_ts_guard hg)) (fun d hd => get_set_other (fun e => (hwar p hpm d e).2 hd)) (fun r hr => ?_) (fun k hk => hsub _ k hk) hpd.free hnx
    rw [nop_set (fun i hi x hx hm => (hwar p hpm i hi).1 (mem_ts_opd hx hm))]
    exact nop_mono hsub hr
  have tkeep : ∀ v : AV, TRel ds N (fun d => ∃ p ∈ l1 ++ [q], ¬ Lst listed p.i ∧ p.o.d = some d) ρ (Tmps.set t q.o.d v) a := by
    intro v
    refine ⟨htm.defers, htm.size, fun i u hi hu => ?_⟩
    have hqi : q.o.d ≠ some i := fun e => hi ⟨q, by simp, hql, e⟩
    rw [get_set_other hqi] at hu
    exact htm.get i u (fun ⟨p, hpm, x⟩ => hi ⟨p, by simp [hpm], x⟩) hu
  replace hrest := hU t σ hrest
  cases hgv : gval t q.o.g with
  | none => rw [hgv] at hrest; exact hrest.elim
  | some b =>
    rw [hgv] at hrest
    have hgq : ∀ v, gval (Tmps.set t q.o.d v) q.o.g = some b := fun v => by rw [gval_set (fun i hi g hg e => hself i hi (by rw [← e]; exact mem_ts_guard hg))]; exact hgv
    cases b with
    | false =>
      refine ⟨_, σ, hrest, fun p hpm => hnew p (by simp [hpm]), fun p hpm hpl => ?_, tkeep _, hst, hbase, hcl, hls⟩
      rcases List.mem_append.1 hpm with hpm | hpm
      · exact ⟨(hpend p hpm hpl).1, keep _ σ (fun _ _ e => e) (Nat.le_refl _) p hpm hpl⟩
      · simp only [List.mem_singleton] at hpm
        subst hpm
        exact ⟨hq, ⟨false, hgq _, fun _ d hd => by rw [hd]; exact get_set_self, (fun e => by cases e)⟩, f1, f3⟩
    | true =>
      obtain ⟨v, ob, hn, hq2⟩ := AStep.quiet hne hrest
      · have hsub : ∀ b k, σ.get b = some k → (σ.add (base + q.i) ob).get b = some k := by
          intro b k hk
          cases ob with
          | none => exact hk
          | some kb =>
            show (σ.put _ _).get b = _
            rw [Mem.get_put_ne _ (fun e => by rw [e, f2] at hk; cases hk)]; exact hk
        have hnx : (σ.add (base + q.i) ob).next = σ.next := by cases ob <;> rfl
        have hst1 : Step (fun b => b = base + q.i) ρ σ w ρ (σ.add (base + q.i) ob) w := by
          cases ob with
          | none => exact .refl hst.st
          | some kb => exact .put_free hst.st f1 f3 _
        refine ⟨_, _, hq2.2, fun p hpm => ?_, fun p hpm hpl => ?_, tkeep _, hst.trans hst1 (fun _ e => e) (fun b e => by subst e; exact Nat.le_add_right _ _), by rw [hnx]; exact hbase, hcl, hls⟩
        · obtain ⟨g0, g1, g2, g3⟩ := hnew p (by simp [hpm])
          refine ⟨g0, g1, ?_, by rw [hnx]; exact g3⟩
          have hpi : base + p.i ≠ base + q.i := by
            have := hp.nodup
            rw [hl, List.map_append, List.nodup_append, List.map_cons, List.nodup_cons] at this
            have h2 := this.2.1.1
            intro e
            exact h2 (by rw [show q.i = p.i by omega]; exact List.mem_map_of_mem hpm)
          cases ob with
          | none => exact g2
          | some kb => show (σ.put _ _).get _ = _; rw [Mem.get_put_ne _ hpi]; exact g2
        · rcases List.mem_append.1 hpm with hpm | hpm
          · exact ⟨(hpend p hpm hpl).1, keep _ _ hsub (by rw [hnx]; exact Nat.le_refl _) p hpm hpl⟩
          · simp only [List.mem_singleton] at hpm
            subst hpm
            refine ⟨hq, ⟨true, hgq _, (fun e => by cases e), fun _ => ⟨v, ob, ?_, fun d hd => by rw [hd]; exact get_set_self, fun k ek => ?_⟩⟩, f1, by rw [hnx]; exact f3⟩
            · rw [nop_set (fun i hi x hx hm => hself i hi (mem_ts_opd hx hm))]
              exact nop_mono hsub hn
            · subst ek; exact Mem.get_put_self _ _ _

theorem Inv.advances (hU : ∀ q l2, hard q.i = false → AUnf P Y base RR q l2) (hp : PlanOk P N ops l anc hard X) : ∀ (s : List RegE) (l1 l2 : List RegE) (t : Tmps) (σ : Mem), l = l1 ++ (s ++ l2) → Inv P Y ds N base RR ops anc hard ρ0 σ0 w0 listed l1 (s ++ l2) t σ ρ a w → (∀ q ∈ s, hard q.i = false) →
    ∃ t' σ', Inv P Y ds N base RR ops anc hard ρ0 σ0 w0 listed (l1 ++ s) l2 t' σ' ρ a w
  | [], l1, l2, t, σ, _, h, _ => ⟨t, σ, by simpa using h⟩
  | q :: s, l1, l2, t, σ, hl, h, hs => by
    obtain ⟨t', σ', h'⟩ := Inv.advance (l1 := l1) (l2 := s ++ l2) (q := q) (hU q _ (hs q (by simp))) hp hl h (hs q (by simp))
    have := Inv.advances hU hp s (l1 ++ [q]) l2 t' σ' (by rw [hl]; simp) h' (fun x hx => hs x (by simp [hx]))
    simpa using this
end
end Go.Vit
