/- Calls over abstract memory, and one operation after the other. -/
import Derived.Test.YthkehkmnfaaagaaVitN
import Derived.CallsIn
import Derived.RangeFuncRecord
set_option linter.unusedVariables false
set_option linter.unusedSimpArgs false
namespace Go.Vit

def FnOk (P : Program) (f : Nat) : Prop := ∃ fn, P.funcs[f]? = some fn ∧ fn.body.isNone = false ∧ (fn.name == "runtime.NumGoroutine") = false

/-- WHAT A CALL COMES TO: in every world for which the abstract memory stands, whatever the tape says, the call returns, and some outcome for which Q holds stands for what it returned and left. -/
def ACalls (P : Program) (f : Nat) (args : List AV) (σ : Mem) (Q : AV → Mem → Prop) : Prop :=
  FnOk P f ∧ ∀ (ρ : Ren) (w : World) (args' : Array Value), St ρ σ w → LRel ρ args args' →
    Calls P f args' w fun e w' => ∃ v v' σ' ρ', e = .returned v' ∧ Q v σ' ∧ VRel ρ' v v' ∧ Step (fun b => σ.next ≤ b) ρ σ w ρ' σ' w'
theorem ACalls.mono {P : Program} {f : Nat} {args : List AV} {σ : Mem} {Q Q' : AV → Mem → Prop} (h : ACalls P f args σ Q) (hq : ∀ v σ', Q v σ' → Q' v σ') : ACalls P f args σ Q' :=
  ⟨h.1, fun ρ w args' st hl => (h.2 ρ w args' st hl).mono fun e w' ⟨v, v', σ', ρ', he, hQ, hv, hs⟩ => ⟨v, v', σ', ρ', he, hq _ _ hQ, hv, hs⟩⟩

/-- The fence in which all is walked: the widest; a round's frame or a function's. -/
abbrev Fc (ro : Option Nat) : Fence := { Fence.wide with round := ro }
theorem callsIn_fc {ro : Option Nat} {n : Nat} {P : Program} {f : FuncId} {args : Array Value} {w : World} {R : Ending → World → Prop} : CallsIn (Fc ro) n P f args w R ↔ Calls P f args w R := callsIn_wide (n := n)
/-- What yield does, by the number of its block: how a call of it with some values in some memory may end. -/
abbrev YT := List AV → Mem → (AV → Mem → Prop) → Prop
abbrev YEnv := Nat → Option YT
/-- The record of a loop does what T says of yield. -/
def YSound (P : Program) (ρ0 : Ren) (T : YT) (l : Nat) (r : Loop) : Prop :=
  ∀ (ρ : Ren) (σ : Mem) (w : World) (args : List AV) (args' : Array Value) (K : AV → Mem → Prop), (∀ b p, ρ0 b = some p → ρ b = some p) → St ρ σ w → w.heap[l]? = some (.loop r) → LRel ρ args args' → T args σ K →
    args'.size = r.params.size ∧ RoundIn Fence.wide 0 P l r.fn ((r.params.zip args').foldl (fun tmps (t, a) => tmps.setIfInBounds t a) r.tmps) r.assign r.body w fun e w' =>
      ∃ v v' σ' ρ', e = .returned v' ∧ K v σ' ∧ VRel ρ' v v' ∧ Step (fun b => σ.next ≤ b) ρ σ w ρ' σ' w'
/-- The world bears the records of the yields. -/
def YOk (P : Program) (Y : YEnv) (ρ : Ren) (w : World) : Prop :=
  ∀ b T, Y b = some T → ∃ l o m r, ρ b = some (l, o, m) ∧ w.heap[l]? = some (.loop r) ∧ YSound P ρ T l r
theorem YSound.mono {P : Program} {ρ ρ' : Ren} {T : YT} {l : Nat} {r : Loop} (h : YSound P ρ T l r) (he : ∀ b p, ρ b = some p → ρ' b = some p) : YSound P ρ' T l r :=
  fun ρ1 σ w args args' K h1 => h ρ1 σ w args args' K fun b p e => h1 b p (he b p e)
/-- A block that is no cells and no map stays as it is. -/
theorem Step.still {N : Nat → Prop} {ρ ρ' : Ren} {σ σ' : Mem} {w w' : World} (h : Step N ρ σ w ρ' σ' w') (st : St ρ σ w) {l : Nat} {o : Obj} (hl : w.heap[l]? = some o) (hc : ∀ cs e fz, o ≠ .cells cs e fz) (hm : ∀ xs c, o ≠ .map xs c) : w'.heap[l]? = some o := by
  rw [h.frame l (Array.getElem?_eq_some_iff.1 hl).1 fun b k q hk hmut hq e => ?_]
  · exact hl
  · have hb := st.rel b k q hk hq
    rw [← e] at hl
    cases k with
    | rw c => obtain ⟨_, cs, e', fz, h1, _⟩ := hb; rw [h1] at hl; exact hc _ _ _ (Option.some.inj hl).symm
    | ro c => exact Bool.noConfusion hmut
    | map es clock => obtain ⟨_, xs, h1, _⟩ := hb; rw [h1] at hl; exact hm _ _ (Option.some.inj hl).symm
theorem YOk.step {P : Program} {Y : YEnv} {N : Nat → Prop} {ρ ρ' : Ren} {σ σ' : Mem} {w w' : World} (h : YOk P Y ρ w) (st : St ρ σ w) (hs : Step N ρ σ w ρ' σ' w') : YOk P Y ρ' w' := by
  intro b T hT
  obtain ⟨l, o, m, r, h1, h2, h3⟩ := h b T hT
  exact ⟨l, o, m, r, hs.ext _ _ h1, hs.still st h2 (by simp) (by simp), h3.mono hs.ext⟩
abbrev noY : YEnv := fun _ => none
theorem YOk.no (P : Program) (ρ : Ren) (w : World) : YOk P noY ρ w := fun _ _ h => by cases h
/-- A call where yields are at hand. -/
def ACallsY (P : Program) (Y : YEnv) (f : Nat) (args : List AV) (σ : Mem) (Q : AV → Mem → Prop) : Prop :=
  FnOk P f ∧ ∀ (ρ : Ren) (w : World) (args' : Array Value), St ρ σ w → LRel ρ args args' → YOk P Y ρ w →
    Calls P f args' w fun e w' => ∃ v v' σ' ρ', e = .returned v' ∧ Q v σ' ∧ VRel ρ' v v' ∧ Step (fun b => σ.next ≤ b) ρ σ w ρ' σ' w'
theorem ACallsY.mono {P : Program} {Y : YEnv} {f : Nat} {args : List AV} {σ : Mem} {Q Q' : AV → Mem → Prop} (h : ACallsY P Y f args σ Q) (hq : ∀ v σ', Q v σ' → Q' v σ') : ACallsY P Y f args σ Q' :=
  ⟨h.1, fun ρ w args' st hl hy => (h.2 ρ w args' st hl hy).mono fun e w' ⟨v, v', σ', ρ', he, hQ, hv, hs⟩ => ⟨v, v', σ', ρ', he, hq _ _ hQ, hv, hs⟩⟩
theorem ACallsY.plain {P : Program} {f : Nat} {args : List AV} {σ : Mem} {Q : AV → Mem → Prop} (h : ACallsY P noY f args σ Q) : ACalls P f args σ Q :=
  ⟨h.1, fun ρ w args' st hl => h.2 ρ w args' st hl (.no P ρ w)⟩
theorem ACalls.any {P : Program} {Y : YEnv} {f : Nat} {args : List AV} {σ : Mem} {Q : AV → Mem → Prop} (h : ACalls P f args σ Q) : ACallsY P Y f args σ Q :=
  ⟨h.1, fun ρ w args' st hl _ => h.2 ρ w args' st hl⟩

def gval (t : Tmps) : Option (Nat × Bool) → Option Bool
  | none => some true
  | some (d, want) => match Tr.get t d with
    | some (.bool b) => some (b == want)
    | some (.tup []) => some false
    | _ => none

/-- One operation. -/
def AStep (P : Program) (Y : YEnv) (id : Nat) (op : AOp) (t : Tmps) (σ : Mem) (k : AV → Mem → Prop) : Prop :=
  match op with
  | .call f xs => match evs t xs with
    | some l => ACalls P f l σ k
    | none => False
  | .callv x xs => match x.ev t, evs t xs with
    | some (.func f c), some l => ACalls P f (l ++ c) σ k
    | some (.yld b), some l => (match Y b with
      | some T => ∃ K, T l σ K ∧ ∀ v σ', K v σ' → k v σ'
      | none => False)
    | _, _ => False
  | op => if op.eff then (match eop id op t σ with
      | some r => k r.1 r.2
      | none => False)
    else match nop id op t σ with
      | some r => k r.1 (σ.add id r.2)
      | none => False

/-- An operation of a region: its place, what it is, and which reads ahead of it may come behind it. -/
structure RegE where
  i : Nat
  o : AOper
  fl : List (Nat × AOp)
/-- The reads that may come behind a step read the same there. -/
def Floats (base : Nat) (t : Tmps) (σ σ' : Mem) : List (Nat × AOp) → Prop
  | [] => True
  | q :: r => nop (base + q.1) q.2 t σ' = nop (base + q.1) q.2 t σ ∧ Floats base t σ σ' r
theorem Floats.mem {base : Nat} {t : Tmps} {σ σ' : Mem} : ∀ {l : List (Nat × AOp)}, Floats base t σ σ' l → ∀ q ∈ l, nop (base + q.1) q.2 t σ' = nop (base + q.1) q.2 t σ
  | [], _, q, hq => by simp at hq
  | p :: l, h, q, hq => by
    rcases List.mem_cons.1 hq with rfl | hq
    · exact h.1
    · exact h.2.mem q hq

/-- Operations one after the other. -/
def AOps (P : Program) (Y : YEnv) (base : Nat) (K : Tmps → Mem → Prop) : List RegE → Tmps → Mem → Prop
  | [], t, σ => K t σ
  | p :: rest, t, σ => match gval t p.o.g with
    | some true => AStep P Y (base + p.i) p.o.op t σ fun v σ' => Floats base t σ σ' p.fl ∧ AOps P Y base K rest (Tmps.set t p.o.d v) σ'
    | some false => AOps P Y base K rest (Tmps.set t p.o.d (.tup [])) σ
    | none => False

structure CompOper (P : Program) (N : Nat) (ops : Array Oper) (i : Nat) (o' : AOper) : Prop where
  ex : ∃ o, ops[i]? = some o ∧ (compOp P o.op = some o'.op ∨ o'.op = .fail) ∧ o'.d = o.dst ∧
    ((o.guard = none ∧ o'.g = none) ∨ ∃ j want oj dj, o.guard = some (j, want) ∧ ops[j]? = some oj ∧ oj.dst = some dj ∧ o'.g = some (dj, want) ∧ dj < N) ∧ ∀ d, o.dst = some d → d < N

/-- The temporaries stand for the frame's; D: those of which nothing is said. -/
structure TRel (ds : List Deferred) (N : Nat) (D : Nat → Prop) (ρ : Ren) (t : Tmps) (a : Act) : Prop where
  defers : a.defers = ds
  size : a.tmps.size = N
  get : ∀ i v, ¬ D i → Tr.get t i = some v → VRel ρ v (a.tmps.getD i undef)

section
variable {P : Program} {Y : YEnv} {ro : Option Nat} {ds : List Deferred} {N : Nat} {D : Nat → Prop} {ρ ρ' : Ren} {σ σ' : Mem} {t : Tmps} {a : Act} {w w' : World}

theorem TRel.mono (h : TRel ds N D ρ t a) (he : ∀ b p, ρ b = some p → ρ' b = some p) : TRel ds N D ρ' t a := ⟨h.defers, h.size, fun i v hd hv => (h.get i v hd hv).mono he⟩
theorem TRel.put (h : TRel ds N D ρ t a) {d : Option Nat} {v : AV} {v' : Value} (hv : VRel ρ v v') (hd : ∀ i, d = some i → i < N) : TRel ds N (fun i => D i ∧ d ≠ some i) ρ (Tmps.set t d v) (a.put d v') := by
  cases d with
  | none => exact ⟨h.defers, h.size, fun i u hi hu => h.get i u (fun x => hi ⟨x, by simp⟩) hu⟩
  | some j =>
    refine ⟨h.defers, by simp [Act.put, h.size], fun i u hi hu => ?_⟩
    simp only [Tmps.set, Tr.get_put] at hu
    by_cases hij : i = j
    · subst hij
      rw [if_pos rfl] at hu
      cases hu
      have : i < a.tmps.size := by rw [h.size]; exact hd i rfl
      simp [Act.put, Array.getD, this]
      exact hv
    · rw [if_neg hij] at hu
      have hD : ¬ D i := fun x => hi ⟨x, fun e => hij (Option.some.inj e).symm⟩
      have := h.get i u hD hu
      have e : (a.put (some j) v').tmps.getD i undef = a.tmps.getD i undef := by
        simp only [Act.put, Array.getD_eq_getD_getElem?]
        rw [Array.getElem?_setIfInBounds_ne (fun e => hij e.symm)]
      rw [e]; exact this
theorem TRel.weaken {D' : Nat → Prop} (h : TRel ds N D ρ t a) (hD : ∀ i, D i → D' i) : TRel ds N D' ρ t a := ⟨h.defers, h.size, fun i v hi hv => h.get i v (fun x => hi (hD i x)) hv⟩

theorem TRel.eval (h : TRel ds N D ρ t a) {x : Operand} {ax : AOpd} {v : AV} (hx : opd x = some ax) (hv : ax.ev t = some v) (hn : ∀ i ∈ ax.ts, ¬ D i) : VRel ρ v (a.eval x) := by
  cases x with
  | tmp i =>
    simp only [opd, Option.some.injEq] at hx
    subst hx
    exact h.get i v (hn i (by simp [AOpd.ts])) hv
  | const c =>
    simp only [opd, Option.map_eq_some_iff] at hx
    obtain ⟨a', ha', rfl⟩ := hx
    simp only [AOpd.ev, Option.some.injEq] at hv
    subst hv
    exact ofV_rel ha' ρ
  | global g => simp [opd] at hx
  | func f =>
    simp only [opd, Option.some.injEq] at hx
    subst hx
    simp only [AOpd.ev, Option.some.injEq] at hv
    subst hv
    exact .func rfl (fun i a v h => by simp at h)
theorem TRel.he (h : TRel ds N D ρ t a) {as : List AOpd} (hn : ∀ x ∈ as, ∀ i ∈ x.ts, ¬ D i) : HE a.eval ρ t as := fun _ ax _ hx hm hv => h.eval hx hv (hn ax hm)

theorem guard_rel {ops : Array Oper} {o : Oper} {o' : AOper} (ho : (o.guard = none ∧ o'.g = none) ∨ ∃ j want oj dj, o.guard = some (j, want) ∧ ops[j]? = some oj ∧ oj.dst = some dj ∧ o'.g = some (dj, want) ∧ dj < N)
    (h : TRel ds N D ρ t a) (hD : ∀ g, o'.g = some g → ¬ D g.1) {b : Bool} (hb : gval t o'.g = some b) : Region.wanted o (yielded ops a.tmps) = b := by
  rcases ho with ⟨h1, h2⟩ | ⟨j, want, oj, dj, h1, h2, h3, h4, h5⟩
  · rw [h2] at hb
    simp only [gval, Option.some.injEq] at hb
    subst hb
    simp [Region.wanted, h1]
  · rw [h4] at hb
    have hlt : dj < a.tmps.size := by rw [h.size]; exact h5
    have hget : a.tmps[dj]? = some (a.tmps.getD dj undef) := by simp [Array.getD, hlt]
    simp only [gval] at hb
    split at hb
    · rename_i q hq
      have hr := (h.get dj _ (hD _ h4) hq).bool_inv
      cases hb
      simp only [Region.wanted, h1, yielded, h2, Option.bind_some, h3, hget, hr]
      cases q <;> cases want <;> rfl
    · rename_i hq
      obtain ⟨cs, hr, hl⟩ := (h.get dj _ (hD _ h4) hq).tup_inv
      cases hb
      simp only [Region.wanted, h1, yielded, h2, Option.bind_some, h3, hget, hr]
      cases want <;> rfl
    · cases hb

theorem callFunc_run {f : Nat} (h : FnOk P f) (args : Array Value) : (callFunc f args).run P w = .ok (.enter f args) w := by
  obtain ⟨fn, h1, h2, h3⟩ := h
  simp only [callFunc, Sem.run_bind, run_program, Result.andThen_ok, h1, h3, Bool.false_eq_true, if_false, h2, Sem.run_pure]

def AOp.isCall : AOp → Bool
  | .call .. | .callv .. => true
  | _ => false
def NoCall (x : Option AOp) : Prop := ∀ op, x = some op → op.isCall = false
theorem NoCall.none : NoCall none := fun op h => by cases h
theorem NoCall.some {op : AOp} (h : op.isCall = false) : NoCall (some op) := fun o e => by cases e; exact h
theorem NoCall.bind {α : Type} {x : Option α} {f : α → Option AOp} (h : ∀ a, NoCall (f a)) : NoCall (x.bind f) := by
  cases x with
  | none => exact .none
  | some a => exact h a
theorem NoCall.map {α : Type} {x : Option α} {f : α → AOp} (h : ∀ a, (f a).isCall = false) : NoCall (x.map f) := by
  cases x with
  | none => exact .none
  | some a => exact .some (h a)
theorem comp_nocall : ∀ (o : Op), (∀ c, o ≠ .call c) → NoCall (compOp P o) := by
  intro o h
  cases o <;> unfold compOp
  all_goals
    repeat' first
      | contradiction
      | (exact absurd rfl (h _))
      | exact NoCall.none
      | exact NoCall.some rfl
      | (refine NoCall.map (fun _ => ?_); rfl)
      | refine NoCall.bind (fun _ => ?_)
      | split
theorem comp_nocall_builtin {b : Builtin} {args : Array Operand} {ats : Array TypeId} : NoCall (compCall P { callee := .builtin b, args := args, argTypes := ats }) := by
  unfold compCall
  repeat' first
    | contradiction
    | exact NoCall.none
    | exact NoCall.some rfl
    | (refine NoCall.map (fun _ => ?_); rfl)
    | refine NoCall.bind (fun _ => ?_)
    | split

theorem evs_nil_rel (P : Program) {xs : Array Operand} {l : List AOpd} {vs : List AV} (hl : opds xs.toList = some l) (hv : evs t l = some vs) (hE : HE a.eval ρ t l) : LRel ρ vs (xs.map a.eval) := by
  have := evs_rel (P := P) (η := a.eval) hl hv hE
  have e : (xs.toList.map a.eval).toArray = xs.map a.eval := by rw [← Array.toList_map]
  rwa [e] at this

/-- ONE OPERATION: the model's run of it stands for the abstract one. -/
theorem AStep.sim {o : Oper} {op : AOp} {id : Nat} {k : AV → Mem → Prop} (hcf : compOp P o.op = some op ∨ op = .fail) (h : AStep P Y id op t σ k) (hY : YOk P Y ρ w) (hE : HE a.eval ρ t op.opds) (st : St ρ σ w) (hρ : ρ id = none) (hid : id < σ.next) (hget : σ.get id = none)
    {K : Act → World → Prop} {Q : Exit → Act → World → Prop}
    (hK : ∀ v v' σ' ρ' w', k v σ' → VRel ρ' v v' → Step (fun b => b = id ∨ σ.next ≤ b) ρ σ w ρ' σ' w' → K (a.put o.dst v') w') : o.wpIn (Fc ro) 0 P a w K Q := by
  have hnf : op ≠ .fail := by intro e; subst e; simp [AStep, AOp.eff, eop] at h
  have hc := hcf.resolve_right hnf
  obtain ⟨dst, oop, ty, pos, after, g⟩ := o
  have nodef : ∀ c, oop ≠ .defer c := by
    intro c e
    subst e
    simp [compOp] at hc
  have sem : Oper.semAt (Fc ro).round a.eval ⟨dst, oop, ty, pos, after, g⟩ = execOp a.eval ⟨dst, oop, ty, pos, after, g⟩ := Oper.semAt_eq _ _ _ nodef
  have call : ∀ {f : Nat} {l : List AV} {args : Array Value}, ACalls P f l σ k → LRel ρ l args → (execOp a.eval ⟨dst, oop, ty, pos, after, g⟩).run P w = .ok (.enter f args) w → Oper.wpIn (Fc ro) 0 P ⟨dst, oop, ty, pos, after, g⟩ a w K Q := by
    intro f l args hcl hl hr
    refine ⟨fun _ _ => trivial, ?_⟩
    rw [sem, hr, Oper.uponIn_enter]
    refine ⟨fun h => by simp [Fence.wide] at h, callsIn_fc.2 ((hcl.2 ρ w args st hl).mono fun e w' ⟨v, v', σ', ρ', he, hQ, hv, hs⟩ => ?_)⟩
    subst he
    exact hK v v' σ' ρ' w' hQ hv (hs.weaken fun b hb => .inr hb)
  have quiet : op.eff = false → (match nop id op t σ with | some r => k r.1 (σ.add id r.2) | none => False) → Oper.wpIn (Fc ro) 0 P ⟨dst, oop, ty, pos, after, g⟩ a w K Q := by
    intro hne hm
    cases hn : nop id op t σ with
    | none => rw [hn] at hm; exact hm.elim
    | some r =>
      obtain ⟨v, ob⟩ := r
      rw [hn] at hm
      obtain ⟨v', w', ρ', hr, hN⟩ := nop_run hc hne hn hE st hρ dst ty pos after g
      refine ⟨fun _ _ => trivial, ?_⟩
      rw [sem, hr, Oper.uponIn_value]
      exact hK v v' _ ρ' w' hm hN.val ((hN.step_add st hρ hid).weaken fun b hb => .inl hb)
  have effect : (match eop id op t σ with | some r => k r.1 r.2 | none => False) → Oper.wpIn (Fc ro) 0 P ⟨dst, oop, ty, pos, after, g⟩ a w K Q := by
    intro hm
    cases he : eop id op t σ with
    | none => rw [he] at hm; exact hm.elim
    | some r =>
      obtain ⟨v, σ'⟩ := r
      rw [he] at hm
      obtain ⟨nx, v', w', ρ', hr, hnx, hv, hs⟩ := eop_run hc he hE st hρ hid hget dst ty pos after g
      refine ⟨fun _ _ => trivial, ?_⟩
      rw [sem, hr]
      rcases hnx with rfl | ⟨rfl, rfl⟩
      · rw [Oper.uponIn_value]; exact hK v v' _ ρ' w' hm hv (hs.weaken fun b hb => .inl hb)
      · rw [Oper.uponIn_skip]; exact hK v undef _ ρ' w' hm hv (hs.weaken fun b hb => .inl hb)
  have isc : op.isCall = true → ∃ x args ats, oop = .call { callee := .value x, args := args, argTypes := ats } := by
    intro hi
    rcases Classical.em (∃ c, oop = .call c) with ⟨c, rfl⟩ | hno
    · obtain ⟨callee, args, ats⟩ := c
      cases callee with
      | value x => exact ⟨x, args, ats, rfl⟩
      | invoke r m => simp [compOp, compCall] at hc
      | builtin b => have := comp_nocall_builtin op hc; rw [hi] at this; cases this
    · have := comp_nocall oop (fun c e => hno ⟨c, e⟩) op hc
      rw [hi] at this; cases this
  cases op
  case call f xs =>
    simp only [AStep] at h
    split at h
    · rename_i l hl
      obtain ⟨x, args, ats, rfl⟩ := isc rfl
      cases x with
      | func f' =>
        simp only [compOp, compCall, Option.bind_eq_some_iff] at hc
        obtain ⟨fn, hfn, hc⟩ := hc
        split at hc
        · simp only [Option.map_eq_some_iff, AOp.call.injEq] at hc
          obtain ⟨l', hl', rfl, rfl⟩ := hc
          have hlr := evs_nil_rel P hl' hl hE
          refine call h hlr ?_
          have hcf := callFunc_run (w := w) h.1 (args.map a.eval)
          simp only [execOp, resolve, Deferred.ofValue, Act.eval, invoke, Sem.run_bind, Sem.run_pure, Result.andThen_ok, Array.empty_append, Array.append_empty]
          exact hcf
        · cases hc
      | tmp i => simp [compOp, compCall, Option.bind_eq_some_iff] at hc
      | const c => simp [compOp, compCall, Option.bind_eq_some_iff] at hc
      | global g => simp [compOp, compCall, Option.bind_eq_some_iff, opd] at hc
    · exact h.elim
  case callv x xs =>
    simp only [AStep] at h
    split at h
    · rename_i f c l hx hl
      obtain ⟨y, args, ats, rfl⟩ := isc rfl
      have hcc : (opd y).bind (fun a => (opds args.toList).map (AOp.callv a)) = some (AOp.callv x xs) := by
        cases y <;> first | exact hc | skip
        simp only [compOp, compCall, Option.bind_eq_some_iff] at hc
        obtain ⟨fn, hfn, hc⟩ := hc
        split at hc
        · simp [Option.map_eq_some_iff] at hc
        · cases hc
      simp only [Option.bind_eq_some_iff, Option.map_eq_some_iff, AOp.callv.injEq] at hcc
      obtain ⟨x', hx', l', hl', rfl, rfl⟩ := hcc
      have hlr := evs_nil_rel P hl' hl (hE.sub fun b hb => by simp [AOp.opds, hb])
      have hfr := hE y x' _ hx' (by simp [AOp.opds]) hx
      generalize hey : a.eval y = ev at hfr
      cases hfr with
      | func h1 h2 =>
        rename_i cs
        refine call h (hlr.append ⟨h1, h2⟩) ?_
        have hcf := callFunc_run (w := w) h.1 (args.map a.eval ++ cs)
        simp only [execOp, resolve, hey, Deferred.ofValue, invoke, Sem.run_bind, Sem.run_pure, Result.andThen_ok, Array.empty_append]
        exact hcf
    · rename_i b l hx hl
      cases hYb : Y b with
      | none => rw [hYb] at h; exact h.elim
      | some T =>
        rw [hYb] at h
        obtain ⟨K0, hT, hK0⟩ := h
        obtain ⟨y, args, ats, rfl⟩ := isc rfl
        have hcc : (opd y).bind (fun a => (opds args.toList).map (AOp.callv a)) = some (AOp.callv x xs) := by
          cases y <;> first | exact hc | skip
          simp only [compOp, compCall, Option.bind_eq_some_iff] at hc
          obtain ⟨fn, hfn, hc⟩ := hc
          split at hc
          · simp [Option.map_eq_some_iff] at hc
          · cases hc
        simp only [Option.bind_eq_some_iff, Option.map_eq_some_iff, AOp.callv.injEq] at hcc
        obtain ⟨x', hx', l', hl', rfl, rfl⟩ := hcc
        have hlr := evs_nil_rel P hl' hl (hE.sub fun b hb => by simp [AOp.opds, hb])
        have hfr := hE y x' _ hx' (by simp [AOp.opds]) hx
        obtain ⟨lb, o, m, r, h1, h2, h3⟩ := hY b T hYb
        generalize hey : a.eval y = ev at hfr
        cases hfr with
        | yld h4 =>
          rename_i lb' o' m'
          rw [h1] at h4
          cases h4
          obtain ⟨hsz, hround⟩ := h3 ρ σ w l (args.map a.eval) K0 (fun _ _ e => e) st h2 hlr hT
          have hrun : (execOp a.eval ⟨dst, .call { callee := .value y, args := args, argTypes := ats }, ty, pos, after, g⟩).run P w = .ok (.round lb r.fn ((r.params.zip (args.map a.eval)).foldl (fun tmps (t, a) => tmps.setIfInBounds t a) r.tmps) r.assign r.body) w := by
            have := run_yield (P := P) h2 hsz
            simp only [execOp, resolve, hey, Deferred.ofValue, invoke, Sem.run_bind, Sem.run_pure, Result.andThen_ok, Array.empty_append, Array.append_empty]
            exact this
          refine ⟨fun _ _ => trivial, ?_⟩
          rw [sem, hrun, Oper.uponIn_round]
          refine ⟨fun h => by simp [Fence.wide] at h, RoundIn.mono (F := Fence.wide) hround fun e w' ⟨v, v', σ', ρ', he, hQ, hv, hs⟩ => ?_⟩
          subst he
          exact hK v v' σ' ρ' w' (hK0 _ _ hQ) hv (hs.weaken fun b hb => .inr hb)
    · exact h.elim
  all_goals first
    | exact effect (by simpa [AStep, AOp.eff] using h)
    | exact quiet rfl (by simpa [AStep, AOp.eff] using h)
end
end Go.Vit
