/- The library. -/
import Derived.Test.YtgdaiahnceaieaaVm0
import Derived.CallsIn
import Derived.RangeFuncRecord
import Derived.Maps.RangeRun
import Derived.OrdersIn
import Derived.RangeFuncLeaves
import Derived.Tactics
import Derived.Scope
set_option linter.unusedVariables false
set_option linter.unusedSimpArgs false

section
namespace Go.Vit

def FnOk (P : Program) (f : Nat) : Prop := ∃ fn, P.funcs[f]? = some fn ∧ fn.body.isNone = false ∧ (fn.name == "runtime.NumGoroutine") = false

def ACalls (P : Program) (f : Nat) (args : List AV) (σ : Mem) (Q : AV → Mem → Prop) : Prop :=
  FnOk P f ∧ ∀ (ρ : Ren) (w : World) (args' : Array Value), St ρ σ w → LRel ρ args args' →
    Calls P f args' w fun e w' => ∃ v v' σ' ρ', e = .returned v' ∧ Q v σ' ∧ VRel ρ' v v' ∧ Step (fun b => σ.next ≤ b) ρ σ w ρ' σ' w'
theorem ACalls.mono {P : Program} {f : Nat} {args : List AV} {σ : Mem} {Q Q' : AV → Mem → Prop} (h : ACalls P f args σ Q) (hq : ∀ v σ', Q v σ' → Q' v σ') : ACalls P f args σ Q' :=
  ⟨h.1, fun ρ w args' st hl => (h.2 ρ w args' st hl).mono fun e w' ⟨v, v', σ', ρ', he, hQ, hv, hs⟩ => ⟨v, v', σ', ρ', he, hq _ _ hQ, hv, hs⟩⟩

abbrev Fc (ro : Option Nat) : Fence := { Fence.wide with round := ro }
theorem callsIn_fc {ro : Option Nat} {n : Nat} {P : Program} {f : FuncId} {args : Array Value} {w : World} {R : Ending → World → Prop} : CallsIn (Fc ro) n P f args w R ↔ Calls P f args w R := callsIn_wide (n := n)
abbrev YT := List AV → Mem → (AV → Mem → Prop) → Prop
abbrev YEnv := Nat → Option YT
def YSound (P : Program) (ρ0 : Ren) (T : YT) (l : Nat) (r : Loop) : Prop :=
  ∀ (ρ : Ren) (σ : Mem) (w : World) (args : List AV) (args' : Array Value) (K : AV → Mem → Prop), (∀ b p, ρ0 b = some p → ρ b = some p) → St ρ σ w → w.heap[l]? = some (.loop r) → LRel ρ args args' → T args σ K →
    args'.size = r.params.size ∧ RoundIn Fence.wide 0 P l r.fn ((r.params.zip args').foldl (fun tmps (t, a) => tmps.setIfInBounds t a) r.tmps) r.assign r.body w fun e w' =>
      ∃ v v' σ' ρ', e = .returned v' ∧ K v σ' ∧ VRel ρ' v v' ∧ Step (fun b => σ.next ≤ b) ρ σ w ρ' σ' w'
def YOk (P : Program) (Y : YEnv) (ρ : Ren) (w : World) : Prop :=
  ∀ b T, Y b = some T → ∃ l o m r, ρ b = some (l, o, m) ∧ w.heap[l]? = some (.loop r) ∧ YSound P ρ T l r
theorem YSound.mono {P : Program} {ρ ρ' : Ren} {T : YT} {l : Nat} {r : Loop} (h : YSound P ρ T l r) (he : ∀ b p, ρ b = some p → ρ' b = some p) : YSound P ρ' T l r :=
  fun ρ1 σ w args args' K h1 => h ρ1 σ w args args' K fun b p e => h1 b p (he b p e)
theorem Step.still {N : Nat → Prop} {ρ ρ' : Ren} {σ σ' : Mem} {w w' : World} (h : Step N ρ σ w ρ' σ' w') (st : St ρ σ w) {l : Nat} {o : Obj} (hl : w.heap[l]? = some o) (hc : ∀ cs e fz, o ≠ .cells cs e fz) (hm : ∀ xs c, o ≠ .map xs c) (hi : ∀ m s sn la, o ≠ .mapIter m s sn la) : w'.heap[l]? = some o := by
  rw [h.frame l (Array.getElem?_eq_some_iff.1 hl).1 fun b k q hk hmut hq e => ?_]
  · exact hl
  · have hb := st.rel b k q hk hq
    rw [← e] at hl
    cases k with
    | rw c => obtain ⟨_, cs, e', fz, h1, _⟩ := hb; rw [h1] at hl; exact hc _ _ _ (Option.some.inj hl).symm
    | ro c => exact Bool.noConfusion hmut
    | map es clock => obtain ⟨_, xs, h1, _⟩ := hb; rw [h1] at hl; exact hm _ _ (Option.some.inj hl).symm
    | iter m si se la => obtain ⟨_, m', h1, _⟩ := hb; rw [h1] at hl; exact hi _ _ _ _ (Option.some.inj hl).symm
    | bld t buf => obtain ⟨_, pv, v, h1, _⟩ := hb; rw [h1] at hl; exact hc _ _ _ (Option.some.inj hl).symm
    | row e c => obtain ⟨_, _, cs, fz, h1, _⟩ := hb; rw [h1] at hl; exact hc _ _ _ (Option.some.inj hl).symm
theorem YOk.step {P : Program} {Y : YEnv} {N : Nat → Prop} {ρ ρ' : Ren} {σ σ' : Mem} {w w' : World} (h : YOk P Y ρ w) (st : St ρ σ w) (hs : Step N ρ σ w ρ' σ' w') : YOk P Y ρ' w' := by
  intro b T hT
  obtain ⟨l, o, m, r, h1, h2, h3⟩ := h b T hT
  exact ⟨l, o, m, r, hs.ext _ _ h1, hs.still st h2 (by simp) (by simp) (by simp), h3.mono hs.ext⟩
abbrev noY : YEnv := fun _ => none
theorem YOk.no (P : Program) (ρ : Ren) (w : World) : YOk P noY ρ w := fun _ _ h => by cases h
def ACallsY (P : Program) (Y : YEnv) (f : Nat) (args : List AV) (σ : Mem) (Q : AV → Mem → Prop) : Prop :=
  FnOk P f ∧ ∀ (ρ : Ren) (w : World) (args' : Array Value), St ρ σ w → LRel ρ args args' → YOk P Y ρ w →
    Calls P f args' w fun e w' => ∃ v v' σ' ρ', e = .returned v' ∧ Q v σ' ∧ VRel ρ' v v' ∧ Step (fun b => σ.next ≤ b) ρ σ w ρ' σ' w'
theorem ACallsY.mono {P : Program} {Y : YEnv} {f : Nat} {args : List AV} {σ : Mem} {Q Q' : AV → Mem → Prop} (h : ACallsY P Y f args σ Q) (hq : ∀ v σ', Q v σ' → Q' v σ') : ACallsY P Y f args σ Q' :=
  ⟨h.1, fun ρ w args' st hl hy => (h.2 ρ w args' st hl hy).mono fun e w' ⟨v, v', σ', ρ', he, hQ, hv, hs⟩ => ⟨v, v', σ', ρ', he, hq _ _ hQ, hv, hs⟩⟩
theorem ACallsY.plain {P : Program} {f : Nat} {args : List AV} {σ : Mem} {Q : AV → Mem → Prop} (h : ACallsY P noY f args σ Q) : ACalls P f args σ Q :=
  ⟨h.1, fun ρ w args' st hl => h.2 ρ w args' st hl (.no P ρ w)⟩
theorem ACalls.any {P : Program} {Y : YEnv} {f : Nat} {args : List AV} {σ : Mem} {Q : AV → Mem → Prop} (h : ACalls P f args σ Q) : ACallsY P Y f args σ Q :=
  ⟨h.1, fun ρ w args' st hl _ => h.2 ρ w args' st hl⟩

def gval (t : Tmps) : Option (Nat × Bool) → Option Bool
  | none => some true
  | some (d, want) => match Tr.get t d with
    | some (.bool b) => some (b == want)
    | some (.tup []) => some false
    | _ => none

def AStep (P : Program) (Y : YEnv) (id : Nat) (op : AOp) (t : Tmps) (σ : Mem) (k : AV → Mem → Prop) : Prop :=
  match op with
  | .call f xs => match evs t xs with
    | some l => ACalls P f l σ k
    | none => False
  | .callv x xs => match x.ev t, evs t xs with
    | some (.func f c), some l => ACalls P f (l ++ c) σ k
    | some (.yld b), some l => (match Y b with
      | some T => ∃ K, T l σ K ∧ ∀ v σ', K v σ' → k v σ'
      | none => False)
    | _, _ => False
  | .nextM x => match x.ev t with
    | some (.ptr b 0) => (match σ.get b with
      | some (.iter none _ _ _) => k (.tup [.bool false]) σ
      | some (.iter (some m) since seen last) => (match σ.get m with
        | some (.map es clock) => (∀ e ∈ es, e.2.2 < since) ∧ since ≤ last ∧
            ((∀ e ∈ es, e.2.2 ∈ seen) → k (.tup [.bool false]) σ) ∧
            ∀ e ∈ es, e.2.2 ∉ seen → k (.tup [.bool true, e.1, e.2.1]) (σ.put b (some (.iter (some m) since (seen ++ [e.2.2]) clock)))
        | _ => False)
      | _ => False)
    | _ => False
  | op => if op.eff then (match eop id op t σ with
      | some r => k r.1 r.2
      | none => False)
    else match nop id op t σ with
      | some r => k r.1 (σ.add id r.2)
      | none => False

structure RegE where
  i : Nat
  o : AOper
  fl : List (Nat × AOp)
def Floats (base : Nat) (t : Tmps) (σ σ' : Mem) : List (Nat × AOp) → Prop
  | [] => True
  | q :: r => nop (base + q.1) q.2 t σ' = nop (base + q.1) q.2 t σ ∧ Floats base t σ σ' r
theorem Floats.mem {base : Nat} {t : Tmps} {σ σ' : Mem} : ∀ {l : List (Nat × AOp)}, Floats base t σ σ' l → ∀ q ∈ l, nop (base + q.1) q.2 t σ' = nop (base + q.1) q.2 t σ
  | [], _, q, hq => by simp at hq
  | p :: l, h, q, hq => by
    rcases List.mem_cons.1 hq with rfl | hq
    · exact h.1
    · exact h.2.mem q hq

def AOps (P : Program) (Y : YEnv) (base : Nat) (K : Tmps → Mem → Prop) : List RegE → Tmps → Mem → Prop
  | [], t, σ => K t σ
  | p :: rest, t, σ => match gval t p.o.g with
    | some true => AStep P Y (base + p.i) p.o.op t σ fun v σ' => Floats base t σ σ' p.fl ∧ AOps P Y base K rest (Tmps.set t p.o.d v) σ'
    | some false => AOps P Y base K rest (Tmps.set t p.o.d (.tup [])) σ
    | none => False

structure CompOper (P : Program) (N : Nat) (ops : Array Oper) (i : Nat) (o' : AOper) : Prop where
  ex : ∃ o, ops[i]? = some o ∧ (compOp P o.op = some o'.op ∨ o'.op = .fail) ∧ o'.d = o.dst ∧
    ((o.guard = none ∧ o'.g = none) ∨ ∃ j want oj dj, o.guard = some (j, want) ∧ ops[j]? = some oj ∧ oj.dst = some dj ∧ o'.g = some (dj, want) ∧ dj < N) ∧ ∀ d, o.dst = some d → d < N

structure TRel (ds : List Deferred) (N : Nat) (D : Nat → Prop) (ρ : Ren) (t : Tmps) (a : Act) : Prop where
  defers : a.defers = ds
  size : a.tmps.size = N
  get : ∀ i v, ¬ D i → Tr.get t i = some v → VRel ρ v (a.tmps.getD i undef)

section
variable {P : Program} {Y : YEnv} {ro : Option Nat} {ds : List Deferred} {N : Nat} {D : Nat → Prop} {ρ ρ' : Ren} {σ σ' : Mem} {t : Tmps} {a : Act} {w w' : World}

theorem TRel.mono (h : TRel ds N D ρ t a) (he : ∀ b p, ρ b = some p → ρ' b = some p) : TRel ds N D ρ' t a := ⟨h.defers, h.size, fun i v hd hv => (h.get i v hd hv).mono he⟩
theorem TRel.put (h : TRel ds N D ρ t a) {d : Option Nat} {v : AV} {v' : Value} (hv : VRel ρ v v') (hd : ∀ i, d = some i → i < N) : TRel ds N (fun i => D i ∧ d ≠ some i) ρ (Tmps.set t d v) (a.put d v') := by
  cases d with
  | none => exact ⟨h.defers, h.size, fun i u hi hu => h.get i u (fun x => hi ⟨x, by simp⟩) hu⟩
  | some j =>
    refine ⟨h.defers, by simp [Act.put, h.size], fun i u hi hu => ?_⟩
    simp only [Tmps.set, Tr.get_put] at hu
    by_cases hij : i = j
    · subst hij
      rw [if_pos rfl] at hu
      cases hu
      have : i < a.tmps.size := by rw [h.size]; exact hd i rfl
      simp [Act.put, Array.getD, this]
      exact hv
    · rw [if_neg hij] at hu
      have hD : ¬ D i := fun x => hi ⟨x, fun e => hij (Option.some.inj e).symm⟩
      have := h.get i u hD hu
      have e : (a.put (some j) v').tmps.getD i undef = a.tmps.getD i undef := by
        simp only [Act.put, Array.getD_eq_getD_getElem?]
        rw [Array.getElem?_setIfInBounds_ne (fun e => hij e.symm)]
      rw [e]; exact this
theorem TRel.weaken {D' : Nat → Prop} (h : TRel ds N D ρ t a) (hD : ∀ i, D i → D' i) : TRel ds N D' ρ t a := ⟨h.defers, h.size, fun i v hi hv => h.get i v (fun x => hi (hD i x)) hv⟩

theorem TRel.eval (h : TRel ds N D ρ t a) {x : Operand} {ax : AOpd} {v : AV} (hx : opd x = some ax) (hv : ax.ev t = some v) (hn : ∀ i ∈ ax.ts, ¬ D i) : VRel ρ v (a.eval x) := by
  cases x with
  | tmp i =>
    simp only [opd, Option.some.injEq] at hx
    subst hx
    exact h.get i v (hn i (by simp [AOpd.ts])) hv
  | const c =>
    simp only [opd, Option.map_eq_some_iff] at hx
    obtain ⟨a', ha', rfl⟩ := hx
    simp only [AOpd.ev, Option.some.injEq] at hv
    subst hv
    exact ofV_rel ha' ρ
  | global g => simp [opd] at hx
  | func f =>
    simp only [opd, Option.some.injEq] at hx
    subst hx
    simp only [AOpd.ev, Option.some.injEq] at hv
    subst hv
    exact .func rfl (fun i a v h => by simp at h)
theorem TRel.he (h : TRel ds N D ρ t a) {as : List AOpd} (hn : ∀ x ∈ as, ∀ i ∈ x.ts, ¬ D i) : HE a.eval ρ t as := fun _ ax _ hx hm hv => h.eval hx hv (hn ax hm)

theorem guard_rel {ops : Array Oper} {o : Oper} {o' : AOper} (ho : (o.guard = none ∧ o'.g = none) ∨ ∃ j want oj dj, o.guard = some (j, want) ∧ ops[j]? = some oj ∧ oj.dst = some dj ∧ o'.g = some (dj, want) ∧ dj < N)
    (h : TRel ds N D ρ t a) (hD : ∀ g, o'.g = some g → ¬ D g.1) {b : Bool} (hb : gval t o'.g = some b) : Region.wanted o (yielded ops a.tmps) = b := by
  rcases ho with ⟨h1, h2⟩ | ⟨j, want, oj, dj, h1, h2, h3, h4, h5⟩
  · rw [h2] at hb
    simp only [gval, Option.some.injEq] at hb
    subst hb
    simp [Region.wanted, h1]
  · rw [h4] at hb
    have hlt : dj < a.tmps.size := by rw [h.size]; exact h5
    have hget : a.tmps[dj]? = some (a.tmps.getD dj undef) := by simp [Array.getD, hlt]
    simp only [gval] at hb
    split at hb
    · rename_i q hq
      have hr := (h.get dj _ (hD _ h4) hq).bool_inv
      cases hb
      simp only [Region.wanted, h1, yielded, h2, Option.bind_some, h3, hget, hr]
      cases q <;> cases want <;> rfl
    · rename_i hq
      obtain ⟨cs, hr, hl⟩ := (h.get dj _ (hD _ h4) hq).tup_inv
      cases hb
      simp only [Region.wanted, h1, yielded, h2, Option.bind_some, h3, hget, hr]
      cases want <;> rfl
    · cases hb

theorem callFunc_run {f : Nat} (h : FnOk P f) (args : Array Value) : (callFunc f args).run P w = .ok (.enter f args) w := by
  obtain ⟨fn, h1, h2, h3⟩ := h
  simp only [callFunc, Sem.run_bind, run_program, Result.andThen_ok, h1, h3, Bool.false_eq_true, if_false, h2, Sem.run_pure]

def AOp.isCall : AOp → Bool
  | .call .. | .callv .. => true
  | _ => false
def NoCall (x : Option AOp) : Prop := ∀ op, x = some op → op.isCall = false
theorem NoCall.none : NoCall none := fun op h => by cases h
theorem NoCall.some {op : AOp} (h : op.isCall = false) : NoCall (some op) := fun o e => by cases e; exact h
theorem NoCall.bind {α : Type} {x : Option α} {f : α → Option AOp} (h : ∀ a, NoCall (f a)) : NoCall (x.bind f) := by
  cases x with
  | none => exact .none
  | some a => exact h a
theorem NoCall.map {α : Type} {x : Option α} {f : α → AOp} (h : ∀ a, (f a).isCall = false) : NoCall (x.map f) := by
  cases x with
  | none => exact .none
  | some a => exact .some (h a)
theorem bldZ_nocall (P : Program) (e : TypeId) (z : List AV) : (bldZ P e z).isCall = false := by
  unfold bldZ
  split
  · split <;> rfl
  · rfl
theorem comp_nocall : ∀ (o : Op), (∀ c, o ≠ .call c) → NoCall (compOp P o) := by
  intro o h
  cases o <;> unfold compOp
  all_goals
    repeat' first
      | contradiction
      | (exact absurd rfl (h _))
      | exact NoCall.none
      | exact NoCall.some rfl
      | (refine NoCall.map (fun _ => ?_); rfl)
      | exact NoCall.map (fun z => bldZ_nocall _ _ z)
      | refine NoCall.bind (fun _ => ?_)
      | split
theorem comp_nocall_builtin {b : Builtin} {args : Array Operand} {ats : Array TypeId} : NoCall (compCall P { callee := .builtin b, args := args, argTypes := ats }) := by
  unfold compCall
  repeat' first
    | contradiction
    | exact NoCall.none
    | exact NoCall.some rfl
    | (refine NoCall.map (fun _ => ?_); rfl)
    | refine NoCall.bind (fun _ => ?_)
    | split

def AOp.isNext : AOp → Bool
  | .nextM .. => true
  | _ => false
def NoNext (x : Option AOp) : Prop := ∀ op, x = some op → op.isNext = false
theorem NoNext.none : NoNext none := fun op h => by cases h
theorem NoNext.some {op : AOp} (h : op.isNext = false) : NoNext (some op) := fun o e => by cases e; exact h
theorem NoNext.bind {α : Type} {x : Option α} {f : α → Option AOp} (h : ∀ a, NoNext (f a)) : NoNext (x.bind f) := by
  cases x with
  | none => exact .none
  | some a => exact h a
theorem NoNext.map {α : Type} {x : Option α} {f : α → AOp} (h : ∀ a, (f a).isNext = false) : NoNext (x.map f) := by
  cases x with
  | none => exact .none
  | some a => exact .some (h a)
theorem bldZ_nonext (P : Program) (e : TypeId) (z : List AV) : (bldZ P e z).isNext = false := by
  unfold bldZ
  split
  · split <;> rfl
  · rfl
theorem comp_nonext : ∀ (o : Op), (∀ it s, o ≠ .next it s) → NoNext (compOp P o) := by
  intro o h
  cases o <;> unfold compOp
  all_goals
    try unfold compCall
    repeat' first
      | contradiction
      | (exact absurd rfl (h _ _))
      | exact NoNext.none
      | exact NoNext.some rfl
      | (refine NoNext.map (fun _ => ?_); rfl)
      | exact NoNext.map (fun z => bldZ_nonext _ _ z)
      | refine NoNext.bind (fun _ => ?_)
      | split
theorem comp_next {o : Op} {x : AOpd} (hc : compOp P o = some (.nextM x)) : ∃ it, o = .next it false ∧ opd it = some x := by
  rcases Classical.em (∃ it s, o = .next it s) with ⟨it, s, rfl⟩ | hno
  · simp only [compOp] at hc
    split at hc
    · cases hc
    · rename_i hs
      simp only [Option.map_eq_some_iff, AOp.nextM.injEq] at hc
      obtain ⟨a, ha, rfl⟩ := hc
      exact ⟨it, by cases s with | true => exact absurd rfl hs | false => rfl, ha⟩
  · have := comp_nonext o (fun it s e => hno ⟨it, s, e⟩) _ hc
    cases this
theorem Step.congr_world {M : Nat → Prop} {w2 : World} (h : Step M ρ σ w ρ' σ' w') (hh : w2.heap = w'.heap) (ho : w2.os = w'.os) (ht : w2.tape = w'.tape) (hout : w2.output = w'.output) : Step M ρ σ w ρ' σ' w2 :=
  ⟨h.st.congr hh, h.next, h.ext, h.fresh, h.old, h.same, fun c hc hno => by rw [hh]; exact h.frame c hc hno, by rw [hh]; exact h.size, ho.trans h.os, ht.trans h.tape, hout.trans h.out⟩
theorem iter_update {M : Nat → Prop} (st : St ρ σ w) {b b' o' m : Nat} {mm : Option Nat} {since last since' last' : Nat} {seen seen' : List Nat} {m' : Option Nat} (hget : σ.get b = some (.iter mm since seen last)) (hρb : ρ b = some (b', o', m))
    (h1 : mm = none → m' = none) (h2 : ∀ b, mm = some b → ∃ l o k, ρ b = some (l, o, k) ∧ m' = some l) :
    Step M ρ σ w ρ (σ.put b (some (.iter mm since' seen' last'))) { w with heap := w.heap.setIfInBounds b' (.mapIter m' since' seen'.toArray last') } := by
  obtain ⟨h0, m2, hh, _⟩ := st.rel b _ _ hget hρb
  have hlt : b' < w.heap.size := (Array.getElem?_eq_some_iff.1 hh).1
  refine .update st hget rfl rfl hρb ⟨h0, m', ?_, h1, h2⟩ (fun c hc => ?_) ?_ rfl rfl rfl
  · show (w.heap.setIfInBounds b' _)[b']? = _
    simp [hlt]
  · show (w.heap.setIfInBounds b' _)[c]? = _
    exact Array.getElem?_setIfInBounds_ne (fun e => hc e.symm)
  · show (w.heap.setIfInBounds b' _).size = _
    simp
theorem evs_nil_rel (P : Program) {xs : Array Operand} {l : List AOpd} {vs : List AV} (hl : opds xs.toList = some l) (hv : evs t l = some vs) (hE : HE a.eval ρ t l) : LRel ρ vs (xs.map a.eval) := by
  have := evs_rel (P := P) (η := a.eval) hl hv hE
  have e : (xs.toList.map a.eval).toArray = xs.map a.eval := by rw [← Array.toList_map]
  rwa [e] at this

theorem AStep.sim {o : Oper} {op : AOp} {id : Nat} {k : AV → Mem → Prop} (hcf : compOp P o.op = some op ∨ op = .fail) (h : AStep P Y id op t σ k) (hY : YOk P Y ρ w) (hE : HE a.eval ρ t op.opds) (st : St ρ σ w) (hρ : ρ id = none) (hid : id < σ.next) (hget : σ.get id = none)
    {K : Act → World → Prop} {Q : Exit → Act → World → Prop}
    (hK : ∀ v v' σ' ρ' w', k v σ' → VRel ρ' v v' → Step (fun b => b = id ∨ σ.next ≤ b) ρ σ w ρ' σ' w' → K (a.put o.dst v') w') : o.wpIn (Fc ro) 0 P a w K Q := by
  have hnf : op ≠ .fail := by intro e; subst e; simp [AStep, AOp.eff, eop] at h
  have hc := hcf.resolve_right hnf
  obtain ⟨dst, oop, ty, pos, after, g⟩ := o
  have nodef : ∀ c, oop ≠ .defer c := by
    intro c e
    subst e
    simp [compOp] at hc
  have sem : Oper.semAt (Fc ro).round a.eval ⟨dst, oop, ty, pos, after, g⟩ = execOp a.eval ⟨dst, oop, ty, pos, after, g⟩ := Oper.semAt_eq _ _ _ nodef
  have call : ∀ {f : Nat} {l : List AV} {args : Array Value}, ACalls P f l σ k → LRel ρ l args → (execOp a.eval ⟨dst, oop, ty, pos, after, g⟩).run P w = .ok (.enter f args) w → Oper.wpIn (Fc ro) 0 P ⟨dst, oop, ty, pos, after, g⟩ a w K Q := by
    intro f l args hcl hl hr
    refine ⟨fun _ _ => trivial, ?_⟩
    rw [sem, hr, Oper.uponIn_enter]
    refine ⟨fun h => by simp [Fence.wide] at h, callsIn_fc.2 ((hcl.2 ρ w args st hl).mono fun e w' ⟨v, v', σ', ρ', he, hQ, hv, hs⟩ => ?_)⟩
    subst he
    exact hK v v' σ' ρ' w' hQ hv (hs.weaken fun b hb => .inr hb)
  have quiet : op.eff = false → (match nop id op t σ with | some r => k r.1 (σ.add id r.2) | none => False) → Oper.wpIn (Fc ro) 0 P ⟨dst, oop, ty, pos, after, g⟩ a w K Q := by
    intro hne hm
    cases hn : nop id op t σ with
    | none => rw [hn] at hm; exact hm.elim
    | some r =>
      obtain ⟨v, ob⟩ := r
      rw [hn] at hm
      obtain ⟨v', w', ρ', hr, hN⟩ := nop_run hc hne hn hE st hρ dst ty pos after g
      refine ⟨fun _ _ => trivial, ?_⟩
      rw [sem, hr, Oper.uponIn_value]
      exact hK v v' _ ρ' w' hm hN.val ((hN.step_add st hρ hid).weaken fun b hb => .inl hb)
  have effect : (match eop id op t σ with | some r => k r.1 r.2 | none => False) → Oper.wpIn (Fc ro) 0 P ⟨dst, oop, ty, pos, after, g⟩ a w K Q := by
    intro hm
    cases he : eop id op t σ with
    | none => rw [he] at hm; exact hm.elim
    | some r =>
      obtain ⟨v, σ'⟩ := r
      rw [he] at hm
      obtain ⟨nx, v', w', ρ', hr, hnx, hv, hs⟩ := eop_run hc he hE st hρ hid hget dst ty pos after g
      refine ⟨fun _ _ => trivial, ?_⟩
      rw [sem, hr]
      rcases hnx with rfl | ⟨rfl, rfl⟩
      · rw [Oper.uponIn_value]; exact hK v v' _ ρ' w' hm hv (hs.weaken fun b hb => .inl hb)
      · rw [Oper.uponIn_skip]; exact hK v undef _ ρ' w' hm hv (hs.weaken fun b hb => .inl hb)
  have isc : op.isCall = true → ∃ x args ats, oop = .call { callee := .value x, args := args, argTypes := ats } := by
    intro hi
    rcases Classical.em (∃ c, oop = .call c) with ⟨c, rfl⟩ | hno
    · obtain ⟨callee, args, ats⟩ := c
      cases callee with
      | value x => exact ⟨x, args, ats, rfl⟩
      | invoke r m => simp [compOp, compCall] at hc
      | builtin b => have := comp_nocall_builtin op hc; rw [hi] at this; cases this
    · have := comp_nocall oop (fun c e => hno ⟨c, e⟩) op hc
      rw [hi] at this; cases this
  cases op
  case nextM x =>
    obtain ⟨it, rfl, hit⟩ := comp_next hc
    have done : ∀ {v' : Value} {w' : World} {v : AV} {σ' : Mem} {ρ' : Ren}, (Instr.next (a.eval it) false ty).run P w = .ok v' w' → k v σ' → VRel ρ' v v' → Step (· = id) ρ σ w ρ' σ' w' → Oper.wpIn (Fc ro) 0 P ⟨dst, .next it false, ty, pos, after, g⟩ a w K Q := by
      intro v' w' v σ' ρ' hr hk hv hs
      refine ⟨fun _ _ => trivial, ?_⟩
      have hr' : (execOp a.eval ⟨dst, .next it false, ty, pos, after, g⟩).run P w = .ok (.value v') w' := by
        simp only [execOp, Sem.run_bind, hr, Result.andThen_ok, Sem.run_pure]
      rw [sem, hr', Oper.uponIn_value]
      exact hK v v' _ ρ' w' hk hv (hs.weaken fun b hb => .inl hb)
    have htf : ∀ {ρ : Ren}, VRel ρ (.tup [.bool false]) (.tuple #[.bool false]) := .tup rfl (fun i a v ha hv => by
      match i with
      | 0 => simp at ha hv; subst ha; subst hv; exact .bool _
      | i + 1 => simp at ha)
    simp only [AStep] at h
    split at h
    · rename_i b hx
      have h1 := hE it x _ hit (by simp [AOp.opds]) hx
      obtain ⟨b', o', m, hρb, e1⟩ := h1.ptr_inv
      split at h
      · rename_i since seen last hq
        obtain ⟨ho, m', hm', hn, _⟩ := st.rel b _ _ hq hρb
        have hn := hn rfl
        dsimp only at ho hm'
        subst ho hn
        refine done (v' := .tuple #[.bool false]) (w' := w) ?_ h htf (.refl st)
        simp only [Instr.next, e1, Nat.add_zero, getObj, Sem.run_bind, Sem.run, hm', Result.andThen]; rfl
      · rename_i mb since seen last hq
        obtain ⟨ho, m', hm', _, hmm⟩ := st.rel b _ _ hq hρb
        obtain ⟨l, o2, k2, hρm, rfl⟩ := hmm mb rfl
        dsimp only at ho hm'
        subst ho
        split at h
        · rename_i es clock hq2
          obtain ⟨_, xs, hh, hER⟩ := (st.rel mb _ _ hq2 hρm).map_inv
          obtain ⟨hold, hsl, hover, hstep⟩ := h
          have hpair : ∀ y ∈ xs.toList, ∃ e ∈ es, VRel ρ e.1 y.key ∧ VRel ρ e.2.1 y.val ∧ y.born = e.2.2 := by
            intro y hy
            obtain ⟨i, hi, rfl⟩ := List.getElem_of_mem hy
            have hlen := hER.1
            have hr := hER.2 i es[i] xs.toList[i] (List.getElem?_eq_getElem (by omega)) (List.getElem?_eq_getElem hi)
            exact ⟨es[i], List.getElem_mem _, hr⟩
          have hold' : ∀ y ∈ xs.toList, y.born < since := fun y hy => by
            obtain ⟨e, he, _, _, hb⟩ := hpair y hy
            rw [hb]; exact hold e he
          rcases run_next_at (P := P) w ty b' l since last seen.toArray xs clock hm' hh hold' hsl with ⟨h0, hr⟩ | ⟨y, hy, w1, hw1, hr⟩
          · refine done (v' := .tuple #[.bool false]) (w' := w) (by rw [e1]; exact hr) (hover fun e he => ?_) htf (.refl st)
            obtain ⟨i, hi, rfl⟩ := List.getElem_of_mem he
            have hlen := hER.1
            have hrr := hER.2 i es[i] (xs.toList[i]'(by omega)) (List.getElem?_eq_getElem hi) (List.getElem?_eq_getElem (by omega))
            rw [← hrr.2.2]
            have hem : leftOf xs seen.toArray = #[] := Array.eq_empty_of_size_eq_zero h0
            unfold leftOf at hem
            rw [Array.filter_eq_empty_iff] at hem
            have := hem (xs.toList[i]'(by omega)) (Array.mem_def.2 (List.getElem_mem _))
            simpa using this
          · have hyl : y ∈ xs.toList ∧ y.born ∉ seen := by
              unfold leftOf at hy
              simp at hy
              exact ⟨by simpa using hy.1, hy.2⟩
            obtain ⟨e, he, hk1, hk2, hb⟩ := hpair y hyl.1
            have hu := iter_update (M := (· = id)) (since' := since) (seen' := seen ++ [e.2.2]) (last' := clock) (m' := some l) st hq hρb (fun e => by cases e) (fun b2 hb2 => by injection hb2 with hb2; subst hb2; exact ⟨l, o2, k2, hρm, rfl⟩)
            refine done (v' := .tuple #[.bool true, y.key, y.val]) (w' := ChangeMaps.setBlock w1 b' (.mapIter (some l) since (seen.toArray.push y.born) clock)) (by rw [e1]; exact hr) (hstep e he (by rw [← hb]; exact hyl.2)) ?_ (hu.congr_world ?_ ?_ ?_ ?_)
            · exact .tup rfl (fun i a v ha hv => by
                match i with
                | 0 => simp at ha hv; subst ha; subst hv; exact .bool _
                | 1 => simp at ha hv; subst ha; subst hv; exact hk1
                | 2 => simp at ha hv; subst ha; subst hv; exact hk2
                | i + 3 => simp at ha)
            · have hpush : seen.toArray.push y.born = (seen ++ [e.2.2]).toArray := by rw [hb, List.push_toArray]
              rcases hw1 with rfl | rfl
              · show w1.heap.setIfInBounds b' _ = w1.heap.setIfInBounds b' _
                rw [hpush]
              · show w.heap.setIfInBounds b' _ = w.heap.setIfInBounds b' _
                rw [hpush]
            · rcases hw1 with rfl | rfl <;> rfl
            · rcases hw1 with rfl | rfl <;> rfl
            · rcases hw1 with rfl | rfl <;> rfl
        · exact h.elim
      · exact h.elim
    · exact h.elim
  case call f xs =>
    simp only [AStep] at h
    split at h
    · rename_i l hl
      obtain ⟨x, args, ats, rfl⟩ := isc rfl
      cases x with
      | func f' =>
        simp only [compOp, compCall, Option.bind_eq_some_iff] at hc
        obtain ⟨fn, hfn, hc⟩ := hc
        split at hc
        · simp only [Option.map_eq_some_iff, AOp.call.injEq] at hc
          obtain ⟨l', hl', rfl, rfl⟩ := hc
          have hlr := evs_nil_rel P hl' hl hE
          refine call h hlr ?_
          have hcf := callFunc_run (w := w) h.1 (args.map a.eval)
          simp only [execOp, resolve, Deferred.ofValue, Act.eval, invoke, Sem.run_bind, Sem.run_pure, Result.andThen_ok, Array.empty_append, Array.append_empty]
          exact hcf
        · cases hc
      | tmp i => simp [compOp, compCall, Option.bind_eq_some_iff] at hc
      | const c => simp [compOp, compCall, Option.bind_eq_some_iff] at hc
      | global g => simp [compOp, compCall, Option.bind_eq_some_iff, opd] at hc
    · exact h.elim
  case callv x xs =>
    simp only [AStep] at h
    split at h
    · rename_i f c l hx hl
      obtain ⟨y, args, ats, rfl⟩ := isc rfl
      have hcc : (opd y).bind (fun a => (opds args.toList).map (AOp.callv a)) = some (AOp.callv x xs) := by
        cases y <;> first | exact hc | skip
        simp only [compOp, compCall, Option.bind_eq_some_iff] at hc
        obtain ⟨fn, hfn, hc⟩ := hc
        split at hc
        · simp [Option.map_eq_some_iff] at hc
        · cases hc
      simp only [Option.bind_eq_some_iff, Option.map_eq_some_iff, AOp.callv.injEq] at hcc
      obtain ⟨x', hx', l', hl', rfl, rfl⟩ := hcc
      have hlr := evs_nil_rel P hl' hl (hE.sub fun b hb => by simp [AOp.opds, hb])
      have hfr := hE y x' _ hx' (by simp [AOp.opds]) hx
      generalize hey : a.eval y = ev at hfr
      cases hfr with
      | func h1 h2 =>
        rename_i cs
        refine call h (hlr.append ⟨h1, h2⟩) ?_
        have hcf := callFunc_run (w := w) h.1 (args.map a.eval ++ cs)
        simp only [execOp, resolve, hey, Deferred.ofValue, invoke, Sem.run_bind, Sem.run_pure, Result.andThen_ok, Array.empty_append]
        exact hcf
    · rename_i b l hx hl
      cases hYb : Y b with
      | none => rw [hYb] at h; exact h.elim
      | some T =>
        rw [hYb] at h
        obtain ⟨K0, hT, hK0⟩ := h
        obtain ⟨y, args, ats, rfl⟩ := isc rfl
        have hcc : (opd y).bind (fun a => (opds args.toList).map (AOp.callv a)) = some (AOp.callv x xs) := by
          cases y <;> first | exact hc | skip
          simp only [compOp, compCall, Option.bind_eq_some_iff] at hc
          obtain ⟨fn, hfn, hc⟩ := hc
          split at hc
          · simp [Option.map_eq_some_iff] at hc
          · cases hc
        simp only [Option.bind_eq_some_iff, Option.map_eq_some_iff, AOp.callv.injEq] at hcc
        obtain ⟨x', hx', l', hl', rfl, rfl⟩ := hcc
        have hlr := evs_nil_rel P hl' hl (hE.sub fun b hb => by simp [AOp.opds, hb])
        have hfr := hE y x' _ hx' (by simp [AOp.opds]) hx
        obtain ⟨lb, o, m, r, h1, h2, h3⟩ := hY b T hYb
        generalize hey : a.eval y = ev at hfr
        cases hfr with
        | yld h4 =>
          rename_i lb' o' m'
          rw [h1] at h4
          cases h4
          obtain ⟨hsz, hround⟩ := h3 ρ σ w l (args.map a.eval) K0 (fun _ _ e => e) st h2 hlr hT
          have hrun : (execOp a.eval ⟨dst, .call { callee := .value y, args := args, argTypes := ats }, ty, pos, after, g⟩).run P w = .ok (.round lb r.fn ((r.params.zip (args.map a.eval)).foldl (fun tmps (t, a) => tmps.setIfInBounds t a) r.tmps) r.assign r.body) w := by
            have := run_yield (P := P) h2 hsz
            simp only [execOp, resolve, hey, Deferred.ofValue, invoke, Sem.run_bind, Sem.run_pure, Result.andThen_ok, Array.empty_append, Array.append_empty]
            exact this
          refine ⟨fun _ _ => trivial, ?_⟩
          rw [sem, hrun, Oper.uponIn_round]
          refine ⟨fun h => by simp [Fence.wide] at h, RoundIn.mono (F := Fence.wide) hround fun e w' ⟨v, v', σ', ρ', he, hQ, hv, hs⟩ => ?_⟩
          subst he
          exact hK v v' σ' ρ' w' (hK0 _ _ hQ) hv (hs.weaken fun b hb => .inr hb)
    · exact h.elim
  all_goals first
    | exact effect (by simpa [AStep, AOp.eff] using h)
    | exact quiet rfl (by simpa [AStep, AOp.eff] using h)
end
end Go.Vit
end

section
namespace Go.Vit
section
variable {P : Program} {Y : YEnv} {ro : Option Nat} {ds : List Deferred} {N : Nat} {ρ ρ' : Ren} {σ σ' : Mem} {t : Tmps} {a : Act} {w w' : World}

theorem St.bump (st : St ρ σ w) (n : Nat) : St ρ (σ.bump n) w :=
  ⟨fun b p h => Nat.lt_of_lt_of_le (st.dom b p h) (Nat.le_add_right _ _), fun b k h => Nat.lt_of_lt_of_le (st.live b k h) (Nat.le_add_right _ _), st.rel, st.inj⟩
theorem Step.bump {M : Nat → Prop} (st : St ρ σ w) (n : Nat) : Step M ρ σ w ρ (σ.bump n) w :=
  ⟨st.bump n, Nat.le_add_right _ _, fun _ _ e => e, fun b p e e' => by rw [e] at e'; (cases e'), fun b k h _ => ⟨k, h, rfl⟩, fun _ _ _ => rfl, fun _ _ _ => rfl, Nat.le_refl _, rfl, rfl, rfl⟩

def Free (base : Nat) (ρ : Ren) (σ : Mem) (i : Nat) : Prop := ρ (base + i) = none ∧ σ.get (base + i) = none ∧ base + i < σ.next
theorem Free.step {base i j : Nat} (h : Free base ρ σ i) (hs : Step (fun b => b = base + j ∨ σ.next ≤ b) ρ σ w ρ' σ' w') (hne : i ≠ j) : Free base ρ' σ' i := by
  obtain ⟨h1, h2, h3⟩ := h
  have hn : ¬ (base + i = base + j ∨ σ.next ≤ base + i) := by omega
  refine ⟨?_, (hs.same _ hn h1).trans h2, Nat.lt_of_lt_of_le h3 hs.next⟩
  cases e : ρ' (base + i) with
  | none => rfl
  | some p => exact absurd (hs.fresh _ p e h1).1 hn

theorem wpOps_seq {ops : Array Oper} {base : Nat} {K : Tmps → Mem → Prop} {Q : Exit → Act → World → Prop} {ρ0 : Ren} {σ0 : Mem} {w0 : World}
    (hQ : ∀ t' σ' ρ' a' w', K t' σ' → TRel ds N (fun _ => False) ρ' t' a' → Step (fun b => base ≤ b) ρ0 σ0 w0 ρ' σ' w' → Q .normal a' w') (st0 : St ρ0 σ0 w0) (hY : YOk P Y ρ0 w0) : ∀ (l : List RegE) (t : Tmps) (σ : Mem) (ρ : Ren) (a : Act) (w : World),
      (∀ p ∈ l, CompOper P N ops p.i p.o) → (l.map (·.i)).Nodup → (∀ p ∈ l, Free base ρ σ p.i) → base ≤ σ.next → AOps P Y base K l t σ → TRel ds N (fun _ => False) ρ t a → Step (fun b => base ≤ b) ρ0 σ0 w0 ρ σ w →
      wpOpsIn (Fc ro) 0 P ops Q (l.map (·.i)) a w
  | [], t, σ, ρ, a, w, _, _, _, _, h, ht, hs => hQ t σ ρ a w h ht hs
  | p :: l, t, σ, ρ, a, w, hc, hnd, hf, hb, h, ht, hs => by
    obtain ⟨o, ho, hco, hd, hg, hdn⟩ := (hc p (by simp)).ex
    obtain ⟨f1, f2, f3⟩ := hf p (by simp)
    have hdn' : ∀ i, p.o.d = some i → i < N := fun i e => hdn i (by rw [← hd]; exact e)
    have hcl : ∀ q ∈ l, CompOper P N ops q.i q.o := fun q hq => hc q (by simp [hq])
    simp only [List.map_cons, List.nodup_cons] at hnd
    rw [List.map_cons, wpOpsIn_cons]
    unfold wpOpIn
    simp only [ho]
    simp only [AOps] at h
    cases hgv : gval t p.o.g with
    | none => rw [hgv] at h; exact h.elim
    | some b =>
      have hw := guard_rel (o' := p.o) hg ht (fun _ _ x => x) hgv
      rw [hgv] at h
      cases b with
      | false =>
        simp only [hw, Bool.false_eq_true, if_false]
        refine ⟨fun _ _ => trivial, ?_⟩
        refine wpOps_seq hQ st0 hY l _ σ ρ _ w hcl hnd.2 (fun q hq => hf q (by simp [hq])) hb h ?_ hs
        rw [← hd]
        exact (ht.put undef_rel hdn').weaken (fun i hi => hi.1)
      | true =>
        simp only [hw, if_true]
        refine (h : AStep P Y _ _ _ _ _).sim hco (hY.step st0 hs) (ht.he (fun _ _ _ _ x => x)) hs.st f1 f3 f2 ?_
        intro v v' σ' ρ' w' hk hv hst
        refine wpOps_seq hQ st0 hY l _ σ' ρ' _ w' hcl hnd.2 (fun q hq => (hf q (by simp [hq])).step hst (fun e => hnd.1 (by rw [← e]; exact List.mem_map_of_mem hq))) (Nat.le_trans hb hst.next) hk.2 ?_
          (hs.trans hst (fun _ e => e) (fun b e => by rcases e with rfl | e <;> omega))
        rw [← hd]
        exact ((ht.mono hst.ext).put hv hdn').weaken (fun i hi => hi.1)

/-! ### Code -/
inductive ACode where
  | skip
  | region (n : Nat) (ops : List RegE)
  | seq (a b : ACode)
  | cond (c : AOpd) (thn els : ACode)
  | block (id : Nat) (body : ACode)
  | loop (body : ACode)
  | exit (id : Nat)
  | ret
  | scope (body : ACode)
  | forget (ks : List Nat)
  | range (g : AOpd) (ps : List Nat) (assign body : ACode)
  | regionX (n : Nat) (ops : List RegE) (p q : RegE) (fq fp : List (Nat × AOp))
  | stuck

def Tmps.keep (t : Tmps) : List Nat → Tmps
  | [] => .leaf
  | k :: ks => Tr.put (Tmps.keep t ks) k (Tr.get t k)

abbrev APost := Exit → Tmps → Mem → Prop
def APost.then (K : Tmps → Mem → Prop) (Q : APost) : APost
  | .normal, t, σ => K t σ
  | e, t, σ => Q e t σ
def APost.inBlock (id : Nat) (Q : APost) : APost
  | .exit id', t, σ => if id' = id then Q .normal t σ else Q (.exit id') t σ
  | e, t, σ => Q e t σ

def Tmps.fill : Tmps → List Nat → List AV → Tmps
  | t, i :: is, v :: vs => Tmps.fill (Tr.put t i (some v)) is vs
  | t, _, _ => t
def oneY (b : Nat) (T : YT) : YEnv := fun b' => if b' = b then some T else none
def AW (P : Program) (Y : YEnv) : ACode → APost → Tmps → Mem → Prop
  | .skip, Q, t, σ => Q .normal t σ
  | .region n ops, Q, t, σ => AOps P Y σ.next (fun t σ => Q .normal t σ) ops t (σ.bump n)
  | .seq x y, Q, t, σ => AW P Y x (APost.then (fun t σ => AW P Y y Q t σ) Q) t σ
  | .cond c x y, Q, t, σ => match c.ev t with
    | some (.bool b) => (b = true → AW P Y x Q t σ) ∧ (b = false → AW P Y y Q t σ)
    | _ => False
  | .block id x, Q, t, σ => AW P Y x (APost.inBlock id Q) t σ
  | .loop x, Q, t, σ => ∃ (I : Tmps → Mem → Prop) (μ : Tmps → Mem → Nat), I t σ ∧ ∀ t σ, I t σ → AW P Y x (APost.then (fun t' σ' => I t' σ' ∧ μ t' σ' < μ t σ) Q) t σ
  | .exit id, Q, t, σ => Q (.exit id) t σ
  | .ret, Q, t, σ => Q .ret t σ
  | .scope x, Q, t, σ => AW P Y x Q t σ
  | .forget ks, Q, t, σ => Q .normal (Tmps.keep t ks) σ
  | .range g ps assign body, Q, t, σ => match g.ev t with
    | some (.func f c) => ACallsY P (oneY σ.next fun args σ' K => args.length = ps.length ∧ AW P noY assign (APost.then (fun t1 σ1 => AW P noY body (fun e _ σ2 => match e with
      | .normal => K (.bool true) σ2
      | _ => False) t1 σ1) (fun _ _ _ => False)) (Tmps.fill t ps args) σ') f (.yld σ.next :: c) (σ.bump 1) fun _ σ' => Q .normal t σ'
    | _ => False
  | .regionX n ops p q fq fp, Q, t, σ => AOps P Y σ.next (fun t' σ' => AOps P Y σ.next (fun t σ => Q .normal t σ) [p, q] t' σ' ∧ AOps P Y σ.next (fun t σ => Q .normal t σ) [⟨q.i, q.o, fq⟩, ⟨p.i, p.o, fp⟩] t' σ') ops t (σ.bump n)
  | .stuck, _, _, _ => False

def mk (Ds : List Nat) : List Deferred := Ds.map fun D => { target := .collected D, args := #[] }
def Marks (B : Nat) (Ds : List Nat) (w : World) : Prop := Ds.Nodup ∧ ∀ D ∈ Ds, B ≤ D ∧ w.heap[D]? = some (.deferred (some []))
theorem Marks.step {B : Nat} {Ds : List Nat} {M : Nat → Prop} (h : Marks B Ds w) (st : St ρ σ w) (hs : Step M ρ σ w ρ' σ' w') : Marks B Ds w' :=
  ⟨h.1, fun D hD => ⟨(h.2 D hD).1, hs.still st (h.2 D hD).2 (by simp) (by simp) (by simp)⟩⟩

def CodeOk (ro : Option Nat) (P : Program) (Y : YEnv) (N : Nat) (c : Code) (ac : ACode) : Prop :=
  ∀ (Q : APost) (t : Tmps) (σ : Mem), AW P Y ac Q t σ → ∀ (ρ : Ren) (a : Act) (w : World) (B : Nat) (Ds : List Nat), St ρ σ w → TRel (mk Ds) N (fun _ => False) ρ t a → YOk P Y ρ w → B ≤ w.heap.size → Marks B Ds w →
    c.wpIn (Fc ro) 0 P (fun e a' w' => ∃ t' σ' ρ' Ds', Q e t' σ' ∧ TRel (mk Ds') N (fun _ => False) ρ' t' a' ∧ Step (fun b => σ.next ≤ b) ρ σ w ρ' σ' w' ∧ Marks B Ds' w') a w

theorem CodeOk.skip : CodeOk ro P Y N .skip .skip := fun Q t σ h ρ a w B Ds st ht _ _ hm => wpIn_skip ⟨t, σ, ρ, Ds, h, ht, .refl st, hm⟩
theorem CodeOk.exit (id : Nat) : CodeOk ro P Y N (.exit id) (.exit id) := fun Q t σ h ρ a w B Ds st ht _ _ hm => wpIn_exit ⟨t, σ, ρ, Ds, h, ht, .refl st, hm⟩
theorem CodeOk.ret : CodeOk ro P Y N .ret .ret := fun Q t σ h ρ a w B Ds st ht _ _ hm => wpIn_ret ⟨t, σ, ρ, Ds, h, ht, .refl st, hm⟩
theorem CodeOk.stuck {c : Code} : CodeOk ro P Y N c .stuck := fun Q t σ h => (show False from h).elim
theorem CodeOk.seq {x y : Code} {ax ay : ACode} (hx : CodeOk ro P Y N x ax) (hy : CodeOk ro P Y N y ay) : CodeOk ro P Y N (.seq x y) (.seq ax ay) := by
  intro Q t σ h ρ a w B Ds st ht hY hB hm
  refine wpIn_seq (wpIn_mono (hx _ t σ h ρ a w B Ds st ht hY hB hm) ?_)
  rintro e a' w' ⟨t', σ', ρ', Ds', hq, ht', hs, hm'⟩
  cases e with
  | normal =>
    refine wpIn_mono (hy Q t' σ' hq ρ' a' w' B Ds' hs.st ht' (hY.step st hs) (Nat.le_trans hB hs.size) hm') ?_
    rintro e a'' w'' ⟨t'', σ'', ρ'', Ds'', hq', ht'', hs', hm''⟩
    exact ⟨t'', σ'', ρ'', Ds'', hq', ht'', hs.trans hs' (fun _ e => e) (fun b e => Nat.le_trans hs.next e), hm''⟩
  | _ => exact ⟨t', σ', ρ', Ds', hq, ht', hs, hm'⟩
theorem CodeOk.cond {c : Operand} {ac : AOpd} {x y : Code} {ax ay : ACode} (hc : opd c = some ac) (hx : CodeOk ro P Y N x ax) (hy : CodeOk ro P Y N y ay) : CodeOk ro P Y N (.cond c x y) (.cond ac ax ay) := by
  intro Q t σ h ρ a w B Ds st ht hY hB hm
  simp only [AW] at h
  split at h
  · rename_i b hb
    have hv := (ht.eval hc hb (fun _ _ x => x)).bool_inv
    refine wpIn_cond_split hv (fun e => ?_) (fun e => ?_)
    · exact hx Q t σ (h.1 e) ρ a w B Ds st ht hY hB hm
    · exact hy Q t σ (h.2 e) ρ a w B Ds st ht hY hB hm
  · exact h.elim
theorem CodeOk.block {id : Nat} {x : Code} {ax : ACode} (hx : CodeOk ro P Y N x ax) : CodeOk ro P Y N (.block id x) (.block id ax) := by
  intro Q t σ h ρ a w B Ds st ht hY hB hm
  refine wpIn_block (wpIn_mono (hx _ t σ h ρ a w B Ds st ht hY hB hm) ?_)
  rintro e a' w' ⟨t', σ', ρ', Ds', hq, ht', hs, hm'⟩
  cases e with
  | exit id' =>
    simp only [APost.inBlock] at hq
    simp only [Exit.inBlock]
    split
    · rename_i hid; rw [if_pos hid] at hq; exact ⟨t', σ', ρ', Ds', hq, ht', hs, hm'⟩
    · rename_i hid; rw [if_neg hid] at hq; exact ⟨t', σ', ρ', Ds', hq, ht', hs, hm'⟩
  | _ => exact ⟨t', σ', ρ', Ds', hq, ht', hs, hm'⟩
theorem CodeOk.loop {x : Code} {ax : ACode} (hx : CodeOk ro P Y N x ax) : CodeOk ro P Y N (.loop x) (.loop ax) := by
  intro Q t σ h ρ a w B Ds st ht hY hB hm
  obtain ⟨I, μ, h0, hI⟩ := h
  -- by induction on the measure
  intro b k cs hro hb hr
  have key : ∀ n t' σ' ρ' Ds' a' w', μ t' σ' = n → I t' σ' → TRel (mk Ds') N (fun _ => False) ρ' t' a' → Step (fun b => σ.next ≤ b) ρ σ w ρ' σ' w' → Marks B Ds' w' →
      ∃ e a'' w'', (∃ t'' σ'' ρ'' Ds'', Q e t'' σ'' ∧ TRel (mk Ds'') N (fun _ => False) ρ'' t'' a'' ∧ Step (fun b => σ.next ≤ b) ρ σ w ρ'' σ'' w'' ∧ Marks B Ds'' w'') ∧
        ArrivesIn (Machine.fenced P (Fc ro)) P (lone (b.atR a' (.code x :: .inLoop x :: k)) cs w') b k cs e a'' w'' := by
    intro n
    induction n using Nat.strongRecOn with
    | _ n ih =>
      intro t' σ' ρ' Ds' a' w' hn hi ht' hs hm'
      obtain ⟨e, a1, w1, ⟨t1, σ1, ρ1, Ds1, hq, ht1, hs1, hm1⟩, harr⟩ := hx _ t' σ' (hI t' σ' hi) ρ' a' w' B Ds' hs.st ht' (hY.step st hs) (Nat.le_trans hB hs.size) hm' b (.inLoop x :: k) cs hro hb hr
      have hs2 : Step (fun b => σ.next ≤ b) ρ σ w ρ1 σ1 w1 := hs.trans hs1 (fun _ e => e) (fun b e => Nat.le_trans hs.next e)
      cases e with
      | normal =>
        obtain ⟨hi1, hlt⟩ := hq
        obtain ⟨e2, a2, w2, hq2, harr2⟩ := ih (μ t1 σ1) (hn ▸ hlt) t1 σ1 ρ1 Ds1 a1 w1 rfl hi1 ht1 hs2 hm1
        exact ⟨e2, a2, w2, hq2, .of_steps (StepsIn.trans harr (.one (fenced_calm hb hr rfl) stepR_inLoop)) harr2⟩
      | exit id => exact ⟨_, a1, w1, ⟨t1, σ1, ρ1, Ds1, hq, ht1, hs2, hm1⟩, .pass (x := .inLoop x) rfl (fun _ _ => .inl (by simp)) harr⟩
      | goto l => exact ⟨_, a1, w1, ⟨t1, σ1, ρ1, Ds1, hq, ht1, hs2, hm1⟩, .pass (x := .inLoop x) rfl (fun _ _ => .inl (by simp)) harr⟩
      | ret => exact ⟨_, a1, w1, ⟨t1, σ1, ρ1, Ds1, hq, ht1, hs2, hm1⟩, .pass (x := .inLoop x) rfl (fun _ _ => .inl (by simp)) harr⟩
      | panic ch => exact ⟨_, a1, w1, ⟨t1, σ1, ρ1, Ds1, hq, ht1, hs2, hm1⟩, .pass (x := .inLoop x) rfl (fun _ _ => .inl (by simp)) harr⟩
      | outgrown => exact ⟨_, a1, w1, ⟨t1, σ1, ρ1, Ds1, hq, ht1, hs2, hm1⟩, .pass (x := .inLoop x) rfl (fun _ _ => .inl (by simp)) harr⟩
  obtain ⟨e, a', w', hq, harr⟩ := key _ t σ ρ Ds a w rfl h0 ht (.refl st) hm
  exact ⟨e, a', w', hq, .of_steps (.one (fenced_calm hb hr rfl) stepR_loop) harr⟩

theorem AStep.mono {id : Nat} {op : AOp} {k k' : AV → Mem → Prop} (h : AStep P Y id op t σ k) (hk : ∀ v σ, k v σ → k' v σ) : AStep P Y id op t σ k' := by
  cases op
  case nextM x =>
    simp only [AStep] at h ⊢
    split at h
    · split at h
      · exact hk _ _ h
      · split at h
        · obtain ⟨h1, h2, h3, h4⟩ := h
          exact ⟨h1, h2, fun hh => hk _ _ (h3 hh), fun e he hn => hk _ _ (h4 e he hn)⟩
        · exact h.elim
      · exact h.elim
    · exact h.elim
  case call f xs =>
    simp only [AStep] at h ⊢
    split at h
    · exact h.mono hk
    · exact h.elim
  case callv x xs =>
    simp only [AStep] at h ⊢
    split at h
    · exact h.mono hk
    · split at h
      · obtain ⟨K, h1, h2⟩ := h
        exact ⟨K, h1, fun v σ' h3 => hk _ _ (h2 _ _ h3)⟩
      · exact h.elim
    · exact h.elim
  all_goals
    simp only [AStep] at h ⊢
    split at h
    · rename_i he
      rw [if_pos he]
      split at h
      · exact hk _ _ h
      · exact h.elim
    · rename_i he
      rw [if_neg he]
      split at h
      · exact hk _ _ h
      · exact h.elim
theorem AOps.mono {base : Nat} {K K' : Tmps → Mem → Prop} (hK : ∀ t σ, K t σ → K' t σ) : ∀ {l : List RegE} {t : Tmps} {σ : Mem}, AOps P Y base K l t σ → AOps P Y base K' l t σ
  | [], t, σ, h => hK t σ h
  | p :: l, t, σ, h => by
    simp only [AOps] at h ⊢
    split at h
    · exact AStep.mono h fun v σ' hk => ⟨hk.1, hk.2.mono hK⟩
    · exact h.mono hK
    · exact h.elim
theorem AW.mono {Q Q' : APost} (hQ : ∀ e t σ, (∀ l, e ≠ .goto l) → Q e t σ → Q' e t σ) : ∀ {c : ACode} {t : Tmps} {σ : Mem}, AW P Y c Q t σ → AW P Y c Q' t σ := by
  intro c
  induction c generalizing Q Q' with
  | skip => exact fun h => hQ _ _ _ (by simp) h
  | region n ops => exact fun h => AOps.mono (fun t σ h => hQ _ _ _ (by simp) h) h
  | seq x y ihx ihy =>
    intro t σ h
    refine ihx (fun e t σ he h => ?_) h
    cases e with
    | normal => exact ihy hQ h
    | _ => exact hQ _ _ _ he h
  | cond c x y ihx ihy =>
    intro t σ h
    simp only [AW] at h ⊢
    split at h
    · exact ⟨fun e => ihx hQ (h.1 e), fun e => ihy hQ (h.2 e)⟩
    · exact h.elim
  | block id x ih =>
    intro t σ h
    refine ih (fun e t σ he h => ?_) h
    cases e with
    | exit id' =>
      simp only [APost.inBlock] at h ⊢
      split
      · rename_i hi; rw [if_pos hi] at h; exact hQ _ _ _ (by simp) h
      · rename_i hi; rw [if_neg hi] at h; exact hQ _ _ _ (by simp) h
    | _ => exact hQ _ _ _ he h
  | loop x ih =>
    intro t σ h
    obtain ⟨I, μ, h0, hI⟩ := h
    refine ⟨I, μ, h0, fun t σ hi => ih (fun e t σ he h => ?_) (hI t σ hi)⟩
    cases e with
    | normal => exact h
    | _ => exact hQ _ _ _ he h
  | exit id => exact fun h => hQ _ _ _ (by simp) h
  | ret => exact fun h => hQ _ _ _ (by simp) h
  | scope x ih => exact fun h => ih hQ h
  | forget ks => exact fun h => hQ _ _ _ (by simp) h
  | range g ps assign body =>
    intro t σ h
    simp only [AW] at h ⊢
    split at h
    · exact h.mono fun _ σ' h => hQ _ _ _ (by simp) h
    · exact h.elim
  | regionX n ops p q fq fp => exact fun h => AOps.mono (fun t σ h => ⟨AOps.mono (fun t σ h => hQ _ _ _ (by simp) h) h.1, AOps.mono (fun t σ h => hQ _ _ _ (by simp) h) h.2⟩) h
  | stuck => exact fun h => h
theorem Tmps.get_keep (t : Tmps) : ∀ (ks : List Nat) (i : Nat) (v : AV), Tr.get (Tmps.keep t ks) i = some v → Tr.get t i = some v
  | [], i, v, h => by simp [Tmps.keep, Tr.get_leaf] at h
  | k :: ks, i, v, h => by
    rw [Tmps.keep, Tr.get_put] at h
    split at h
    · rename_i e; subst e; exact h
    · exact Tmps.get_keep t ks i v h
theorem TRel.keep (h : TRel ds N (fun _ => False) ρ t a) (ks : List Nat) : TRel ds N (fun _ => False) ρ (Tmps.keep t ks) a :=
  ⟨h.defers, h.size, fun i v hd hv => h.get i v hd (Tmps.get_keep t ks i v hv)⟩
theorem CodeOk.keepAfter {x : Code} {ax : ACode} (hx : CodeOk ro P Y N x ax) (ks : List Nat) : CodeOk ro P Y N x (.seq ax (.forget ks)) := by
  intro Q t σ h ρ a w B Ds st ht hY hB hm
  refine wpIn_mono (hx _ t σ h ρ a w B Ds st ht hY hB hm) ?_
  rintro e a' w' ⟨t', σ', ρ', Ds', hq, ht', hs, hm'⟩
  cases e with
  | normal => exact ⟨_, σ', ρ', Ds', hq, ht'.keep ks, hs, hm'⟩
  | _ => exact ⟨t', σ', ρ', Ds', hq, ht', hs, hm'⟩
theorem CodeOk.keepBefore {x : Code} {ax : ACode} (hx : CodeOk ro P Y N x ax) (ks : List Nat) : CodeOk ro P Y N x (.seq (.forget ks) ax) := by
  intro Q t σ h ρ a w B Ds st ht hY hB hm
  exact hx Q _ σ h ρ a w B Ds st (ht.keep ks) hY hB hm
def APost.noGoto (Q : APost) : APost
  | .goto _, _, _ => False
  | e, t, σ => Q e t σ
theorem stepR_scope {b : Frame} {k : List Item} {cs : List Frame} {c : Code} : step P (lone (b.atR a (.code (.scope c) :: k)) cs w) = .next (lone (b.atR a (.code c :: .inScope c :: k)) cs w) :=
  step_lone_go (by simp [stepG, stepG.exec, Frame.atR])
theorem stepR_inScope {b : Frame} {k : List Item} {cs : List Frame} {c : Code} : step P (lone (b.atR a (.inScope c :: k)) cs w) = .next (lone (b.atR a k) cs w) :=
  step_lone_go (by simp [stepG, stepG.exec, Frame.atR])
theorem wpIn_scope_straight {F : Fence} {n : Nat} {Q : Exit → Act → World → Prop} {c : Code} (h : c.wpIn F n P (Exit.noGoto Q) a w) : (Code.scope c).wpIn F n P Q a w := by
  intro b k cs hro hb hr
  obtain ⟨e, a₁, w₁, hq, harr⟩ := h b (.inScope c :: k) cs hro hb hr
  have s0 : StepsIn (Machine.fenced P F) P (lone (b.atR a (.code (.scope c) :: k)) cs w) (lone (b.atR a (.code c :: .inScope c :: k)) cs w) := .one (fenced_calm hb hr rfl) stepR_scope
  cases e with
  | normal => exact ⟨.normal, a₁, w₁, hq, StepsIn.trans s0 (StepsIn.trans harr (.one (fenced_calm hb hr rfl) stepR_inScope))⟩
  | exit id => exact ⟨.exit id, a₁, w₁, hq, .of_steps s0 ⟨fun k' hk => harr.1 k' (by simp [exitTo, hk]), fun hr' hk => harr.2 hr' (by simp [exitTo, hk])⟩⟩
  | goto l => exact hq.elim
  | ret => exact ⟨_, a₁, w₁, hq, .of_steps s0 harr⟩
  | panic ch => exact ⟨_, a₁, w₁, hq, .of_steps s0 harr⟩
  | outgrown => exact ⟨_, a₁, w₁, hq, .of_steps s0 harr⟩
theorem CodeOk.scope {x : Code} {ax : ACode} (hx : CodeOk ro P Y N x ax) : CodeOk ro P Y N (.scope x) (.scope ax) := by
  intro Q t σ h ρ a w B Ds st ht hY hB hm
  have h' : AW P Y ax (APost.noGoto Q) t σ := AW.mono (fun e t σ he hq => by cases e <;> first | exact hq | exact absurd rfl (he _)) (show AW P Y ax Q t σ from h)
  refine wpIn_scope_straight (wpIn_mono (hx _ t σ h' ρ a w B Ds st ht hY hB hm) ?_)
  rintro e a' w' ⟨t', σ', ρ', Ds', hq, ht', hs, hm'⟩
  cases e with
  | goto l => exact hq.elim
  | _ => exact ⟨t', σ', ρ', Ds', hq, ht', hs, hm'⟩
theorem CodeOk.label (l : Nat) : CodeOk ro P Y N (.label l) .skip := fun Q t σ h ρ a w B Ds st ht _ _ hm => wpIn_label ⟨t, σ, ρ, Ds, h, ht, .refl st, hm⟩

theorem free_start (st : St ρ σ w) {n i : Nat} (hi : i < n) : Free σ.next ρ (σ.bump n) i := by
  refine ⟨?_, ?_, by simp only [Mem.next_bump]; omega⟩
  · cases e : ρ (σ.next + i) with
    | none => rfl
    | some p => have := st.dom _ p e; omega
  · rw [Mem.get_bump]
    cases e : σ.get (σ.next + i) with
    | none => rfl
    | some k => have := st.live _ k e; omega

theorem CodeOk.region {id : Nat} {ops : Array Oper} {l : List RegE} (hc : ∀ p ∈ l, CompOper P N ops p.i p.o) (hl : l.map (·.i) = List.range ops.size) : CodeOk ro P Y N (.region id ops false) (.region ops.size l) := by
  intro Q t σ h ρ a w B Ds st ht hY hB hm
  refine wpIn_region ?_
  rw [← hl]
  refine wpOps_seq (N := N) (ρ0 := ρ) (σ0 := σ) (w0 := w) (base := σ.next) (K := fun t σ => Q .normal t σ) (fun t' σ' ρ' a' w' hk ht' hs => ⟨t', σ', ρ', Ds, hk, ht', hs, hm.step st hs⟩) st hY l t (σ.bump ops.size) ρ a w hc ?_ ?_ (Nat.le_add_right _ _) h ht (.bump st _)
  · rw [hl]; exact List.nodup_range
  · intro p hp
    refine free_start st ?_
    have : p.i ∈ l.map (·.i) := List.mem_map_of_mem hp
    rw [hl] at this
    exact List.mem_range.1 this
end
end Go.Vit
end

section
namespace Go.Vit

def argT : List AV → Nat → Tmps → Tmps
  | [], _, t => t
  | v :: l, i, t => argT l (i + 1) (Tr.put t i (some v))
inductive ARes where
  | tmp (i : Nat)
  | cell (i : Nat) (k : Option Nat)
def ARes.ev (t : Tmps) (σ : Mem) : ARes → Option AV
  | .tmp i => Tr.get t i
  | .cell i k => (Tr.get t i).bind fun v => match v with
    | .ptr b o => match k with
      | none => (σ.cells b o 1).bind fun c => match c with
        | [a] => some a
        | _ => none
      | some n => (σ.cells b o n).bind fun c => some (.agg c)
    | _ => none
def evr (t : Tmps) (σ : Mem) : List ARes → Option (List AV)
  | [] => some []
  | r :: l => (r.ev t σ).bind fun v => (evr t σ l).bind fun vs => some (v :: vs)
def compRes (P : Program) : List ResultVar → Option (List ARes)
  | [] => some []
  | .tmp t :: l => (compRes P l).bind fun r => some (.tmp t :: r)
  | .cell a t :: l => (shapeOf P t).bind fun k => (compRes P l).bind fun r => some (.cell a k :: r)
def packA : List AV → AV
  | [v] => v
  | l => .tup l
def retPost (res : List ARes) (Q : AV → Mem → Prop) : APost
  | .normal, t, σ | .ret, t, σ => match evr t σ res with
    | some l => Q (packA l) σ
    | none => False
  | _, _, _ => False

structure AFunc where
  N : Nat
  body : ACode
  res : List ARes

section
variable {P : Program} {Y : YEnv} {ds : List Deferred} {N : Nat} {ρ ρ' : Ren} {σ σ' : Mem} {t : Tmps} {a : Act} {w w' : World}

theorem argT_get : ∀ (l : List AV) (i : Nat) (t : Tmps) (j : Nat), Tr.get (argT l i t) j = if i ≤ j ∧ j < i + l.length then l[j - i]? else Tr.get t j
  | [], i, t, j => by simp [argT]; intro h1 h2; omega
  | v :: l, i, t, j => by
    rw [argT, argT_get l (i + 1), Tr.get_put]
    by_cases h1 : i + 1 ≤ j ∧ j < i + 1 + l.length
    · rw [if_pos h1, if_pos (by simp; omega)]
      have : j - i = (j - (i + 1)) + 1 := by omega
      rw [this, List.getElem?_cons_succ]
    · rw [if_neg h1]
      by_cases h2 : j = i
      · subst h2; rw [if_pos rfl, if_pos (by simp)]; simp
      · rw [if_neg h2, if_neg (by simp; omega)]

theorem TRel.start {args : List AV} {args' : Array Value} (h : LRel ρ args args') (hN : args.length ≤ N) : TRel [] N (fun _ => False) ρ (argT args 0 .leaf) { tmps := args' ++ Array.replicate (N - args'.size) undef, defers := [] } := by
  have hsz := h.1
  refine ⟨rfl, by simp; omega, fun i v _ hv => ?_⟩
  rw [argT_get] at hv
  split at hv
  · rename_i hi
    rw [Nat.sub_zero] at hv
    have hlt : i < args'.size := by omega
    have e : (args' ++ Array.replicate (N - args'.size) undef).getD i undef = args'[i] := by
      rw [Array.getD_eq_getD_getElem?, Array.getElem?_append_left hlt, Array.getElem?_eq_getElem hlt]; rfl
    show VRel ρ v ((args' ++ Array.replicate (N - args'.size) undef).getD i undef)
    rw [e]
    exact h.2 i v _ hv (Array.getElem?_eq_getElem hlt)
  · rw [Tr.get_leaf] at hv; cases hv

def packV : List Value → Value
  | [v] => v
  | l => .tuple l.toArray
theorem packV_dite (l : List Value) : (if h : l.toArray.size = 1 then l.toArray[0] else .tuple l.toArray) = packV l := by
  match l with
  | [] => rfl
  | [v] => rfl
  | a :: b :: l => simp [packV]
theorem andThen_of {α β : Type} {r : Result α} {x : α} {w' : World} {f : α → World → Result β} {y : Result β} (h : r = .ok x w') (hf : f x w' = y) : r.andThen f = y := by subst h; exact hf

theorem resVal_run {r : ResultVar} {ar : ARes} {l : List ARes} (hr : compRes P [r] = some (ar :: l)) {v : AV} (hv : ar.ev t σ = some v) (ht : TRel ds N (fun _ => False) ρ t a) (st : St ρ σ w) :
    ∃ u, (match r with | .tmp t => (pure (a.tmps.getD t undef) : Sem Value) | .cell b t => (do loadVar t (← asAddr (a.tmps.getD b undef)) : Sem Value)).run P w = .ok u w ∧ VRel ρ v u := by
  cases r with
  | tmp i =>
    simp [compRes] at hr
    obtain ⟨rfl, rfl⟩ := hr
    exact ⟨_, rfl, ht.get i v (fun x => x) hv⟩
  | cell i ty =>
    simp only [compRes, Option.bind_eq_some_iff, Option.some.injEq, List.cons.injEq] at hr
    obtain ⟨k, hk, _, _, rfl, _⟩ := hr
    obtain ⟨inf, hi, hagg, hsz⟩ := shapeOf_spec hk
    simp only [ARes.ev, Option.bind_eq_some_iff] at hv
    obtain ⟨x, hx, hv⟩ := hv
    cases x <;> simp only [reduceCtorEq] at hv
    rename_i b o
    obtain ⟨b', o', m, hρb, e1⟩ := (ht.get i _ (fun x => x) hx).ptr_inv
    cases k with
    | none =>
      simp only [Option.bind_eq_some_iff] at hv
      obtain ⟨c, hc, hv⟩ := hv
      match c, hv with
      | [u], hv =>
        simp only [Option.some.injEq] at hv
        subst hv
        obtain ⟨_, cs, hcl, hcell, hrel⟩ := st.cells hc hρb
        match cs, hcl with
        | [z], _ =>
          have hz := hcell 0 z rfl
          simp only [Nat.add_zero] at hz
          exact ⟨z, by simp [e1, asAddr, loadVar, hagg, hz], hrel 0 u z rfl rfl⟩
    | some n =>
      simp only [Option.bind_eq_some_iff, Option.some.injEq] at hv
      obtain ⟨c, hc, rfl⟩ := hv
      obtain ⟨hlen, cs, hcl, hcell, hrel⟩ := st.cells hc hρb
      have hl := run_loadCells_list (P := P) w ⟨b', o' + o, none⟩ cs (fun j v hj => by rw [add_at]; exact hcell j v hj)
      rw [hcl] at hl
      exact ⟨.agg cs.toArray, by simp [e1, asAddr, loadVar, hagg, sizeOf, typeInfo, hi, hsz n rfl, hl], .agg (by simp [hlen, hcl]) (fun i a v ha hv => hrel i a v ha (by simpa using hv))⟩

theorem results_run (g : ResultVar → Sem Value) (hg : ∀ r, g r = (match r with | .tmp t => (pure (a.tmps.getD t undef) : Sem Value) | .cell b t => (do loadVar t (← asAddr (a.tmps.getD b undef)) : Sem Value))) (ht : TRel ds N (fun _ => False) ρ t a) (st : St ρ σ w) :
    ∀ (rs : List ResultVar) (ars : List ARes) (l : List AV), compRes P rs = some ars → evr t σ ars = some l → ∃ us : List Value, (rs.mapM g).run P w = .ok us w ∧ LRel ρ l us.toArray
  | [], ars, l, hc, hl => by
    simp [compRes] at hc; subst hc; simp [evr] at hl; subst hl
    exact ⟨[], by simp, LRel.nil ρ⟩
  | r :: rs, ars, l, hc, hl => by
    obtain ⟨ar, ars', e, h1, h2⟩ : ∃ ar ars', ars = ar :: ars' ∧ compRes P [r] = some [ar] ∧ compRes P rs = some ars' := by
      cases r with
      | tmp i =>
        simp only [compRes, Option.bind_eq_some_iff, Option.some.injEq] at hc
        obtain ⟨ars', h, rfl⟩ := hc
        exact ⟨_, ars', rfl, by simp [compRes], h⟩
      | cell i ty =>
        simp only [compRes, Option.bind_eq_some_iff, Option.some.injEq] at hc
        obtain ⟨k, hk, ars', h, rfl⟩ := hc
        exact ⟨_, ars', rfl, by simp [compRes, hk], h⟩
    subst e
    simp only [evr, Option.bind_eq_some_iff] at hl
    obtain ⟨v, hv, vs, hvs, e⟩ := hl
    cases e
    obtain ⟨u, hu, hur⟩ := resVal_run h1 hv ht st
    obtain ⟨us, hus, husr⟩ := results_run g hg ht st rs ars' vs h2 hvs
    refine ⟨u :: us, ?_, .of_list (by have := husr.1; simp at this ⊢; exact this) fun j x y hx hy => ?_⟩
    · simp only [List.mapM_cons, Sem.run_bind, hg r, hu, Result.andThen_ok, hus, Sem.run_pure]
    · cases j with
      | zero => simp at hx hy; subst hx; subst hy; exact hur
      | succ j => exact husr.2 j x y (by simpa using hx) (by simpa using hy)
theorem BRel.put {k : Blk} {p : Loc} {D : Nat} {o o' : Obj} (h : BRel ρ p w k) (hD : w.heap[D]? = some o) (hc : ∀ cs e fz, o ≠ .cells cs e fz) (hm : ∀ xs c, o ≠ .map xs c) (hi : ∀ m s sn la, o ≠ .mapIter m s sn la) : BRel ρ p (w.putObj D o') k := by
  have key : p.1 ≠ D → (w.putObj D o').heap[p.1]? = w.heap[p.1]? := fun h => World.putObj_heap_other h
  cases k with
  | rw c =>
    obtain ⟨h0, cs, e, fz, h1, h2⟩ := h
    refine ⟨h0, cs, e, fz, (key fun e' => ?_).trans h1, h2⟩
    rw [e', hD] at h1; exact hc _ _ _ (Option.some.inj h1)
  | map es clock =>
    obtain ⟨h0, xs, h1, h2⟩ := h
    refine ⟨h0, xs, (key fun e' => ?_).trans h1, h2⟩
    rw [e', hD] at h1; exact hm _ _ (Option.some.inj h1)
  | bld t buf =>
    obtain ⟨h0, pv, v, h1, h2⟩ := h
    refine ⟨h0, pv, v, (key fun e' => ?_).trans h1, h2⟩
    rw [e', hD] at h1; exact hc _ _ _ (Option.some.inj h1)
  | row e c =>
    obtain ⟨h0, hm', cs, fz, h1, h2⟩ := h
    refine ⟨h0, hm', cs, fz, (key fun e' => ?_).trans h1, h2⟩
    rw [e', hD] at h1; exact hc _ _ _ (Option.some.inj h1)
  | iter m si se la =>
    obtain ⟨h0, m', h1, h2⟩ := h
    refine ⟨h0, m', (key fun e' => ?_).trans h1, h2⟩
    rw [e', hD] at h1; exact hi _ _ _ _ (Option.some.inj h1)
  | ro c =>
    refine ⟨fun e => by rw [World.putObj_size]; exact h.1 e, fun i a ha => ?_⟩
    obtain ⟨v, hv, hr⟩ := h.2 i a ha
    refine ⟨v, ?_, hr⟩
    rw [cell?_congr (w := w)]
    · exact hv
    · refine key fun e' => ?_
      simp only [World.cell?, e', hD] at hv
      cases o <;> simp_all
theorem St.put {D : Nat} {o o' : Obj} (st : St ρ σ w) (hD : w.heap[D]? = some o) (hc : ∀ cs e fz, o ≠ .cells cs e fz) (hm : ∀ xs c, o ≠ .map xs c) (hi : ∀ m s sn la, o ≠ .mapIter m s sn la) : St ρ σ (w.putObj D o') :=
  ⟨st.dom, st.live, fun b k p hk hp => (st.rel b k p hk hp).put hD hc hm hi, st.inj⟩
theorem Step.put {M : Nat → Prop} {D : Nat} {o o' : Obj} {w0 : World} {ρ0 : Ren} {σ0 : Mem} (h : Step M ρ0 σ0 w0 ρ σ w) (hD : w.heap[D]? = some o) (hc : ∀ cs e fz, o ≠ .cells cs e fz) (hm : ∀ xs c, o ≠ .map xs c) (hi : ∀ m s sn la, o ≠ .mapIter m s sn la) (hn : w0.heap.size ≤ D) : Step M ρ0 σ0 w0 ρ σ (w.putObj D o') :=
  ⟨h.st.put hD hc hm hi, h.next, h.ext, h.fresh, h.old, h.same, fun c hc' hno => by rw [World.putObj_heap_other (by omega)]; exact h.frame c hc' hno, by rw [World.putObj_size]; exact h.size, h.os, h.tape, h.out⟩
theorem leaves_marks {fn : Func} {tmps : Array Value} {R : Ending → World → Prop} {M : Nat → Prop} {w0 : World} {ρ0 : Ren} {σ0 : Mem} {B : Nat} (hB : w0.heap.size ≤ B)
    (hR : ∀ w, Step M ρ0 σ0 w0 ρ σ w → ∃ v, (results fn tmps).run P w = .ok v w ∧ R (.returned v) w) : ∀ (Ds : List Nat) (w : World), Step M ρ0 σ0 w0 ρ σ w → Marks B Ds w → LeavesInM (Fc none) 0 P fn tmps R (mk Ds) .returning w
  | [], w, hs, _ => hR w hs
  | D :: Ds, w, hs, hm => by
    obtain ⟨h1, h2⟩ := hm.2 D (by simp)
    refine ⟨by simp, .inl ⟨D, w.putObj D (.deferred none), rfl, run_takeDeferred h2, leaves_marks hB hR Ds _ (hs.put h2 (by simp) (by simp) (by simp) (Nat.le_trans hB h1)) ⟨(List.nodup_cons.1 hm.1).2, fun E hE => ?_⟩⟩⟩
    obtain ⟨h3, h4⟩ := hm.2 E (by simp [hE])
    refine ⟨h3, ?_⟩
    rw [World.putObj_heap_other]
    · exact h4
    · rintro rfl; exact (List.nodup_cons.1 hm.1).1 hE
theorem ACallsY.of_body {f : Nat} {fn : Func} {c : Code} {af : AFunc} {args : List AV} {Q : AV → Mem → Prop} (hf : P.funcs[f]? = some fn) (hb : fn.body = some c) (hname : (fn.name == "runtime.NumGoroutine") = false)
    (hN : fn.ntmps = af.N) (hres : compRes P fn.results.toList = some af.res) (hcode : CodeOk none P Y af.N c af.body) (hlen : args.length ≤ af.N) (h : AW P Y af.body (retPost af.res Q) (argT args 0 .leaf) σ) : ACallsY P Y f args σ Q := by
  refine ⟨⟨fn, hf, by simp [hb], hname⟩, fun ρ w args' st hl hY => ?_⟩
  refine (callsIn_fc (ro := none) (n := 0)).1 (callsIn_of_wp_marks hf hb trivial ?_)
  rw [hN]
  refine wpIn_mono (hcode _ _ _ h ρ _ w w.heap.size [] st (.start hl hlen) hY (Nat.le_refl _) ⟨List.nodup_nil, by simp⟩) ?_
  rintro e a' w' ⟨t', σ', ρ', Ds, hq, ht', hs, hm⟩
  have fin : (match evr t' σ' af.res with | some l => Q (packA l) σ' | none => False) → LeavesInM (Fc none) 0 P fn a'.tmps (fun e w' => ∃ v v' σ' ρ', e = .returned v' ∧ Q v σ' ∧ VRel ρ' v v' ∧ Step (fun b => σ.next ≤ b) ρ σ w ρ' σ' w') a'.defers .returning w' := by
    intro hmm
    split at hmm
    · rename_i l hl2
      rw [ht'.defers]
      refine leaves_marks (Nat.le_refl _) (fun w'' hs'' => ?_) Ds w' hs hm
      obtain ⟨us, hus, hr⟩ := results_run (P := P) (w := w'') (fun x => match x with | .tmp t => (pure (a'.tmps.getD t undef) : Sem Value) | .cell b t => (do loadVar t (← asAddr (a'.tmps.getD b undef)) : Sem Value)) (fun r => rfl) ht' hs''.st _ _ _ hres hl2
      have hrun : (results fn a'.tmps).run P w'' = .ok (packV us) w'' := by
        unfold results
        rw [Sem.run_bind]
        refine andThen_of (x := us.toArray) (w' := w'') ?_ ?_
        · rw [Array.mapM_eq_mapM_toList, Sem.run_map]
          exact andThen_of hus rfl
        · simp only [Sem.run_pure]
          rw [packV_dite]
      refine ⟨_, hrun, packA l, _, σ', ρ', rfl, hmm, ?_, hs''⟩
      have hl3 := hr.1
      match l, us, hl3, hr with
      | [v], [u], _, hr => exact hr.2 0 v u rfl (by simp)
      | [], [], _, hr => exact .tup hr.1 hr.2
      | _ :: _ :: _, _ :: _ :: _, _, hr => exact .tup hr.1 hr.2
    · exact hmm.elim
  cases e with
  | normal => exact fin hq
  | ret => exact fin hq
  | _ => exact hq.elim
theorem ACalls.of_body {f : Nat} {fn : Func} {c : Code} {af : AFunc} {args : List AV} {Q : AV → Mem → Prop} (hf : P.funcs[f]? = some fn) (hb : fn.body = some c) (hname : (fn.name == "runtime.NumGoroutine") = false)
    (hN : fn.ntmps = af.N) (hres : compRes P fn.results.toList = some af.res) (hcode : CodeOk none P noY af.N c af.body) (hlen : args.length ≤ af.N) (h : AW P noY af.body (retPost af.res Q) (argT args 0 .leaf) σ) : ACalls P f args σ Q :=
  (ACallsY.of_body hf hb hname hN hres hcode hlen h).plain
end

end Go.Vit
end

section
namespace Go.Vit

/-! ### What a quiet operation looks at -/
theorem evs_congr {t t' : Tmps} : ∀ {xs : List AOpd}, (∀ x ∈ xs, x.ev t = x.ev t') → evs t xs = evs t' xs
  | [], _ => rfl
  | x :: xs, h => by
    have ih := evs_congr (xs := xs) (fun y hy => h y (by simp [hy]))
    simp only [evs, h x (by simp), ih]
theorem evo_congr {t t' : Tmps} {x : Option AOpd} (h : ∀ y ∈ x.toList, y.ev t = y.ev t') : evo t x = evo t' x := by
  cases x with
  | none => rfl
  | some y => simp only [evo, h y (by simp)]
theorem fillA_congr {t t' : Tmps} : ∀ {ps : List (Nat × Nat × AOpd)} {l : List AV}, (∀ p ∈ ps, p.2.2.ev t = p.2.2.ev t') → fillA t l ps = fillA t' l ps
  | [], _, _ => rfl
  | (off, size, x) :: ps, l, h => by
    have h1 : x.ev t = x.ev t' := h (off, size, x) (by simp)
    simp only [fillA, h1]
    congr 1; funext v
    split
    · exact fillA_congr (fun p hp => h p (by simp [hp]))
    · rfl
theorem nop_congr {id : Nat} {op : AOp} {t t' : Tmps} {σ : Mem} (h : ∀ x ∈ op.opds, x.ev t = x.ev t') : nop id op t σ = nop id op t' σ := by
  cases op <;> simp only [AOp.opds, List.mem_cons, List.not_mem_nil, or_false, forall_eq_or_imp, forall_eq, List.mem_append, Option.mem_toList, List.mem_map, forall_exists_index, and_imp, forall_apply_eq_imp_iff₂] at h
  case build z ps => simp only [nop, fillA_congr h]
  case newSlice n z ps => simp only [nop, fillA_congr h]
  case mkFn f xs => simp only [nop, evs_congr h]
  case slStr x lo hi => simp only [nop, h.1, evo_congr (t := t) (t' := t') (x := lo) (fun y hy => h.2 y (.inl (by simpa using hy))), evo_congr (t := t) (t' := t') (x := hi) (fun y hy => h.2 y (.inr (by simpa using hy)))]
  case slArr n s x lo hi => simp only [nop, h.1, evo_congr (t := t) (t' := t') (x := lo) (fun y hy => h.2 y (.inl (by simpa using hy))), evo_congr (t := t) (t' := t') (x := hi) (fun y hy => h.2 y (.inr (by simpa using hy)))]
  case slSl s x lo hi mx => simp only [nop, h.1, evo_congr (t := t) (t' := t') (x := lo) (fun y hy => h.2 y (.inl (.inl (by simpa using hy)))), evo_congr (t := t) (t' := t') (x := hi) (fun y hy => h.2 y (.inl (.inr (by simpa using hy)))), evo_congr (t := t) (t' := t') (x := mx) (fun y hy => h.2 y (.inr (by simpa using hy)))]
  case minmax mx x xs => simp only [nop, h.1, evs_congr h.2]
  case pick c a b =>
    simp only [nop, h.1]
    congr 1; funext v
    cases v <;> first | rfl | skip
    rename_i r
    cases r
    · simp only [Bool.false_eq_true, if_false, h.2.2]
    · simp only [if_true, h.2.1]
  all_goals first
    | (simp only [nop]; done)
    | (simp only [nop, h]; done)
    | (simp only [nop, h.1, h.2]; done)
    | rfl
theorem nop_pure {id : Nat} {op : AOp} {t : Tmps} (h : op.reads = false) (σ σ' : Mem) : nop id op t σ = nop id op t σ' := by
  cases op <;> first
    | rfl
    | (simp [AOp.reads] at h; done)
    | skip
  rename_i c x
  cases c <;> first
    | rfl
    | (simp [AOp.reads] at h; done)
theorem cells_mono {σ σ' : Mem} (h : ∀ b k, σ.get b = some k → σ'.get b = some k) {b o n : Nat} {l : List AV} (hl : σ.cells b o n = some l) : σ'.cells b o n = some l := by
  simp only [Mem.cells, Option.bind_eq_some_iff] at hl ⊢
  obtain ⟨k, hk, rest⟩ := hl
  exact ⟨k, h b k hk, rest⟩
theorem nop_mono {id : Nat} {op : AOp} {t : Tmps} {σ σ' : Mem} {r : AV × Option Blk} (h : ∀ b k, σ.get b = some k → σ'.get b = some k) (hr : nop id op t σ = some r) : nop id op t σ' = some r := by
  by_cases hrd : op.reads = true
  · cases op <;> simp [AOp.reads] at hrd
    case load k x =>
      simp only [nop, Option.bind_eq_some_iff] at hr ⊢
      obtain ⟨v, hv, hr⟩ := hr
      refine ⟨v, hv, ?_⟩
      cases v <;> simp only [reduceCtorEq] at hr ⊢
      cases k <;> simp only [Option.bind_eq_some_iff] at hr ⊢
      · obtain ⟨c, hc, hr⟩ := hr; exact ⟨c, cells_mono h hc, hr⟩
      · obtain ⟨c, hc, hr⟩ := hr; exact ⟨c, cells_mono h hc, hr⟩
    case conv c x =>
      cases c <;> simp [AOp.reads] at hrd
      simp only [nop, Option.bind_eq_some_iff] at hr ⊢
      obtain ⟨v, hv, hr⟩ := hr
      refine ⟨v, hv, ?_⟩
      cases v <;> simp only [reduceCtorEq, Option.bind_eq_some_iff] at hr ⊢
      · exact hr
      · obtain ⟨l, hl, hr⟩ := hr; exact ⟨l, cells_mono h hl, hr⟩
    case lenMap x =>
      simp only [nop, Option.bind_eq_some_iff] at hr ⊢
      obtain ⟨v, hv, hr⟩ := hr
      refine ⟨v, hv, ?_⟩
      cases v <;> simp only [reduceCtorEq, Option.bind_eq_some_iff] at hr ⊢
      · exact hr
      · obtain ⟨k, hk, hr⟩ := hr; exact ⟨k, h _ k hk, hr⟩
    case lookup kk z ok x k =>
      simp only [nop, Option.bind_eq_some_iff] at hr ⊢
      obtain ⟨v, hv, kv, hkv, hr⟩ := hr
      refine ⟨v, hv, kv, hkv, ?_⟩
      split at hr
      · cases hr
      · rename_i hk
        rw [if_neg hk]
        simp only [Option.bind_eq_some_iff] at hr ⊢
        obtain ⟨es, hes, hr⟩ := hr
        refine ⟨es, ?_, hr⟩
        cases v <;> simp only [reduceCtorEq, Option.bind_eq_some_iff] at hes ⊢
        · exact hes
        · obtain ⟨q, hq, hes⟩ := hes; exact ⟨q, h _ q hq, hes⟩
    case rangeM x =>
      simp only [nop, Option.bind_eq_some_iff] at hr ⊢
      obtain ⟨v, hv, hr⟩ := hr
      refine ⟨v, hv, ?_⟩
      cases v <;> simp only [reduceCtorEq, Option.bind_eq_some_iff] at hr ⊢
      · exact hr
      · obtain ⟨q, hq, hr⟩ := hr; exact ⟨q, h _ q hq, hr⟩
    case entM x =>
      simp only [nop, Option.bind_eq_some_iff] at hr ⊢
      obtain ⟨v, hv, hr⟩ := hr
      refine ⟨v, hv, ?_⟩
      split at hr
      · simp only [Option.bind_eq_some_iff] at hr ⊢
        obtain ⟨q, hq, hr⟩ := hr
        refine ⟨q, h _ q hq, ?_⟩
        split at hr
        · simp only [Option.bind_eq_some_iff] at hr ⊢
          obtain ⟨q2, hq2, hr⟩ := hr
          exact ⟨q2, h _ q2 hq2, hr⟩
        · cases hr
      · cases hr
  · rw [nop_pure (by simpa using hrd) σ' σ]; exact hr
theorem ev_set {t : Tmps} {d : Option Nat} {v : AV} {x : AOpd} (h : ∀ i, d = some i → i ∉ x.ts) : x.ev (Tmps.set t d v) = x.ev t := by
  cases d with
  | none => rfl
  | some i =>
    cases x with
    | tmp j =>
      have : j ≠ i := fun e => h i rfl (by subst e; simp [AOpd.ts])
      simp only [AOpd.ev, Tmps.set, Tr.get_put, if_neg this]
    | _ => rfl
theorem nop_set {id : Nat} {op : AOp} {t : Tmps} {σ : Mem} {d : Option Nat} {v : AV} (h : ∀ i, d = some i → ∀ x ∈ op.opds, i ∉ x.ts) : nop id op (Tmps.set t d v) σ = nop id op t σ :=
  nop_congr fun x hx => ev_set fun i hi => h i hi x hx
theorem gval_set {t : Tmps} {g : Option (Nat × Bool)} {d : Option Nat} {v : AV} (h : ∀ i, d = some i → ∀ p, g = some p → p.1 ≠ i) : gval (Tmps.set t d v) g = gval t g := by
  cases g with
  | none => rfl
  | some p =>
    cases d with
    | none => rfl
    | some i =>
      have := h i rfl p rfl
      obtain ⟨j, want⟩ := p
      simp only [gval, Tmps.set, Tr.get_put, if_neg this]
theorem get_set_other {t : Tmps} {d : Option Nat} {v : AV} {j : Nat} (h : d ≠ some j) : Tr.get (Tmps.set t d v) j = Tr.get t j := by
  cases d with
  | none => rfl
  | some i => simp only [Tmps.set, Tr.get_put]; rw [if_neg (fun e => h (by rw [e]))]
theorem get_set_self {t : Tmps} {v : AV} {j : Nat} : Tr.get (Tmps.set t (some j) v) j = some v := by simp [Tmps.set, Tr.get_put]
theorem mem_ts_opd {o : AOper} {x : AOpd} (hx : x ∈ o.op.opds) {i : Nat} (hi : i ∈ x.ts) : i ∈ o.ts := by
  unfold AOper.ts
  exact List.mem_append_left _ (List.mem_flatMap.2 ⟨x, hx, hi⟩)
theorem mem_ts_guard {o : AOper} {g : Nat × Bool} (h : o.g = some g) : g.1 ∈ o.ts := by
  unfold AOper.ts
  rw [h]; simp

theorem AStep.quiet {P : Program} {Y : YEnv} {id : Nat} {op : AOp} {t : Tmps} {σ : Mem} {k : AV → Mem → Prop} (hne : op.eff = false) (h : AStep P Y id op t σ k) : ∃ v ob, nop id op t σ = some (v, ob) ∧ k v (σ.add id ob) := by
  have key : (match nop id op t σ with | some r => k r.1 (σ.add id r.2) | none => False) → ∃ v ob, nop id op t σ = some (v, ob) ∧ k v (σ.add id ob) := by
    intro h
    split at h
    · rename_i r hr; exact ⟨r.1, r.2, hr, h⟩
    · exact h.elim
  refine key ?_
  clear key
  cases op <;> first
    | (simp [AOp.eff] at hne; done)
    | exact h

/-! ### The plan -/
structure Pair (anc : Nat → List Nat) (hard : Nat → Bool) (X : Nat → Nat → Prop) (p q : RegE) : Prop where
  hd : hard p.i = true → X p.i q.i ∨ p.i ∈ anc q.i
  raw : ∀ x, p.o.d = some x → x ∈ q.o.ts → p.i ∈ anc q.i
  war : ∀ x, q.o.d = some x → (x ∈ p.o.ts ∨ p.o.d = some x) → hard q.i = true ∧ p.i ∈ anc q.i
  mem : hard q.i = true → p.o.op.reads = true → p.i ∈ anc q.i ∨ (p.i, p.o.op) ∈ q.fl

structure PlanOk (P : Program) (N : Nat) (ops : Array Oper) (l : List RegE) (anc : Nat → List Nat) (hard : Nat → Bool) (X : Nat → Nat → Prop) : Prop where
  comp : ∀ p ∈ l, CompOper P N ops p.i p.o
  nodup : (l.map (·.i)).Nodup
  len : l.length ≤ ops.size
  all : ∀ i, i < ops.size → ∃ p ∈ l, p.i = i
  lt : ∀ p ∈ l, p.i < ops.size
  ancs : ∀ i o, ops[i]? = some o → ∀ x ∈ anc i, ∃ e ∈ o.after, Region.binds .any e = true ∧ (x = e.on ∨ x ∈ anc e.on)
  pair : l.Pairwise (Pair anc hard X)
  ext : ∀ l1 q l2, l = l1 ++ q :: l2 → ∀ o, ops[q.i]? = some o → ∀ e ∈ o.after, Region.binds .any e = true → ∃ p ∈ l1, p.i = e.on
  eff : ∀ p ∈ l, p.o.op.eff = true → hard p.i = true
  self : ∀ p ∈ l, hard p.i = false → ∀ x, p.o.d = some x → x ∉ p.o.ts

def Lst (listed : Array Bool) (i : Nat) : Prop := listed.getD i false = true

structure Pend (base : Nat) (ρ : Ren) (t : Tmps) (σ : Mem) (p : RegE) : Prop where
  g : ∃ b, gval t p.o.g = some b ∧ (b = false → ∀ d, p.o.d = some d → Tr.get t d = some (.tup [])) ∧
    (b = true → ∃ v ob, nop (base + p.i) p.o.op t σ = some (v, ob) ∧ (∀ d, p.o.d = some d → Tr.get t d = some v) ∧ ∀ k, ob = some k → σ.get (base + p.i) = some k)
  free : ρ (base + p.i) = none
  lt : base + p.i < σ.next

structure Inv (P : Program) (Y : YEnv) (ds : List Deferred) (N base : Nat) (RR : List RegE → Tmps → Mem → Prop) (ops : Array Oper) (anc : Nat → List Nat) (hard : Nat → Bool) (ρ0 : Ren) (σ0 : Mem) (w0 : World)
    (listed : Array Bool) (l1 l2 : List RegE) (t : Tmps) (σ : Mem) (ρ : Ren) (a : Act) (w : World) : Prop where
  rest : RR l2 t σ
  new : ∀ p ∈ l2, ¬ Lst listed p.i ∧ Free base ρ σ p.i
  pend : ∀ p ∈ l1, ¬ Lst listed p.i → hard p.i = false ∧ Pend base ρ t σ p
  tmps : TRel ds N (fun d => ∃ p ∈ l1, ¬ Lst listed p.i ∧ p.o.d = some d) ρ t a
  step : Step (fun b => base ≤ b) ρ0 σ0 w0 ρ σ w
  base : base ≤ σ.next
  closed : ∀ i, Lst listed i → ∀ x ∈ anc i, Lst listed x
  lsize : listed.size = ops.size

section
variable {P : Program} {Y : YEnv} {ro : Option Nat} {ds : List Deferred} {N base : Nat} {K : Tmps → Mem → Prop} {RR : List RegE → Tmps → Mem → Prop} {X : Nat → Nat → Prop} {ops : Array Oper} {l : List RegE} {anc : Nat → List Nat} {hard : Nat → Bool} {ρ0 ρ : Ren} {σ0 σ : Mem} {w0 w : World}
  {listed : Array Bool} {l1 l2 : List RegE} {t : Tmps} {a : Act}

theorem lst_set {i j : Nat} (h : i < listed.size) : Lst (listed.setIfInBounds i true) j ↔ j = i ∨ Lst listed j := by
  unfold Lst
  by_cases hij : i = j
  · subst hij; simp [h]
  · rw [getD_set_ne false hij]
    constructor
    · exact .inr
    · rintro (e | e)
      · exact absurd e.symm hij
      · exact e

theorem Pend.kept {ρ' : Ren} {t' : Tmps} {σ' : Mem} {p : RegE} (h : Pend base ρ t σ p) (hg : gval t' p.o.g = gval t p.o.g) (hd : ∀ d, p.o.d = some d → Tr.get t' d = Tr.get t d)
    (hn : ∀ r, nop (base + p.i) p.o.op t σ = some r → nop (base + p.i) p.o.op t' σ' = some r) (hk : ∀ k, σ.get (base + p.i) = some k → σ'.get (base + p.i) = some k) (hρ : ρ' (base + p.i) = none) (hlt : σ.next ≤ σ'.next) : Pend base ρ' t' σ' p := by
  obtain ⟨⟨b, h1, h2, h3⟩, _, h5⟩ := h
  refine ⟨⟨b, hg.trans h1, fun e d hd' => (hd d hd').trans (h2 e d hd'), fun e => ?_⟩, hρ, Nat.lt_of_lt_of_le h5 hlt⟩
  obtain ⟨v, ob, q1, q2, q3⟩ := h3 e
  exact ⟨v, ob, hn _ q1, fun d hd' => (hd d hd').trans (q2 d hd'), fun k ek => hk k (q3 k ek)⟩

theorem pair_of (hp : PlanOk P N ops l anc hard X) (hl : l = l1 ++ l2) {p q : RegE} (h1 : p ∈ l1) (h2 : q ∈ l2) : Pair anc hard X p q := by
  have := hp.pair
  rw [hl, List.pairwise_append] at this
  exact this.2.2 p h1 q h2
theorem ne_of (hp : PlanOk P N ops l anc hard X) (hl : l = l1 ++ l2) {p q : RegE} (h1 : p ∈ l1) (h2 : q ∈ l2) : p.i ≠ q.i := by
  have := hp.nodup
  rw [hl, List.map_append, List.nodup_append] at this
  exact this.2.2 _ (List.mem_map_of_mem h1) _ (List.mem_map_of_mem h2)

def AUnf (P : Program) (Y : YEnv) (base : Nat) (RR : List RegE → Tmps → Mem → Prop) (q : RegE) (l2 : List RegE) : Prop :=
  ∀ t σ, RR (q :: l2) t σ → match gval t q.o.g with
    | some true => AStep P Y (base + q.i) q.o.op t σ fun v σ' => Floats base t σ σ' q.fl ∧ RR l2 (Tmps.set t q.o.d v) σ'
    | some false => RR l2 (Tmps.set t q.o.d (.tup [])) σ
    | none => False
theorem AUnf.all (q : RegE) (l2 : List RegE) : AUnf P Y base (AOps P Y base K) q l2 := fun t σ h => h
theorem Inv.advance {q : RegE} (hU : AUnf P Y base RR q l2) (hp : PlanOk P N ops l anc hard X) (hl : l = l1 ++ q :: l2) (h : Inv P Y ds N base RR ops anc hard ρ0 σ0 w0 listed l1 (q :: l2) t σ ρ a w) (hq : hard q.i = false) :
    ∃ t' σ', Inv P Y ds N base RR ops anc hard ρ0 σ0 w0 listed (l1 ++ [q]) l2 t' σ' ρ a w := by
  obtain ⟨hrest, hnew, hpend, htm, hst, hbase, hcl, hls⟩ := h
  have hqm : q ∈ l := by rw [hl]; simp
  obtain ⟨hql, f1, f2, f3⟩ := hnew q (by simp)
  have hne : q.o.op.eff = false := by
    cases e : q.o.op.eff with
    | false => rfl
    | true => rw [hp.eff q hqm e] at hq; cases hq
  have hwar : ∀ p ∈ l1, ∀ x, q.o.d = some x → x ∉ p.o.ts ∧ p.o.d ≠ some x := by
    intro p hpm x hx
    refine ⟨fun hm => ?_, fun hm => ?_⟩
    · have := ((pair_of hp hl hpm (by simp)).war x hx (.inl hm)).1; rw [hq] at this; cases this
    · have := ((pair_of hp hl hpm (by simp)).war x hx (.inr hm)).1; rw [hq] at this; cases this
  have hself : ∀ x, q.o.d = some x → x ∉ q.o.ts := hp.self q hqm hq
  -- what is pending stays so
  have keep : ∀ (v : AV) (σ' : Mem), (∀ b k, σ.get b = some k → σ'.get b = some k) → σ.next ≤ σ'.next → ∀ p ∈ l1, ¬ Lst listed p.i → Pend base ρ (Tmps.set t q.o.d v) σ' p := by
    intro v σ' hsub hnx p hpm hpl
    have hpd := (hpend p hpm hpl).2
    refine hpd.kept (gval_set fun i hi g hg e => (hwar p hpm i hi).1 (by rw [← e]; exact mem_ts_guard hg)) (fun d hd => get_set_other (fun e => (hwar p hpm d e).2 hd)) (fun r hr => ?_) (fun k hk => hsub _ k hk) hpd.free hnx
    rw [nop_set (fun i hi x hx hm => (hwar p hpm i hi).1 (mem_ts_opd hx hm))]
    exact nop_mono hsub hr
  have tkeep : ∀ v : AV, TRel ds N (fun d => ∃ p ∈ l1 ++ [q], ¬ Lst listed p.i ∧ p.o.d = some d) ρ (Tmps.set t q.o.d v) a := by
    intro v
    refine ⟨htm.defers, htm.size, fun i u hi hu => ?_⟩
    have hqi : q.o.d ≠ some i := fun e => hi ⟨q, by simp, hql, e⟩
    rw [get_set_other hqi] at hu
    exact htm.get i u (fun ⟨p, hpm, x⟩ => hi ⟨p, by simp [hpm], x⟩) hu
  replace hrest := hU t σ hrest
  cases hgv : gval t q.o.g with
  | none => rw [hgv] at hrest; exact hrest.elim
  | some b =>
    rw [hgv] at hrest
    have hgq : ∀ v, gval (Tmps.set t q.o.d v) q.o.g = some b := fun v => by rw [gval_set (fun i hi g hg e => hself i hi (by rw [← e]; exact mem_ts_guard hg))]; exact hgv
    cases b with
    | false =>
      refine ⟨_, σ, hrest, fun p hpm => hnew p (by simp [hpm]), fun p hpm hpl => ?_, tkeep _, hst, hbase, hcl, hls⟩
      rcases List.mem_append.1 hpm with hpm | hpm
      · exact ⟨(hpend p hpm hpl).1, keep _ σ (fun _ _ e => e) (Nat.le_refl _) p hpm hpl⟩
      · simp only [List.mem_singleton] at hpm
        subst hpm
        exact ⟨hq, ⟨false, hgq _, fun _ d hd => by rw [hd]; exact get_set_self, (fun e => by cases e)⟩, f1, f3⟩
    | true =>
      obtain ⟨v, ob, hn, hq2⟩ := AStep.quiet hne hrest
      · have hsub : ∀ b k, σ.get b = some k → (σ.add (base + q.i) ob).get b = some k := by
          intro b k hk
          cases ob with
          | none => exact hk
          | some kb =>
            show (σ.put _ _).get b = _
            rw [Mem.get_put_ne _ (fun e => by rw [e, f2] at hk; cases hk)]; exact hk
        have hnx : (σ.add (base + q.i) ob).next = σ.next := by cases ob <;> rfl
        have hst1 : Step (fun b => b = base + q.i) ρ σ w ρ (σ.add (base + q.i) ob) w := by
          cases ob with
          | none => exact .refl hst.st
          | some kb => exact .put_free hst.st f1 f3 _
        refine ⟨_, _, hq2.2, fun p hpm => ?_, fun p hpm hpl => ?_, tkeep _, hst.trans hst1 (fun _ e => e) (fun b e => by subst e; exact Nat.le_add_right _ _), by rw [hnx]; exact hbase, hcl, hls⟩
        · obtain ⟨g0, g1, g2, g3⟩ := hnew p (by simp [hpm])
          refine ⟨g0, g1, ?_, by rw [hnx]; exact g3⟩
          have hpi : base + p.i ≠ base + q.i := by
            have := hp.nodup
            rw [hl, List.map_append, List.nodup_append, List.map_cons, List.nodup_cons] at this
            have h2 := this.2.1.1
            intro e
            exact h2 (by rw [show q.i = p.i by omega]; exact List.mem_map_of_mem hpm)
          cases ob with
          | none => exact g2
          | some kb => show (σ.put _ _).get _ = _; rw [Mem.get_put_ne _ hpi]; exact g2
        · rcases List.mem_append.1 hpm with hpm | hpm
          · exact ⟨(hpend p hpm hpl).1, keep _ _ hsub (by rw [hnx]; exact Nat.le_refl _) p hpm hpl⟩
          · simp only [List.mem_singleton] at hpm
            subst hpm
            refine ⟨hq, ⟨true, hgq _, (fun e => by cases e), fun _ => ⟨v, ob, ?_, fun d hd => by rw [hd]; exact get_set_self, fun k ek => ?_⟩⟩, f1, by rw [hnx]; exact f3⟩
            · rw [nop_set (fun i hi x hx hm => hself i hi (mem_ts_opd hx hm))]
              exact nop_mono hsub hn
            · subst ek; exact Mem.get_put_self _ _ _

theorem Inv.advances (hU : ∀ q l2, hard q.i = false → AUnf P Y base RR q l2) (hp : PlanOk P N ops l anc hard X) : ∀ (s : List RegE) (l1 l2 : List RegE) (t : Tmps) (σ : Mem), l = l1 ++ (s ++ l2) → Inv P Y ds N base RR ops anc hard ρ0 σ0 w0 listed l1 (s ++ l2) t σ ρ a w → (∀ q ∈ s, hard q.i = false) →
    ∃ t' σ', Inv P Y ds N base RR ops anc hard ρ0 σ0 w0 listed (l1 ++ s) l2 t' σ' ρ a w
  | [], l1, l2, t, σ, _, h, _ => ⟨t, σ, by simpa using h⟩
  | q :: s, l1, l2, t, σ, hl, h, hs => by
    obtain ⟨t', σ', h'⟩ := Inv.advance (l1 := l1) (l2 := s ++ l2) (q := q) (hU q _ (hs q (by simp))) hp hl h (hs q (by simp))
    have := Inv.advances hU hp s (l1 ++ [q]) l2 t' σ' (by rw [hl]; simp) h' (fun x hx => hs x (by simp [hx]))
    simpa using this
end
end Go.Vit
end

section
namespace Go.Vit
section
variable {P : Program} {Y : YEnv} {ro : Option Nat} {ds : List Deferred} {N base : Nat} {K : Tmps → Mem → Prop} {RR : List RegE → Tmps → Mem → Prop} {X : Nat → Nat → Prop} {ops : Array Oper} {l : List RegE} {anc : Nat → List Nat} {hard : Nat → Bool} {ρ0 ρ : Ren} {σ0 σ : Mem} {w0 w : World}
  {listed : Array Bool} {l1 l2 : List RegE} {t : Tmps} {a : Act}

theorem inj_of_nodup : ∀ {l : List RegE}, (l.map (·.i)).Nodup → ∀ {p q : RegE}, p ∈ l → q ∈ l → p.i = q.i → p = q
  | [], _, p, _, hp, _, _ => by simp at hp
  | x :: l, h, p, q, hp, hq, e => by
    simp only [List.map_cons, List.nodup_cons] at h
    rcases List.mem_cons.1 hp with e1 | h1 <;> rcases List.mem_cons.1 hq with e2 | h2
    · rw [e1, e2]
    · exact absurd (by rw [← e1, e]; exact List.mem_map_of_mem h2) h.1
    · exact absurd (by rw [← e2, ← e]; exact List.mem_map_of_mem h1) h.1
    · exact inj_of_nodup h.2 h1 h2 e

theorem lst_lt {i : Nat} (h : Lst listed i) : i < listed.size := by
  unfold Lst at h
  rcases Nat.lt_or_ge i listed.size with h' | h'
  · exact h'
  · simp [Array.getD, Nat.not_lt.2 h'] at h

theorem ready_anc (hp : PlanOk P N ops l anc hard X) (hcl : ∀ i, Lst listed i → ∀ x ∈ anc i, Lst listed x) {i : Nat} (hr : i ∈ Region.ready .any ops listed) : ∀ x ∈ anc i, Lst listed x := by
  obtain ⟨_, o, ho, hall⟩ := mem_ready.1 hr
  intro x hx
  obtain ⟨e, he, hb, h⟩ := hp.ancs i o ho x hx
  have := hall e he hb
  rcases h with rfl | h
  · exact this
  · exact hcl e.on this x h

theorem closed_set (hp : PlanOk P N ops l anc hard X) (hcl : ∀ i, Lst listed i → ∀ x ∈ anc i, Lst listed x) {i : Nat} (hi : i < listed.size) (hr : i ∈ Region.ready .any ops listed) :
    ∀ j, Lst (listed.setIfInBounds i true) j → ∀ x ∈ anc j, Lst (listed.setIfInBounds i true) x := by
  intro j hj x hx
  rw [lst_set hi] at hj ⊢
  rcases hj with rfl | hj
  · exact .inr (ready_anc hp hcl hr x hx)
  · exact .inr (hcl j hj x hx)

theorem Inv.exec {p : RegE} (st0 : St ρ0 σ0 w0) (hY : YOk P Y ρ0 w0) (hp : PlanOk P N ops l anc hard X) (hl : l = l1 ++ l2) (h : Inv P Y ds N base RR ops anc hard ρ0 σ0 w0 listed l1 l2 t σ ρ a w) (hpm : p ∈ l1) (hr : p.i ∈ Region.ready .any ops listed)
    {Q : Exit → Act → World → Prop} {F : Act → World → Prop}
    (hF : ∀ ρ' a' w', Inv P Y ds N base RR ops anc hard ρ0 σ0 w0 (listed.setIfInBounds p.i true) l1 l2 t σ ρ' a' w' → F a' w') : wpOpIn (Fc ro) 0 P ops Q p.i F a w := by
  obtain ⟨hrest, hnew, hpend, htm, hst, hbase, hcl, hls⟩ := h
  have hplist : ¬ Lst listed p.i := by
    have := (mem_ready.1 hr).1
    unfold Lst
    intro e
    have hlt : p.i < listed.size := lst_lt e
    simp [Array.getD, hlt] at this e
    rw [this] at e; cases e
  have hpl : p ∈ l := by rw [hl]; simp [hpm]
  have hpi : p.i < listed.size := by rw [hls]; exact hp.lt p hpl
  obtain ⟨hsoft, hpd⟩ := hpend p hpm hplist
  have hanc := ready_anc hp hcl hr
  obtain ⟨o, ho, hco, hd, hg, hdn⟩ := (hp.comp p hpl).ex
  have hdn' : ∀ i, p.o.d = some i → i < N := fun i e => hdn i (by rw [← hd]; exact e)
  -- no operand waits
  have hnoD : ∀ i ∈ p.o.ts, ¬ ∃ q ∈ l1, ¬ Lst listed q.i ∧ q.o.d = some i := by
    rintro i hi ⟨q, hqm, hql, hqd⟩
    have hql' : q ∈ l := by rw [hl]; simp [hqm]
    have hqs := (hpend q hqm hql).1
    rcases List.mem_iff_append.1 hql' with ⟨A, B, hAB⟩
    have hpAB : p ∈ A ++ q :: B := by rw [← hAB]; exact hpl
    rcases List.mem_append.1 hpAB with hA | hB
    · have := ((pair_of (l1 := A) (l2 := q :: B) hp hAB hA (by simp)).war i hqd (.inl hi)).1
      rw [hqs] at this; cases this
    · rcases List.mem_cons.1 hB with rfl | hB
      · exact hp.self p hpl hsoft i hqd hi
      · have hAB' : l = (A ++ [q]) ++ B := by rw [hAB]; simp
        have := (pair_of (l1 := A ++ [q]) (l2 := B) hp hAB' (by simp) hB).raw i hqd hi
        exact hql (hanc _ this)
  have hmem : ∀ {ρ' : Ren} {a' : Act} {v : AV} {v' : Value}, (∀ b q, ρ b = some q → ρ' b = some q) → (∀ d, p.o.d = some d → Tr.get t d = some v) → VRel ρ' v v' → a' = a.put o.dst v' →
      TRel ds N (fun d => ∃ q ∈ l1, ¬ Lst (listed.setIfInBounds p.i true) q.i ∧ q.o.d = some d) ρ' t a' := by
    intro ρ' a' v v' hext hget hv e
    subst e
    rw [← hd]
    have h1 := (htm.mono hext).put hv hdn'
    refine ⟨h1.defers, h1.size, fun i u hi hu => ?_⟩
    by_cases hpi2 : p.o.d = some i
    · have : u = v := by rw [hget i hpi2] at hu; cases hu; rfl
      subst this
      exact h1.get i u (fun ⟨_, x⟩ => x hpi2) (by rw [hpi2]; exact get_set_self)
    · refine h1.get i u (fun ⟨⟨q, hqm, hql, hqd⟩, _⟩ => hi ⟨q, hqm, ?_, hqd⟩) (by rw [get_set_other hpi2]; exact hu)
      rw [lst_set hpi]
      rintro (e | e)
      · have : q = p := by
          have hnd := hp.nodup
          have hqq : q ∈ l := by rw [hl]; simp [hqm]
          exact inj_of_nodup hnd hqq hpl e
        subst this; exact hpi2 hqd
      · exact hql e
  have hnew' : ∀ {ρ' : Ren}, (∀ b, b ≠ base + p.i → ρ' b = ρ b) → ∀ q ∈ l2, ¬ Lst (listed.setIfInBounds p.i true) q.i ∧ Free base ρ' σ q.i := by
    intro ρ' hρ' q hq
    obtain ⟨g0, g1, g2, g3⟩ := hnew q hq
    have hne := ne_of hp hl hpm hq
    exact ⟨fun x => ((lst_set hpi).1 x).elim (fun e => hne e.symm) g0, by rw [hρ' _ (by omega)]; exact g1, g2, g3⟩
  have hpend' : ∀ {ρ' : Ren}, (∀ b, b ≠ base + p.i → ρ' b = ρ b) → ∀ q ∈ l1, ¬ Lst (listed.setIfInBounds p.i true) q.i → hard q.i = false ∧ Pend base ρ' t σ q := by
    intro ρ' hρ' q hq hql
    rw [lst_set hpi] at hql
    have hqi : q.i ≠ p.i := fun e => hql (.inl e)
    obtain ⟨x1, x2⟩ := hpend q hq (fun e => hql (.inr e))
    exact ⟨x1, x2.kept rfl (fun _ _ => rfl) (fun _ h => h) (fun _ h => h) (by rw [hρ' _ (by omega)]; exact x2.free) (Nat.le_refl _)⟩
  have hcl' := closed_set hp hcl hpi hr
  have hls' : (listed.setIfInBounds p.i true).size = ops.size := by simp [hls]
  obtain ⟨⟨b, hgv, hf, htr⟩, hρid, hltid⟩ := hpd
  have hw := guard_rel (o' := p.o) hg htm (fun g hg' => hnoD g.1 (mem_ts_guard hg')) hgv
  unfold wpOpIn
  simp only [ho]
  cases b with
  | false =>
    simp only [hw, Bool.false_eq_true, if_false]
    refine ⟨fun _ _ => trivial, ?_⟩
    exact hF ρ _ w ⟨hrest, hnew' (fun _ _ => rfl), hpend' (fun _ _ => rfl), hmem (fun _ _ e => e) (hf rfl) undef_rel rfl, hst, hbase, hcl', hls'⟩
  | true =>
    obtain ⟨v, ob, hn, hget, hk⟩ := htr rfl
    simp only [hw, if_true]
    have hne : p.o.op.eff = false := by
      cases e : p.o.op.eff with
      | false => rfl
      | true => rw [hp.eff p hpl e] at hsoft; cases hsoft
    have hnf : p.o.op ≠ .fail := by intro e; rw [e] at hne; simp [AOp.eff] at hne
    have hc := hco.resolve_right hnf
    obtain ⟨dst, oop, ty, pos, after, g⟩ := o
    obtain ⟨v', w', ρ', hrun, hN⟩ := nop_run hc hne hn (htm.he fun x hx i hi => hnoD i (mem_ts_opd hx hi)) hst.st hρid dst ty pos after g
    have hs := hN.step hst.st hρid hltid hk
    have nodef : ∀ c, oop ≠ .defer c := by
      intro c e
      subst e
      simp [compOp] at hc
    refine ⟨fun _ _ => trivial, ?_⟩
    rw [show Oper.semAt (Fc ro).round a.eval ⟨dst, oop, ty, pos, after, g⟩ = execOp a.eval ⟨dst, oop, ty, pos, after, g⟩ from Oper.semAt_eq _ _ _ nodef, hrun, Oper.uponIn_value]
    exact hF ρ' _ w' ⟨hrest, hnew' hN.ren, hpend' hN.ren, hmem hs.ext hget hN.val rfl, hst.trans hs (fun _ e => e) (fun b e => by subst e; exact Nat.le_add_right _ _), hbase, hcl', hls'⟩

theorem Inv.both {q : RegE} (hU : AUnf P Y base RR q l2) (st0 : St ρ0 σ0 w0) (hY : YOk P Y ρ0 w0) (hp : PlanOk P N ops l anc hard X) (hl : l = l1 ++ q :: l2) (h : Inv P Y ds N base RR ops anc hard ρ0 σ0 w0 listed l1 (q :: l2) t σ ρ a w) (hq : hard q.i = true) (hr : q.i ∈ Region.ready .any ops listed)
    {Q : Exit → Act → World → Prop} {F : Act → World → Prop}
    (hF : ∀ t' σ' ρ' a' w', Inv P Y ds N base RR ops anc hard ρ0 σ0 w0 (listed.setIfInBounds q.i true) (l1 ++ [q]) l2 t' σ' ρ' a' w' → F a' w') : wpOpIn (Fc ro) 0 P ops Q q.i F a w := by
  obtain ⟨hrest, hnew, hpend, htm, hst, hbase, hcl, hls⟩ := h
  have hqm : q ∈ l := by rw [hl]; simp
  obtain ⟨hql, f1, f2, f3⟩ := hnew q (by simp)
  have hqi : q.i < listed.size := by rw [hls]; exact hp.lt q hqm
  have hanc := ready_anc hp hcl hr
  obtain ⟨o, ho, hco, hd, hg, hdn⟩ := (hp.comp q hqm).ex
  have hdn' : ∀ i, q.o.d = some i → i < N := fun i e => hdn i (by rw [← hd]; exact e)
  have hcl' := closed_set hp hcl hqi hr
  have hls' : (listed.setIfInBounds q.i true).size = ops.size := by simp [hls]
  have hpair : ∀ p ∈ l1, Pair anc hard X p q := fun p hpm => pair_of hp hl hpm (by simp)
  have hnoD : ∀ i ∈ q.o.ts, ¬ ∃ p ∈ l1, ¬ Lst listed p.i ∧ p.o.d = some i := by
    rintro i hi ⟨p, hpm, hpl, hpd⟩
    exact hpl (hanc _ ((hpair p hpm).raw i hpd hi))
  have hnow : ∀ p ∈ l1, ¬ Lst listed p.i → ∀ x, q.o.d = some x → x ∉ p.o.ts ∧ p.o.d ≠ some x := by
    intro p hpm hpl x hx
    exact ⟨fun hm => hpl (hanc _ ((hpair p hpm).war x hx (.inl hm)).2), fun hm => hpl (hanc _ ((hpair p hpm).war x hx (.inr hm)).2)⟩
  have hl2ne : ∀ p ∈ l2, p.i ≠ q.i := by
    intro p hpm
    have hl' : l = (l1 ++ [q]) ++ l2 := by rw [hl]; simp
    exact (ne_of (l1 := l1 ++ [q]) (l2 := l2) hp hl' (by simp) hpm).symm
  -- the frame behind it
  have tkeep : ∀ {ρ' : Ren} {v : AV} {v' : Value}, (∀ b p, ρ b = some p → ρ' b = some p) → VRel ρ' v v' → TRel ds N (fun d => ∃ p ∈ l1 ++ [q], ¬ Lst (listed.setIfInBounds q.i true) p.i ∧ p.o.d = some d) ρ' (Tmps.set t q.o.d v) (a.put o.dst v') := by
    intro ρ' v v' hext hv
    rw [← hd]
    have h1 := (htm.mono hext).put hv hdn'
    refine ⟨h1.defers, h1.size, fun i u hi hu => h1.get i u (fun ⟨⟨p, hpm, hpl, hpd⟩, _⟩ => hi ⟨p, by simp [hpm], ?_, hpd⟩) hu⟩
    rw [lst_set hqi]
    rintro (e | e)
    · exact (ne_of hp hl hpm (show q ∈ q :: l2 by simp)) e
    · exact hpl e
  have hw0 : ∀ {b : Bool}, gval t q.o.g = some b → Region.wanted o (yielded ops a.tmps) = b := fun hgv => guard_rel (o' := q.o) hg htm (fun g hg' => hnoD g.1 (mem_ts_guard hg')) hgv
  -- what is pending
  have keep : ∀ {v : AV} {σ' : Mem} {ρ' : Ren}, (∀ p ∈ l1, ¬ Lst listed p.i → ∀ r, nop (base + p.i) p.o.op t σ = some r → nop (base + p.i) p.o.op t σ' = some r) → (∀ p ∈ l1, ¬ Lst listed p.i → σ'.get (base + p.i) = σ.get (base + p.i) ∧ ρ' (base + p.i) = none) → σ.next ≤ σ'.next →
      ∀ p ∈ l1 ++ [q], ¬ Lst (listed.setIfInBounds q.i true) p.i → hard p.i = false ∧ Pend base ρ' (Tmps.set t q.o.d v) σ' p := by
    intro v σ' ρ' hn hk hnx p hpm hpl
    rw [lst_set hqi] at hpl
    rcases List.mem_append.1 hpm with hpm | hpm
    · have hpl' : ¬ Lst listed p.i := fun e => hpl (.inr e)
      obtain ⟨x1, x2⟩ := hpend p hpm hpl'
      refine ⟨x1, x2.kept (gval_set fun i hi g hg' e => (hnow p hpm hpl' i hi).1 (by rw [← e]; exact mem_ts_guard hg')) (fun d hd' => get_set_other fun e => (hnow p hpm hpl' d e).2 hd') (fun r hr => ?_) (fun k hk' => by rw [(hk p hpm hpl').1]; exact hk') (hk p hpm hpl').2 hnx⟩
      rw [nop_set (fun i hi x hx hm => (hnow p hpm hpl' i hi).1 (mem_ts_opd hx hm))]
      exact hn p hpm hpl' r hr
    · simp only [List.mem_singleton] at hpm
      subst hpm
      exact absurd (.inl rfl) hpl
  replace hrest := hU t σ hrest
  unfold wpOpIn
  simp only [ho]
  cases hgv : gval t q.o.g with
  | none => rw [hgv] at hrest; exact hrest.elim
  | some b =>
    rw [hgv] at hrest
    have hw := hw0 hgv
    cases b with
    | false =>
      simp only [hw, Bool.false_eq_true, if_false]
      refine ⟨fun _ _ => trivial, ?_⟩
      refine hF _ σ ρ _ w ⟨hrest, fun p hpm => ?_, keep (fun _ _ _ _ h => h) (fun p hpm hpl => ⟨rfl, (hpend p hpm hpl).2.free⟩) (Nat.le_refl _), tkeep (fun _ _ e => e) undef_rel, hst, hbase, hcl', hls'⟩
      obtain ⟨g0, g1⟩ := hnew p (by simp [hpm])
      exact ⟨fun x => ((lst_set hqi).1 x).elim (hl2ne p hpm) g0, g1⟩
    | true =>
      simp only [hw, if_true]
      refine (hrest : AStep P Y _ _ _ _ _).sim hco (hY.step st0 hst) (htm.he fun x hx i hi => hnoD i (mem_ts_opd hx hi)) hst.st f1 f3 f2 ?_
      rintro v v' σ' ρ' w' ⟨hfl, hk⟩ hv hs
      have hsame : ∀ p ∈ l1, ¬ Lst listed p.i → σ'.get (base + p.i) = σ.get (base + p.i) ∧ ρ' (base + p.i) = none := by
        intro p hpm hpl
        have x2 := (hpend p hpm hpl).2
        have hne : p.i ≠ q.i := ne_of hp hl hpm (by simp)
        have hno : ¬ (base + p.i = base + q.i ∨ σ.next ≤ base + p.i) := by have := x2.lt; omega
        refine ⟨hs.same _ hno x2.free, ?_⟩
        cases e : ρ' (base + p.i) with
        | none => rfl
        | some r => exact absurd (hs.fresh _ r e x2.free).1 hno
      refine hF _ σ' ρ' _ w' ⟨hk, fun p hpm => ?_, keep (fun p hpm hpl r hr => ?_) hsame hs.next, tkeep hs.ext hv, hst.trans hs (fun _ e => e) (fun b e => by rcases e with rfl | e <;> omega), Nat.le_trans hbase hs.next, hcl', hls'⟩
      · obtain ⟨g0, g1⟩ := hnew p (by simp [hpm])
        exact ⟨fun x => ((lst_set hqi).1 x).elim (hl2ne p hpm) g0, g1.step hs (hl2ne p hpm)⟩
      · by_cases hrd : p.o.op.reads = true
        · rcases (hpair p hpm).mem hq hrd with hin | hin
          · exact absurd (hanc _ hin) hpl
          · have := hfl.mem (p.i, p.o.op) hin
            simp only at this
            rw [this]; exact hr
        · rw [nop_pure (by simpa using hrd) σ' σ]; exact hr

theorem planned {i : Nat} (hp : PlanOk P N ops l anc hard X) (hi : i < ops.size) (hl : l = l1 ++ l2) : (∃ p ∈ l1, p.i = i) ∨ ∃ s p r, l2 = s ++ p :: r ∧ p.i = i := by
  obtain ⟨p, hpm, hpi⟩ := hp.all i hi
  rw [hl] at hpm
  rcases List.mem_append.1 hpm with h | h
  · exact .inl ⟨p, h, hpi⟩
  · obtain ⟨s, r, e⟩ := List.mem_iff_append.1 h
    exact .inr ⟨s, p, r, e, hpi⟩

def unl (listed : Array Bool) (l : List RegE) : Nat := (l.filter fun p => !listed.getD p.i false).length

theorem unl_set (hp : PlanOk P N ops l anc hard X) {p : RegE} (hpm : p ∈ l) (hpl : ¬ Lst listed p.i) (hlt : p.i < listed.size) : unl (listed.setIfInBounds p.i true) l + 1 = unl listed l := by
  obtain ⟨A, B, e⟩ := List.mem_iff_append.1 hpm
  have hne : ∀ q, q ∈ A ∨ q ∈ B → q.i ≠ p.i := by
    intro q hq
    have := hp.nodup
    rw [e, List.map_append, List.nodup_append, List.map_cons, List.nodup_cons] at this
    rcases hq with hq | hq
    · exact this.2.2 _ (List.mem_map_of_mem hq) _ (by simp)
    · exact fun x => this.2.1.1 (by rw [← x]; exact List.mem_map_of_mem hq)
  have hf : ∀ C : List RegE, (∀ q ∈ C, q.i ≠ p.i) → C.filter (fun q => !(listed.setIfInBounds p.i true).getD q.i false) = C.filter (fun q => !listed.getD q.i false) := by
    intro C hC
    refine List.filter_congr fun q hq => ?_
    rw [getD_set_ne false (fun x => hC q hq x.symm)]
  have hp0 : listed.getD p.i false = false := by
    unfold Lst at hpl; simpa using hpl
  have hp1 : (listed.setIfInBounds p.i true).getD p.i false = true := by simp [hlt]
  unfold unl
  rw [e]
  simp only [List.filter_append, List.filter_cons, hp0, hp1, Bool.not_true, Bool.not_false, Bool.false_eq_true, if_false, if_true, List.length_append, List.length_cons]
  rw [hf A (fun q hq => hne q (.inl hq)), hf B (fun q hq => hne q (.inr hq))]
  omega

theorem all_done (hp : PlanOk P N ops l anc hard X) (hls : listed.size = ops.size) (hr : Region.ready .any ops listed = []) : ∀ p ∈ l, Lst listed p.i := by
  have key : ∀ (l1 l2 : List RegE), l = l1 ++ l2 → (∀ p ∈ l1, Lst listed p.i) → ∀ p ∈ l2, Lst listed p.i := by
    intro l1 l2
    induction l2 generalizing l1 with
    | nil => intro _ _ p hp; simp at hp
    | cons q l2 ih =>
      intro hl h1
      have hq : Lst listed q.i := by
        rcases Classical.em (Lst listed q.i) with h | h
        · exact h
        · exfalso
          have hqm : q ∈ l := by rw [hl]; simp
          obtain ⟨o, ho, _⟩ := (hp.comp q hqm).ex
          have hlt : q.i < listed.size := by rw [hls]; exact hp.lt q hqm
          have : q.i ∈ Region.ready .any ops listed := by
            rw [mem_ready]
            refine ⟨?_, o, ho, fun e he hb => ?_⟩
            · unfold Lst at h
              simp [Array.getD, hlt] at h ⊢; exact h
            · obtain ⟨p, hpm, hpi⟩ := hp.ext l1 q l2 hl o ho e he hb
              have := h1 p hpm
              rw [hpi] at this; exact this
          rw [hr] at this; cases this
      intro p hp'
      rcases List.mem_cons.1 hp' with rfl | hp'
      · exact hq
      · exact ih (l1 ++ [q]) (by rw [hl]; simp) (fun x hx => by
          rcases List.mem_append.1 hx with hx | hx
          · exact h1 x hx
          · simp only [List.mem_singleton] at hx; subst hx; exact hq) p hp'
  exact fun p hpm => key [] l rfl (fun p hp => by simp at hp) p hpm

theorem Inv.run (st0 : St ρ0 σ0 w0) (hY : YOk P Y ρ0 w0) (hp : PlanOk P N ops l anc hard X) {Q : Exit → Act → World → Prop}
    (hQ : ∀ t' σ' ρ' a' w', K t' σ' → TRel ds N (fun _ => False) ρ' t' a' → Step (fun b => base ≤ b) ρ0 σ0 w0 ρ' σ' w' → Q .normal a' w') :
    ∀ (fuel : Nat) (listed : Array Bool) (l1 l2 : List RegE) (t : Tmps) (σ : Mem) (ρ : Ren) (a : Act) (w : World), l = l1 ++ l2 → (∀ p ∈ l2, ∀ q ∈ l2, ¬ X p.i q.i) → unl listed l ≤ fuel → Inv P Y ds N base (AOps P Y base K) ops anc hard ρ0 σ0 w0 listed l1 l2 t σ ρ a w → wpAnyIn (Fc ro) 0 P .any ops Q fuel listed a w := by
  have fin : ∀ (listed : Array Bool) (l1 l2 : List RegE) (t : Tmps) (σ : Mem) (ρ : Ren) (a : Act) (w : World), l = l1 ++ l2 → Inv P Y ds N base (AOps P Y base K) ops anc hard ρ0 σ0 w0 listed l1 l2 t σ ρ a w → Region.ready .any ops listed = [] → Q .normal a w := by
    intro listed l1 l2 t σ ρ a w hl h hr
    have hall := all_done hp h.lsize hr
    have h2 : l2 = [] := by
      cases l2 with
      | nil => rfl
      | cons q l2 => exact absurd (hall q (by rw [hl]; simp)) (h.new q (by simp)).1
    subst h2
    exact hQ t σ ρ a w h.rest (h.tmps.weaken fun i ⟨p, hpm, hpl, _⟩ => hpl (hall p (by rw [hl]; simp [hpm]))) h.step
  intro fuel
  induction fuel with
  | zero =>
    intro listed l1 l2 t σ ρ a w hl hX hu h
    have hr : Region.ready .any ops listed = [] := by
      cases e : Region.ready .any ops listed with
      | nil => rfl
      | cons i r =>
        exfalso
        have hi : i ∈ Region.ready .any ops listed := by rw [e]; simp
        obtain ⟨h0, o, ho, _⟩ := mem_ready.1 hi
        have hilt : i < ops.size := (Array.getElem?_eq_some_iff.1 ho).1
        obtain ⟨p, hpm, rfl⟩ := hp.all i hilt
        have hnl : listed.getD p.i false = false := by
          have : p.i < listed.size := by rw [h.lsize]; exact hilt
          simp [Array.getD, this] at h0 ⊢; exact h0
        have : p ∈ l.filter (fun p => !listed.getD p.i false) := List.mem_filter.2 ⟨hpm, by rw [hnl]; rfl⟩
        have hlen : 0 < unl listed l := List.length_pos_of_mem this
        omega
    exact ⟨hr, fin listed l1 l2 t σ ρ a w hl h hr⟩
  | succ fuel ih =>
    intro listed l1 l2 t σ ρ a w hl hX hu h
    refine ⟨fin listed l1 l2 t σ ρ a w hl h, fun i hi => ?_⟩
    obtain ⟨h0, o, ho, hpre⟩ := mem_ready.1 hi
    have hilt : i < ops.size := (Array.getElem?_eq_some_iff.1 ho).1
    have hil : i < listed.size := by rw [h.lsize]; exact hilt
    have hnl : ¬ Lst listed i := by
      unfold Lst
      simp [Array.getD, hil] at h0 ⊢; exact h0
    have hcount : ∀ {p : RegE}, p ∈ l → p.i = i → unl (listed.setIfInBounds i true) l ≤ fuel := by
      intro p hpm e
      subst e
      have := unl_set hp hpm hnl hil
      omega
    rcases planned hp hilt hl with ⟨p, hpm, rfl⟩ | ⟨s, p, r, hs, rfl⟩
    · exact Inv.exec st0 hY hp hl h hpm hi fun ρ' a' w' h' => ih _ l1 l2 t σ ρ' a' w' hl hX (hcount (by rw [hl]; simp [hpm]) rfl) h'
    · subst hs
      have hpl : p ∈ l := by rw [hl]; simp
      have hanc := ready_anc hp h.closed hi
      have hsoft : ∀ q ∈ s, hard q.i = false := by
        intro q hq
        cases e : hard q.i with
        | false => rfl
        | true =>
          have hl' : l = (l1 ++ s) ++ (p :: r) := by rw [hl]; simp
          have := (pair_of (l1 := l1 ++ s) (l2 := p :: r) (p := q) (q := p) hp hl' (by simp [hq]) (by simp)).hd e
          rcases this with this | this
          · exact (hX q (by simp [hq]) p (by simp) this).elim
          · exact absurd (hanc _ this) (h.new q (by simp [hq])).1
      obtain ⟨t1, σ1, h1⟩ := Inv.advances (fun _ _ _ => AUnf.all _ _) hp s l1 (p :: r) t σ hl h hsoft
      have hl1 : l = (l1 ++ s) ++ p :: r := by rw [hl]; simp
      cases hh : hard p.i with
      | false =>
        obtain ⟨t2, σ2, h2⟩ := Inv.advance (AUnf.all _ _) hp hl1 h1 hh
        have hl2 : l = (l1 ++ s ++ [p]) ++ r := by rw [hl]; simp
        exact Inv.exec st0 hY hp hl2 h2 (by simp) hi fun ρ' a' w' h' => ih _ _ r t2 σ2 ρ' a' w' hl2 (fun x hx y hy => hX x (by simp [hx]) y (by simp [hy])) (hcount hpl rfl) h'
      | true =>
        exact Inv.both (AUnf.all _ _) st0 hY hp hl1 h1 hh hi fun t' σ' ρ' a' w' h' => ih _ _ r t' σ' ρ' a' w' (by rw [hl]; simp) (fun x hx y hy => hX x (by simp [hx]) y (by simp [hy])) (hcount hpl rfl) h'

def RR1 (P : Program) (Y : YEnv) (base : Nat) (K : Tmps → Mem → Prop) (p q q' p' : RegE) : List RegE → Tmps → Mem → Prop := fun l2 t σ =>
  ∃ l3, l2 = l3 ++ [p, q] ∧ AOps P Y base (fun t σ => AOps P Y base K [p, q] t σ ∧ AOps P Y base K [q', p'] t σ) l3 t σ
theorem RR1.unf {p q q' p' x : RegE} {l2 : List RegE} (h1 : x ≠ p) (h2 : x ≠ q) : AUnf P Y base (RR1 P Y base K p q q' p') x l2 := by
  rintro t σ ⟨l3, e, h⟩
  cases l3 with
  | nil => simp at e; exact absurd e.1 h1
  | cons y l3 =>
    simp only [List.cons_append, List.cons.injEq] at e
    obtain ⟨rfl, rfl⟩ := e
    have h : (match gval t x.o.g with
      | some true => AStep P Y (base + x.i) x.o.op t σ fun v σ' => Floats base t σ σ' x.fl ∧ AOps P Y base (fun t σ => AOps P Y base K [p, q] t σ ∧ AOps P Y base K [q', p'] t σ) l3 (Tmps.set t x.o.d v) σ'
      | some false => AOps P Y base (fun t σ => AOps P Y base K [p, q] t σ ∧ AOps P Y base K [q', p'] t σ) l3 (Tmps.set t x.o.d (.tup [])) σ
      | none => False) := h
    cases hg : gval t x.o.g with
    | none => rw [hg] at h; exact h
    | some b =>
      rw [hg] at h
      cases b with
      | false => exact ⟨l3, rfl, h⟩
      | true =>
        obtain ⟨xi, ⟨xd, xg, xop⟩, xfl⟩ := x
        have key : ∀ {k k' : AV → Mem → Prop}, (∀ v σ, k v σ → k' v σ) → AStep P Y (base + xi) xop t σ k → AStep P Y (base + xi) xop t σ k' := fun hk hs => AStep.mono hs hk
        exact key (fun v σ' hh => ⟨hh.1, l3, rfl, hh.2⟩) h
theorem unl_swap {p q q' p' : RegE} {l0 : List RegE} (hpi : p'.i = p.i) (hqi : q'.i = q.i) : unl listed (l0 ++ [q', p']) = unl listed (l0 ++ [p, q]) := by
  unfold unl
  rw [List.filter_append, List.filter_append, List.length_append, List.length_append]
  congr 1
  simp only [List.filter_cons, List.filter_nil, hpi, hqi]
  split <;> split <;> simp
theorem Inv.run1 {l0 : List RegE} {p q q' p' : RegE} (st0 : St ρ0 σ0 w0) (hY : YOk P Y ρ0 w0) (hX : X = fun i j => (i = p.i ∧ j = q.i) ∨ (i = q.i ∧ j = p.i)) (hpA : PlanOk P N ops (l0 ++ [p, q]) anc hard X) (hpB : PlanOk P N ops (l0 ++ [q', p']) anc hard X)
    (hpi : p'.i = p.i) (hqi : q'.i = q.i) (hph : hard p.i = true) (hqh : hard q.i = true) {Q : Exit → Act → World → Prop}
    (hQ : ∀ t' σ' ρ' a' w', K t' σ' → TRel ds N (fun _ => False) ρ' t' a' → Step (fun b => base ≤ b) ρ0 σ0 w0 ρ' σ' w' → Q .normal a' w') :
    ∀ (fuel : Nat) (listed : Array Bool) (l1 l2 : List RegE) (t : Tmps) (σ : Mem) (ρ : Ren) (a : Act) (w : World), l0 = l1 ++ l2 → unl listed (l0 ++ [p, q]) ≤ fuel →
      Inv P Y ds N base (RR1 P Y base K p q q' p') ops anc hard ρ0 σ0 w0 listed l1 (l2 ++ [p, q]) t σ ρ a w → wpAnyIn (Fc ro) 0 P .any ops Q fuel listed a w := by
  have hpq : p.i ≠ q.i := by
    have := hpA.nodup
    rw [List.map_append, List.nodup_append] at this
    have := this.2.1
    simp at this
    exact this
  have hnot : ∀ y ∈ l0, y.i ≠ p.i ∧ y.i ≠ q.i := fun y hy => ⟨ne_of (l1 := l0) (l2 := [p, q]) hpA rfl hy (by simp), ne_of (l1 := l0) (l2 := [p, q]) hpA rfl hy (by simp)⟩
  have fin : ∀ (listed : Array Bool) (l1 l2 : List RegE) (t : Tmps) (σ : Mem) (ρ : Ren) (a : Act) (w : World), Inv P Y ds N base (RR1 P Y base K p q q' p') ops anc hard ρ0 σ0 w0 listed l1 (l2 ++ [p, q]) t σ ρ a w → Region.ready .any ops listed = [] → False := by
    intro listed l1 l2 t σ ρ a w h hr
    exact (h.new p (by simp)).1 (all_done hpA h.lsize hr p (by simp))
  have hUs : ∀ (x : RegE) (l2 : List RegE), x.i ≠ p.i → x.i ≠ q.i → AUnf P Y base (RR1 P Y base K p q q' p') x l2 := fun x l2 h1 h2 => RR1.unf (fun e => h1 (by rw [e])) (fun e => h2 (by rw [e]))
  have hsoftU : ∀ (x : RegE) (l2 : List RegE), hard x.i = false → AUnf P Y base (RR1 P Y base K p q q' p') x l2 := fun x l2 h => hUs x l2 (fun e => by rw [e, hph] at h; cases h) (fun e => by rw [e, hqh] at h; cases h)
  intro fuel
  induction fuel with
  | zero =>
    intro listed l1 l2 t σ ρ a w hl hu h
    have hr : Region.ready .any ops listed = [] := by
      cases e : Region.ready .any ops listed with
      | nil => rfl
      | cons i r =>
        exfalso
        have hi : i ∈ Region.ready .any ops listed := by rw [e]; simp
        obtain ⟨h0, o, ho, _⟩ := mem_ready.1 hi
        have hilt : i < ops.size := (Array.getElem?_eq_some_iff.1 ho).1
        obtain ⟨x, hxm, rfl⟩ := hpA.all i hilt
        have hnl : listed.getD x.i false = false := by
          have : x.i < listed.size := by rw [h.lsize]; exact hilt
          simp [Array.getD, this] at h0 ⊢; exact h0
        have : x ∈ (l0 ++ [p, q]).filter (fun x => !listed.getD x.i false) := List.mem_filter.2 ⟨hxm, by rw [hnl]; rfl⟩
        have hlen : 0 < unl listed (l0 ++ [p, q]) := List.length_pos_of_mem this
        omega
    exact (fin listed l1 l2 t σ ρ a w h hr).elim
  | succ fuel ih =>
    intro listed l1 l2 t σ ρ a w hl hu h
    refine ⟨fun hr => (fin listed l1 l2 t σ ρ a w h hr).elim, fun i hi => ?_⟩
    obtain ⟨h0, o, ho, hpre⟩ := mem_ready.1 hi
    have hilt : i < ops.size := (Array.getElem?_eq_some_iff.1 ho).1
    have hil : i < listed.size := by rw [h.lsize]; exact hilt
    have hnl : ¬ Lst listed i := by
      unfold Lst
      simp [Array.getD, hil] at h0 ⊢; exact h0
    have hcount : ∀ {x : RegE}, x ∈ l0 ++ [p, q] → x.i = i → unl (listed.setIfInBounds i true) (l0 ++ [p, q]) ≤ fuel := by
      intro x hxm e
      subst e
      have := unl_set hpA hxm hnl hil
      omega
    have hlA : l0 ++ [p, q] = l1 ++ (l2 ++ [p, q]) := by rw [hl]; simp
    have hanc := ready_anc hpA h.closed hi
    -- what is planned ahead of it is quiet
    have soft : ∀ (s r : List RegE) (x : RegE), l2 ++ [p, q] = s ++ x :: r → x.i = i → ∀ y ∈ s, y ∈ l2 → hard y.i = false := by
      intro s r x hs hx y hy hy2
      cases e : hard y.i with
      | false => rfl
      | true =>
        have hl' : l0 ++ [p, q] = (l1 ++ s) ++ (x :: r) := by rw [hlA, hs]; simp
        have := (pair_of (l1 := l1 ++ s) (l2 := x :: r) (p := y) (q := x) hpA hl' (by simp [hy]) (by simp)).hd e
        have hy0 := hnot y (by rw [hl]; simp [hy2])
        rcases this with this | this
        · rw [hX] at this
          rcases this with this | this
          · exact absurd this.1 hy0.1
          · exact absurd this.1 hy0.2
        · rw [hx] at this
          exact absurd (hanc _ this) (h.new y (by simp [hy2])).1
    -- at the end both orders stand
    have ends : (∀ y ∈ l2, hard y.i = false) → ∃ t' σ', Inv P Y ds N base (AOps P Y base K) ops anc hard ρ0 σ0 w0 listed l0 [p, q] t' σ' ρ a w ∧ Inv P Y ds N base (AOps P Y base K) ops anc hard ρ0 σ0 w0 listed l0 [q', p'] t' σ' ρ a w := by
      intro hsf
      obtain ⟨t1, σ1, h1⟩ := Inv.advances hsoftU hpA l2 l1 [p, q] t σ hlA h hsf
      rw [← hl] at h1
      obtain ⟨⟨l3, e3, hA, hB⟩, r2, r3, r4, r5, r6, r7, r8⟩ : (∃ l3, [p, q] = l3 ++ [p, q] ∧ AOps P Y base K [p, q] t1 σ1 ∧ AOps P Y base K [q', p'] t1 σ1) ∧ _ := by
        refine ⟨?_, h1⟩
        obtain ⟨l3, e3, h3⟩ := h1.rest
        have : l3 = [] := by
          have := congrArg List.length e3
          simp at this
          exact this
        subst this
        exact ⟨[], rfl, h3⟩
      exact ⟨t1, σ1, ⟨hA, h1.new, h1.pend, h1.tmps, h1.step, h1.base, h1.closed, h1.lsize⟩, ⟨hB, fun z hz => by
        rcases List.mem_cons.1 hz with rfl | hz
        · have := h1.new q (by simp)
          rw [← hqi] at this; exact this
        · simp at hz
          subst hz
          have := h1.new p (by simp)
          rw [← hpi] at this; exact this, h1.pend, h1.tmps, h1.step, h1.base, h1.closed, h1.lsize⟩⟩
    have caseP : p.i = i → (∀ y ∈ l2, hard y.i = false) → wpOpIn (Fc ro) 0 P ops Q i (wpAnyIn (Fc ro) 0 P .any ops Q fuel (listed.setIfInBounds i true)) a w := by
      intro e hsf
      subst e
      obtain ⟨t1, σ1, hA, _⟩ := ends hsf
      refine Inv.both (AUnf.all _ _) st0 hY hpA (l1 := l0) (l2 := [q]) rfl hA hph hi fun t' σ' ρ' a' w' h' => ?_
      refine Inv.run st0 hY hpA hQ fuel _ (l0 ++ [p]) [q] t' σ' ρ' a' w' (by simp) ?_ (hcount (x := p) (by simp) rfl) h'
      intro x hx y hy hxy
      simp at hx hy
      subst hx hy
      rw [hX] at hxy
      rcases hxy with hxy | hxy
      · exact hpq hxy.1.symm
      · exact hpq hxy.2.symm
    have caseQ : q.i = i → (∀ y ∈ l2, hard y.i = false) → wpOpIn (Fc ro) 0 P ops Q i (wpAnyIn (Fc ro) 0 P .any ops Q fuel (listed.setIfInBounds i true)) a w := by
      intro e hsf
      have e' : q'.i = i := hqi.trans e
      subst e'
      obtain ⟨t1, σ1, _, hB⟩ := ends hsf
      refine Inv.both (AUnf.all _ _) st0 hY hpB (l1 := l0) (l2 := [p']) rfl hB (by rw [hqi]; exact hqh) hi fun t' σ' ρ' a' w' h' => ?_
      refine Inv.run st0 hY hpB hQ fuel _ (l0 ++ [q']) [p'] t' σ' ρ' a' w' (by simp) ?_ (by rw [unl_swap hpi hqi]; exact hcount (x := q) (by simp) hqi.symm) h'
      intro x hx y hy hxy
      simp at hx hy
      subst hx hy
      rw [hX] at hxy
      rcases hxy with hxy | hxy
      · exact hpq (hpi.symm.trans hxy.2 |> fun e => e)
      · exact hpq (hxy.2.symm.trans (hxy.1.trans rfl) |>.trans rfl |> fun e => by rw [hpi] at hxy; exact hxy.1)
    rcases planned hpA hilt hlA with ⟨x, hxm, rfl⟩ | ⟨s, x, r, hs, hxi⟩
    · exact Inv.exec st0 hY hpA hlA h hxm hi fun ρ' a' w' h' => ih _ l1 l2 t σ ρ' a' w' hl (hcount (by rw [hl]; simp [hxm]) rfl) h'
    · have hsf := soft s r x hs hxi
      rcases List.append_eq_append_iff.1 hs with ⟨c, e1, e2⟩ | ⟨c, e1, e2⟩
      · -- behind what is planned
        cases c with
        | nil =>
          simp at e1 e2
          obtain ⟨rfl, rfl⟩ := e2
          exact caseP hxi fun y hy => hsf y (by rw [e1]; exact hy) hy
        | cons c0 c =>
          cases c with
          | nil =>
            simp at e2
            obtain ⟨rfl, rfl, rfl⟩ := e2
            exact caseQ hxi fun y hy => hsf y (by rw [e1]; simp [hy]) hy
          | cons c1 c => simp at e2
      · cases c with
        | nil =>
          simp at e1 e2
          obtain ⟨rfl, rfl⟩ := e2
          exact caseP hxi fun y hy => hsf y (by rw [← e1]; exact hy) hy
        | cons c0 c =>
          simp only [List.cons_append, List.cons.injEq] at e2
          obtain ⟨rfl, rfl⟩ := e2
          subst hxi
          subst e1
          have hx0 := hnot x (by rw [hl]; simp)
          have hpl : x ∈ l0 ++ [p, q] := by rw [hl]; simp
          obtain ⟨t1, σ1, h1⟩ := Inv.advances hsoftU hpA s l1 (x :: (c ++ [p, q])) t σ (by rw [hl]; simp) (by simpa using h) (fun y hy => hsf y hy (by simp [hy]))
          have hl1 : l0 ++ [p, q] = (l1 ++ s) ++ x :: (c ++ [p, q]) := by rw [hl]; simp
          cases hh : hard x.i with
          | false =>
            obtain ⟨t2, σ2, h2⟩ := Inv.advance (hUs x _ hx0.1 hx0.2) hpA hl1 h1 hh
            have hl2 : l0 ++ [p, q] = (l1 ++ s ++ [x]) ++ (c ++ [p, q]) := by rw [hl]; simp
            exact Inv.exec st0 hY hpA hl2 h2 (by simp) hi fun ρ' a' w' h' => ih _ _ c t2 σ2 ρ' a' w' (by rw [hl]; simp) (hcount hpl rfl) h'
          | true =>
            exact Inv.both (hUs x _ hx0.1 hx0.2) st0 hY hpA hl1 h1 hh hi fun t' σ' ρ' a' w' h' => ih _ _ c t' σ' ρ' a' w' (by rw [hl]; simp) (hcount hpl rfl) h'

theorem CodeOk.drawn {id : Nat} (hm : P.follows .mixedOrders = true) (hX : ∀ i j, ¬ X i j) (hp : PlanOk P N ops l anc hard X) : CodeOk ro P Y N (.region id ops true) (.region ops.size l) := by
  intro Q t σ h ρ a w B Ds st ht hY hB hm'
  refine wpIn_region_any hm ?_
  have st' : St ρ σ ({ w with drawn := w.drawn + 1 } : World) := st.congr rfl
  have hno : ∀ i, ¬ Lst (Array.replicate ops.size false) i := by
    intro i hi
    have hlt := lst_lt hi
    unfold Lst at hi
    simp at hlt
    simp [Array.getD, hlt] at hi
  refine Inv.run st hY (base := σ.next) (ρ0 := ρ) (σ0 := σ) (w0 := w) (K := fun t σ => Q .normal t σ) hp (fun t' σ' ρ' a' w' hk ht' hs => ⟨t', σ', ρ', Ds, hk, ht', hs, hm'.step st hs⟩) ops.size _ [] l t (σ.bump ops.size) ρ a _ rfl (fun _ _ _ _ => hX _ _) ?_ ?_
  · have h1 := hp.len
    have h2 : unl (Array.replicate ops.size false) l ≤ l.length := List.length_filter_le _ _
    omega
  · refine ⟨h, fun p hpm => ⟨hno _, free_start st (hp.lt p hpm)⟩, fun p hpm => by simp at hpm, ht.weaken (fun i x => x.elim), ?_, Nat.le_add_right _ _, fun i hi => absurd hi (hno i), by simp⟩
    exact (Step.bump st _).congr_world rfl rfl rfl rfl
theorem CodeOk.drawn2 {id : Nat} {l0 : List RegE} {p q : RegE} {fq fp : List (Nat × AOp)} (hm : P.follows .mixedOrders = true) (hX : X = fun i j => (i = p.i ∧ j = q.i) ∨ (i = q.i ∧ j = p.i)) (hpA : PlanOk P N ops (l0 ++ [p, q]) anc hard X) (hpB : PlanOk P N ops (l0 ++ [⟨q.i, q.o, fq⟩, ⟨p.i, p.o, fp⟩]) anc hard X)
    (hph : hard p.i = true) (hqh : hard q.i = true) : CodeOk ro P Y N (.region id ops true) (.regionX ops.size l0 p q fq fp) := by
  intro Q t σ h ρ a w B Ds st ht hY hB hm'
  refine wpIn_region_any hm ?_
  have hno : ∀ i, ¬ Lst (Array.replicate ops.size false) i := by
    intro i hi
    have hlt := lst_lt hi
    unfold Lst at hi
    simp at hlt
    simp [Array.getD, hlt] at hi
  refine Inv.run1 (base := σ.next) (ρ0 := ρ) (σ0 := σ) (w0 := w) (K := fun t σ => Q .normal t σ) st hY hX hpA hpB rfl rfl hph hqh (fun t' σ' ρ' a' w' hk ht' hs => ⟨t', σ', ρ', Ds, hk, ht', hs, hm'.step st hs⟩) ops.size _ [] l0 t (σ.bump ops.size) ρ a _ rfl ?_ ?_
  · have h1 := hpA.len
    have h2 : unl (Array.replicate ops.size false) (l0 ++ [p, q]) ≤ (l0 ++ [p, q]).length := List.length_filter_le _ _
    omega
  · refine ⟨⟨l0, rfl, h⟩, fun p hpm => ⟨hno _, free_start st (hpA.lt p hpm)⟩, fun p hpm => by simp at hpm, ht.weaken (fun i x => x.elim), ?_, Nat.le_add_right _ _, fun i hi => absurd hi (hno i), by simp⟩
    exact (Step.bump st _).congr_world rfl rfl rfl rfl
end
end Go.Vit
end

section
namespace Go.Vit
section
variable {P : Program} {Y : YEnv} {ro : Option Nat} {N : Nat} {ρ ρ' : Ren} {σ σ' : Mem} {t : Tmps} {a : Act} {w w' : World}

theorem heap_alloc (w : World) (o : Obj) {c : Nat} (h : c < w.heap.size) : (w.alloc o).heap[c]? = w.heap[c]? := by
  show (w.heap.push o)[c]? = _
  rw [Array.getElem?_push, if_neg (by omega)]
theorem St.grown {w1 : World} {b l : Nat} (st : St ρ σ w) (hb : σ.next ≤ b) (hh : ∀ c < w.heap.size, w1.heap[c]? = w.heap[c]?) (hs : w.heap.size ≤ w1.heap.size) : St (fun b' => if b' = b then some (l, 0, 0) else ρ b') (σ.bump (b + 1 - σ.next)) w1 := by
  have he : ∀ b' p, ρ b' = some p → (fun b' => if b' = b then some (l, 0, 0) else ρ b') b' = some p := fun b' p h => by
    have := st.dom b' p h
    show (if b' = b then _ else _) = _
    rw [if_neg (by omega)]; exact h
  have back : ∀ b' k p, σ.get b' = some k → (fun b' => if b' = b then some (l, 0, 0) else ρ b') b' = some p → ρ b' = some p := fun b' k p hk hp => by
    have := st.live b' k hk
    change (if b' = b then _ else _) = _ at hp
    rw [if_neg (by omega)] at hp; exact hp
  refine ⟨fun b' p h => ?_, fun b' k h => ?_, fun b' k p hk hp => ?_, fun b1 b2 k1 k2 p1 p2 h1 h2 h3 h4 => st.inj b1 b2 k1 k2 p1 p2 h1 h2 (back _ _ _ h1 h3) (back _ _ _ h2 h4)⟩
  · change (if b' = b then _ else _) = _ at h
    rw [Mem.next_bump]
    split at h
    · omega
    · have := st.dom b' p h; omega
  · have := st.live b' k h
    rw [Mem.next_bump]; omega
  · have h := st.rel b' k p hk (back _ _ _ hk hp)
    refine (h.move fun hsol => hh _ (h.lt hsol)).mono he
theorem Step.grown {M : Nat → Prop} {w1 : World} {b l : Nat} (st : St ρ σ w) (hb : σ.next ≤ b) (hM : M b) (hl : w.heap.size ≤ l) (hh : ∀ c < w.heap.size, w1.heap[c]? = w.heap[c]?) (hs : w.heap.size ≤ w1.heap.size) (ho : w1.os = w.os) (ht : w1.tape = w.tape) (hout : w1.output = w.output) :
    Step M ρ σ w (fun b' => if b' = b then some (l, 0, 0) else ρ b') (σ.bump (b + 1 - σ.next)) w1 := by
  refine ⟨st.grown hb hh hs, Nat.le_add_right _ _, fun b' p h => ?_, fun b' p h h0 => ?_, fun b' k h _ => ⟨k, h, rfl⟩, fun _ _ _ => rfl, fun c hc _ => hh c hc, hs, ho, ht, hout⟩
  · have := st.dom b' p h
    show (if b' = b then _ else _) = _
    rw [if_neg (by omega)]; exact h
  · change (if b' = b then _ else _) = _ at h
    split at h
    · rename_i e
      cases h
      exact ⟨e ▸ hM, .inl hl⟩
    · rw [h0] at h; cases h
theorem Step.around {M M1 : Nat → Prop} {ρ1 ρ2 : Ren} {σ1 σ2 : Mem} {w1 w2 : World} {l : Nat} {o o1 : Obj} (h1 : Step M ρ σ w ρ1 σ1 w1) (h2 : Step M1 ρ1 σ1 (w1.putObj l o1) ρ2 σ2 w2) (hst : St ρ1 σ1 (w1.putObj l o1)) (hl : w1.heap[l]? = some o)
    (hc : ∀ cs e fz, o1 ≠ .cells cs e fz) (hm : ∀ xs c, o1 ≠ .map xs c) (hi : ∀ m s sn la, o1 ≠ .mapIter m s sn la) (hM : ∀ b, M1 b → M b) : Step M ρ σ w ρ2 σ2 (w2.putObj l o) := by
  have hlt := (Array.getElem?_eq_some_iff.1 hl).1
  have hl1 : (w1.putObj l o1).heap[l]? = some o1 := World.putObj_heap_same hlt
  have hl2 : w2.heap[l]? = some o1 := h2.still hst hl1 hc hm hi
  refine h1.trans (N := M) (N1 := M) (N2 := M1) ⟨h2.st.put hl2 hc hm hi, h2.next, h2.ext, fun b p h h0 => ?_, h2.old, h2.same, fun c hc' hno => ?_, ?_, h2.os, h2.tape, h2.out⟩ (fun _ e => e) hM
  · have := h2.fresh b p h h0
    rw [World.putObj_size] at this
    exact this
  · by_cases e : c = l
    · subst e
      rw [World.putObj_heap_same (Array.getElem?_eq_some_iff.1 hl2).1, hl]
    · rw [World.putObj_heap_other e, h2.frame c (by rw [World.putObj_size]; exact hc') hno, World.putObj_heap_other e]
  · have := h2.size
    rw [World.putObj_size] at this ⊢
    exact this
theorem fillT_rel : ∀ (ps : List Nat) (args : List AV) (args' : List Value) (t : Tmps) (tmps : Array Value), (∀ i ∈ ps, i < N) → args.length = ps.length → args'.length = ps.length →
    (∀ (i : Nat) (x : AV) (v : Value), args[i]? = some x → args'[i]? = some v → VRel ρ x v) → TRel [] N (fun _ => False) ρ t { tmps := tmps, defers := [] } →
    TRel [] N (fun _ => False) ρ (Tmps.fill t ps args) { tmps := (ps.zip args').foldl (fun tmps (x : Nat × Value) => tmps.setIfInBounds x.1 x.2) tmps, defers := [] }
  | [], args, args', t, tmps, _, h1, h2, _, ht => by
    cases args with
    | nil => simpa [Tmps.fill] using ht
    | cons x l => simp at h1
  | i :: ps, [], _, _, _, _, h1, _, _, _ => by simp at h1
  | i :: ps, x :: args, [], _, _, _, _, h2, _, _ => by simp at h2
  | i :: ps, x :: args, v :: args', t, tmps, hp, h1, h2, hr, ht => by
    rw [Tmps.fill, List.zip_cons_cons, List.foldl_cons]
    refine fillT_rel ps args args' _ _ (fun j hj => hp j (by simp [hj])) (by simpa using h1) (by simpa using h2) (fun j y u hy hu => hr (j + 1) y u (by simpa using hy) (by simpa using hu)) ?_
    have := ht.put (d := some i) (hr 0 x v rfl rfl) (fun j e => by cases e; exact hp i (by simp))
    exact this.weaken (fun _ h => h.1)
theorem zip_fold (ps : Array Nat) (args' : Array Value) (tmps : Array Value) : (ps.zip args').foldl (fun tmps (t, a) => tmps.setIfInBounds t a) tmps = (ps.toList.zip args'.toList).foldl (fun tmps (x : Nat × Value) => tmps.setIfInBounds x.1 x.2) tmps := by
  rw [← Array.foldl_toList, Array.toList_zip]
theorem CodeOk.range {g : Operand} {ag : AOpd} {ps : Array Tmp} {cs bd : Code} {acs abd : ACode} (hg : opd g = some ag) (hcs : ∀ ro, CodeOk ro P noY N cs acs) (hbd : ∀ ro, CodeOk ro P noY N bd abd) (hps : ∀ i ∈ ps.toList, i < N) :
    CodeOk none P Y N (.rangeFunc g ps cs bd) (.range ag ps.toList acs abd) := by
  intro Q t σ h ρ a w B Ds st ht hY hB hm
  simp only [AW] at h
  split at h
  · rename_i f c hgev
    have hv := ht.eval hg hgev (fun _ _ x => x)
    generalize hev : a.eval g = ev at hv
    cases hv with
    | func hl0 hrel =>
      rename_i cvs
      refine wpIn_rangeFunc (F := Fc none) fun fn _ => ?_
      obtain ⟨l, hl⟩ : ∃ l, l = w.heap.size + 1 := ⟨_, rfl⟩
      obtain ⟨r, hr⟩ : ∃ r : Loop, r = { state := .ready, pending := none, fn, tmps := a.tmps, params := ps, assign := cs, body := bd, defers := w.heap.size } := ⟨_, rfl⟩
      obtain ⟨w1, hw1⟩ : ∃ w1, w1 = (w.alloc (.deferred (some []))).alloc (.loop r) := ⟨_, rfl⟩
      have hsz : w1.heap.size = w.heap.size + 2 := by rw [hw1, World.size_alloc, World.size_alloc]
      have hold : ∀ c < w.heap.size, w1.heap[c]? = w.heap[c]? := fun c hc => by
        rw [hw1, heap_alloc _ _ (by rw [World.size_alloc]; omega), heap_alloc _ _ hc]
      have hD : w1.heap[w.heap.size]? = some (.deferred (some [])) := by
        rw [hw1, heap_alloc _ _ (by rw [World.size_alloc]; omega)]; exact World.alloc_heap_new _ _
      have hloop : w1.heap[l]? = some (.loop r) := by
        rw [hw1, hl]
        have := World.alloc_heap_new (w.alloc (.deferred (some []))) (.loop r)
        rwa [World.size_alloc] at this
      have hrun := run_enterLoop_outer (P := P) (w := w) fn a.tmps ps cs bd
      rw [← hr, ← hw1, ← hl] at hrun
      have hst1 := Step.grown (M := fun b => σ.next ≤ b) (b := σ.next) (l := l) st (Nat.le_refl _) (Nat.le_refl _) (by omega) hold (by omega) (by rw [hw1]; rfl) (by rw [hw1]; rfl) (by rw [hw1]; rfl)
      rw [show σ.next + 1 - σ.next = 1 from by omega] at hst1
      obtain ⟨ρ1, hρ1⟩ : ∃ ρ1 : Ren, ρ1 = fun b' => if b' = σ.next then some (l, 0, 0) else ρ b' := ⟨_, rfl⟩
      rw [← hρ1] at hst1
      have hρb : ρ1 σ.next = some (l, 0, 0) := by rw [hρ1]; exact if_pos rfl
      refine ⟨l, [{ target := .collected w.heap.size, args := #[] }], w1, ⟨.fn (.func f) cvs, #[.func (.yield l) #[] #[]]⟩, w1, f, #[.func (.yield l) #[] #[]] ++ cvs, w1, hrun, ?_, fun _ _ => trivial, ?_, fun h => by simp [Fence.wide] at h, ?_⟩
      · simp only [resolve, rangeCall, hev, Deferred.ofValue, Sem.run_pure]
        simp [Act.eval]
      · exact callFunc_run h.1 _
      · obtain ⟨yargs, hya⟩ : ∃ x : Array Value, x = #[.func (.yield l) #[] #[]] ++ cvs := ⟨_, rfl⟩
        rw [← hya]
        have hcall := h.2 ρ1 w1 yargs hst1.st
        refine (callsIn_fc (ro := none) (n := 0)).2 (Calls.mono (hcall ?_ ?_) ?_)
        · rw [hya]
          exact LRel.append (l := [.yld σ.next]) (cs := #[.func (.yield l) #[] #[]]) ⟨rfl, fun i x v hx hv => by
            cases i with
            | zero => simp at hx hv; subst hx hv; exact .yld hρb
            | succ i => simp at hx⟩ ⟨hl0, fun i x v hx hv => (hrel i x v hx hv).mono hst1.ext⟩
        · intro b T hT
          unfold oneY at hT
          split at hT
          · rename_i e
            subst e
            cases hT
            refine ⟨l, 0, 0, r, hρb, hloop, ?_⟩
            intro ρ2 σ2 w2 args args' K hext st2 hl2 hlr ⟨hlen, hAW⟩
            have hps' : args'.size = ps.size := by rw [← hlr.1, hlen]; simp
            have hrps : r.params = ps := by rw [hr]
            refine ⟨by rw [hps', hrps], ?_⟩
            refine roundIn_of_wpIn (F := Fence.wide) trivial ?_
            have hTR : TRel (mk []) N (fun _ => False) ρ2 (Tmps.fill t ps.toList args) { tmps := (r.params.zip args').foldl (fun tmps (t, a) => tmps.setIfInBounds t a) r.tmps, defers := [] } := by
              rw [zip_fold, hrps]
              refine fillT_rel ps.toList args args'.toList t r.tmps hps hlen (by simpa using hps') (fun i x v hx hv => hlr.2 i x v hx (by simpa using hv)) ⟨rfl, ?_, fun i v hi hv => ?_⟩
              · rw [hr]; exact ht.size
              · have := (ht.get i v hi hv).mono (fun b p e => hext _ _ (hst1.ext b p e))
                rw [hr]; exact this
            have hA := hcs (some l) _ _ _ hAW ρ2 _ w2 w2.heap.size [] st2 hTR (.no P ρ2 w2) (Nat.le_refl _) ⟨List.nodup_nil, by simp⟩
            have hras : r.assign = cs := by rw [hr]
            rw [hras]
            refine wpIn_mono hA ?_
            rintro e a1 w3 ⟨t1, σ3, ρ3, Ds3, hq, ht3, hs3, hm3⟩
            cases e with
            | normal =>
              have hl3 := hs3.still st2 hl2 (by simp) (by simp) (by simp)
              have hready : r.state = .ready := by rw [hr]
              refine ⟨w3.putObj l (.loop { r with state := .busy }), run_beginRound hl3 hready, ?_⟩
              have st3 := hs3.st.put (o' := .loop { r with state := .busy }) hl3 (by simp) (by simp) (by simp)
              have hB3 := hbd (some l) _ _ _ hq ρ3 a1 (w3.putObj l (.loop { r with state := .busy })) w2.heap.size Ds3 st3 ht3 (.no P ρ3 _) (by rw [World.putObj_size]; exact hs3.size) ⟨hm3.1, fun D hD => ?_⟩
              · have hrbd : r.body = bd := by rw [hr]
                rw [← hrbd] at hB3
                refine wpIn_mono hB3 ?_
                rintro e a2 w4 ⟨t2, σ4, ρ4, Ds4, hq4, ht4, hs4, hm4⟩
                cases e with
                | normal =>
                  have hl4 := hs4.still st3 (World.putObj_heap_same (Array.getElem?_eq_some_iff.1 hl3).1) (by simp) (by simp) (by simp)
                  have hrr : ({ r with state := .ready, pending := none } : Loop) = r := by rw [hr]
                  refine ⟨.bool true, w4.putObj l (.loop r), ?_, .bool true, .bool true, σ4, ρ4, rfl, hq4, .bool true, ?_⟩
                  · have := run_endRound (P := P) none hl4
                    simp only [Option.isNone_none, if_true] at this
                    rw [this]
                    congr 3
                  · exact hs3.around hs4 st3 hl3 (by simp) (by simp) (by simp) (fun b hb => Nat.le_trans hs3.next hb)
                | _ => exact hq4.elim
              · rw [World.putObj_heap_other]
                · exact hm3.2 D hD
                · rintro rfl
                  have := (hm3.2 _ hD).2
                  rw [hl3] at this; simp at this
            | _ => exact hq.elim
          · cases hT
        · rintro e w3 ⟨v, v', σ', ρ', he, hQ, hv, hs⟩
          subst he
          have hl3 := hs.still hst1.st hloop (by simp) (by simp) (by simp)
          have hD3 := hs.still hst1.st hD (by simp) (by simp) (by simp)
          have hstep := hst1.trans (N := fun b => σ.next ≤ b) hs (fun _ e => e) (fun b (hb : σ.next + 1 ≤ b) => by omega)
          refine ⟨none, w3.putObj l (.loop { r with state := .exhausted }), ?_, ?_⟩
          · have := run_endLoop (P := P) hl3 (by rw [hr]; simp)
            rw [this]
            congr 1
            rw [hr]
          · refine ⟨t, σ', ρ', w.heap.size :: Ds, hQ, ⟨?_, ht.size, fun i v hi hv => (ht.get i v hi hv).mono hstep.ext⟩, hstep.put hl3 (by simp) (by simp) (by simp) (by omega), ?_⟩
            · show [_] ++ a.defers = _
              rw [ht.defers]; rfl
            · have hm2 := hm.step st hstep
              refine ⟨List.nodup_cons.2 ⟨fun hD' => ?_, hm.1⟩, fun D hD' => ?_⟩
              · have := (Array.getElem?_eq_some_iff.1 (hm.2 _ hD').2).1
                omega
              · rcases List.mem_cons.1 hD' with rfl | hD'
                · refine ⟨hB, ?_⟩
                  rw [World.putObj_heap_other (by omega)]; exact hD3
                · refine ⟨(hm.2 D hD').1, ?_⟩
                  have := (Array.getElem?_eq_some_iff.1 (hm.2 _ hD').2).1
                  rw [World.putObj_heap_other (by omega)]; exact (hm2.2 D hD').2
  · exact h.elim
end
end Go.Vit
end

section
namespace Go.Vit

def compGuard (ops : Array Oper) (N : Nat) : Option (Nat × Bool) → Option (Option (Nat × Bool))
  | none => some none
  | some (j, want) => (ops[j]?).bind fun o => o.dst.bind fun d => if d < N then some (some (d, want)) else none
def compOper (P : Program) (N : Nat) (ops : Array Oper) (i : Nat) : Option AOper :=
  (ops[i]?).bind fun o => (compGuard ops N o.guard).bind fun g =>
    match o.dst with
    | none => some ⟨none, g, (compOp P o.op).getD .fail⟩
    | some d => if d < N then some ⟨some d, g, (compOp P o.op).getD .fail⟩ else none
def compOpers (P : Program) (N : Nat) (ops : Array Oper) : List Nat → Option (List RegE)
  | [] => some []
  | i :: l => (compOper P N ops i).bind fun o => (compOpers P N ops l).bind fun r => some (⟨i, o, []⟩ :: r)

def edgeMask (ms : List Nat) : List Edge → Nat
  | [] => 0
  | e :: es => if Region.binds .any e then ((1 <<< e.on) ||| ms.getD e.on 0) ||| edgeMask ms es else edgeMask ms es
def masks (ops : List Oper) : List Nat := ops.foldl (fun ms o => ms ++ [edgeMask ms o.after.toList]) []
def masksOk (ms : List Nat) : Nat → List Oper → Bool
  | _, [] => true
  | i, o :: r => ms.getD i 0 == edgeMask ms o.after.toList && masksOk ms (i + 1) r
def hards (ms : List Nat) (es : List RegE) : List Bool :=
  es.map fun p => p.o.op.eff || (match p.o.d with
    | none => false
    | some x => es.any fun q => q.i != p.i && !(ms.getD q.i 0).testBit p.i && (q.o.ts.contains x || q.o.d == some x))
def planGo (ms : List Nat) (hd : List Bool) (n : Nat) : Nat → Nat → List Nat → List Nat
  | 0, _, acc => acc.reverse
  | f + 1, done, acc =>
    let free (i : Nat) : Bool := !done.testBit i && (ms.getD i 0 &&& done) == ms.getD i 0
    match (List.range n).find? (fun i => free i && !hd.getD i true) with
    | some i => planGo ms hd n f (done ||| (1 <<< i)) (i :: acc)
    | none => match (List.range n).find? free with
      | some i => planGo ms hd n f (done ||| (1 <<< i)) (i :: acc)
      | none => acc.reverse
def pairOk (ms : List Nat) (hd : List Bool) (ex : Nat → Nat → Bool) (p q : RegE) : Bool :=
  let a := (ms.getD q.i 0).testBit p.i
  (!hd.getD p.i false || ex p.i q.i || a) &&
  (match p.o.d with | none => true | some x => !q.o.ts.contains x || a) &&
  (match q.o.d with | none => true | some x => !(p.o.ts.contains x || p.o.d == some x) || (hd.getD q.i false && a))
def pairsOk (ms : List Nat) (hd : List Bool) (ex : Nat → Nat → Bool) : List RegE → Bool
  | [] => true
  | p :: r => r.all (pairOk ms hd ex p) && pairsOk ms hd ex r
def extOk (ops : Array Oper) : List Nat → List RegE → Bool
  | _, [] => true
  | seen, q :: r => (match ops[q.i]? with
      | some o => o.after.toList.all fun e => !Region.binds .any e || seen.contains e.on
      | none => false) && extOk ops (q.i :: seen) r
def nodupOk : List RegE → Bool
  | [] => true
  | p :: r => r.all (fun q => q.i != p.i) && nodupOk r
def flOf (ms : List Nat) (hd : List Bool) (acc : List RegE) (i : Nat) : List (Nat × AOp) :=
  if hd.getD i false then acc.filterMap (fun p => if p.o.op.reads && !(ms.getD i 0).testBit p.i then some (p.i, p.o.op) else none) else []
def addFl (ms : List Nat) (hd : List Bool) : List RegE → List RegE → List RegE
  | _, [] => []
  | acc, q :: r => ⟨q.i, q.o, if hd.getD q.i false then acc.filterMap (fun p => if p.o.op.reads && !(ms.getD q.i 0).testBit p.i then some (p.i, p.o.op) else none) else []⟩ :: addFl ms hd (acc ++ [q]) r

def planOk (ops : Array Oper) (ms : List Nat) (hd : List Bool) (ex : Nat → Nat → Bool) (l : List RegE) : Bool :=
  masksOk ms 0 ops.toList && (ms.length == ops.size) && nodupOk l && decide (l.length ≤ ops.size) && (List.range ops.size).all (fun i => l.any fun p => p.i == i) && l.all (fun p => decide (p.i < ops.size)) && pairsOk ms hd ex l && extOk ops [] l &&
  l.all (fun p => !p.o.op.eff || hd.getD p.i false) && l.all (fun p => hd.getD p.i false || (match p.o.d with | none => true | some x => !p.o.ts.contains x))

def compRegion (P : Program) (N : Nat) (ops : Array Oper) (draw : Bool) : Option ACode :=
  (compOpers P N ops (List.range ops.size)).bind fun es =>
    if !draw then some (.region ops.size es) else
      let ms := masks ops.toList
      let hd := hards ms es
      let order := planGo ms hd ops.size ops.size 0 []
      (compOpers P N ops order).bind fun l =>
        if planOk ops ms hd (fun _ _ => false) l then some (.region ops.size (addFl ms hd [] l)) else
          match order.reverse with
          | j :: i :: r => (compOpers P N ops r.reverse).bind fun x => (compOper P N ops i).bind fun oi => (compOper P N ops j).bind fun oj =>
            let ex (a b : Nat) : Bool := (a == i && b == j) || (a == j && b == i)
            if (planOk ops ms hd ex (x ++ [⟨i, oi, []⟩, ⟨j, oj, []⟩]) && planOk ops ms hd ex (x ++ [⟨j, oj, []⟩, ⟨i, oi, []⟩])) && (hd.getD i false && hd.getD j false) then
              some (.regionX ops.size (addFl ms hd [] x) ⟨i, oi, flOf ms hd x i⟩ ⟨j, oj, flOf ms hd (x ++ [⟨i, oi, []⟩]) j⟩ (flOf ms hd x j) (flOf ms hd (x ++ [⟨j, oj, []⟩]) i))
            else none
          | _ => none

section
variable {P : Program} {N : Nat}
theorem compOper_spec {ops : Array Oper} {i : Nat} {o' : AOper} (h : compOper P N ops i = some o') : CompOper P N ops i o' := by
  simp only [compOper, Option.bind_eq_some_iff] at h
  obtain ⟨o, ho, g, hg, h⟩ := h
  have hop : compOp P o.op = some ((compOp P o.op).getD .fail) ∨ (compOp P o.op).getD .fail = .fail := by
    cases compOp P o.op with
    | none => exact .inr rfl
    | some op => exact .inl rfl
  have hg' : (o.guard = none ∧ g = none) ∨ ∃ j want oj dj, o.guard = some (j, want) ∧ ops[j]? = some oj ∧ oj.dst = some dj ∧ g = some (dj, want) ∧ dj < N := by
    cases hgd : o.guard with
    | none => rw [hgd] at hg; simp [compGuard] at hg; exact .inl ⟨rfl, hg.symm⟩
    | some jw =>
      obtain ⟨j, want⟩ := jw
      rw [hgd] at hg
      simp only [compGuard, Option.bind_eq_some_iff] at hg
      obtain ⟨oj, hoj, dj, hdj, hg⟩ := hg
      split at hg
      · rename_i hlt; cases hg; exact .inr ⟨j, want, oj, dj, rfl, hoj, hdj, rfl, hlt⟩
      · cases hg
  split at h
  · rename_i hd; cases h; exact ⟨o, ho, hop, hd.symm, hg', fun d e => by rw [hd] at e; cases e⟩
  · rename_i d hd
    split at h
    · rename_i hlt; cases h; exact ⟨o, ho, hop, hd.symm, hg', fun d' e => by rw [hd] at e; cases e; exact hlt⟩
    · cases h
theorem compOpers_spec {ops : Array Oper} : ∀ {is : List Nat} {l : List RegE}, compOpers P N ops is = some l → (∀ p ∈ l, CompOper P N ops p.i p.o) ∧ l.map (·.i) = is
  | [], l, h => by simp [compOpers] at h; subst h; exact ⟨fun p hp => by simp at hp, rfl⟩
  | i :: is, l, h => by
    simp only [compOpers, Option.bind_eq_some_iff] at h
    obtain ⟨o, ho, r, hr, e⟩ := h
    cases e
    have ih := compOpers_spec hr
    refine ⟨fun p hp => ?_, by simp [ih.2]⟩
    rcases List.mem_cons.1 hp with rfl | hp
    · exact compOper_spec ho
    · exact ih.1 p hp

theorem edgeMask_bit {ms : List Nat} {x : Nat} : ∀ {es : List Edge}, (edgeMask ms es).testBit x = true → ∃ e ∈ es, Region.binds .any e = true ∧ (x = e.on ∨ (ms.getD e.on 0).testBit x = true)
  | [], h => by simp [edgeMask] at h
  | e :: es, h => by
    simp only [edgeMask] at h
    split at h
    · rename_i hb
      rw [Nat.testBit_or, Nat.testBit_or, Bool.or_eq_true, Bool.or_eq_true] at h
      rcases h with (h | h) | h
      · refine ⟨e, by simp, hb, .inl ?_⟩
        rw [Nat.one_shiftLeft, Nat.testBit_two_pow] at h
        exact (of_decide_eq_true h).symm
      · exact ⟨e, by simp, hb, .inr h⟩
      · obtain ⟨e', he', r⟩ := edgeMask_bit h
        exact ⟨e', by simp [he'], r⟩
    · obtain ⟨e', he', r⟩ := edgeMask_bit h
      exact ⟨e', by simp [he'], r⟩
theorem masksOk_spec {ms : List Nat} : ∀ {k : Nat} {os : List Oper}, masksOk ms k os = true → ∀ (i : Nat) (o : Oper), os[i]? = some o → ms.getD (k + i) 0 = edgeMask ms o.after.toList
  | k, [], _, i, o, h => by simp at h
  | k, o' :: os, hm, i, o, h => by
    simp only [masksOk, Bool.and_eq_true, beq_iff_eq] at hm
    cases i with
    | zero => simp at h; subst h; exact hm.1
    | succ i =>
      have := masksOk_spec hm.2 i o (by simpa using h)
      rw [show k + (i + 1) = k + 1 + i by omega]; exact this

def ancOf (ms : List Nat) (n : Nat) (i : Nat) : List Nat := (List.range n).filter fun x => (ms.getD i 0).testBit x

theorem mem_ancOf {ms : List Nat} {n i x : Nat} : x ∈ ancOf ms n i ↔ x < n ∧ (ms.getD i 0).testBit x = true := by
  simp [ancOf, List.mem_filter]

theorem pairsOk_spec {ms : List Nat} {hd : List Bool} {ex : Nat → Nat → Bool} : ∀ {l : List RegE}, pairsOk ms hd ex l = true → l.Pairwise (fun p q => pairOk ms hd ex p q = true)
  | [], _ => .nil
  | p :: r, h => by
    simp only [pairsOk, Bool.and_eq_true, List.all_eq_true] at h
    exact .cons h.1 (pairsOk_spec h.2)
theorem nodupOk_spec : ∀ {l : List RegE}, nodupOk l = true → (l.map (·.i)).Nodup
  | [], _ => .nil
  | p :: r, h => by
    simp only [nodupOk, Bool.and_eq_true, List.all_eq_true, bne_iff_ne] at h
    rw [List.map_cons, List.nodup_cons]
    refine ⟨fun hm => ?_, nodupOk_spec h.2⟩
    obtain ⟨q, hq, e⟩ := List.mem_map.1 hm
    exact h.1 q hq e
theorem extOk_spec {ops : Array Oper} : ∀ {l : List RegE} {seen : List Nat}, extOk ops seen l = true → ∀ l1 q l2, l = l1 ++ q :: l2 → ∀ o, ops[q.i]? = some o → ∀ e ∈ o.after, Region.binds .any e = true → (e.on ∈ seen ∨ ∃ p ∈ l1, p.i = e.on)
  | [], _, _, l1, q, l2, hl, _, _, _, _, _ => by simp at hl
  | p :: r, seen, h, l1, q, l2, hl, o, ho, e, he, hb => by
    simp only [extOk, Bool.and_eq_true] at h
    cases l1 with
    | nil =>
      simp only [List.nil_append, List.cons.injEq] at hl
      obtain ⟨rfl, rfl⟩ := hl
      rw [ho] at h
      have := List.all_eq_true.1 h.1 e (by simpa using he)
      rw [hb] at this
      exact .inl (by simpa using this)
    | cons p' l1 =>
      simp only [List.cons_append, List.cons.injEq] at hl
      obtain ⟨rfl, rfl⟩ := hl
      rcases extOk_spec h.2 l1 q l2 rfl o ho e he hb with hs | ⟨p1, hp1, e1⟩
      · rcases List.mem_cons.1 hs with hs | hs
        · exact .inr ⟨p, by simp, hs.symm⟩
        · exact .inl hs
      · exact .inr ⟨p1, by simp [hp1], e1⟩

theorem addFl_shape {ms : List Nat} {hd : List Bool} : ∀ (l acc : List RegE), (addFl ms hd acc l).map (fun p => (p.i, p.o)) = l.map (fun p => (p.i, p.o))
  | [], _ => rfl
  | q :: r, acc => by simp [addFl, addFl_shape r]
theorem addFl_mem {ms : List Nat} {hd : List Bool} {p : RegE} : ∀ {l acc : List RegE}, p ∈ addFl ms hd acc l → ∃ q ∈ l, q.i = p.i ∧ q.o = p.o
  | [], _, h => by simp [addFl] at h
  | q :: r, acc, h => by
    simp only [addFl] at h
    rcases List.mem_cons.1 h with rfl | h
    · exact ⟨q, by simp, rfl, rfl⟩
    · obtain ⟨x, hx, e⟩ := addFl_mem h; exact ⟨x, by simp [hx], e⟩
theorem pairOk_spec {ms : List Nat} {hd : List Bool} {ex : Nat → Nat → Bool} {n : Nat} {p q p' q' : RegE} (h : pairOk ms hd ex p q = true) (hp : p.i = p'.i ∧ p.o = p'.o) (hq : q.i = q'.i ∧ q.o = q'.o) (hlt : p.i < n)
    (hm : hd.getD q.i false = true → p.o.op.reads = true → (ms.getD q.i 0).testBit p.i = true ∨ (p.i, p.o.op) ∈ q'.fl) : Pair (ancOf ms n) (fun i => hd.getD i false) (fun i j => ex i j = true) p' q' := by
  obtain ⟨hp1, hp2⟩ := hp
  obtain ⟨hq1, hq2⟩ := hq
  simp only [pairOk, Bool.and_eq_true, Bool.or_eq_true, Bool.not_eq_true'] at h
  obtain ⟨⟨h1, h2⟩, h3⟩ := h
  have h2' : ∀ x, p.o.d = some x → (q.o.ts.contains x = false ∨ (ms.getD q.i 0).testBit p.i = true) := by
    intro x hx
    rw [hx] at h2
    have h2 : (!q.o.ts.contains x || (ms.getD q.i 0).testBit p.i) = true := h2
    cases hb : q.o.ts.contains x with
    | false => exact .inl rfl
    | true => rw [hb] at h2; exact .inr h2
  have hanc : (ms.getD q.i 0).testBit p.i = true → p'.i ∈ ancOf ms n q'.i := fun e => mem_ancOf.2 ⟨by rw [← hp1]; exact hlt, by rw [← hp1, ← hq1]; exact e⟩
  refine ⟨fun e => ?_, fun x hx hm' => ?_, fun x hx hm' => ?_, fun e1 e2 => ?_⟩
  · rcases h1 with (h1 | h1) | h1
    · rw [← hp1] at e; rw [h1] at e; cases e
    · exact .inl (by rw [← hp1, ← hq1]; exact h1)
    · exact .inr (hanc h1)
  · rcases h2' x (by rw [hp2]; exact hx) with h2 | h2
    · have : x ∈ q.o.ts := by rw [hq2]; exact hm'
      rw [← List.contains_iff_mem] at this; rw [h2] at this; cases this
    · exact hanc h2
  · rw [hq2, hx] at h3
    have h3 : (!(p.o.ts.contains x || p.o.d == some x) || (hd.getD q.i false && (ms.getD q.i 0).testBit p.i)) = true := h3
    simp only [Bool.or_eq_true, Bool.not_eq_true', Bool.or_eq_false_iff, Bool.and_eq_true] at h3
    rcases h3 with h3 | h3
    · exfalso
      rcases hm' with hm' | hm'
      · have : x ∈ p.o.ts := by rw [hp2]; exact hm'
        rw [← List.contains_iff_mem] at this; rw [h3.1] at this; cases this
      · rw [hp2, hm'] at h3; simp at h3
    · exact ⟨by rw [← hq1]; exact h3.1, hanc h3.2⟩
  · rcases hm (by rw [hq1]; exact e1) (by rw [hp2]; exact e2) with h | h
    · exact .inl (hanc h)
    · exact .inr (by rw [← hp1, ← hp2]; exact h)

theorem addFl_pairs {ms : List Nat} {hd : List Bool} {ex : Nat → Nat → Bool} {n : Nat} : ∀ {l acc : List RegE}, l.Pairwise (fun p q => pairOk ms hd ex p q = true) → (∀ p ∈ l, p.i < n) → (addFl ms hd acc l).Pairwise (Pair (ancOf ms n) (fun i => hd.getD i false) fun i j => ex i j = true)
  | [], _, _, _ => .nil
  | q :: r, acc, h, hlt => by
    rw [List.pairwise_cons] at h
    simp only [addFl]
    refine .cons ?_ (addFl_pairs h.2 (fun p hp => hlt p (by simp [hp])))
    -- behind q
    have key : ∀ (r acc : List RegE), q ∈ acc → (∀ x ∈ r, pairOk ms hd ex q x = true) → ∀ x' ∈ addFl ms hd acc r, ∃ x ∈ r, x.i = x'.i ∧ x.o = x'.o ∧ pairOk ms hd ex q x = true ∧ (hd.getD x.i false = true → q.o.op.reads = true → (ms.getD x.i 0).testBit q.i = true ∨ (q.i, q.o.op) ∈ x'.fl) := by
      intro r
      induction r with
      | nil => intro acc _ _ x' hx'; simp [addFl] at hx'
      | cons y r ih =>
        intro acc hq hall x' hx'
        simp only [addFl] at hx'
        rcases List.mem_cons.1 hx' with rfl | hx'
        · refine ⟨y, by simp, rfl, rfl, hall y (by simp), fun e1 e2 => ?_⟩
          simp only [e1, if_true]
          cases hb : (ms.getD y.i 0).testBit q.i with
          | true => exact .inl rfl
          | false =>
            refine .inr (List.mem_filterMap.2 ⟨q, hq, ?_⟩)
            rw [e2, hb]; rfl
        · obtain ⟨x, hx, e⟩ := ih (acc ++ [y]) (by simp [hq]) (fun x hx => hall x (by simp [hx])) x' hx'
          exact ⟨x, by simp [hx], e⟩
    intro x' hx'
    obtain ⟨x, hx, e1, e2, e3, e4⟩ := key r (acc ++ [q]) (by simp) h.1 x' hx'
    exact pairOk_spec e3 ⟨rfl, rfl⟩ ⟨e1, e2⟩ (hlt q (by simp)) e4

theorem planOk_spec {ops : Array Oper} {ms : List Nat} {hd : List Bool} {ex : Nat → Nat → Bool} {l : List RegE} (hc : ∀ p ∈ l, CompOper P N ops p.i p.o) (h : planOk ops ms hd ex l = true) :
    PlanOk P N ops (addFl ms hd [] l) (ancOf ms ops.size) (fun i => hd.getD i false) (fun i j => ex i j = true) := by
  simp only [planOk, Bool.and_eq_true, List.all_eq_true, decide_eq_true_eq, beq_iff_eq] at h
  obtain ⟨⟨⟨⟨⟨⟨⟨⟨⟨h1, h2⟩, h3⟩, h4⟩, h5⟩, h6⟩, h7⟩, h8⟩, h9⟩, h10⟩ := h
  have hmap := addFl_shape (ms := ms) (hd := hd) l []
  have hmapi : (addFl ms hd [] l).map (·.i) = l.map (·.i) := by
    have := congrArg (List.map Prod.fst) hmap
    rw [List.map_map, List.map_map] at this
    exact this
  have hlen : (addFl ms hd [] l).length = l.length := by
    have := congrArg List.length hmap
    simpa using this
  refine ⟨fun p hp => ?_, by rw [hmapi]; exact nodupOk_spec h3, by rw [hlen]; exact h4, fun i hi => ?_, fun p hp => ?_, fun i o ho x hx => ?_, addFl_pairs (pairsOk_spec h7) h6, fun l1 q l2 hl o ho e he hb => ?_, fun p hp he => ?_, fun p hp hh x hx => ?_⟩
  · obtain ⟨q, hq, e1, e2⟩ := addFl_mem hp
    rw [← e1, ← e2]; exact hc q hq
  · have := h5 i (List.mem_range.2 hi)
    obtain ⟨q, hq, e⟩ := List.any_eq_true.1 this
    have hqi : i ∈ (addFl ms hd [] l).map (·.i) := by rw [hmapi]; exact List.mem_map.2 ⟨q, hq, by simpa using e⟩
    obtain ⟨p, hp, e'⟩ := List.mem_map.1 hqi
    exact ⟨p, hp, e'⟩
  · obtain ⟨q, hq, e1, e2⟩ := addFl_mem hp
    rw [← e1]; exact h6 q hq
  · obtain ⟨hxn, hbit⟩ := mem_ancOf.1 hx
    have hms := masksOk_spec h1 i o (by rw [Array.getElem?_toList]; exact ho)
    rw [Nat.zero_add] at hms
    rw [hms] at hbit
    obtain ⟨e, he, hb, r⟩ := edgeMask_bit hbit
    refine ⟨e, by simpa using he, hb, ?_⟩
    rcases r with r | r
    · exact .inl r
    · exact .inr (mem_ancOf.2 ⟨hxn, r⟩)
  · -- the place of q in the bare plan
    have hsplit : ∃ m1 x m2, l = m1 ++ x :: m2 ∧ m1.map (·.i) = l1.map (·.i) ∧ x.i = q.i := by
      have e1 : l.map (·.i) = l1.map (·.i) ++ q.i :: l2.map (·.i) := by rw [← hmapi, hl]; simp
      obtain ⟨m1, m2', e2, e3, e4⟩ := List.map_eq_append_iff.1 e1
      obtain ⟨x, m2, e5, e6, e7⟩ := List.map_eq_cons_iff.1 e4
      exact ⟨m1, x, m2, by rw [e2, e5], e3, e6⟩
    obtain ⟨m1, x, m2, e1, e2, e3⟩ := hsplit
    rcases extOk_spec h8 m1 x m2 e1 o (by rw [e3]; exact ho) e he hb with hs | ⟨p1, hp1, e4⟩
    · simp at hs
    · have : e.on ∈ l1.map (·.i) := by rw [← e2, ← e4]; exact List.mem_map_of_mem hp1
      obtain ⟨p, hp, e'⟩ := List.mem_map.1 this
      exact ⟨p, hp, e'⟩
  · obtain ⟨q, hq, e1, e2⟩ := addFl_mem hp
    have := h9 q hq
    rw [e2, he, e1] at this
    simpa using this
  · obtain ⟨q, hq, e1, e2⟩ := addFl_mem hp
    have := h10 q hq
    rw [e1, e2, hh, hx] at this
    simp at this
    exact this
end

theorem addFl_append {ms : List Nat} {hd : List Bool} : ∀ (x y acc : List RegE), addFl ms hd acc (x ++ y) = addFl ms hd acc x ++ addFl ms hd (acc ++ x) y
  | [], y, acc => by simp [addFl]
  | q :: r, y, acc => by
    rw [List.cons_append, addFl, addFl, addFl_append r y, List.cons_append, List.append_assoc]; rfl
theorem drawn2_ok {P : Program} {Y : YEnv} {ro : Option Nat} {N : Nat} (hm : P.follows .mixedOrders = true) {id : Nat} {ops : Array Oper} {ms : List Nat} {hd : List Bool} {x : List RegE} {i j : Nat} {oi oj : AOper}
    (cx : ∀ p ∈ x, CompOper P N ops p.i p.o) (ci : CompOper P N ops i oi) (cj : CompOper P N ops j oj)
    (hA : planOk ops ms hd (fun a b => (a == i && b == j) || (a == j && b == i)) (x ++ [⟨i, oi, []⟩, ⟨j, oj, []⟩]) = true) (hB : planOk ops ms hd (fun a b => (a == i && b == j) || (a == j && b == i)) (x ++ [⟨j, oj, []⟩, ⟨i, oi, []⟩]) = true)
    (hi : hd.getD i false = true) (hj : hd.getD j false = true) :
    CodeOk ro P Y N (.region id ops true) (.regionX ops.size (addFl ms hd [] x) ⟨i, oi, flOf ms hd x i⟩ ⟨j, oj, flOf ms hd (x ++ [⟨i, oi, []⟩]) j⟩ (flOf ms hd x j) (flOf ms hd (x ++ [⟨j, oj, []⟩]) i)) := by
  have pA := planOk_spec (P := P) (N := N) (fun p hp => by
    rcases List.mem_append.1 hp with hp | hp
    · exact cx p hp
    · simp at hp; rcases hp with rfl | rfl <;> assumption) hA
  have pB := planOk_spec (P := P) (N := N) (fun p hp => by
    rcases List.mem_append.1 hp with hp | hp
    · exact cx p hp
    · simp at hp; rcases hp with rfl | rfl <;> assumption) hB
  rw [addFl_append, List.nil_append] at pA pB
  simp only [addFl] at pA pB
  refine .drawn2 hm ?_ pA pB hi hj
  funext a b
  simp
theorem compRegion_ok {P : Program} {Y : YEnv} {ro : Option Nat} {N : Nat} (hm : P.follows .mixedOrders = true) {id : Nat} {ops : Array Oper} {draw : Bool} {ac : ACode} (h : compRegion P N ops draw = some ac) : CodeOk ro P Y N (.region id ops draw) ac := by
  simp only [compRegion, Option.bind_eq_some_iff] at h
  obtain ⟨es, hes, h⟩ := h
  obtain ⟨h1, h2⟩ := compOpers_spec hes
  split at h
  · rename_i hd
    have : draw = false := by simpa using hd
    subst this
    cases h
    exact .region h1 h2
  · rename_i hd
    have : draw = true := by simpa using hd
    subst this
    simp only [Option.bind_eq_some_iff] at h
    obtain ⟨l, hl, h⟩ := h
    split at h
    · rename_i hp
      cases h
      exact .drawn hm (by simp) (planOk_spec (compOpers_spec hl).1 hp)
    · split at h
      · rename_i j i r hr
        simp only [Option.bind_eq_some_iff] at h
        obtain ⟨x, hx, oi, hoi, oj, hoj, h⟩ := h
        split at h
        · rename_i hp
          cases h
          simp only [Bool.and_eq_true] at hp
          obtain ⟨⟨hA, hB⟩, hi, hj⟩ := hp
          exact drawn2_ok hm (compOpers_spec hx).1 (compOper_spec hoi) (compOper_spec hoj) hA hB hi hj
        · cases h
      · cases h
def compCode (top : Bool) (P : Program) (N : Nat) : Code → Option ACode
  | .skip => some .skip
  | .label _ => some .skip
  | .region _ ops draw => compRegion P N ops draw
  | .seq a b => (compCode top P N a).bind fun x => (compCode top P N b).bind fun y => some (.seq x y)
  | .cond c a b => (opd c).bind fun c => (compCode top P N a).bind fun x => (compCode top P N b).bind fun y => some (.cond c x y)
  | .block id a => (compCode top P N a).map (.block id)
  | .loop a => (compCode top P N a).map .loop
  | .scope a => (compCode top P N a).map .scope
  | .exit id => some (.exit id)
  | .ret => some .ret
  | .rangeFunc g ps a b => match top with
    | true => (opd g).bind fun g => (compCode false P N a).bind fun x => (compCode false P N b).bind fun y => if ps.toList.all fun i => decide (i < N) then some (.range g ps.toList x y) else some .stuck
    | false => some .stuck
  | _ => some .stuck
def compFunc (P : Program) (f : Nat) : Option AFunc :=
  (P.funcs[f]?).bind fun fn => fn.body.bind fun c => if fn.name == "runtime.NumGoroutine" then none else
    (compCode true P fn.ntmps c).bind fun b => (compRes P fn.results.toList).bind fun r => some ⟨fn.ntmps, b, r⟩

theorem compCode_ok {P : Program} {N : Nat} (hm : P.follows .mixedOrders = true) : ∀ {c : Code} {top : Bool} {ac : ACode}, compCode top P N c = some ac → ∀ {ro : Option Nat} {Y : YEnv}, (top = true → ro = none) → CodeOk ro P Y N c ac := by
  intro c
  induction c with
  | skip => intro top ac h ro Y htop; simp [compCode] at h; subst h; exact .skip
  | label l => intro top ac h ro Y htop; simp [compCode] at h; subst h; exact .label l
  | region id ops draw => intro top ac h ro Y htop; exact compRegion_ok hm h
  | seq a b iha ihb =>
    intro top ac h ro Y htop
    simp only [compCode, Option.bind_eq_some_iff, Option.some.injEq] at h
    obtain ⟨x, hx, y, hy, rfl⟩ := h
    exact .seq (iha hx htop) (ihb hy htop)
  | cond c a b iha ihb =>
    intro top ac h ro Y htop
    simp only [compCode, Option.bind_eq_some_iff, Option.some.injEq] at h
    obtain ⟨c', hc, x, hx, y, hy, rfl⟩ := h
    exact .cond hc (iha hx htop) (ihb hy htop)
  | block id a ih =>
    intro top ac h ro Y htop
    simp only [compCode, Option.map_eq_some_iff] at h
    obtain ⟨x, hx, rfl⟩ := h
    exact .block (ih hx htop)
  | loop a ih =>
    intro top ac h ro Y htop
    simp only [compCode, Option.map_eq_some_iff] at h
    obtain ⟨x, hx, rfl⟩ := h
    exact .loop (ih hx htop)
  | scope a ih =>
    intro top ac h ro Y htop
    simp only [compCode, Option.map_eq_some_iff] at h
    obtain ⟨x, hx, rfl⟩ := h
    exact .scope (ih hx htop)
  | exit id => intro top ac h ro Y htop; simp [compCode] at h; subst h; exact .exit id
  | ret => intro top ac h ro Y htop; simp [compCode] at h; subst h; exact .ret
  | rangeFunc g ps a b iha ihb =>
    intro top ac h ro Y htop
    cases top with
    | false => simp [compCode] at h; subst h; exact .stuck
    | true =>
      obtain rfl := htop rfl
      simp only [compCode, Option.bind_eq_some_iff] at h
      obtain ⟨g', hg, x, hx, y, hy, h⟩ := h
      split at h
      · rename_i hall
        cases h
        exact .range hg (fun ro => iha hx (by simp)) (fun ro => ihb hy (by simp)) (fun i hi => by simpa using List.all_eq_true.1 hall i hi)
      · cases h; exact .stuck
  | _ => intro top ac h ro Y htop; simp [compCode] at h; subst h; exact .stuck

theorem ACallsY.of_func {P : Program} {Y : YEnv} {f : Nat} {af : AFunc} {args : List AV} {σ : Mem} {Q : AV → Mem → Prop} (hm : P.follows .mixedOrders = true) (hf : compFunc P f = some af) (hlen : args.length ≤ af.N)
    (h : AW P Y af.body (retPost af.res Q) (argT args 0 .leaf) σ) : ACallsY P Y f args σ Q := by
  simp only [compFunc, Option.bind_eq_some_iff] at hf
  obtain ⟨fn, hfn, c, hc, hf⟩ := hf
  split at hf
  · cases hf
  · rename_i hname
    simp only [Option.bind_eq_some_iff, Option.some.injEq] at hf
    obtain ⟨b, hb, r, hr, rfl⟩ := hf
    exact .of_body hfn hc (by simpa using hname) rfl hr (compCode_ok hm hb fun _ => rfl) hlen h
theorem ACalls.of_func {P : Program} {f : Nat} {af : AFunc} {args : List AV} {σ : Mem} {Q : AV → Mem → Prop} (hm : P.follows .mixedOrders = true) (hf : compFunc P f = some af) (hlen : args.length ≤ af.N)
    (h : AW P noY af.body (retPost af.res Q) (argT args 0 .leaf) σ) : ACalls P f args σ Q := (ACallsY.of_func hm hf hlen h).plain

end Go.Vit
end
