/- Code with places where ways meet, what it comes to as a printed condition, and that this is right. -/
import Derived.Test.YthkehkmnfaaagaaVsB
set_option linter.unusedVariables false
set_option linter.unusedSimpArgs false
namespace Go.Vit

/-! ### Curried predicates over some things and memory -/
def Fn : List Tag → Type
  | [] => Mem → Prop
  | g :: gs => g.Ty → Fn gs
def Ar : List Tag → Type
  | [] => Unit
  | g :: gs => g.Ty × Ar gs
def Fn.ap : (gs : List Tag) → Fn gs → Ar gs → Mem → Prop
  | [], k, _, σ => k σ
  | _ :: gs, k, a, σ => Fn.ap gs (k a.1) a.2 σ
def Fn.lam : (gs : List Tag) → (Ar gs → Mem → Prop) → Fn gs
  | [], k => fun σ => k () σ
  | _ :: gs, k => fun x => Fn.lam gs fun a σ => k (x, a) σ
theorem Fn.ap_lam : ∀ (gs : List Tag) (k : Ar gs → Mem → Prop) (a : Ar gs) (σ : Mem), Fn.ap gs (Fn.lam gs k) a σ = k a σ
  | [], k, a, σ => rfl
  | _ :: gs, k, a, σ => by rw [Fn.ap, Fn.lam, Fn.ap_lam gs]; rfl
/-- Where ways meet: something that holds there whichever way is gone, and behind which the rest holds. -/
def joinF (gs : List Tag) (body : Fn gs → Prop) (rest : Fn gs) : Prop :=
  ∃ R : Fn gs, body R ∧ ∀ a σ, Fn.ap gs R a σ → Fn.ap gs rest a σ
/-- A loop: an invariant over ghosts, and a measure that falls. -/
def loopA (gs : List Tag) (body : Fn gs → Fn gs) (s : Ar gs) (σ : Mem) : Prop :=
  ∃ (ι : Type) (I : ι → Ar gs → Mem → Prop) (μ : ι → Nat) (i : ι), I i s σ ∧
    ∀ i s σ, I i s σ → Fn.ap gs (body (Fn.lam gs fun s' σ' => ∃ j, I j s' σ' ∧ μ j < μ i)) s σ
def loopF (gs : List Tag) (body : Fn gs → Fn gs) : Fn gs := Fn.lam gs (loopA gs body)

/-! ### Code -/
inductive TCode where
  | skip
  | region (n : Nat) (ops : List RegE)
  | seq (a b : TCode)
  | cond (c : AOpd) (thn els : TCode)
  | block (id : Nat) (body : TCode)
  | loop (cs ks : List Nat) (body : TCode)
  | exit (id : Nat)
  | ret
  | scope (body : TCode)
  | join (cs ks : List Nat) (body : TCode)
  | stuck
def TCode.erase : TCode → ACode
  | .skip => .skip
  | .region n ops => .region n ops
  | .seq a b => .seq a.erase b.erase
  | .cond c a b => .cond c a.erase b.erase
  | .block id a => .block id a.erase
  | .loop cs ks a => .seq (.forget (ks ++ cs)) (.loop (.seq a.erase (.forget (ks ++ cs))))
  | .exit id => .exit id
  | .ret => .ret
  | .scope a => .scope a.erase
  | .join cs ks a => .seq a.erase (.forget (ks ++ cs))
  | .stuck => .stuck
/-- An entry for each region, fork, block and loop: which temporaries are needed behind it: those that it leaves alone, and those that it sets. -/
abbrev Ann := Option (List Nat × List Nat)
def keepT (k : Ann) (a : TCode) : TCode :=
  match k with
  | none => a
  | some ks => .join ks.1 ks.2 a
def compCodeT (P : Program) (N : Nat) : Code → List Ann → Option (TCode × List Ann)
  | .skip, l => some (.skip, l)
  | .label _, l => some (.skip, l)
  | .region _ ops draw, l => (match l with
    | [] => none
    | k :: l => (compRegion P N ops draw).bind fun a => (match a with
      | .region n es => some (keepT k (.region n es), l)
      | _ => none))
  | .seq a b, l => (compCodeT P N a l).bind fun x => (compCodeT P N b x.2).bind fun y => some (.seq x.1 y.1, y.2)
  | .cond c a b, l => (match l with
    | [] => none
    | k :: l => (opd c).bind fun c => (compCodeT P N a l).bind fun x => (compCodeT P N b x.2).bind fun y => some (keepT k (.cond c x.1 y.1), y.2))
  | .block id a, l => (match l with
    | [] => none
    | k :: l => (compCodeT P N a l).bind fun x => some (keepT k (.block id x.1), x.2))
  | .loop a, l => (match l with
    | some ks :: l => (compCodeT P N a l).bind fun x => some (.loop ks.1 ks.2 x.1, x.2)
    | _ => none)
  | .scope a, l => (compCodeT P N a l).bind fun x => some (.scope x.1, x.2)
  | .exit id, l => some (.exit id, l)
  | .ret, l => some (.ret, l)
  | _, l => some (.stuck, l)
structure TFunc where
  N : Nat
  body : TCode
  res : List ARes
def compFuncT (P : Program) (f : Nat) (ks : List Ann) : Option TFunc :=
  (P.funcs[f]?).bind fun fn => fn.body.bind fun c => ifO (fn.name == "runtime.NumGoroutine") none
    ((compCodeT P fn.ntmps c ks).bind fun b => (compRes P fn.results.toList).bind fun r => some ⟨fn.ntmps, b.1, r⟩)
where ifO {α : Type} (b : Bool) (x y : α) : α :=
  match b with
  | true => x
  | false => y
theorem keepT_ok {P : Program} {N : Nat} {x : Code} {a : TCode} (h : CodeOk none P noY N x a.erase) (k : Ann) : CodeOk none P noY N x (keepT k a).erase := by
  cases k with
  | none => exact h
  | some ks => exact h.keepAfter _
theorem compCodeT_ok {P : Program} {N : Nat} (hm : P.follows .mixedOrders = true) : ∀ {c : Code} {l : List Ann} {x : TCode × List Ann}, compCodeT P N c l = some x → CodeOk none P noY N c x.1.erase := by
  intro c
  induction c with
  | skip => intro l x h; simp [compCodeT] at h; subst h; exact .skip
  | label b => intro l x h; simp [compCodeT] at h; subst h; exact .label b
  | region id ops draw =>
    intro l x h
    cases l with
    | nil => simp [compCodeT] at h
    | cons k l =>
      simp only [compCodeT, Option.bind_eq_some_iff] at h
      obtain ⟨a, ha, h⟩ := h
      have ok := compCode_ok hm (c := .region id ops draw) (top := false) ha (ro := none) (Y := noY) (by simp)
      cases a <;> simp only [reduceCtorEq, Option.some.injEq] at h
      subst h
      exact keepT_ok (a := .region _ _) ok k
  | seq a b iha ihb =>
    intro l x h
    simp only [compCodeT, Option.bind_eq_some_iff, Option.some.injEq] at h
    obtain ⟨x, hx, y, hy, rfl⟩ := h
    exact .seq (iha hx) (ihb hy)
  | cond c a b iha ihb =>
    intro l x h
    cases l with
    | nil => simp [compCodeT] at h
    | cons k l =>
      simp only [compCodeT, Option.bind_eq_some_iff, Option.some.injEq] at h
      obtain ⟨c', hc, x, hx, y, hy, rfl⟩ := h
      exact keepT_ok (a := .cond c' x.1 y.1) (.cond hc (iha hx) (ihb hy)) k
  | block id a ih =>
    intro l x h
    cases l with
    | nil => simp [compCodeT] at h
    | cons k l =>
      simp only [compCodeT, Option.bind_eq_some_iff, Option.some.injEq] at h
      obtain ⟨x, hx, rfl⟩ := h
      exact keepT_ok (a := .block id x.1) (CodeOk.block (ih hx)) k
  | loop a ih =>
    intro l x h
    cases l with
    | nil => simp [compCodeT] at h
    | cons k l =>
      cases k with
      | none => simp [compCodeT] at h
      | some ks =>
        simp only [compCodeT, Option.bind_eq_some_iff, Option.some.injEq] at h
        obtain ⟨x, hx, rfl⟩ := h
        exact (CodeOk.loop ((ih hx).keepAfter _)).keepBefore _
  | scope a ih =>
    intro l x h
    simp only [compCodeT, Option.bind_eq_some_iff, Option.some.injEq] at h
    obtain ⟨x, hx, rfl⟩ := h
    exact .scope (ih hx)
  | exit id => intro l x h; simp [compCodeT] at h; subst h; exact .exit id
  | ret => intro l x h; simp [compCodeT] at h; subst h; exact .ret
  | _ => intro l x h; simp [compCodeT] at h; subst h; exact .stuck
theorem ACalls.of_funcT {P : Program} {f : Nat} {af : TFunc} {args : List AV} {σ : Mem} {Q : AV → Mem → Prop} {ks : List Ann} (hm : P.follows .mixedOrders = true) (hf : compFuncT P f ks = some af) (hlen : args.length ≤ af.N)
    (h : σ.Live → AW P noY af.body.erase (retPost af.res Q) (argT args 0 .leaf) σ) : ACalls P f args σ Q := by
  simp only [compFuncT, Option.bind_eq_some_iff] at hf
  obtain ⟨fn, hfn, c, hc, hf⟩ := hf
  unfold compFuncT.ifO at hf
  split at hf
  · cases hf
  · rename_i hname
    simp only [Option.bind_eq_some_iff, Option.some.injEq] at hf
    obtain ⟨b, hb, r, hr, rfl⟩ := hf
    refine ⟨⟨fn, hfn, by simp [hc], hname⟩, fun ρ w args' st hl => ?_⟩
    exact (ACalls.of_body hfn hc hname (af := ⟨fn.ntmps, b.1.erase, r⟩) rfl hr (compCodeT_ok hm hb) hlen (h st.live)).2 ρ w args' st hl

/-! ### The condition -/
def tagOf : List (Nat × Tag) → Nat → Tag
  | [], _ => .v
  | p :: l, n => selT (Nat.beq p.1 n) p.2 (tagOf l n)
where selT (b : Bool) (x y : Tag) : Tag :=
  match b with
  | true => x
  | false => y
def outS (tg : Nat → Tag) (d : Option Nat) (v : AV) (t : Tmps) (K : Tmps → Prop) : Prop :=
  match d with
  | none => K t
  | some i => castW (tg i) v fun x => K (Tr.put t i (some ((tg i).inj x)))
theorem outS_spec {tg : Nat → Tag} {d : Option Nat} {v : AV} {t : Tmps} {K : Tmps → Prop} (h : outS tg d v t K) : K (Tmps.set t d v) := by
  cases d with
  | none => exact h
  | some i =>
    obtain ⟨x, hx, h⟩ := castW_spec h
    rw [hx]; exact h
def gS (t : Tmps) (g : Option (Nat × Bool)) (k0 k1 : Tmps → Prop) : Prop :=
  match g with
  | none => k1 t
  | some (d, want) => optW (Tr.get t d) fun v => (match v with
    | .bool b => ifB b (ifB want (k1 (Tr.put t d (some (.bool true)))) (k0 (Tr.put t d (some (.bool true)))))
        (ifB want (k0 (Tr.put t d (some (.bool false)))) (k1 (Tr.put t d (some (.bool false)))))
    | .tup [] => k0 t
    | _ => False)
/-- Reads ahead of a step that may come behind it. -/
def fltS (t : Tmps) (σ σ' : Mem) (X : Prop) : List (Nat × AOp) → Prop
  | [] => X
  | q :: r => fl1 t σ σ' (fltS t σ σ' X r) q.2
where
  fl1 (t : Tmps) (σ σ' : Mem) (X : Prop) (op : AOp) : Prop :=
    match op with
    | .load _ x => evW x t fun v => sameW σ σ' v X
    | .lenMap x => evW x t fun v => sameW σ σ' v X
    | .lookup _ _ _ x _ => evW x t fun v => sameW σ σ' v X
    | .conv c x => (match c with
      | .bytesStr => evW x t fun v => sameW σ σ' v X
      | _ => X)
    | _ => False
  sameW (σ σ' : Mem) (v : AV) (X : Prop) : Prop :=
    match v with
    | .ptr b _ => σ'.get b = σ.get b ∧ X
    | .slice b _ _ _ => σ'.get b = σ.get b ∧ X
    | .map b => σ'.get b = σ.get b ∧ X
    | _ => X
theorem sameW_spec {σ σ' : Mem} {v : AV} {X : Prop} (h : fltS.sameW σ σ' v X) : (match v with | .ptr b _ => σ'.get b = σ.get b | .slice b _ _ _ => σ'.get b = σ.get b | .map b => σ'.get b = σ.get b | _ => True) ∧ X := by
  cases v <;> first | exact h | exact ⟨trivial, h⟩
theorem fl1_spec {t : Tmps} {σ σ' : Mem} {X : Prop} {op : AOp} (h : fltS.fl1 t σ σ' X op) : floatW t σ σ' op ∧ X := by
  have key : ∀ {x : AOpd}, (evW x t fun v => fltS.sameW σ σ' v X) → (match x.ev t with
      | some (.ptr b _) => σ'.get b = σ.get b
      | some (.slice b _ _ _) => σ'.get b = σ.get b
      | some (.map b) => σ'.get b = σ.get b
      | _ => True) ∧ X := by
    intro x h
    obtain ⟨v, hv, h⟩ := evW_spec h
    rw [hv]
    obtain ⟨h1, h2⟩ := sameW_spec h
    refine ⟨?_, h2⟩
    cases v <;> first | exact h1 | trivial
  cases op <;> first | exact h.elim | exact key h | skip
  rename_i c x
  cases c <;> first | exact key h | exact ⟨rfl, h⟩
theorem fltS_spec {t : Tmps} {σ σ' : Mem} {X : Prop} : ∀ {l : List (Nat × AOp)}, fltS t σ σ' X l → floatsW t σ σ' l ∧ X
  | [], h => ⟨trivial, h⟩
  | _ :: _, h => by
    obtain ⟨h1, h2⟩ := fl1_spec h
    obtain ⟨h3, h4⟩ := fltS_spec h2
    exact ⟨⟨h1, h3⟩, h4⟩
def newW (σ : Mem) (id : Nat) (b : Blk) (K : Mem → Prop) : Prop := K (σ.put id (some b))
def callW (P : Program) (f : Nat) (args : List AV) (σ : Mem) (K : AV → Mem → Prop) : Prop := ACalls P f args σ K
def callvW (P : Program) (v : AV) (args : List AV) (σ : Mem) (K : AV → Mem → Prop) : Prop :=
  match v with
  | .func f c => ACalls P f (args ++ c) σ K
  | _ => False
def stepS (P : Program) (id : Nat) (op : AOp) (t : Tmps) (σ : Mem) (k : AV → Mem → Prop) : Prop :=
  match op with
  | .call f xs => evsW xs t fun l => callW P f l σ k
  | .callv x xs => evW x t fun v => evsW xs t fun l => callvW P v l σ k
  | op => ifB op.eff (eopS id op t σ k) (nopS id op t σ (fun v => k v σ) fun v b => newW σ id b fun σ' => k v σ')
def opsS (P : Program) (tg : Nat → Tag) (base : Nat) (K : Tmps → Mem → Prop) : List RegE → Tmps → Mem → Prop
  | [], t, σ => K t σ
  | p :: rest, t, σ => gS t p.o.g (fun t => opsS P tg base K rest (Tmps.set t p.o.d (.tup [])) σ)
      (fun t => stepS P (base + p.i) p.o.op t σ fun v σ' => fltS t σ σ' (outS tg p.o.d v t fun t => opsS P tg base K rest t σ') p.fl)
def thenS (K : Tmps → Mem → Prop) (Q : APost) : APost
  | .normal, t, σ => K t σ
  | e, t, σ => Q e t σ
def inS (id : Nat) (Q : APost) : APost
  | .exit id', t, σ => ifB (Nat.beq id' id) (Q .normal t σ) (Q (.exit id') t σ)
  | e, t, σ => Q e t σ
def getK (tg : Nat → Tag) : (ks : List Nat) → Tmps → Fn (ks.map tg) → Mem → Prop
  | [], _, k, σ => k σ
  | i :: ks, t, k, σ => optW (Tr.get t i) fun v => castW (tg i) v fun x => getK tg ks t (k x) σ
def lamK (tg : Nat → Tag) (t0 : Tmps) : (ks : List Nat) → (Tmps → Mem → Prop) → Fn (ks.map tg)
  | [], G => fun σ => G t0 σ
  | i :: ks, G => fun x => lamK tg t0 ks fun t σ => G (Tr.put t i (some ((tg i).inj x))) σ
/-- Some temporaries are left alone. -/
def inL (l : List Nat) (n : Nat) : Bool :=
  match l with
  | [] => false
  | m :: l => (match Nat.beq m n with
    | true => true
    | false => inL l n)
def allB {α : Type} (f : α → Bool) : List α → Bool
  | [] => true
  | a :: l => (match f a with
    | true => allB f l
    | false => false)
def andS (a b : Bool) : Bool :=
  match a with
  | true => b
  | false => false
def dFree (cs : List Nat) (p : RegE) : Bool :=
  match p.o.d with
  | none => true
  | some d => (match inL cs d with
    | true => false
    | false => true)
def keeps (cs : List Nat) : TCode → Bool
  | .skip => true
  | .region _ ops => allB (dFree cs) ops
  | .seq a b => andS (keeps cs a) (keeps cs b)
  | .cond _ a b => andS (keeps cs a) (keeps cs b)
  | .block _ a => keeps cs a
  | .loop cs' ks a => andS (allB (fun c => inL (ks ++ cs') c) cs) (keeps cs a)
  | .exit _ => true
  | .ret => true
  | .scope a => keeps cs a
  | .join cs' ks a => andS (allB (fun c => inL (ks ++ cs') c) cs) (keeps cs a)
  | .stuck => true
def sem (P : Program) (tg : Nat → Tag) : TCode → APost → Tmps → Mem → Prop
  | .skip, Q, t, σ => Q .normal t σ
  | .region n ops, Q, t, σ => opsS P tg σ.next (fun t σ => Q .normal t σ) ops t (σ.bump n)
  | .seq x y, Q, t, σ => sem P tg x (thenS (fun t σ => sem P tg y Q t σ) Q) t σ
  | .cond c x y, Q, t, σ => evW c t fun v => (match v with
    | .bool b => ifB b (sem P tg x Q t σ) (sem P tg y Q t σ)
    | _ => False)
  | .block id x, Q, t, σ => sem P tg x (inS id Q) t σ
  | .loop cs ks x, Q, t, σ => ifB (keeps cs x) (getK tg ks t (loopF (ks.map tg) fun next => lamK tg (Tmps.keep t cs) ks fun t σ => sem P tg x (thenS (fun t' σ' => getK tg ks t' next σ') Q) t σ) σ) False
  | .exit id, Q, t, σ => Q (.exit id) t σ
  | .ret, Q, t, σ => Q .ret t σ
  | .scope x, Q, t, σ => sem P tg x Q t σ
  | .join cs ks x, Q, t, σ => ifB (keeps cs x) (joinF (ks.map tg) (fun k => sem P tg x (thenS (fun t' σ' => getK tg ks t' k σ') Q) t σ) (lamK tg (Tmps.keep t cs) ks fun t σ => Q .normal t σ)) False
  | .stuck, _, _, _ => False

/-! ### It is right -/
def mkK (tg : Nat → Tag) (t0 : Tmps) : (ks : List Nat) → Ar (ks.map tg) → Tmps
  | [], _ => t0
  | i :: ks, a => Tr.put (mkK tg t0 ks a.2) i (some ((tg i).inj a.1))
theorem getK_spec {tg : Nat → Tag} {cs : List Nat} : ∀ {ks : List Nat} {t : Tmps} {k : Fn (ks.map tg)} {σ : Mem}, getK tg ks t k σ → ∃ a : Ar (ks.map tg), Tmps.keep t (ks ++ cs) = mkK tg (Tmps.keep t cs) ks a ∧ Fn.ap (ks.map tg) k a σ
  | [], t, k, σ, h => ⟨(), rfl, h⟩
  | i :: ks, t, k, σ, h => by
    obtain ⟨v, hv, h⟩ := optW_spec h
    obtain ⟨x, hx, h⟩ := castW_spec h
    obtain ⟨a, ha, h⟩ := getK_spec (ks := ks) h
    refine ⟨(x, a), ?_, h⟩
    rw [List.cons_append, Tmps.keep, hv, hx, ha]; rfl
theorem lamK_ap {tg : Nat → Tag} {t0 : Tmps} : ∀ {ks : List Nat} {G : Tmps → Mem → Prop} {a : Ar (ks.map tg)} {σ : Mem}, Fn.ap (ks.map tg) (lamK tg t0 ks G) a σ → G (mkK tg t0 ks a) σ
  | [], G, a, σ, h => h
  | i :: ks, G, a, σ, h => lamK_ap (ks := ks) (G := fun t σ => G (Tr.put t i (some ((tg i).inj a.1))) σ) h
theorem inL_mem {n : Nat} : ∀ {l : List Nat}, inL l n = true ↔ n ∈ l
  | [] => by simp [inL]
  | m :: l => by
    unfold inL
    cases h : Nat.beq m n with
    | true => have := Nat.eq_of_beq_eq_true h; subst this; simp
    | false =>
      have hne : n ≠ m := fun e => by subst e; rw [show Nat.beq n n = true from by simp] at h; cases h
      simp [inL_mem (l := l), hne]
theorem allB_all {α : Type} {f : α → Bool} : ∀ {l : List α}, allB f l = true → ∀ a ∈ l, f a = true
  | [], _, a, h => by simp at h
  | b :: l, h, a, ha => by
    unfold allB at h
    split at h
    · rename_i hb
      rcases List.mem_cons.1 ha with rfl | ha
      · exact hb
      · exact allB_all h a ha
    · cases h
theorem allB_of {α : Type} {f : α → Bool} : ∀ {l : List α}, (∀ a ∈ l, f a = true) → allB f l = true
  | [], _ => rfl
  | b :: l, h => by
    unfold allB
    rw [h b (by simp)]
    exact allB_of fun a ha => h a (by simp [ha])
theorem andS_and {a b : Bool} (h : andS a b = true) : a = true ∧ b = true := by
  cases a
  · cases h
  · exact ⟨rfl, h⟩
def Agree (cs : List Nat) (t t' : Tmps) : Prop := ∀ c ∈ cs, Tr.get t' c = Tr.get t c
theorem Agree.refl (cs : List Nat) (t : Tmps) : Agree cs t t := fun _ _ => rfl
theorem Agree.trans {cs : List Nat} {t t' t'' : Tmps} (h : Agree cs t t') (h' : Agree cs t' t'') : Agree cs t t'' := fun c hc => (h' c hc).trans (h c hc)
theorem Tmps.get_keep_mem (t : Tmps) : ∀ (ks : List Nat) (c : Nat), c ∈ ks → Tr.get (Tmps.keep t ks) c = Tr.get t c
  | [], c, h => by simp at h
  | k :: ks, c, h => by
    rw [Tmps.keep, Tr.get_put]
    split
    · rename_i e; rw [e]
    · rename_i e
      rcases List.mem_cons.1 h with h | h
      · exact absurd h e
      · exact Tmps.get_keep_mem t ks c h
theorem Agree.keep {cs ks : List Nat} (h : allB (fun c => inL ks c) cs = true) (t : Tmps) : Agree cs t (Tmps.keep t ks) :=
  fun c hc => Tmps.get_keep_mem t ks c (inL_mem.1 (allB_all h c hc))
theorem Agree.keep_eq {t t' : Tmps} : ∀ {cs : List Nat}, Agree cs t t' → Tmps.keep t' cs = Tmps.keep t cs
  | [], _ => rfl
  | c :: cs, h => by
    rw [Tmps.keep, Tmps.keep, h c (by simp), Agree.keep_eq (cs := cs) fun d hd => h d (by simp [hd])]
theorem Agree.set {cs : List Nat} {p : RegE} (h : dFree cs p = true) (t : Tmps) (v : AV) : Agree cs t (Tmps.set t p.o.d v) := by
  unfold dFree at h
  intro c hc
  cases hd : p.o.d with
  | none => rfl
  | some d =>
    rw [hd] at h
    simp only at h
    split at h
    · cases h
    · rename_i hn
      have hne : c ≠ d := fun e => by subst e; rw [inL_mem.2 hc] at hn; cases hn
      exact Tr.get_put_ne t hne _
theorem AOps.frame {P : Program} {base : Nat} {cs : List Nat} : ∀ {l : List RegE} {K : Tmps → Mem → Prop} {t t0 : Tmps} {σ : Mem}, allB (dFree cs) l = true → Agree cs t0 t → AOps P noY base K l t σ → AOps P noY base (fun t' σ' => K t' σ' ∧ Agree cs t0 t') l t σ
  | [], K, t, t0, σ, _, ha, h => ⟨h, ha⟩
  | p :: l, K, t, t0, σ, hf, ha, h => by
    have h1 := allB_all hf p (by simp)
    have h2 : allB (dFree cs) l = true := by
      unfold allB at hf
      rw [h1] at hf; exact hf
    simp only [AOps] at h ⊢
    split at h
    · exact AStep.mono h fun v σ' hk => ⟨hk.1, AOps.frame h2 (ha.trans (.set h1 t v)) hk.2⟩
    · exact AOps.frame h2 (ha.trans (.set h1 t _)) h
    · exact h.elim
/-- What code leaves alone is behind it as it was. -/
theorem AW.frame {P : Program} {cs : List Nat} : ∀ {x : TCode} {Q : APost} {t t0 : Tmps} {σ : Mem}, keeps cs x = true → Agree cs t0 t → AW P noY x.erase Q t σ → AW P noY x.erase (fun e t' σ' => Q e t' σ' ∧ Agree cs t0 t') t σ := by
  intro x
  induction x with
  | skip => exact fun _ ha h => ⟨h, ha⟩
  | region n ops => exact fun hf ha h => AOps.frame hf ha h
  | seq a b iha ihb =>
    intro Q t t0 σ hf ha h
    obtain ⟨h1, h2⟩ := andS_and hf
    show AW P noY a.erase (APost.then (fun t1 σ1 => AW P noY b.erase (fun e t' σ' => Q e t' σ' ∧ Agree cs t0 t') t1 σ1) (fun e t' σ' => Q e t' σ' ∧ Agree cs t0 t')) t σ
    refine AW.mono (fun e t1 σ1 _ hq => ?_) (iha h1 ha (show AW P noY a.erase _ t σ from h))
    obtain ⟨hq, ha1⟩ := hq
    cases e with
    | normal => exact ihb h2 ha1 hq
    | _ => exact ⟨hq, ha1⟩
  | cond c a b iha ihb =>
    intro Q t t0 σ hf ha h
    obtain ⟨h1, h2⟩ := andS_and hf
    simp only [TCode.erase, AW] at h ⊢
    split at h
    · exact ⟨fun e => iha h1 ha (h.1 e), fun e => ihb h2 ha (h.2 e)⟩
    · exact h.elim
  | block id a ih =>
    intro Q t t0 σ hf ha h
    show AW P noY a.erase (APost.inBlock id fun e t' σ' => Q e t' σ' ∧ Agree cs t0 t') t σ
    refine AW.mono (fun e t1 σ1 _ hq => ?_) (ih hf ha (show AW P noY a.erase _ t σ from h))
    obtain ⟨hq, ha1⟩ := hq
    cases e with
    | exit id' =>
      simp only [APost.inBlock] at hq ⊢
      split
      · rename_i e; rw [if_pos e] at hq; exact ⟨hq, ha1⟩
      · rename_i e; rw [if_neg e] at hq; exact ⟨hq, ha1⟩
    | _ => exact ⟨hq, ha1⟩
  | loop cs' ks a ih =>
    intro Q t t0 σ hf ha h
    obtain ⟨h1, h2⟩ := andS_and hf
    obtain ⟨I, μ, h0, hI⟩ := (show AW P noY (.loop (.seq a.erase (.forget (ks ++ cs')))) Q (Tmps.keep t (ks ++ cs')) σ from h)
    show AW P noY (.loop (.seq a.erase (.forget (ks ++ cs')))) _ (Tmps.keep t (ks ++ cs')) σ
    refine ⟨fun t σ => I t σ ∧ Agree cs t0 t, μ, ⟨h0, ha.trans (.keep h1 t)⟩, fun t1 σ1 hi => ?_⟩
    have hb := hI t1 σ1 hi.1
    show AW P noY a.erase (APost.then (fun t2 σ2 => AW P noY (.forget (ks ++ cs')) (APost.then (fun t' σ' => (I t' σ' ∧ Agree cs t0 t') ∧ μ t' σ' < μ t1 σ1) fun e t' σ' => Q e t' σ' ∧ Agree cs t0 t') t2 σ2)
      (APost.then (fun t' σ' => (I t' σ' ∧ Agree cs t0 t') ∧ μ t' σ' < μ t1 σ1) fun e t' σ' => Q e t' σ' ∧ Agree cs t0 t')) t1 σ1
    refine AW.mono (fun e t2 σ2 _ hq => ?_) (ih h2 hi.2 (show AW P noY a.erase _ t1 σ1 from hb))
    obtain ⟨hq, ha2⟩ := hq
    cases e with
    | normal => exact ⟨⟨hq.1, ha2.trans (.keep h1 t2)⟩, hq.2⟩
    | _ => exact ⟨hq, ha2⟩
  | exit id => exact fun _ ha h => ⟨h, ha⟩
  | ret => exact fun _ ha h => ⟨h, ha⟩
  | scope a ih => exact fun hf ha h => ih hf ha h
  | join cs' ks a ih =>
    intro Q t t0 σ hf ha h
    obtain ⟨h1, h2⟩ := andS_and hf
    show AW P noY a.erase (APost.then (fun t1 σ1 => AW P noY (.forget (ks ++ cs')) (fun e t' σ' => Q e t' σ' ∧ Agree cs t0 t') t1 σ1) (fun e t' σ' => Q e t' σ' ∧ Agree cs t0 t')) t σ
    refine AW.mono (fun e t1 σ1 _ hq => ?_) (ih h2 ha (show AW P noY a.erase _ t σ from h))
    obtain ⟨hq, ha1⟩ := hq
    cases e with
    | normal => exact ⟨hq, ha1.trans (.keep h1 t1)⟩
    | _ => exact ⟨hq, ha1⟩
  | stuck => exact fun _ _ h => h
section
variable {P : Program} {tg : Nat → Tag} {t : Tmps} {σ : Mem}
theorem stepS_spec {id : Nat} {op : AOp} {k k' : AV → Mem → Prop} (hk : ∀ v σ, k v σ → k' v σ) (h : stepS P id op t σ k) : AStep P noY id op t σ k' := by
  have other : op.isCall = false → AStep P noY id op t σ k' := by
    intro hno
    have e1 : stepS P id op t σ k = ifB op.eff (eopS id op t σ k) (nopS id op t σ (fun v => k v σ) fun v b => newW σ id b fun σ' => k v σ') := by
      cases op <;> first | rfl | cases hno
    have e2 : AStep P noY id op t σ k' = (if op.eff then (match eop id op t σ with
        | some r => k' r.1 r.2
        | none => False)
      else match nop id op t σ with
        | some r => k' r.1 (σ.add id r.2)
        | none => False) := by
      cases op <;> first | rfl | cases hno
    rw [e1] at h
    rw [e2]
    cases he : op.eff with
    | true =>
      rw [he] at h
      obtain ⟨r, hr, h⟩ := eopS_spec (show eopS id op t σ k from h)
      rw [if_pos rfl, hr]
      exact hk _ _ h
    | false =>
      rw [he] at h
      obtain ⟨⟨v, ob⟩, hr, h⟩ := nopS_spec (show nopS id op t σ (fun v => k v σ) (fun v b => newW σ id b fun σ' => k v σ') from h)
      rw [if_neg (by simp), hr]
      cases ob with
      | none => exact hk _ _ h
      | some b => exact hk _ _ h
  cases op
  case call f xs =>
    obtain ⟨l, hl, h⟩ := evsW_spec h
    simp only [AStep, hl]
    exact ACalls.mono h hk
  case callv x xs =>
    obtain ⟨v, hv, h⟩ := evW_spec h
    obtain ⟨l, hl, h⟩ := evsW_spec h
    cases v <;> first | exact h.elim | skip
    simp only [AStep, hv, hl]
    exact ACalls.mono h hk
  all_goals exact other rfl
theorem opsS_spec {base : Nat} {K : Tmps → Mem → Prop} : ∀ {l : List RegE} {t : Tmps} {σ : Mem}, opsS P tg base K l t σ → AOps P noY base K l t σ
  | [], t, σ, h => h
  | p :: l, t, σ, h => by
    simp only [opsS] at h
    simp only [AOps]
    have step : ∀ {t : Tmps}, (stepS P (base + p.i) p.o.op t σ fun v σ' => fltS t σ σ' (outS tg p.o.d v t fun t => opsS P tg base K l t σ') p.fl) →
        AStep P noY (base + p.i) p.o.op t σ fun v σ' => Floats base t σ σ' p.fl ∧ AOps P noY base K l (Tmps.set t p.o.d v) σ' := by
      intro t h
      refine stepS_spec (fun v σ' h => ?_) h
      obtain ⟨h1, h2⟩ := fltS_spec h
      exact ⟨floatsW_spec h1, opsS_spec (outS_spec h2)⟩
    unfold gS at h
    unfold gval
    have same : ∀ {d : Nat} {b : Bool}, Tr.get t d = some (.bool b) → Tr.put t d (some (.bool b)) = t := fun h => Tr.put_same h
    split at h
    · rename_i hg; rw [hg]; exact step h
    · rename_i d want hg
      rw [hg]
      simp only
      obtain ⟨v, hb, h⟩ := optW_spec h
      rw [hb]
      split at h
      · rename_i b
        simp only
        cases b <;> cases want <;> simp only [ifB] at h <;> rw [same hb] at h
        · exact step h
        · exact opsS_spec h
        · exact opsS_spec h
        · exact step h
      · exact opsS_spec h
      · exact h.elim
theorem thenS_eq {K K' : Tmps → Mem → Prop} {Q Q' : APost} (hK : ∀ t σ, K t σ → K' t σ) (hQ : ∀ e t σ, (∀ l, e ≠ .goto l) → Q e t σ → Q' e t σ) (e : Exit) (t : Tmps) (σ : Mem) (he : ∀ l, e ≠ .goto l) (h : thenS K Q e t σ) : APost.then K' Q' e t σ := by
  cases e with
  | normal => exact hK _ _ h
  | _ => exact hQ _ _ _ he h
theorem sem_spec : ∀ {c : TCode} {Q Q' : APost} {t : Tmps} {σ : Mem}, (∀ e t σ, (∀ l, e ≠ .goto l) → Q e t σ → Q' e t σ) → sem P tg c Q t σ → AW P noY c.erase Q' t σ := by
  intro c
  induction c with
  | skip => exact fun hQ h => hQ _ _ _ (by simp) h
  | region n ops => exact fun hQ h => AOps.mono (fun t σ h => hQ _ _ _ (by simp) h) (opsS_spec (P := P) (tg := tg) h)
  | seq x y ihx ihy => exact fun hQ h => ihx (thenS_eq (fun t σ h => ihy hQ h) hQ) h
  | cond c x y ihx ihy =>
    intro Q Q' t σ hQ h
    obtain ⟨v, hv, h⟩ := evW_spec h
    simp only [TCode.erase, AW, hv]
    cases v with
    | bool b => cases b with
      | true => exact ⟨fun _ => ihx hQ h, fun e => by cases e⟩
      | false => exact ⟨fun e => (by cases e), fun _ => ihy hQ h⟩
    | _ => exact h.elim
  | block id x ih =>
    intro Q Q' t σ hQ h
    refine ih (fun e t σ he h => ?_) h
    cases e with
    | exit id' =>
      simp only [inS, APost.inBlock] at h ⊢
      by_cases hid : id' = id
      · subst hid
        rw [if_pos rfl]
        rw [show Nat.beq id' id' = true from by simp] at h
        exact hQ _ _ _ (by simp) h
      · rw [if_neg hid]
        rw [show Nat.beq id' id = false from Bool.eq_false_iff.2 fun e => hid (Nat.eq_of_beq_eq_true e)] at h
        exact hQ _ _ _ (by simp) h
    | _ => exact hQ _ _ _ he h
  | loop cs ks x ih =>
    intro Q Q' t σ hQ h
    obtain ⟨hkeep, h⟩ := ifB_and h
    obtain ⟨a, ha, h⟩ := getK_spec (cs := cs) h
    rw [loopF, Fn.ap_lam] at h
    obtain ⟨ι, I, μ, i0, h0, hI⟩ := h
    show AW P noY (.loop (.seq x.erase (.forget (ks ++ cs)))) Q' (Tmps.keep t (ks ++ cs)) σ
    refine AW.loop (ι := ι) (fun i t1 σ => (∃ a, t1 = mkK tg (Tmps.keep t cs) ks a ∧ I i a σ) ∧ Agree cs t t1) μ i0 ⟨⟨a, ha, h0⟩, .keep ?_ t⟩ ?_
    · exact allB_of fun c hc => inL_mem.2 (by simp [hc])
    rintro i t1 σ1 ⟨⟨a1, rfl, h1⟩, hag⟩
    have hb := lamK_ap (hI i a1 σ1 h1)
    show AW P noY x.erase (APost.then (fun t2 σ => AW P noY (.forget (ks ++ cs)) (APost.then (fun t' σ' => ∃ j, ((∃ a, t' = mkK tg (Tmps.keep t cs) ks a ∧ I j a σ') ∧ Agree cs t t') ∧ μ j < μ i) Q') t2 σ) (APost.then (fun t' σ' => ∃ j, ((∃ a, t' = mkK tg (Tmps.keep t cs) ks a ∧ I j a σ') ∧ Agree cs t t') ∧ μ j < μ i) Q')) (mkK tg (Tmps.keep t cs) ks a1) σ1
    refine AW.mono (fun e t2 σ2 he hq => ?_) (AW.frame hkeep hag (ih (fun e t2 σ2 he h => h) hb))
    obtain ⟨h, ha2⟩ := hq
    cases e with
    | normal =>
      obtain ⟨a2, e2, h2⟩ := getK_spec (cs := cs) (show getK tg ks t2 _ σ2 from h)
      rw [Fn.ap_lam] at h2
      obtain ⟨j, hj, hlt⟩ := h2
      refine ⟨j, ⟨⟨a2, ?_, hj⟩, ha2.trans (.keep (allB_of fun c hc => inL_mem.2 (by simp [hc])) t2)⟩, hlt⟩
      rw [e2, ha2.keep_eq]
    | _ => exact hQ _ _ _ he h
  | exit id => exact fun hQ h => hQ _ _ _ (by simp) h
  | ret => exact fun hQ h => hQ _ _ _ (by simp) h
  | scope x ih => exact fun hQ h => ih hQ h
  | join cs ks x ih =>
    intro Q Q' t σ hQ h
    obtain ⟨hkeep, h⟩ := ifB_and h
    obtain ⟨R, h1, h2⟩ := h
    show AW P noY x.erase (APost.then (fun t1 σ1 => AW P noY (.forget (ks ++ cs)) Q' t1 σ1) Q') t σ
    refine AW.mono (fun e t2 σ2 he hq => ?_) (AW.frame hkeep (.refl cs t) (ih (fun e t2 σ2 he h => h) h1))
    obtain ⟨h, ha2⟩ := hq
    cases e with
    | normal =>
      obtain ⟨a2, e2, h3⟩ := getK_spec (cs := cs) (show getK tg ks t2 R σ2 from h)
      have := lamK_ap (h2 a2 σ2 h3)
      refine hQ _ _ _ (by simp) ?_
      show Q .normal (Tmps.keep t2 (ks ++ cs)) σ2
      rw [e2, ha2.keep_eq]; exact this
    | _ => exact hQ _ _ _ he h
  | stuck => exact fun hQ h => h

/-- The results. -/
def resS (t : Tmps) (σ : Mem) : List ARes → (List AV → Prop) → Prop
  | [], k => k []
  | .tmp i :: l, k => optW (Tr.get t i) fun v => resS t σ l fun vs => k (v :: vs)
  | .cell i q :: l, k => optW (Tr.get t i) fun p => (match q with
    | none => ldW σ p fun v => resS t σ l fun vs => k (v :: vs)
    | some n => ldnW n σ p fun v => resS t σ l fun vs => k (v :: vs))
theorem resS_spec : ∀ {l : List ARes} {k : List AV → Prop}, resS t σ l k → ∃ r, evr t σ l = some r ∧ k r
  | [], k, h => ⟨[], rfl, h⟩
  | .tmp i :: l, k, h => by
    obtain ⟨v, hv, h⟩ := optW_spec h
    obtain ⟨r, hr, h⟩ := resS_spec h
    exact ⟨v :: r, by simp [evr, ARes.ev, hv, hr], h⟩
  | .cell i q :: l, k, h => by
    obtain ⟨v, hv, h⟩ := optW_spec h
    cases q with
    | none =>
      simp only [ldW] at h
      cases v <;> first | exact h.elim | skip
      obtain ⟨a, ha, h⟩ := optW_spec h
      obtain ⟨r, hr, h⟩ := resS_spec h
      exact ⟨a :: r, by simp [evr, ARes.ev, hv, cell_cells ha, hr], h⟩
    | some n =>
      simp only [ldnW] at h
      cases v <;> first | exact h.elim | skip
      obtain ⟨c, hc, h⟩ := optW_spec h
      obtain ⟨r, hr, h⟩ := resS_spec h
      exact ⟨.agg c :: r, by simp [evr, ARes.ev, hv, hc, hr], h⟩
def endS (res : List ARes) (Q : AV → Mem → Prop) : APost
  | .normal, t, σ => resS t σ res fun l => Q (packA l) σ
  | .ret, t, σ => resS t σ res fun l => Q (packA l) σ
  | _, _, _ => False
theorem endS_spec {res : List ARes} {Q : AV → Mem → Prop} (e : Exit) (t : Tmps) (σ : Mem) (h : endS res Q e t σ) : retPost res Q e t σ := by
  cases e with
  | normal =>
    obtain ⟨r, hr, h⟩ := resS_spec (show resS t σ res _ from h)
    simp only [retPost, hr]; exact h
  | ret =>
    obtain ⟨r, hr, h⟩ := resS_spec (show resS t σ res _ from h)
    simp only [retPost, hr]; exact h
  | _ => exact h.elim
/-- A function: what its printed condition has to be. -/
def semF (P : Program) (f : Nat) (ks : List Ann) (tg : List (Nat × Tag)) (args : List AV) (σ : Mem) (Q : AV → Mem → Prop) : Prop :=
  match compFuncT P f ks with
  | none => False
  | some af => ifB (Nat.ble args.length af.N) (sem P (tagOf tg) af.body (endS af.res Q) (argT args 0 .leaf) σ) False
def fnOkB (P : Program) (f : Nat) : Bool :=
  match P.funcs[f]? with
  | none => false
  | some fn => fn.body.isSome && !(fn.name == "runtime.NumGoroutine")
theorem fnOkB_spec {f : Nat} (h : fnOkB P f = true) : FnOk P f := by
  unfold fnOkB at h
  split at h
  · cases h
  · rename_i fn hf
    simp only [Bool.and_eq_true, Bool.not_eq_true'] at h
    exact ⟨fn, hf, by cases hb : fn.body <;> simp_all, h.2⟩
theorem ACalls.of_sem {f : Nat} {args : List AV} {Q : AV → Mem → Prop} (ks : List Ann) (tg : List (Nat × Tag)) {X : Prop} (hm : P.follows .mixedOrders = true) (hf : fnOkB P f = true) (he : semF P f ks tg args σ Q = X) (h : σ.Live → X) : ACalls P f args σ Q := by
  unfold semF at he
  split at he
  · refine ⟨fnOkB_spec hf, fun ρ w args' st hl => ?_⟩
    exact (he.mpr (h st.live) : False).elim
  · rename_i af haf
    cases hb : Nat.ble args.length af.N with
    | true =>
      rw [hb] at he
      exact .of_funcT hm haf (Nat.le_of_ble_eq_true hb) fun hl => sem_spec (fun e t σ _ h => endS_spec e t σ h) (show sem P (tagOf tg) af.body (endS af.res Q) (argT args 0 .leaf) σ from he.mpr (h hl))
    | false =>
      rw [hb] at he
      refine ⟨fnOkB_spec hf, fun ρ w args' st hl => ?_⟩
      exact (he.mpr (h st.live) : False).elim
end
end Go.Vit
