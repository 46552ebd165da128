/- Regions in the text's order. -/
import Derived.Test.YthkehkmnfaaagaaVitO
import Derived.OrdersIn
import Derived.RangeFuncLeaves
import Derived.Tactics
import Derived.Scope
set_option linter.unusedVariables false
set_option linter.unusedSimpArgs false
namespace Go.Vit
section
variable {P : Program} {Y : YEnv} {ro : Option Nat} {ds : List Deferred} {N : Nat} {ρ ρ' : Ren} {σ σ' : Mem} {t : Tmps} {a : Act} {w w' : World}

def FromOn (base : Nat) : Nat → Prop := fun b => base ≤ b

theorem St.bump (st : St ρ σ w) (n : Nat) : St ρ (σ.bump n) w :=
  ⟨fun b p h => Nat.lt_of_lt_of_le (st.dom b p h) (Nat.le_add_right _ _), fun b k h => Nat.lt_of_lt_of_le (st.live b k h) (Nat.le_add_right _ _), st.rel, st.inj⟩
theorem Step.bump {M : Nat → Prop} (st : St ρ σ w) (n : Nat) : Step M ρ σ w ρ (σ.bump n) w :=
  ⟨st.bump n, Nat.le_add_right _ _, fun _ _ e => e, fun b p e e' => by rw [e] at e'; (cases e'), fun b k h _ => ⟨k, h, rfl⟩, fun _ _ _ => rfl, fun _ _ _ => rfl, Nat.le_refl _, rfl, rfl, rfl⟩
theorem Step.congr_world {M : Nat → Prop} {w2 : World} (h : Step M ρ σ w ρ' σ' w') (hh : w2.heap = w'.heap) (ho : w2.os = w'.os) (ht : w2.tape = w'.tape) (hout : w2.output = w'.output) : Step M ρ σ w ρ' σ' w2 :=
  ⟨h.st.congr hh, h.next, h.ext, h.fresh, h.old, h.same, fun c hc hno => by rw [hh]; exact h.frame c hc hno, by rw [hh]; exact h.size, ho.trans h.os, ht.trans h.tape, hout.trans h.out⟩

/-- What is laid by for the operations to come. -/
def Free (base : Nat) (ρ : Ren) (σ : Mem) (i : Nat) : Prop := ρ (base + i) = none ∧ σ.get (base + i) = none ∧ base + i < σ.next
theorem Free.step {base i j : Nat} (h : Free base ρ σ i) (hs : Step (fun b => b = base + j ∨ σ.next ≤ b) ρ σ w ρ' σ' w') (hne : i ≠ j) : Free base ρ' σ' i := by
  obtain ⟨h1, h2, h3⟩ := h
  have hn : ¬ (base + i = base + j ∨ σ.next ≤ base + i) := by omega
  refine ⟨?_, (hs.same _ hn h1).trans h2, Nat.lt_of_lt_of_le h3 hs.next⟩
  cases e : ρ' (base + i) with
  | none => rfl
  | some p => exact absurd (hs.fresh _ p e h1).1 hn

theorem wpOps_seq {ops : Array Oper} {base : Nat} {K : Tmps → Mem → Prop} {Q : Exit → Act → World → Prop} {ρ0 : Ren} {σ0 : Mem} {w0 : World}
    (hQ : ∀ t' σ' ρ' a' w', K t' σ' → TRel ds N (fun _ => False) ρ' t' a' → Step (fun b => base ≤ b) ρ0 σ0 w0 ρ' σ' w' → Q .normal a' w') (st0 : St ρ0 σ0 w0) (hY : YOk P Y ρ0 w0) : ∀ (l : List RegE) (t : Tmps) (σ : Mem) (ρ : Ren) (a : Act) (w : World),
      (∀ p ∈ l, CompOper P N ops p.i p.o) → (l.map (·.i)).Nodup → (∀ p ∈ l, Free base ρ σ p.i) → base ≤ σ.next → AOps P Y base K l t σ → TRel ds N (fun _ => False) ρ t a → Step (fun b => base ≤ b) ρ0 σ0 w0 ρ σ w →
      wpOpsIn (Fc ro) 0 P ops Q (l.map (·.i)) a w
  | [], t, σ, ρ, a, w, _, _, _, _, h, ht, hs => hQ t σ ρ a w h ht hs
  | p :: l, t, σ, ρ, a, w, hc, hnd, hf, hb, h, ht, hs => by
    obtain ⟨o, ho, hco, hd, hg, hdn⟩ := (hc p (by simp)).ex
    obtain ⟨f1, f2, f3⟩ := hf p (by simp)
    have hdn' : ∀ i, p.o.d = some i → i < N := fun i e => hdn i (by rw [← hd]; exact e)
    have hcl : ∀ q ∈ l, CompOper P N ops q.i q.o := fun q hq => hc q (by simp [hq])
    simp only [List.map_cons, List.nodup_cons] at hnd
    rw [List.map_cons, wpOpsIn_cons]
    unfold wpOpIn
    simp only [ho]
    simp only [AOps] at h
    cases hgv : gval t p.o.g with
    | none => rw [hgv] at h; exact h.elim
    | some b =>
      have hw := guard_rel (o' := p.o) hg ht (fun _ _ x => x) hgv
      rw [hgv] at h
      cases b with
      | false =>
        simp only [hw, Bool.false_eq_true, if_false]
        refine ⟨fun _ _ => trivial, ?_⟩
        refine wpOps_seq hQ st0 hY l _ σ ρ _ w hcl hnd.2 (fun q hq => hf q (by simp [hq])) hb h ?_ hs
        rw [← hd]
        exact (ht.put undef_rel hdn').weaken (fun i hi => hi.1)
      | true =>
        simp only [hw, if_true]
        refine (h : AStep P Y _ _ _ _ _).sim hco (hY.step st0 hs) (ht.he (fun _ _ _ _ x => x)) hs.st f1 f3 f2 ?_
        intro v v' σ' ρ' w' hk hv hst
        refine wpOps_seq hQ st0 hY l _ σ' ρ' _ w' hcl hnd.2 (fun q hq => (hf q (by simp [hq])).step hst (fun e => hnd.1 (by rw [← e]; exact List.mem_map_of_mem hq))) (Nat.le_trans hb hst.next) hk.2 ?_
          (hs.trans hst (fun _ e => e) (fun b e => by rcases e with rfl | e <;> omega))
        rw [← hd]
        exact ((ht.mono hst.ext).put hv hdn').weaken (fun i hi => hi.1)

/-! ### Code -/
inductive ACode where
  | skip
  | region (n : Nat) (ops : List RegE)
  | seq (a b : ACode)
  | cond (c : AOpd) (thn els : ACode)
  | block (id : Nat) (body : ACode)
  | loop (body : ACode)
  | exit (id : Nat)
  | ret
  | scope (body : ACode)
  | forget (ks : List Nat)
  | range (g : AOpd) (ps : List Nat) (assign body : ACode)
  | regionX (n : Nat) (ops : List RegE) (p q : RegE) (fq fp : List (Nat × AOp))
  | stuck

/-- Only the temporaries that are named. -/
def Tmps.keep (t : Tmps) : List Nat → Tmps
  | [] => .leaf
  | k :: ks => Tr.put (Tmps.keep t ks) k (Tr.get t k)

abbrev APost := Exit → Tmps → Mem → Prop
def APost.then (K : Tmps → Mem → Prop) (Q : APost) : APost
  | .normal, t, σ => K t σ
  | e, t, σ => Q e t σ
def APost.inBlock (id : Nat) (Q : APost) : APost
  | .exit id', t, σ => if id' = id then Q .normal t σ else Q (.exit id') t σ
  | e, t, σ => Q e t σ

/-- Values are laid into temporaries. -/
def Tmps.fill : Tmps → List Nat → List AV → Tmps
  | t, i :: is, v :: vs => Tmps.fill (Tr.put t i (some v)) is vs
  | t, _, _ => t
/-- The one yield that is at hand. -/
def oneY (b : Nat) (T : YT) : YEnv := fun b' => if b' = b then some T else none
/-- WHAT CODE COMES TO over abstract memory. -/
def AW (P : Program) (Y : YEnv) : ACode → APost → Tmps → Mem → Prop
  | .skip, Q, t, σ => Q .normal t σ
  | .region n ops, Q, t, σ => AOps P Y σ.next (fun t σ => Q .normal t σ) ops t (σ.bump n)
  | .seq x y, Q, t, σ => AW P Y x (APost.then (fun t σ => AW P Y y Q t σ) Q) t σ
  | .cond c x y, Q, t, σ => match c.ev t with
    | some (.bool b) => (b = true → AW P Y x Q t σ) ∧ (b = false → AW P Y y Q t σ)
    | _ => False
  | .block id x, Q, t, σ => AW P Y x (APost.inBlock id Q) t σ
  | .loop x, Q, t, σ => ∃ (I : Tmps → Mem → Prop) (μ : Tmps → Mem → Nat), I t σ ∧ ∀ t σ, I t σ → AW P Y x (APost.then (fun t' σ' => I t' σ' ∧ μ t' σ' < μ t σ) Q) t σ
  | .exit id, Q, t, σ => Q (.exit id) t σ
  | .ret, Q, t, σ => Q .ret t σ
  | .scope x, Q, t, σ => AW P Y x Q t σ
  | .forget ks, Q, t, σ => Q .normal (Tmps.keep t ks) σ
  | .range g ps assign body, Q, t, σ => match g.ev t with
    | some (.func f c) => ACallsY P (oneY σ.next fun args σ' K => args.length = ps.length ∧ AW P noY assign (APost.then (fun t1 σ1 => AW P noY body (fun e _ σ2 => match e with
      | .normal => K (.bool true) σ2
      | _ => False) t1 σ1) (fun _ _ _ => False)) (Tmps.fill t ps args) σ') f (.yld σ.next :: c) (σ.bump 1) fun _ σ' => Q .normal t σ'
    | _ => False
  | .regionX n ops p q fq fp, Q, t, σ => AOps P Y σ.next (fun t' σ' => AOps P Y σ.next (fun t σ => Q .normal t σ) [p, q] t' σ' ∧ AOps P Y σ.next (fun t σ => Q .normal t σ) [⟨q.i, q.o, fq⟩, ⟨p.i, p.o, fp⟩] t' σ') ops t (σ.bump n)
  | .stuck, _, _, _ => False

/-- The marks of loops that are over, among the calls that are put off. -/
def mk (Ds : List Nat) : List Deferred := Ds.map fun D => { target := .collected D, args := #[] }
def Marks (B : Nat) (Ds : List Nat) (w : World) : Prop := Ds.Nodup ∧ ∀ D ∈ Ds, B ≤ D ∧ w.heap[D]? = some (.deferred (some []))
theorem Marks.step {B : Nat} {Ds : List Nat} {M : Nat → Prop} (h : Marks B Ds w) (st : St ρ σ w) (hs : Step M ρ σ w ρ' σ' w') : Marks B Ds w' :=
  ⟨h.1, fun D hD => ⟨(h.2 D hD).1, hs.still st (h.2 D hD).2 (by simp) (by simp)⟩⟩

/-- The same of the model's code: in every world for which the abstract state stands. -/
def CodeOk (ro : Option Nat) (P : Program) (Y : YEnv) (N : Nat) (c : Code) (ac : ACode) : Prop :=
  ∀ (Q : APost) (t : Tmps) (σ : Mem), AW P Y ac Q t σ → ∀ (ρ : Ren) (a : Act) (w : World) (B : Nat) (Ds : List Nat), St ρ σ w → TRel (mk Ds) N (fun _ => False) ρ t a → YOk P Y ρ w → B ≤ w.heap.size → Marks B Ds w →
    c.wpIn (Fc ro) 0 P (fun e a' w' => ∃ t' σ' ρ' Ds', Q e t' σ' ∧ TRel (mk Ds') N (fun _ => False) ρ' t' a' ∧ Step (fun b => σ.next ≤ b) ρ σ w ρ' σ' w' ∧ Marks B Ds' w') a w

theorem CodeOk.skip : CodeOk ro P Y N .skip .skip := fun Q t σ h ρ a w B Ds st ht _ _ hm => wpIn_skip ⟨t, σ, ρ, Ds, h, ht, .refl st, hm⟩
theorem CodeOk.exit (id : Nat) : CodeOk ro P Y N (.exit id) (.exit id) := fun Q t σ h ρ a w B Ds st ht _ _ hm => wpIn_exit ⟨t, σ, ρ, Ds, h, ht, .refl st, hm⟩
theorem CodeOk.ret : CodeOk ro P Y N .ret .ret := fun Q t σ h ρ a w B Ds st ht _ _ hm => wpIn_ret ⟨t, σ, ρ, Ds, h, ht, .refl st, hm⟩
theorem CodeOk.stuck {c : Code} : CodeOk ro P Y N c .stuck := fun Q t σ h => (show False from h).elim
theorem CodeOk.seq {x y : Code} {ax ay : ACode} (hx : CodeOk ro P Y N x ax) (hy : CodeOk ro P Y N y ay) : CodeOk ro P Y N (.seq x y) (.seq ax ay) := by
  intro Q t σ h ρ a w B Ds st ht hY hB hm
  refine wpIn_seq (wpIn_mono (hx _ t σ h ρ a w B Ds st ht hY hB hm) ?_)
  rintro e a' w' ⟨t', σ', ρ', Ds', hq, ht', hs, hm'⟩
  cases e with
  | normal =>
    refine wpIn_mono (hy Q t' σ' hq ρ' a' w' B Ds' hs.st ht' (hY.step st hs) (Nat.le_trans hB hs.size) hm') ?_
    rintro e a'' w'' ⟨t'', σ'', ρ'', Ds'', hq', ht'', hs', hm''⟩
    exact ⟨t'', σ'', ρ'', Ds'', hq', ht'', hs.trans hs' (fun _ e => e) (fun b e => Nat.le_trans hs.next e), hm''⟩
  | _ => exact ⟨t', σ', ρ', Ds', hq, ht', hs, hm'⟩
theorem CodeOk.cond {c : Operand} {ac : AOpd} {x y : Code} {ax ay : ACode} (hc : opd c = some ac) (hx : CodeOk ro P Y N x ax) (hy : CodeOk ro P Y N y ay) : CodeOk ro P Y N (.cond c x y) (.cond ac ax ay) := by
  intro Q t σ h ρ a w B Ds st ht hY hB hm
  simp only [AW] at h
  split at h
  · rename_i b hb
    have hv := (ht.eval hc hb (fun _ _ x => x)).bool_inv
    refine wpIn_cond_split hv (fun e => ?_) (fun e => ?_)
    · exact hx Q t σ (h.1 e) ρ a w B Ds st ht hY hB hm
    · exact hy Q t σ (h.2 e) ρ a w B Ds st ht hY hB hm
  · exact h.elim
theorem CodeOk.block {id : Nat} {x : Code} {ax : ACode} (hx : CodeOk ro P Y N x ax) : CodeOk ro P Y N (.block id x) (.block id ax) := by
  intro Q t σ h ρ a w B Ds st ht hY hB hm
  refine wpIn_block (wpIn_mono (hx _ t σ h ρ a w B Ds st ht hY hB hm) ?_)
  rintro e a' w' ⟨t', σ', ρ', Ds', hq, ht', hs, hm'⟩
  cases e with
  | exit id' =>
    simp only [APost.inBlock] at hq
    simp only [Exit.inBlock]
    split
    · rename_i hid; rw [if_pos hid] at hq; exact ⟨t', σ', ρ', Ds', hq, ht', hs, hm'⟩
    · rename_i hid; rw [if_neg hid] at hq; exact ⟨t', σ', ρ', Ds', hq, ht', hs, hm'⟩
  | _ => exact ⟨t', σ', ρ', Ds', hq, ht', hs, hm'⟩
theorem fc_room (ro : Option Nat) (n : Nat) : (Fc ro).room n := fun _ h => by simp [Fence.wide] at h
theorem CodeOk.loop {x : Code} {ax : ACode} (hx : CodeOk ro P Y N x ax) : CodeOk ro P Y N (.loop x) (.loop ax) := by
  intro Q t σ h ρ a w B Ds st ht hY hB hm
  obtain ⟨I, μ, h0, hI⟩ := h
  -- by induction on the measure
  intro b k cs hro hb hr
  have key : ∀ n t' σ' ρ' Ds' a' w', μ t' σ' = n → I t' σ' → TRel (mk Ds') N (fun _ => False) ρ' t' a' → Step (fun b => σ.next ≤ b) ρ σ w ρ' σ' w' → Marks B Ds' w' →
      ∃ e a'' w'', (∃ t'' σ'' ρ'' Ds'', Q e t'' σ'' ∧ TRel (mk Ds'') N (fun _ => False) ρ'' t'' a'' ∧ Step (fun b => σ.next ≤ b) ρ σ w ρ'' σ'' w'' ∧ Marks B Ds'' w'') ∧
        ArrivesIn (Machine.fenced P (Fc ro)) P (lone (b.atR a' (.code x :: .inLoop x :: k)) cs w') b k cs e a'' w'' := by
    intro n
    induction n using Nat.strongRecOn with
    | _ n ih =>
      intro t' σ' ρ' Ds' a' w' hn hi ht' hs hm'
      obtain ⟨e, a1, w1, ⟨t1, σ1, ρ1, Ds1, hq, ht1, hs1, hm1⟩, harr⟩ := hx _ t' σ' (hI t' σ' hi) ρ' a' w' B Ds' hs.st ht' (hY.step st hs) (Nat.le_trans hB hs.size) hm' b (.inLoop x :: k) cs hro hb hr
      have hs2 : Step (fun b => σ.next ≤ b) ρ σ w ρ1 σ1 w1 := hs.trans hs1 (fun _ e => e) (fun b e => Nat.le_trans hs.next e)
      cases e with
      | normal =>
        obtain ⟨hi1, hlt⟩ := hq
        obtain ⟨e2, a2, w2, hq2, harr2⟩ := ih (μ t1 σ1) (hn ▸ hlt) t1 σ1 ρ1 Ds1 a1 w1 rfl hi1 ht1 hs2 hm1
        exact ⟨e2, a2, w2, hq2, .of_steps (StepsIn.trans harr (.one (fenced_calm hb hr rfl) stepR_inLoop)) harr2⟩
      | exit id => exact ⟨_, a1, w1, ⟨t1, σ1, ρ1, Ds1, hq, ht1, hs2, hm1⟩, .pass (x := .inLoop x) rfl (fun _ _ => .inl (by simp)) harr⟩
      | goto l => exact ⟨_, a1, w1, ⟨t1, σ1, ρ1, Ds1, hq, ht1, hs2, hm1⟩, .pass (x := .inLoop x) rfl (fun _ _ => .inl (by simp)) harr⟩
      | ret => exact ⟨_, a1, w1, ⟨t1, σ1, ρ1, Ds1, hq, ht1, hs2, hm1⟩, .pass (x := .inLoop x) rfl (fun _ _ => .inl (by simp)) harr⟩
      | panic ch => exact ⟨_, a1, w1, ⟨t1, σ1, ρ1, Ds1, hq, ht1, hs2, hm1⟩, .pass (x := .inLoop x) rfl (fun _ _ => .inl (by simp)) harr⟩
      | outgrown => exact ⟨_, a1, w1, ⟨t1, σ1, ρ1, Ds1, hq, ht1, hs2, hm1⟩, .pass (x := .inLoop x) rfl (fun _ _ => .inl (by simp)) harr⟩
  obtain ⟨e, a', w', hq, harr⟩ := key _ t σ ρ Ds a w rfl h0 ht (.refl st) hm
  exact ⟨e, a', w', hq, .of_steps (.one (fenced_calm hb hr rfl) stepR_loop) harr⟩

theorem AStep.mono {id : Nat} {op : AOp} {k k' : AV → Mem → Prop} (h : AStep P Y id op t σ k) (hk : ∀ v σ, k v σ → k' v σ) : AStep P Y id op t σ k' := by
  cases op
  case call f xs =>
    simp only [AStep] at h ⊢
    split at h
    · exact h.mono hk
    · exact h.elim
  case callv x xs =>
    simp only [AStep] at h ⊢
    split at h
    · exact h.mono hk
    · split at h
      · obtain ⟨K, h1, h2⟩ := h
        exact ⟨K, h1, fun v σ' h3 => hk _ _ (h2 _ _ h3)⟩
      · exact h.elim
    · exact h.elim
  all_goals
    simp only [AStep] at h ⊢
    split at h
    · rename_i he
      rw [if_pos he]
      split at h
      · exact hk _ _ h
      · exact h.elim
    · rename_i he
      rw [if_neg he]
      split at h
      · exact hk _ _ h
      · exact h.elim
theorem AOps.mono {base : Nat} {K K' : Tmps → Mem → Prop} (hK : ∀ t σ, K t σ → K' t σ) : ∀ {l : List RegE} {t : Tmps} {σ : Mem}, AOps P Y base K l t σ → AOps P Y base K' l t σ
  | [], t, σ, h => hK t σ h
  | p :: l, t, σ, h => by
    simp only [AOps] at h ⊢
    split at h
    · exact AStep.mono h fun v σ' hk => ⟨hk.1, hk.2.mono hK⟩
    · exact h.mono hK
    · exact h.elim
/-- Code with no goto says the same of whatever is said of a goto. -/
theorem AW.mono {Q Q' : APost} (hQ : ∀ e t σ, (∀ l, e ≠ .goto l) → Q e t σ → Q' e t σ) : ∀ {c : ACode} {t : Tmps} {σ : Mem}, AW P Y c Q t σ → AW P Y c Q' t σ := by
  intro c
  induction c generalizing Q Q' with
  | skip => exact fun h => hQ _ _ _ (by simp) h
  | region n ops => exact fun h => AOps.mono (fun t σ h => hQ _ _ _ (by simp) h) h
  | seq x y ihx ihy =>
    intro t σ h
    refine ihx (fun e t σ he h => ?_) h
    cases e with
    | normal => exact ihy hQ h
    | _ => exact hQ _ _ _ he h
  | cond c x y ihx ihy =>
    intro t σ h
    simp only [AW] at h ⊢
    split at h
    · exact ⟨fun e => ihx hQ (h.1 e), fun e => ihy hQ (h.2 e)⟩
    · exact h.elim
  | block id x ih =>
    intro t σ h
    refine ih (fun e t σ he h => ?_) h
    cases e with
    | exit id' =>
      simp only [APost.inBlock] at h ⊢
      split
      · rename_i hi; rw [if_pos hi] at h; exact hQ _ _ _ (by simp) h
      · rename_i hi; rw [if_neg hi] at h; exact hQ _ _ _ (by simp) h
    | _ => exact hQ _ _ _ he h
  | loop x ih =>
    intro t σ h
    obtain ⟨I, μ, h0, hI⟩ := h
    refine ⟨I, μ, h0, fun t σ hi => ih (fun e t σ he h => ?_) (hI t σ hi)⟩
    cases e with
    | normal => exact h
    | _ => exact hQ _ _ _ he h
  | exit id => exact fun h => hQ _ _ _ (by simp) h
  | ret => exact fun h => hQ _ _ _ (by simp) h
  | scope x ih => exact fun h => ih hQ h
  | forget ks => exact fun h => hQ _ _ _ (by simp) h
  | range g ps assign body =>
    intro t σ h
    simp only [AW] at h ⊢
    split at h
    · exact h.mono fun _ σ' h => hQ _ _ _ (by simp) h
    · exact h.elim
  | regionX n ops p q fq fp => exact fun h => AOps.mono (fun t σ h => ⟨AOps.mono (fun t σ h => hQ _ _ _ (by simp) h) h.1, AOps.mono (fun t σ h => hQ _ _ _ (by simp) h) h.2⟩) h
  | stuck => exact fun h => h
theorem Tmps.get_keep (t : Tmps) : ∀ (ks : List Nat) (i : Nat) (v : AV), Tr.get (Tmps.keep t ks) i = some v → Tr.get t i = some v
  | [], i, v, h => by simp [Tmps.keep, Tr.get_leaf] at h
  | k :: ks, i, v, h => by
    rw [Tmps.keep, Tr.get_put] at h
    split at h
    · rename_i e; subst e; exact h
    · exact Tmps.get_keep t ks i v h
theorem TRel.keep (h : TRel ds N (fun _ => False) ρ t a) (ks : List Nat) : TRel ds N (fun _ => False) ρ (Tmps.keep t ks) a :=
  ⟨h.defers, h.size, fun i v hd hv => h.get i v hd (Tmps.get_keep t ks i v hv)⟩
theorem CodeOk.keepAfter {x : Code} {ax : ACode} (hx : CodeOk ro P Y N x ax) (ks : List Nat) : CodeOk ro P Y N x (.seq ax (.forget ks)) := by
  intro Q t σ h ρ a w B Ds st ht hY hB hm
  refine wpIn_mono (hx _ t σ h ρ a w B Ds st ht hY hB hm) ?_
  rintro e a' w' ⟨t', σ', ρ', Ds', hq, ht', hs, hm'⟩
  cases e with
  | normal => exact ⟨_, σ', ρ', Ds', hq, ht'.keep ks, hs, hm'⟩
  | _ => exact ⟨t', σ', ρ', Ds', hq, ht', hs, hm'⟩
theorem CodeOk.keepBefore {x : Code} {ax : ACode} (hx : CodeOk ro P Y N x ax) (ks : List Nat) : CodeOk ro P Y N x (.seq (.forget ks) ax) := by
  intro Q t σ h ρ a w B Ds st ht hY hB hm
  exact hx Q _ σ h ρ a w B Ds st (ht.keep ks) hY hB hm
def APost.noGoto (Q : APost) : APost
  | .goto _, _, _ => False
  | e, t, σ => Q e t σ
theorem stepR_scope {b : Frame} {k : List Item} {cs : List Frame} {c : Code} : step P (lone (b.atR a (.code (.scope c) :: k)) cs w) = .next (lone (b.atR a (.code c :: .inScope c :: k)) cs w) :=
  step_lone_go (by simp [stepG, stepG.exec, Frame.atR])
theorem stepR_inScope {b : Frame} {k : List Item} {cs : List Frame} {c : Code} : step P (lone (b.atR a (.inScope c :: k)) cs w) = .next (lone (b.atR a k) cs w) :=
  step_lone_go (by simp [stepG, stepG.exec, Frame.atR])
theorem wpIn_scope_straight {F : Fence} {n : Nat} {Q : Exit → Act → World → Prop} {c : Code} (h : c.wpIn F n P (Exit.noGoto Q) a w) : (Code.scope c).wpIn F n P Q a w := by
  intro b k cs hro hb hr
  obtain ⟨e, a₁, w₁, hq, harr⟩ := h b (.inScope c :: k) cs hro hb hr
  have s0 : StepsIn (Machine.fenced P F) P (lone (b.atR a (.code (.scope c) :: k)) cs w) (lone (b.atR a (.code c :: .inScope c :: k)) cs w) := .one (fenced_calm hb hr rfl) stepR_scope
  cases e with
  | normal => exact ⟨.normal, a₁, w₁, hq, StepsIn.trans s0 (StepsIn.trans harr (.one (fenced_calm hb hr rfl) stepR_inScope))⟩
  | exit id => exact ⟨.exit id, a₁, w₁, hq, .of_steps s0 ⟨fun k' hk => harr.1 k' (by simp [exitTo, hk]), fun hr' hk => harr.2 hr' (by simp [exitTo, hk])⟩⟩
  | goto l => exact hq.elim
  | ret => exact ⟨_, a₁, w₁, hq, .of_steps s0 harr⟩
  | panic ch => exact ⟨_, a₁, w₁, hq, .of_steps s0 harr⟩
  | outgrown => exact ⟨_, a₁, w₁, hq, .of_steps s0 harr⟩
theorem CodeOk.scope {x : Code} {ax : ACode} (hx : CodeOk ro P Y N x ax) : CodeOk ro P Y N (.scope x) (.scope ax) := by
  intro Q t σ h ρ a w B Ds st ht hY hB hm
  have h' : AW P Y ax (APost.noGoto Q) t σ := AW.mono (fun e t σ he hq => by cases e <;> first | exact hq | exact absurd rfl (he _)) (show AW P Y ax Q t σ from h)
  refine wpIn_scope_straight (wpIn_mono (hx _ t σ h' ρ a w B Ds st ht hY hB hm) ?_)
  rintro e a' w' ⟨t', σ', ρ', Ds', hq, ht', hs, hm'⟩
  cases e with
  | goto l => exact hq.elim
  | _ => exact ⟨t', σ', ρ', Ds', hq, ht', hs, hm'⟩
theorem CodeOk.label (l : Nat) : CodeOk ro P Y N (.label l) .skip := fun Q t σ h ρ a w B Ds st ht _ _ hm => wpIn_label ⟨t, σ, ρ, Ds, h, ht, .refl st, hm⟩

theorem free_start (st : St ρ σ w) {n i : Nat} (hi : i < n) : Free σ.next ρ (σ.bump n) i := by
  refine ⟨?_, ?_, by simp only [Mem.next_bump]; omega⟩
  · cases e : ρ (σ.next + i) with
    | none => rfl
    | some p => have := st.dom _ p e; omega
  · rw [Mem.get_bump]
    cases e : σ.get (σ.next + i) with
    | none => rfl
    | some k => have := st.live _ k e; omega

/-- A region in the text's order. -/
theorem CodeOk.region {id : Nat} {ops : Array Oper} {l : List RegE} (hc : ∀ p ∈ l, CompOper P N ops p.i p.o) (hl : l.map (·.i) = List.range ops.size) : CodeOk ro P Y N (.region id ops false) (.region ops.size l) := by
  intro Q t σ h ρ a w B Ds st ht hY hB hm
  refine wpIn_region ?_
  rw [← hl]
  refine wpOps_seq (N := N) (ρ0 := ρ) (σ0 := σ) (w0 := w) (base := σ.next) (K := fun t σ => Q .normal t σ) (fun t' σ' ρ' a' w' hk ht' hs => ⟨t', σ', ρ', Ds, hk, ht', hs, hm.step st hs⟩) st hY l t (σ.bump ops.size) ρ a w hc ?_ ?_ (Nat.le_add_right _ _) h ht (.bump st _)
  · rw [hl]; exact List.nodup_range
  · intro p hp
    refine free_start st ?_
    have : p.i ∈ l.map (·.i) := List.mem_map_of_mem hp
    rw [hl] at this
    exact List.mem_range.1 this
end
end Go.Vit
