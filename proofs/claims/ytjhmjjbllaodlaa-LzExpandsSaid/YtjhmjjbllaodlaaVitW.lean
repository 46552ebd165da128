/- What code comes to, condition by condition: operations, regions, code; and how a proof goes through it. -/
import Derived.Test.YtjhmjjbllaodlaaVitV
set_option linter.unusedVariables false
set_option linter.unusedSimpArgs false
namespace Go.Vit

/-- That a read behind a step reads what it read ahead of it. -/
def floatW (t : Tmps) (σ σ' : Mem) (op : AOp) : Prop :=
  match op with
  | .load _ x | .lenMap x | .lookup _ _ _ x _ | .conv .bytesStr x => match x.ev t with
    | some (.ptr b _) => σ'.get b = σ.get b
    | some (.slice b _ _ _) => σ'.get b = σ.get b
    | some (.map b) => σ'.get b = σ.get b
    | _ => True
  | op => op.reads = false
def floatsW (t : Tmps) (σ σ' : Mem) : List (Nat × AOp) → Prop
  | [] => True
  | q :: r => floatW t σ σ' q.2 ∧ floatsW t σ σ' r
theorem cells_congr {σ σ' : Mem} {b : Nat} (h : σ'.get b = σ.get b) (o n : Nat) : σ'.cells b o n = σ.cells b o n := by unfold Mem.cells; rw [h]
theorem floatW_spec {id : Nat} {t : Tmps} {σ σ' : Mem} {op : AOp} (h : floatW t σ σ' op) : nop id op t σ' = nop id op t σ := by
  unfold floatW at h
  split at h
  · rename_i k x
    simp only [nop]
    cases hx : x.ev t with
    | none => rfl
    | some v =>
      rw [hx] at h
      simp only [Option.bind_some]
      cases v <;> first | rfl | skip
      cases k <;> simp only [cells_congr h]
  · rename_i x
    simp only [nop]
    cases hx : x.ev t with
    | none => rfl
    | some v =>
      rw [hx] at h
      simp only [Option.bind_some]
      cases v <;> first | rfl | skip
      simp only [show σ'.get _ = _ from h]
  · rename_i x _
    simp only [nop]
    cases hx : x.ev t with
    | none => rfl
    | some v =>
      rw [hx] at h
      simp only [Option.bind_some]
      cases v <;> first | rfl | skip
      simp only [show σ'.get _ = _ from h]
  · rename_i x
    simp only [nop]
    cases hx : x.ev t with
    | none => rfl
    | some v =>
      rw [hx] at h
      simp only [Option.bind_some]
      cases v <;> first | rfl | skip
      simp only [cells_congr h]
  · rename_i h1 h2 h3 h4
    cases op <;> first | rfl | (simp [AOp.reads] at h; done) | skip
    rename_i c x
    cases c <;> first | rfl | simp [AOp.reads] at h
theorem floatsW_spec {base : Nat} {t : Tmps} {σ σ' : Mem} : ∀ {l : List (Nat × AOp)}, floatsW t σ σ' l → Floats base t σ σ' l
  | [], _ => trivial
  | _ :: _, h => ⟨floatW_spec h.1, floatsW_spec h.2⟩

/-- One operation; a call stands as it is. -/
def stepW (P : Program) (id : Nat) (op : AOp) (t : Tmps) (σ : Mem) (k : AV → Mem → Prop) (kc : AV → Mem → Prop) : Prop :=
  match op with
  | .call f xs => evsW xs t fun l => ACalls P f l σ kc
  | .callv x xs => evW x t fun v => match v with
    | .func f c => evsW xs t fun l => ACalls P f (l ++ c) σ kc
    | _ => False
  | op => selW op.eff (eopW id op t σ k) (nopW id op t σ (fun v => k v σ) fun v b => k v (σ.put id (some b)))
/-- A guard: where it is not known it is parted once, and known from then on. -/
def gW (t : Tmps) (g : Option (Nat × Bool)) (k0 k1 : Tmps → Prop) : Prop :=
  match g with
  | none => k1 t
  | some (d, want) => optW (Tr.get t d) fun v => match v with
    | .bool b => bW b (selW want (k1 (Tr.put t d (some (.bool true)))) (k0 (Tr.put t d (some (.bool true)))))
        (selW want (k0 (Tr.put t d (some (.bool false)))) (k1 (Tr.put t d (some (.bool false)))))
    | .tup [] => k0 t
    | _ => False
def opsW (P : Program) (base : Nat) (K : Tmps → Mem → Prop) : List RegE → Tmps → Mem → Prop
  | [], t, σ => K t σ
  | p :: rest, t, σ => gW t p.o.g (fun t => opsW P base K rest (Tmps.set t p.o.d (.tup [])) σ)
      (fun t => stepW P (base + p.i) p.o.op t σ
        (fun v σ' => floatsW t σ σ' p.fl ∧ opsW P base K rest (Tmps.set t p.o.d v) σ')
        (fun v σ' => floatsW t σ σ' p.fl ∧ AOps P base K rest (Tmps.set t p.o.d v) σ'))
/-- No fork and no loop. -/
def ACode.straight : ACode → Bool
  | .skip => true
  | .region _ _ => true
  | .forget _ => true
  | .exit _ => true
  | .ret => true
  | .seq a b => a.straight && b.straight
  | .scope a => a.straight
  | .block _ a => a.straight
  | .cond _ _ _ => false
  | .loop _ => false
  | .stuck => false
def ACode.isForget : ACode → Bool
  | .forget _ => true
  | .skip => false
  | .region _ _ => false
  | .exit _ => false
  | .ret => false
  | .seq _ _ => false
  | .scope _ => false
  | .block _ _ => false
  | .cond _ _ _ => false
  | .loop _ => false
  | .stuck => false
/-- Code; behind a semicolon whose first half forks, and at a loop, it stands as it is. -/
def codeW (P : Program) : ACode → APost → Tmps → Mem → Prop
  | .skip, Q, t, σ => Q .normal t σ
  | .region n ops, Q, t, σ => opsW P σ.next (fun t σ => Q .normal t σ) ops t (σ.bump n)
  | .seq x y, Q, t, σ => selW (x.straight || y.isForget) (codeW P x (APost.then (fun t σ => codeW P y Q t σ) Q) t σ)
      (codeW P x (APost.then (fun t σ => AW P y Q t σ) Q) t σ)
  | .cond c x y, Q, t, σ => evW c t fun v => match v with
    | .bool b => bW b (codeW P x Q t σ) (codeW P y Q t σ)
    | _ => False
  | .block id x, Q, t, σ => codeW P x (APost.inBlock id Q) t σ
  | .loop x, Q, t, σ => AW P (.loop x) Q t σ
  | .exit id, Q, t, σ => Q (.exit id) t σ
  | .ret, Q, t, σ => Q .ret t σ
  | .scope x, Q, t, σ => codeW P x Q t σ
  | .forget ks, Q, t, σ => Q .normal (Tmps.keep t ks) σ
  | .stuck, _, _, _ => False

theorem Tr.putF_same {α : Type} {x : α} : ∀ (f : Nat) (t : Tr α) (n : Nat), n < f → t.get n = some x → Tr.putF f t n (some x) = t
  | 0, _, _, h, _ => absurd h (Nat.not_lt_zero _)
  | f + 1, .leaf, n, _, h => by simp [Tr.get_leaf] at h
  | f + 1, .node v l r, 0, _, h => by simp only [Tr.get] at h; subst h; rfl
  | f + 1, .node v l r, k + 1, hlt, h => by
    rw [Tr.get_succ] at h
    rw [Tr.putF_succ]
    simp only [Tr.val, Tr.lt, Tr.rt] at h ⊢
    split
    · rename_i hk; rw [if_pos hk] at h; rw [Tr.putF_same f l _ (by omega) h]
    · rename_i hk; rw [if_neg hk] at h; rw [Tr.putF_same f r _ (by omega) h]
theorem Tr.put_same {α : Type} {x : α} {t : Tr α} {n : Nat} (h : t.get n = some x) : t.put n (some x) = t := Tr.putF_same _ _ _ (Nat.lt_succ_self n) h

section
variable {P : Program} {t : Tmps} {σ : Mem}
theorem step_of {id : Nat} {op : AOp} {k k' : AV → Mem → Prop} (hk : ∀ v σ, k v σ → k' v σ) (h : selW op.eff (eopW id op t σ k) (nopW id op t σ (fun v => k v σ) fun v b => k v (σ.put id (some b)))) :
    if op.eff then (match eop id op t σ with
      | some r => k' r.1 r.2
      | none => False)
    else match nop id op t σ with
      | some r => k' r.1 (σ.add id r.2)
      | none => False := by
  cases he : op.eff with
  | true =>
    rw [he] at h
    obtain ⟨r, hr, h⟩ := eopW_spec (show eopW id op t σ k from h)
    rw [if_pos rfl, hr]
    exact hk _ _ h
  | false =>
    rw [he] at h
    obtain ⟨⟨v, ob⟩, hr, h⟩ := nopW_spec (show nopW id op t σ (fun v => k v σ) (fun v b => k v (σ.put id (some b))) from h)
    rw [if_neg (by simp), hr]
    cases ob with
    | none => exact hk _ _ h
    | some b => exact hk _ _ h
theorem stepW_other {id : Nat} {op : AOp} {k kc k' : AV → Mem → Prop} (hno : op.isCall = false) (hk : ∀ v σ, k v σ → k' v σ) (h : stepW P id op t σ k kc) : AStep P id op t σ k' := by
  have e1 : stepW P id op t σ k kc = selW op.eff (eopW id op t σ k) (nopW id op t σ (fun v => k v σ) fun v b => k v (σ.put id (some b))) := by
    cases op <;> first | rfl | cases hno
  have e2 : AStep P id op t σ k' = (if op.eff then (match eop id op t σ with
      | some r => k' r.1 r.2
      | none => False)
    else match nop id op t σ with
      | some r => k' r.1 (σ.add id r.2)
      | none => False) := by
    cases op <;> first | rfl | cases hno
  rw [e1] at h
  rw [e2]
  exact step_of hk h
theorem stepW_spec {id : Nat} {op : AOp} {k kc : AV → Mem → Prop} {k' : AV → Mem → Prop} (hk : ∀ v σ, k v σ → k' v σ) (hkc : ∀ v σ, kc v σ → k' v σ) (h : stepW P id op t σ k kc) : AStep P id op t σ k' := by
  cases op
  case call f xs =>
    obtain ⟨l, hl, h⟩ := evsW_spec h
    simp only [AStep, hl]
    exact h.mono hkc
  case callv x xs =>
    obtain ⟨v, hv, h⟩ := evW_spec h
    cases v with
    | func f c =>
      obtain ⟨l, hl, h⟩ := evsW_spec h
      simp only [AStep, hv, hl]
      exact h.mono hkc
    | _ => exact h.elim
  all_goals exact stepW_other rfl hk h
theorem opsW_spec {base : Nat} {K : Tmps → Mem → Prop} : ∀ {l : List RegE} {t : Tmps} {σ : Mem}, opsW P base K l t σ → AOps P base K l t σ
  | [], t, σ, h => h
  | p :: l, t, σ, h => by
    simp only [opsW] at h
    simp only [AOps]
    have step : stepW P (base + p.i) p.o.op t σ
        (fun v σ' => floatsW t σ σ' p.fl ∧ opsW P base K l (Tmps.set t p.o.d v) σ')
        (fun v σ' => floatsW t σ σ' p.fl ∧ AOps P base K l (Tmps.set t p.o.d v) σ') → AStep P (base + p.i) p.o.op t σ fun v σ' => Floats base t σ σ' p.fl ∧ AOps P base K l (Tmps.set t p.o.d v) σ' :=
      stepW_spec (fun v σ' h => ⟨floatsW_spec h.1, opsW_spec h.2⟩) (fun v σ' h => ⟨floatsW_spec h.1, h.2⟩)
    unfold gW at h
    unfold gval
    have same : ∀ {d : Nat} {b : Bool}, Tr.get t d = some (.bool b) → Tr.put t d (some (.bool b)) = t := fun h => Tr.put_same h
    split at h
    · rename_i hg; rw [hg]; exact step h
    · rename_i d want hg
      rw [hg]
      simp only
      obtain ⟨v, hb, h⟩ := optW_spec h
      rw [hb]
      split at h
      · rename_i b
        simp only
        cases b <;> cases want
        · have h := h.2 rfl; simp only [selW] at h; rw [same hb] at h; exact step h
        · have h := h.2 rfl; simp only [selW] at h; rw [same hb] at h; exact opsW_spec h
        · have h := h.1 rfl; simp only [selW] at h; rw [same hb] at h; exact opsW_spec h
        · have h := h.1 rfl; simp only [selW] at h; rw [same hb] at h; exact step h
      · exact opsW_spec h
      · exact h.elim
theorem codeW_spec : ∀ {c : ACode} {Q : APost} {t : Tmps} {σ : Mem}, codeW P c Q t σ → AW P c Q t σ := by
  intro c
  induction c with
  | skip => exact fun h => h
  | region n ops => exact fun h => opsW_spec h
  | seq x y ihx ihy =>
    intro Q t σ h
    simp only [codeW] at h
    simp only [AW]
    unfold selW at h
    split at h
    · refine AW.mono (fun e t σ _ hq => ?_) (ihx h)
      cases e with
      | normal => exact ihy hq
      | _ => exact hq
    · exact ihx h
  | cond c x y ihx ihy =>
    intro Q t σ h
    obtain ⟨v, hv, h⟩ := evW_spec h
    simp only [AW, hv]
    cases v with
    | bool b => exact ⟨fun e => ihx (h.1 e), fun e => ihy (h.2 e)⟩
    | _ => exact h.elim
  | block id x ih => exact fun h => ih h
  | loop x ih => exact fun h => h
  | exit id => exact fun h => h
  | ret => exact fun h => h
  | scope x ih => exact fun h => ih h
  | forget ks => exact fun h => h
  | stuck => exact fun h => h

/-- The results. -/
def resW (t : Tmps) (σ : Mem) : List ARes → (List AV → Prop) → Prop
  | [], k => k []
  | .tmp i :: l, k => optW (Tr.get t i) fun v => resW t σ l fun vs => k (v :: vs)
  | .cell i q :: l, k => optW (Tr.get t i) fun v => match v with
    | .ptr b o => match q with
      | none => optW (σ.cell b o) fun a => resW t σ l fun vs => k (a :: vs)
      | some n => optW (σ.cells b o n) fun c => resW t σ l fun vs => k (.agg c :: vs)
    | _ => False
theorem resW_spec : ∀ {l : List ARes} {k : List AV → Prop}, resW t σ l k → ∃ r, evr t σ l = some r ∧ k r
  | [], k, h => ⟨[], rfl, h⟩
  | .tmp i :: l, k, h => by
    obtain ⟨v, hv, h⟩ := optW_spec h
    obtain ⟨r, hr, h⟩ := resW_spec h
    exact ⟨v :: r, by simp [evr, ARes.ev, hv, hr], h⟩
  | .cell i q :: l, k, h => by
    obtain ⟨v, hv, h⟩ := optW_spec h
    cases v <;> first | exact h.elim | skip
    cases q with
    | none =>
      obtain ⟨a, ha, h⟩ := optW_spec h
      obtain ⟨r, hr, h⟩ := resW_spec h
      exact ⟨a :: r, by simp [evr, ARes.ev, hv, cell_cells ha, hr], h⟩
    | some n =>
      obtain ⟨c, hc, h⟩ := optW_spec h
      obtain ⟨r, hr, h⟩ := resW_spec h
      exact ⟨.agg c :: r, by simp [evr, ARes.ev, hv, hc, hr], h⟩
/-- What holds at a function's end. -/
def endW (res : List ARes) (Q : AV → Mem → Prop) : APost
  | .normal, t, σ => resW t σ res fun l => Q (packA l) σ
  | .ret, t, σ => resW t σ res fun l => Q (packA l) σ
  | _, _, _ => False
theorem endW_spec {res : List ARes} {Q : AV → Mem → Prop} {e : Exit} (h : endW res Q e t σ) : retPost res Q e t σ := by
  cases e with
  | normal =>
    obtain ⟨r, hr, h⟩ := resW_spec (show resW t σ res _ from h)
    simp only [retPost, hr]; exact h
  | ret =>
    obtain ⟨r, hr, h⟩ := resW_spec (show resW t σ res _ from h)
    simp only [retPost, hr]; exact h
  | _ => exact h.elim

/-! ### Rules -/
theorem ACalls.of_codeW {f : Nat} {af : AFunc} {args : List AV} {Q : AV → Mem → Prop} {ks : List (Option (List Nat))} (hm : P.follows .mixedOrders = true) (hf : compFuncA P f ks = some af) (hlen : args.length ≤ af.N)
    (h : AW P af.body (endW af.res Q) (argT args 0 .leaf) σ) : ACalls P f args σ Q :=
  .of_funcA hm hf hlen (AW.mono (fun _ _ _ _ h => endW_spec h) h)
/-- A loop, by an invariant over ghosts and a measure. -/
theorem AW.loop {ι : Type} {x : ACode} {Q : APost} (I : ι → Tmps → Mem → Prop) (μ : ι → Nat) (i0 : ι) (h0 : I i0 t σ)
    (h : ∀ i t σ, I i t σ → AW P x (APost.then (fun t' σ' => ∃ j, I j t' σ' ∧ μ j < μ i) Q) t σ) : AW P (.loop x) Q t σ := by
  have hl : ∀ t σ, (∃ i, I i t σ) → ∃ m, (∃ i, I i t σ ∧ μ i = m) ∧ ∀ k, (∃ i, I i t σ ∧ μ i = k) → m ≤ k := fun t σ ⟨i, hi⟩ => least ⟨μ i, i, hi, rfl⟩
  refine ⟨fun t σ => ∃ i, I i t σ, fun t σ => @dite Nat (∃ i, I i t σ) (Classical.propDecidable _) (fun h => Classical.choose (hl t σ h)) (fun _ => 0), ⟨i0, h0⟩, fun t1 σ1 hi => ?_⟩
  obtain ⟨⟨i, hI, hm⟩, hmin⟩ := Classical.choose_spec (hl t1 σ1 hi)
  refine AW.mono (fun e t2 σ2 _ hq => ?_) (h i t1 σ1 hI)
  cases e with
  | normal =>
    obtain ⟨j, hj, hlt⟩ := hq
    refine ⟨⟨j, hj⟩, ?_⟩
    simp only
    rw [dif_pos ⟨j, hj⟩, dif_pos hi, ← hm]
    have := (Classical.choose_spec (hl t2 σ2 ⟨j, hj⟩)).2 _ ⟨j, hj, rfl⟩
    omega
  | _ => exact hq
end
end Go.Vit
