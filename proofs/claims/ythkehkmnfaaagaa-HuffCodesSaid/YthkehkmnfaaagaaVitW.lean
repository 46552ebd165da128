/- What code comes to, condition by condition: operations, regions, code; and how a proof goes through it. -/
import Derived.Test.YthkehkmnfaaagaaVitV
set_option linter.unusedVariables false
set_option linter.unusedSimpArgs false
namespace Go.Vit

/-- That a read behind a step reads what it read ahead of it. -/
def floatW (t : Tmps) (σ σ' : Mem) (op : AOp) : Prop :=
  match op with
  | .load _ x | .lenMap x | .lookup _ _ _ x _ | .conv .bytesStr x => match x.ev t with
    | some (.ptr b _) => σ'.get b = σ.get b
    | some (.slice b _ _ _) => σ'.get b = σ.get b
    | some (.map b) => σ'.get b = σ.get b
    | _ => True
  | op => op.reads = false
def floatsW (t : Tmps) (σ σ' : Mem) : List (Nat × AOp) → Prop
  | [] => True
  | q :: r => floatW t σ σ' q.2 ∧ floatsW t σ σ' r
theorem cells_congr {σ σ' : Mem} {b : Nat} (h : σ'.get b = σ.get b) (o n : Nat) : σ'.cells b o n = σ.cells b o n := by unfold Mem.cells; rw [h]
theorem floatW_spec {id : Nat} {t : Tmps} {σ σ' : Mem} {op : AOp} (h : floatW t σ σ' op) : nop id op t σ' = nop id op t σ := by
  unfold floatW at h
  split at h
  · rename_i k x
    simp only [nop]
    cases hx : x.ev t with
    | none => rfl
    | some v =>
      rw [hx] at h
      simp only [Option.bind_some]
      cases v <;> first | rfl | skip
      cases k <;> simp only [cells_congr h]
  · rename_i x
    simp only [nop]
    cases hx : x.ev t with
    | none => rfl
    | some v =>
      rw [hx] at h
      simp only [Option.bind_some]
      cases v <;> first | rfl | skip
      simp only [show σ'.get _ = _ from h]
  · rename_i x _
    simp only [nop]
    cases hx : x.ev t with
    | none => rfl
    | some v =>
      rw [hx] at h
      simp only [Option.bind_some]
      cases v <;> first | rfl | skip
      simp only [show σ'.get _ = _ from h]
  · rename_i x
    simp only [nop]
    cases hx : x.ev t with
    | none => rfl
    | some v =>
      rw [hx] at h
      simp only [Option.bind_some]
      cases v <;> first | rfl | skip
      simp only [cells_congr h]
  · rename_i h1 h2 h3 h4
    cases op <;> first | rfl | (simp [AOp.reads] at h; done) | skip
    rename_i c x
    cases c <;> first | rfl | simp [AOp.reads] at h
theorem floatsW_spec {base : Nat} {t : Tmps} {σ σ' : Mem} : ∀ {l : List (Nat × AOp)}, floatsW t σ σ' l → Floats base t σ σ' l
  | [], _ => trivial
  | _ :: _, h => ⟨floatW_spec h.1, floatsW_spec h.2⟩

theorem Tr.putF_same {α : Type} {x : α} : ∀ (f : Nat) (t : Tr α) (n : Nat), n < f → t.get n = some x → Tr.putF f t n (some x) = t
  | 0, _, _, h, _ => absurd h (Nat.not_lt_zero _)
  | f + 1, .leaf, n, _, h => by simp [Tr.get_leaf] at h
  | f + 1, .node v l r, 0, _, h => by simp only [Tr.get] at h; subst h; rfl
  | f + 1, .node v l r, k + 1, hlt, h => by
    rw [Tr.get_succ] at h
    rw [Tr.putF_succ]
    simp only [Tr.val, Tr.lt, Tr.rt] at h ⊢
    split
    · rename_i hk; rw [if_pos hk] at h; rw [Tr.putF_same f l _ (by omega) h]
    · rename_i hk; rw [if_neg hk] at h; rw [Tr.putF_same f r _ (by omega) h]
theorem Tr.put_same {α : Type} {x : α} {t : Tr α} {n : Nat} (h : t.get n = some x) : t.put n (some x) = t := Tr.putF_same _ _ _ (Nat.lt_succ_self n) h

section
variable {P : Program} {t : Tmps} {σ : Mem}
/-- The results. -/
def resW (t : Tmps) (σ : Mem) : List ARes → (List AV → Prop) → Prop
  | [], k => k []
  | .tmp i :: l, k => optW (Tr.get t i) fun v => resW t σ l fun vs => k (v :: vs)
  | .cell i q :: l, k => optW (Tr.get t i) fun v => match v with
    | .ptr b o => match q with
      | none => optW (σ.cell b o) fun a => resW t σ l fun vs => k (a :: vs)
      | some n => optW (σ.cells b o n) fun c => resW t σ l fun vs => k (.agg c :: vs)
    | _ => False
theorem resW_spec : ∀ {l : List ARes} {k : List AV → Prop}, resW t σ l k → ∃ r, evr t σ l = some r ∧ k r
  | [], k, h => ⟨[], rfl, h⟩
  | .tmp i :: l, k, h => by
    obtain ⟨v, hv, h⟩ := optW_spec h
    obtain ⟨r, hr, h⟩ := resW_spec h
    exact ⟨v :: r, by simp [evr, ARes.ev, hv, hr], h⟩
  | .cell i q :: l, k, h => by
    obtain ⟨v, hv, h⟩ := optW_spec h
    cases v <;> first | exact h.elim | skip
    cases q with
    | none =>
      obtain ⟨a, ha, h⟩ := optW_spec h
      obtain ⟨r, hr, h⟩ := resW_spec h
      exact ⟨a :: r, by simp [evr, ARes.ev, hv, cell_cells ha, hr], h⟩
    | some n =>
      obtain ⟨c, hc, h⟩ := optW_spec h
      obtain ⟨r, hr, h⟩ := resW_spec h
      exact ⟨.agg c :: r, by simp [evr, ARes.ev, hv, hc, hr], h⟩
/-- What holds at a function's end. -/
def endW (res : List ARes) (Q : AV → Mem → Prop) : APost
  | .normal, t, σ => resW t σ res fun l => Q (packA l) σ
  | .ret, t, σ => resW t σ res fun l => Q (packA l) σ
  | _, _, _ => False
theorem endW_spec {res : List ARes} {Q : AV → Mem → Prop} {e : Exit} (h : endW res Q e t σ) : retPost res Q e t σ := by
  cases e with
  | normal =>
    obtain ⟨r, hr, h⟩ := resW_spec (show resW t σ res _ from h)
    simp only [retPost, hr]; exact h
  | ret =>
    obtain ⟨r, hr, h⟩ := resW_spec (show resW t σ res _ from h)
    simp only [retPost, hr]; exact h
  | _ => exact h.elim

/-! ### Rules -/
end
/-- A loop, by an invariant over ghosts and a measure. -/
theorem AW.loop {P : Program} {Y : YEnv} {t : Tmps} {σ : Mem} {ι : Type} {x : ACode} {Q : APost} (I : ι → Tmps → Mem → Prop) (μ : ι → Nat) (i0 : ι) (h0 : I i0 t σ)
    (h : ∀ i t σ, I i t σ → AW P Y x (APost.then (fun t' σ' => ∃ j, I j t' σ' ∧ μ j < μ i) Q) t σ) : AW P Y (.loop x) Q t σ := by
  have hl : ∀ t σ, (∃ i, I i t σ) → ∃ m, (∃ i, I i t σ ∧ μ i = m) ∧ ∀ k, (∃ i, I i t σ ∧ μ i = k) → m ≤ k := fun t σ ⟨i, hi⟩ => least ⟨μ i, i, hi, rfl⟩
  refine ⟨fun t σ => ∃ i, I i t σ, fun t σ => @dite Nat (∃ i, I i t σ) (Classical.propDecidable _) (fun h => Classical.choose (hl t σ h)) (fun _ => 0), ⟨i0, h0⟩, fun t1 σ1 hi => ?_⟩
  obtain ⟨⟨i, hI, hm⟩, hmin⟩ := Classical.choose_spec (hl t1 σ1 hi)
  refine AW.mono (fun e t2 σ2 _ hq => ?_) (h i t1 σ1 hI)
  cases e with
  | normal =>
    obtain ⟨j, hj, hlt⟩ := hq
    refine ⟨⟨j, hj⟩, ?_⟩
    simp only
    rw [dif_pos ⟨j, hj⟩, dif_pos hi, ← hm]
    have := (Classical.choose_spec (hl t2 σ2 ⟨j, hj⟩)).2 _ ⟨j, hj, rfl⟩
    omega
  | _ => exact hq
end Go.Vit
