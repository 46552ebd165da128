/- The library. -/
import Derived.Test.YtgdaiahnceaieaaVitU
import Derived.IntWalk
import Derived.DataReads
import Derived.ChangeArms
import Derived.OpenShut
import Derived.Carry
import Derived.Below
import GoSem.ClaimChange
import GoSem.ClaimJoined
import Derived.ChangeOld
import Derived.ProofKit
import Derived.WalkKit
import Derived.ChangeShapes
import Derived.SizedLaws
set_option linter.unusedVariables false
set_option linter.unusedSimpArgs false

section
namespace Go.Vit

def optW {α : Type} (o : Option α) (k : α → Prop) : Prop :=
  match o with
  | some a => k a
  | none => False
theorem optW_spec {α : Type} {o : Option α} {k : α → Prop} (h : optW o k) : ∃ a, o = some a ∧ k a := by
  cases o with
  | none => exact h.elim
  | some a => exact ⟨a, rfl, h⟩
def evW (x : AOpd) (t : Tmps) (k : AV → Prop) : Prop :=
  match x with
  | .tmp i => optW (Tr.get t i) k
  | .const v => k v
  | .glob g => k (.ptr g 0)
def evsW : List AOpd → Tmps → (List AV → Prop) → Prop
  | [], _, k => k []
  | x :: xs, t, k => evW x t fun v => evsW xs t fun vs => k (v :: vs)
def AV.okParts (v : AV) (size : Nat) : Prop :=
  match v with
  | .agg l => l.length = size ∧ l.all AV.one = true
  | .tup _ => False
  | _ => size = 1
def Mem.cell (σ : Mem) (b o : Nat) : Option AV := (σ.get b).bind fun k => k.cellsR.bind fun c => c[o]?
def bytesL (s : ByteArray) : List UInt8 := s.data.toList
def byteAt (s : ByteArray) (i : Nat) : Nat := ((bytesL s)[i]?.getD 0).toNat
theorem bytesL_length (s : ByteArray) : (bytesL s).length = s.size := Array.length_toList
theorem byteAt_get {s : ByteArray} {i : Nat} (h : i < s.size) : (bytesL s)[i]? = some (UInt8.ofNat (byteAt s i)) := by
  have hl : i < (bytesL s).length := by rw [bytesL_length]; exact h
  unfold byteAt
  rw [List.getElem?_eq_getElem hl]
  simp only [Option.getD_some, UInt8.ofNat_toNat]
theorem byteAt_lt (s : ByteArray) (i : Nat) : byteAt s i < 256 := by
  unfold byteAt
  exact UInt8.toNat_lt ((bytesL s)[i]?.getD 0)
def binSW (op : BinOp) (a b : ByteArray) (K : AV → Prop) : Prop :=
  match op with
  | .add => a.size + b.size ≤ 9223372036854775807 ∧ K (.str (a ++ b))
  | .eql => K (.bool (decide (a = b)))
  | .neq => K (.bool (decide (a ≠ b)))
  | .lss => K (.bool (Op.bytesLess (bytesL a) (bytesL b)))
  | .leq => K (.bool (Op.bytesLess (bytesL a) (bytesL b) || decide (a = b)))
  | .gtr => K (.bool (!(Op.bytesLess (bytesL a) (bytesL b) || decide (a = b))))
  | .geq => K (.bool (!Op.bytesLess (bytesL a) (bytesL b)))
  | _ => False
def scalarW (g : Nat) (a b : AV) (K : Bool → Prop) : Prop :=
  match g, a, b with
  | 0, .bool a, .bool b => K (a == b)
  | 1, .int k a, .int k' b => k = k' ∧ K (decide (a = b))
  | 2, .str a, .str b => K (decide (a = b))
  | _, _, _ => False
def flatW (l l' : List AV) : List (Nat × Nat) → (Bool → Prop) → Prop
  | [], K => K true
  | o :: os, K => optW l[o.1]? fun a => optW l'[o.1]? fun b => scalarW o.2 a b fun r => flatW l l' os fun q => K (r && q)
def eqW (e : EqK) (x y : AV) (K : Bool → Prop) : Prop :=
  match e, x, y with
  | .flat offs, .agg l, .agg l' => flatW l l' offs K
  | .bool, .bool a, .bool b => K (a == b)
  | .ptr, .nilp, .nilp => K true
  | .ptr, .nilp, .ptr _ _ => K false
  | .ptr, .ptr _ _, .nilp => K false
  | .sl, .nils, .nils => K true
  | .sl, .nils, .slice .. => K false
  | .sl, .slice .., .nils => K false
  | .map, .nilm, .nilm => K true
  | .map, .nilm, .map _ => K false
  | .map, .map _, .nilm => K false
  | .func, .nilf, .nilf => K true
  | .func, .nilf, .func _ _ => K false
  | .func, .func _ _, .nilf => K false
  | _, _, _ => False
def srcW (σ : Mem) (size : Nat) (x : AV) (K : Nat → List AV → Prop) : Prop :=
  match x with
  | .nils => K 0 []
  | .slice b o n _ => optW (σ.cells b o (n * size)) fun c => K n c
  | .str s => size = 1 ∧ K s.size (bytesOf s)
  | _ => False
def roomy (n bytes : Nat) : Prop := n * bytes ≤ 140737488355328 ∧ n ≤ 9223372036854775806
def eopW (id : Nat) (op : AOp) (t : Tmps) (σ : Mem) (K : AV → Mem → Prop) : Prop :=
  match op with
  | .store n a x => evW a t fun av => evW x t fun v => match av with
    | .ptr b o => optW (σ.get b) fun q => match q with
      | .rw c => (v.okParts n ∧ o + n ≤ c.length) ∧ K (.tup []) (σ.put b (some (.rw (setAt c o v.cells))))
      | _ => False
    | _ => False
  | .append size bytes s x => evW s t fun sv => evW x t fun xv => srcW σ size xv fun m c => c.all AV.one = true ∧ match sv with
    | .nils => (m = 0 → K .nils σ) ∧ (m ≠ 0 → roomy m bytes ∧ K (.slice id 0 m (.op size)) (σ.put id (some (.rw c))))
    | .slice b o n q => (m = 0 → K (.slice b o n q) σ) ∧ (m ≠ 0 → match q with
        | .ex k => (n + m ≤ k → optW (σ.get b) fun q => match q with
            | .rw l => o + (n + m) * size ≤ l.length ∧ K (.slice b o (n + m) (.ex k)) (σ.put b (some (.rw (setAt l (o + n * size) c))))
            | _ => False) ∧
            (k < n + m → roomy (n + m) bytes ∧ optW (σ.cells b o (n * size)) fun l =>
              l.all AV.one = true ∧ K (.slice id 0 (n + m) (.op size)) (σ.put id (some (.rw (l ++ c)))))
        | .op s => optW (σ.get b) fun q => match q with
          | .rw l => (s = size ∧ o = 0 ∧ n * size ≤ l.length) ∧ roomy (n + m) bytes ∧ l.all AV.one = true ∧
            K (.slice id 0 (n + m) (.op size)) ((σ.put b none).put id (some (.rw (l.take (n * size) ++ c))))
          | _ => False)
    | _ => False
  | .copy size d s => evW d t fun dv => evW s t fun sv => match dv with
    | .nils => (match sv with
      | .nils => True
      | .slice .. => True
      | .str _ => size = 1
      | _ => False) ∧ K (.int .i64 0) σ
    | .slice b o n _ => match sv with
      | .nils => K (.int .i64 0) σ
      | .slice b' o' m _ => optW (σ.cells b' o' (Nat.min m n * size)) fun l => (Nat.min m n = 0 → K (.int .i64 0) σ) ∧
          (Nat.min m n ≠ 0 → optW (σ.get b) fun q => match q with
            | .rw c => (o + l.length ≤ c.length ∧ l.all AV.one = true) ∧ K (.int .i64 (Nat.min m n : Nat)) (σ.put b (some (.rw (setAt c o l))))
            | _ => False)
      | .str s => size = 1 ∧ (Nat.min s.size n = 0 → K (.int .i64 0) σ) ∧
          (Nat.min s.size n ≠ 0 → optW (σ.get b) fun q => match q with
            | .rw c => o + Nat.min s.size n ≤ c.length ∧ K (.int .i64 (Nat.min s.size n : Nat)) (σ.put b (some (.rw (setAt c o ((bytesOf s).take (Nat.min s.size n))))))
            | _ => False)
      | _ => False
    | _ => False
  | op => ∃ v σ', eop id op t σ = some (v, σ') ∧ K v σ'

/-! ### They say the same -/
theorem evW_spec {x : AOpd} {t : Tmps} {k : AV → Prop} (h : evW x t k) : ∃ v, x.ev t = some v ∧ k v := by
  cases x with
  | tmp i =>
    exact optW_spec h
  | const v => exact ⟨v, rfl, h⟩
  | glob g => exact ⟨_, rfl, h⟩
theorem evsW_spec {t : Tmps} : ∀ {xs : List AOpd} {k : List AV → Prop}, evsW xs t k → ∃ l, evs t xs = some l ∧ k l
  | [], k, h => ⟨[], rfl, h⟩
  | x :: xs, k, h => by
    obtain ⟨v, hv, h⟩ := evW_spec h
    obtain ⟨l, hl, h⟩ := evsW_spec h
    exact ⟨v :: l, by simp [evs, hv, hl], h⟩
theorem okParts_spec {v : AV} {size : Nat} (h : v.okParts size) : v.cells.length = size ∧ v.cells.all AV.one = true := by
  cases v <;> simp_all [AV.okParts, AV.cells, AV.one]
theorem cell_cells {σ : Mem} {b o : Nat} {a : AV} (h : σ.cell b o = some a) : σ.cells b o 1 = some [a] := by
  simp only [Mem.cell, Option.bind_eq_some_iff] at h
  obtain ⟨k, hk, c, hc, ha⟩ := h
  have hlt : o < c.length := (List.getElem?_eq_some_iff.1 ha).1
  simp only [Mem.cells, hk, hc, Option.bind_some]
  rw [if_pos (by omega)]
  congr 1
  have hd : c.drop o = a :: c.drop (o + 1) := by
    rw [List.drop_eq_getElem_cons hlt]
    rw [List.getElem?_eq_some_iff] at ha
    obtain ⟨_, ha⟩ := ha
    rw [ha]
  rw [hd]; simp
theorem beq_bytes (a b : ByteArray) : (a.data.toList == b.data.toList) = decide (a = b) := by
  rw [Bool.eq_iff_iff]
  simp only [beq_iff_eq, decide_eq_true_eq]
  constructor
  · intro h; cases a; cases b; simp at h; subst h; rfl
  · intro h; rw [h]
theorem binSW_spec {op : BinOp} {a b : ByteArray} {K : AV → Prop} (h : binSW op a b K) : ∃ v, binStr op a b = some v ∧ K v := by
  cases op <;> simp only [binSW, bytesL] at h <;> simp only [binStr, beq_bytes] <;> first | exact h.elim | skip
  case add => rw [if_pos (by omega)]; exact ⟨_, rfl, h.2⟩
  case neq => exact ⟨_, rfl, by rw [show (!decide (a = b)) = decide (a ≠ b) from by by_cases e : a = b <;> simp [e]]; exact h⟩
  all_goals exact ⟨_, rfl, h⟩
theorem scalarW_spec {g : Nat} {a b : AV} {K : Bool → Prop} (h : scalarW g a b K) : ∃ r, eqScalar g a b = some r ∧ K r := by
  unfold scalarW at h
  split at h
  · exact ⟨_, rfl, h⟩
  · obtain ⟨rfl, h⟩ := h
    refine ⟨_, by simp only [eqScalar, if_true]; rfl, h⟩
  · exact ⟨_, by simp only [eqScalar, beq_bytes], h⟩
  · exact h.elim
theorem flatW_spec {l l' : List AV} : ∀ {os : List (Nat × Nat)} {K : Bool → Prop}, flatW l l' os K → ∃ r, eqFlat l l' os = some r ∧ K r
  | [], K, h => ⟨true, rfl, h⟩
  | o :: os, K, h => by
    obtain ⟨a, ha, h⟩ := optW_spec h
    obtain ⟨b, hb, h⟩ := optW_spec h
    obtain ⟨r, hr, h⟩ := scalarW_spec h
    obtain ⟨q, hq, h⟩ := flatW_spec h
    refine ⟨r && q, ?_, h⟩
    simp only [eqFlat, ha, hb, Option.bind_some, hr]
    cases r <;> simp [hq]
theorem eqW_spec {e : EqK} {x y : AV} {K : Bool → Prop} (h : eqW e x y K) : ∃ r, eqVal e x y = some r ∧ K r := by
  unfold eqW at h
  split at h <;> first | exact flatW_spec h | exact ⟨_, rfl, h⟩ | exact h.elim
theorem okEv {x : AOpd} {t : Tmps} {k : AV → Prop} {β : Type} {f : AV → Option β} {R : β → Prop} (h : evW x t k) (hf : ∀ v, k v → ∃ r, f v = some r ∧ R r) : ∃ r, (x.ev t).bind f = some r ∧ R r := by
  obtain ⟨v, hv, h⟩ := evW_spec h
  rw [hv]; exact hf v h
theorem okEvs {xs : List AOpd} {t : Tmps} {k : List AV → Prop} {β : Type} {f : List AV → Option β} {R : β → Prop} (h : evsW xs t k) (hf : ∀ v, k v → ∃ r, f v = some r ∧ R r) : ∃ r, (evs t xs).bind f = some r ∧ R r := by
  obtain ⟨v, hv, h⟩ := evsW_spec h
  rw [hv]; exact hf v h
theorem okBind {α β : Type} {o : Option α} {f : α → Option β} {R : β → Prop} {k : α → Prop} (h : ∃ a, o = some a ∧ k a) (hf : ∀ v, k v → ∃ r, f v = some r ∧ R r) : ∃ r, o.bind f = some r ∧ R r := by
  obtain ⟨v, hv, h⟩ := h
  rw [hv]; exact hf v h

def onW (K : AV → Prop) (B : AV → Blk → Prop) (v : AV) : Option Blk → Prop
  | none => K v
  | some b => B v b
theorem srcW_spec {σ : Mem} {size : Nat} {x : AV} {K : Nat → List AV → Prop} (h : srcW σ size x K) : ∃ r, srcCells σ size x = some r ∧ K r.1 r.2 := by
  unfold srcW at h
  split at h
  · exact ⟨(0, []), rfl, h⟩
  · obtain ⟨c, hc, h⟩ := optW_spec h
    exact ⟨(_, c), by simp [srcCells, hc], h⟩
  · obtain ⟨rfl, h⟩ := h
    exact ⟨(_, _), by simp only [srcCells, if_true]; rfl, h⟩
  · exact h.elim
theorem eopW_spec {id : Nat} {op : AOp} {t : Tmps} {σ : Mem} {K : AV → Mem → Prop} (h : eopW id op t σ K) : ∃ r, eop id op t σ = some r ∧ K r.1 r.2 := by
  unfold eopW at h
  split at h
  · rename_i n a x
    simp only [eop]
    refine okEv h fun av h => okEv h fun v h => ?_
    cases av with
    | ptr b o =>
      obtain ⟨q, hc, h⟩ := optW_spec h
      cases q <;> first | exact h.elim | skip
      obtain ⟨⟨h1, h2⟩, h⟩ := h
      have := okParts_spec h1
      exact ⟨(_, _), by simp only [hc]; rw [if_pos ⟨this.1, h2, this.2⟩]; rfl, h⟩
    | _ => exact h.elim
  · rename_i size bytes s x
    simp only [eop]
    refine okEv h fun sv h => okEv h fun xv h => okBind (srcW_spec h) fun r ⟨ho, h⟩ => ?_
    obtain ⟨m, c⟩ := r
    dsimp only at ho h ⊢
    cases sv with
    | nils =>
      rcases Nat.eq_zero_or_pos m with hm | hm
      · exact ⟨(_, _), by dsimp only; rw [if_pos hm], h.1 hm⟩
      · obtain ⟨⟨h1, h2⟩, h⟩ := h.2 (by omega)
        exact ⟨(_, _), by dsimp only; rw [if_neg (by omega), if_pos ⟨h1, h2, ho⟩]; rfl, h⟩
    | slice b o n q =>
      rcases Nat.eq_zero_or_pos m with hm | hm
      · exact ⟨(_, _), by dsimp only; rw [if_pos hm], h.1 hm⟩
      · have h := h.2 (by omega)
        dsimp only at h ⊢
        rw [if_neg (by omega)]
        cases q with
        | ex k =>
          dsimp only at h ⊢
          rcases Nat.lt_or_ge k (n + m) with hk | hk
          · obtain ⟨⟨h1, h2⟩, h⟩ := h.2 hk
            obtain ⟨l, hl, hlo, h⟩ := optW_spec h
            exact ⟨(_, _), by rw [if_neg (by omega), if_pos ⟨h1, h2, ho⟩, hl]; simp only [Option.bind_some]; rw [if_pos hlo]; rfl, h⟩
          · have h := h.1 hk
            obtain ⟨q, hl, h⟩ := optW_spec h
            cases q <;> first | exact h.elim | skip
            obtain ⟨h1, h⟩ := h
            exact ⟨(_, _), by rw [if_pos hk]; simp only [hl]; rw [if_pos ⟨h1, ho⟩]; rfl, h⟩
        | op s =>
          obtain ⟨q, hl, h⟩ := optW_spec h
          cases q <;> first | exact h.elim | skip
          obtain ⟨⟨h1, h2, h3⟩, ⟨h4, h5⟩, h6, h⟩ := h
          exact ⟨(_, _), by simp only [hl]; rw [if_pos ⟨h1, h2, h3, h4, h5, ho, h6⟩]; rfl, h⟩
    | _ => exact h.elim
  · rename_i size d s
    simp only [eop]
    refine okEv h fun dv h => okEv h fun sv h => ?_
    cases dv with
    | nils =>
      cases sv with
      | str s => exact ⟨(_, _), by simp only [h.1, if_true, Option.bind_some], h.2⟩
      | nils => exact ⟨(_, _), by simp only [Option.bind_some], h.2⟩
      | slice b o n q => exact ⟨(_, _), by simp only [Option.bind_some], h.2⟩
      | _ => exact h.1.elim
    | slice b o n q =>
      cases sv with
      | str s =>
        obtain ⟨h1, h2, h3⟩ := h
        subst h1
        rcases Nat.eq_zero_or_pos (Nat.min s.size n) with hm | hm
        · exact ⟨(_, _), by simp only [if_true, Option.bind_some, hm], h2 hm⟩
        · have h := h3 (by omega)
          obtain ⟨q, hc, h⟩ := optW_spec h
          cases q <;> first | exact h.elim | skip
          obtain ⟨h4, h⟩ := h
          have hlen : ((bytesOf s).take (Nat.min s.size n)).length ≤ Nat.min s.size n := by rw [List.length_take]; exact Nat.min_le_left _ _
          have hone : ((bytesOf s).take (Nat.min s.size n)).all AV.one = true := by
            rw [List.all_eq_true]
            intro x hx
            have := List.mem_of_mem_take hx
            simp only [bytesOf, List.mem_map] at this
            obtain ⟨b, _, rfl⟩ := this
            rfl
          exact ⟨(_, _), by simp only [if_true, Option.bind_some]; rw [if_neg (by omega)]; simp only [hc]; rw [if_pos ⟨by omega, hone⟩]; rfl, h⟩
      | nils => exact ⟨(_, _), by simp only [Option.bind_some]; rw [if_pos (by exact Nat.zero_min n)], h⟩
      | slice b' o' m q' =>
        obtain ⟨l, hl, h2, h3⟩ := optW_spec h
        rcases Nat.eq_zero_or_pos (Nat.min m n) with hm | hm
        · exact ⟨(_, _), by simp only [Option.bind_some, hl]; rw [if_pos hm], h2 hm⟩
        · have h := h3 (by omega)
          obtain ⟨q, hc, h⟩ := optW_spec h
          cases q <;> first | exact h.elim | skip
          obtain ⟨h4, h⟩ := h
          exact ⟨(_, _), by simp only [Option.bind_some, hl]; rw [if_neg (by omega)]; simp only [hc]; rw [if_pos h4]; rfl, h⟩
      | _ => exact h.elim
    | _ => exact h.elim
  · obtain ⟨v, σ', h1, h2⟩ := h
    exact ⟨(v, σ'), h1, h2⟩
end Go.Vit
end

section
namespace Go.Vit

def floatW (t : Tmps) (σ σ' : Mem) (op : AOp) : Prop :=
  match op with
  | .load _ x | .lenMap x | .lookup _ _ _ x _ | .conv .bytesStr x => match x.ev t with
    | some (.ptr b _) => σ'.get b = σ.get b
    | some (.slice b _ _ _) => σ'.get b = σ.get b
    | some (.map b) => σ'.get b = σ.get b
    | _ => True
  | op => op.reads = false
def floatsW (t : Tmps) (σ σ' : Mem) : List (Nat × AOp) → Prop
  | [] => True
  | q :: r => floatW t σ σ' q.2 ∧ floatsW t σ σ' r
theorem cells_congr {σ σ' : Mem} {b : Nat} (h : σ'.get b = σ.get b) (o n : Nat) : σ'.cells b o n = σ.cells b o n := by unfold Mem.cells; rw [h]
theorem floatW_spec {id : Nat} {t : Tmps} {σ σ' : Mem} {op : AOp} (h : floatW t σ σ' op) : nop id op t σ' = nop id op t σ := by
  unfold floatW at h
  split at h
  · rename_i k x
    simp only [nop]
    cases hx : x.ev t with
    | none => rfl
    | some v =>
      rw [hx] at h
      simp only [Option.bind_some]
      cases v <;> first | rfl | skip
      cases k <;> simp only [cells_congr h]
  · rename_i x
    simp only [nop]
    cases hx : x.ev t with
    | none => rfl
    | some v =>
      rw [hx] at h
      simp only [Option.bind_some]
      cases v <;> first | rfl | skip
      simp only [show σ'.get _ = _ from h]
  · rename_i x _
    simp only [nop]
    cases hx : x.ev t with
    | none => rfl
    | some v =>
      rw [hx] at h
      simp only [Option.bind_some]
      cases v <;> first | rfl | skip
      simp only [show σ'.get _ = _ from h]
  · rename_i x
    simp only [nop]
    cases hx : x.ev t with
    | none => rfl
    | some v =>
      rw [hx] at h
      simp only [Option.bind_some]
      cases v <;> first | rfl | skip
      simp only [cells_congr h]
  · rename_i h1 h2 h3 h4
    cases op <;> first | rfl | (simp [AOp.reads] at h; done) | skip
    rename_i c x
    cases c <;> first | rfl | simp [AOp.reads] at h
theorem floatsW_spec {base : Nat} {t : Tmps} {σ σ' : Mem} : ∀ {l : List (Nat × AOp)}, floatsW t σ σ' l → Floats base t σ σ' l
  | [], _ => trivial
  | _ :: _, h => ⟨floatW_spec h.1, floatsW_spec h.2⟩

theorem Tr.putF_same {α : Type} {x : α} : ∀ (f : Nat) (t : Tr α) (n : Nat), n < f → t.get n = some x → Tr.putF f t n (some x) = t
  | 0, _, _, h, _ => absurd h (Nat.not_lt_zero _)
  | f + 1, .leaf, n, _, h => by simp [Tr.get_leaf] at h
  | f + 1, .node v l r, 0, _, h => by simp only [Tr.get] at h; subst h; rfl
  | f + 1, .node v l r, k + 1, hlt, h => by
    rw [Tr.get_succ] at h
    rw [Tr.putF_succ]
    simp only [Tr.val, Tr.lt, Tr.rt] at h ⊢
    split
    · rename_i hk; rw [if_pos hk] at h; rw [Tr.putF_same f l _ (by omega) h]
    · rename_i hk; rw [if_neg hk] at h; rw [Tr.putF_same f r _ (by omega) h]
theorem Tr.put_same {α : Type} {x : α} {t : Tr α} {n : Nat} (h : t.get n = some x) : t.put n (some x) = t := Tr.putF_same _ _ _ (Nat.lt_succ_self n) h

section
variable {P : Program} {t : Tmps} {σ : Mem}
/-! ### Rules -/
end
theorem AW.loop {P : Program} {Y : YEnv} {t : Tmps} {σ : Mem} {ι : Type} {x : ACode} {Q : APost} (I : ι → Tmps → Mem → Prop) (μ : ι → Nat) (i0 : ι) (h0 : I i0 t σ)
    (h : ∀ i t σ, I i t σ → AW P Y x (APost.then (fun t' σ' => ∃ j, I j t' σ' ∧ μ j < μ i) Q) t σ) : AW P Y (.loop x) Q t σ := by
  have hl : ∀ t σ, (∃ i, I i t σ) → ∃ m, (∃ i, I i t σ ∧ μ i = m) ∧ ∀ k, (∃ i, I i t σ ∧ μ i = k) → m ≤ k := fun t σ ⟨i, hi⟩ => least ⟨μ i, i, hi, rfl⟩
  refine ⟨fun t σ => ∃ i, I i t σ, fun t σ => @dite Nat (∃ i, I i t σ) (Classical.propDecidable _) (fun h => Classical.choose (hl t σ h)) (fun _ => 0), ⟨i0, h0⟩, fun t1 σ1 hi => ?_⟩
  obtain ⟨⟨i, hI, hm⟩, hmin⟩ := Classical.choose_spec (hl t1 σ1 hi)
  refine AW.mono (fun e t2 σ2 _ hq => ?_) (h i t1 σ1 hI)
  cases e with
  | normal =>
    obtain ⟨j, hj, hlt⟩ := hq
    refine ⟨⟨j, hj⟩, ?_⟩
    simp only
    rw [dif_pos ⟨j, hj⟩, dif_pos hi, ← hm]
    have := (Classical.choose_spec (hl t2 σ2 ⟨j, hj⟩)).2 _ ⟨j, hj, rfl⟩
    omega
  | _ => exact hq
end Go.Vit
end

section
namespace Go.Vit
theorem Mem.cells_of {σ : Mem} {b : Nat} {l : List AV} (h : σ.get b = some (.rw l)) (o n : Nat) : σ.cells b o n = if o + n ≤ l.length then some ((l.drop o).take n) else none := by simp [Mem.cells, h, Blk.cellsR]
structure Mem.Same (σ σ' : Mem) : Prop where
  next : σ.next ≤ σ'.next
  get : ∀ b, b < σ.next → σ'.get b = σ.get b
theorem Mem.Same.refl (σ : Mem) : σ.Same σ := ⟨Nat.le_refl _, fun _ _ => rfl⟩
theorem Mem.Same.trans {σ σ' σ'' : Mem} (h : σ.Same σ') (h' : σ'.Same σ'') : σ.Same σ'' :=
  ⟨Nat.le_trans h.next h'.next, fun b hb => (h'.get b (Nat.lt_of_lt_of_le hb h.next)).trans (h.get b hb)⟩
theorem Mem.Same.bump {σ σ' : Mem} (h : σ.Same σ') (n : Nat) : σ.Same (σ'.bump n) := ⟨Nat.le_trans h.next (Nat.le_add_right _ _), fun b hb => h.get b hb⟩
theorem Mem.Same.put {σ σ' : Mem} (h : σ.Same σ') {b : Nat} (hb : σ.next ≤ b) (o : Option Blk) : σ.Same (σ'.put b o) :=
  ⟨h.next, fun c hc => (Mem.get_put_ne _ (by omega) _).trans (h.get c hc)⟩
def Mem.Live (σ : Mem) : Prop := ∀ b k, σ.get b = some k → b < σ.next
/-! ### Bits -/
theorem wrap_nat {n : Nat} (h : n < 2 ^ 63) : IntKind.i64.wrap (n : Int) = n := IntWalk.i64_in _ (by omega)
theorem bits_nat {x : Nat} (h : x < 2 ^ 63) : (BitVec.ofInt 64 (x : Int)) = BitVec.ofNat 64 x := by
  simp
theorem bits_xor {x y : Nat} (hx : x < 2 ^ 63) (hy : y < 2 ^ 63) : bitsOp .xor .i64 (x : Int) (y : Int) = ((x ^^^ y : Nat) : Int) := by
  show IntKind.i64.wrap (((BitVec.ofInt 64 (x : Int) ^^^ BitVec.ofInt 64 (y : Int)).toNat : Nat) : Int) = _
  rw [bits_nat hx, bits_nat hy, BitVec.toNat_xor, BitVec.toNat_ofNat, BitVec.toNat_ofNat, Nat.mod_eq_of_lt (by omega), Nat.mod_eq_of_lt (by omega)]
  exact wrap_nat (Nat.xor_lt_two_pow hx hy)
theorem bits_and {x y : Nat} (hx : x < 2 ^ 63) (hy : y < 2 ^ 63) : bitsOp .and .i64 (x : Int) (y : Int) = ((x &&& y : Nat) : Int) := by
  show IntKind.i64.wrap (((BitVec.ofInt 64 (x : Int) &&& BitVec.ofInt 64 (y : Int)).toNat : Nat) : Int) = _
  rw [bits_nat hx, bits_nat hy, BitVec.toNat_and, BitVec.toNat_ofNat, BitVec.toNat_ofNat, Nat.mod_eq_of_lt (by omega), Nat.mod_eq_of_lt (by omega)]
  exact wrap_nat (Nat.lt_of_le_of_lt Nat.and_le_left hx)
theorem bits_or {x y : Nat} (hx : x < 2 ^ 63) (hy : y < 2 ^ 63) : bitsOp .or .i64 (x : Int) (y : Int) = ((x ||| y : Nat) : Int) := by
  show IntKind.i64.wrap (((BitVec.ofInt 64 (x : Int) ||| BitVec.ofInt 64 (y : Int)).toNat : Nat) : Int) = _
  rw [bits_nat hx, bits_nat hy, BitVec.toNat_or, BitVec.toNat_ofNat, BitVec.toNat_ofNat, Nat.mod_eq_of_lt (by omega), Nat.mod_eq_of_lt (by omega)]
  exact wrap_nat (Nat.or_lt_two_pow hx hy)
theorem int_nat {x : Int} (h : 0 ≤ x) : ∃ n : Nat, x = n := ⟨x.toNat, (Int.toNat_of_nonneg h).symm⟩
theorem bitsX {x y : Int} (hx : 0 ≤ x ∧ x < 9223372036854775808) (hy : 0 ≤ y ∧ y < 9223372036854775808) : bitsOp .xor .i64 x y = ((x.toNat ^^^ y.toNat : Nat) : Int) := by
  obtain ⟨m, rfl⟩ := int_nat hx.1
  obtain ⟨n, rfl⟩ := int_nat hy.1
  exact bits_xor (by omega) (by omega)
theorem bitsA {x y : Int} (hx : 0 ≤ x ∧ x < 9223372036854775808) (hy : 0 ≤ y ∧ y < 9223372036854775808) : bitsOp .and .i64 x y = ((x.toNat &&& y.toNat : Nat) : Int) := by
  obtain ⟨m, rfl⟩ := int_nat hx.1
  obtain ⟨n, rfl⟩ := int_nat hy.1
  exact bits_and (by omega) (by omega)
end Go.Vit
end

section
namespace Go.Vit

inductive Wt (P : Program) (σ : Mem) : TypeId → List AV → Prop
  | bool {t : TypeId} (b : Bool) (h : P.underlying t = some .bool) : Wt P σ t [.bool b]
  | int {t : TypeId} {k : IntKind} {n : Int} (h : P.underlying t = some (.int k)) (hn : (Lit.int k n).wf = true) : Wt P σ t [.int k n]
  | str {t : TypeId} {s : ByteArray} (h : P.underlying t = some .string) (hs : s.size ≤ reachBytes) : Wt P σ t [.str s]
  | nils {t e : TypeId} (h : P.underlying t = some (.slice e)) : Wt P σ t [.nils]
  | slice {t e : TypeId} {b n : Nat} {c : List AV} (h : P.underlying t = some (.slice e)) (hg : σ.get b = some (.ro c)) (hn : n * P.bytesOf e ≤ reachBytes) (hc : c.length = n * P.cellsOf e)
      (he : ∀ i, i < n → Wt P σ e ((c.drop (i * P.cellsOf e)).take (P.cellsOf e))) : Wt P σ t [.slice b 0 n (.op 0)]
  | struct {t : TypeId} {fs : Array Field} {c : List AV} (h : P.underlying t = some (.struct fs)) (hc : c.length = P.cellsOf t)
      (he : ∀ f ∈ fs.toList, Wt P σ f.type ((c.drop f.offset).take (P.cellsOf f.type))) : Wt P σ t c
  | array {t e : TypeId} {n : Nat} {c : List AV} (h : P.underlying t = some (.array n e)) (hc : c.length = P.cellsOf t)
      (he : ∀ i, i < n → Wt P σ e ((c.drop (i * P.cellsOf e)).take (P.cellsOf e))) : Wt P σ t c
theorem Wt.mono {P : Program} {σ σ' : Mem} (hs : ∀ b k, σ.get b = some k → σ'.get b = some k) {t : TypeId} {l : List AV} (h : Wt P σ t l) : Wt P σ' t l := by
  induction h with
  | bool b h => exact .bool b h
  | int h hn => exact .int h hn
  | str h hs => exact .str h hs
  | nils h => exact .nils h
  | slice h hg hn hc _ ih => exact .slice h (hs _ _ hg) hn hc ih
  | struct h hc _ ih => exact .struct h hc ih
  | array h hc _ ih => exact .array h hc ih

def tiles (off : Nat) (tot : Nat) : List (Nat × Nat) → Bool
  | [] => Nat.beq off tot
  | p :: r => Nat.beq p.1 off && tiles (off + p.2) tot r
def impT (P : Program) : Nat → TypeId → Bool
  | 0, _ => false
  | n + 1, t => match P.underlying t with
    | some .bool => true
    | some (.int _) => true
    | some .string => true
    | some (.slice e) => decide (0 < P.cellsOf e) && impT P n e
    | some (.struct fs) => tiles 0 (P.cellsOf t) (fs.toList.map fun f => (f.offset, P.cellsOf f.type)) && fs.toList.all fun f => impT P n f.type
    | some (.array k e) => Nat.beq (k * P.cellsOf e) (P.cellsOf t) && impT P n e
    | _ => false

theorem tiles_le : ∀ {os : List (Nat × Nat)} {off tot : Nat}, tiles off tot os = true → off ≤ tot ∧ ∀ p ∈ os, off ≤ p.1 ∧ p.1 + p.2 ≤ tot
  | [], off, tot, h => ⟨by have := Nat.eq_of_beq_eq_true h; omega, fun p hp => by simp at hp⟩
  | q :: r, off, tot, h => by
    simp only [tiles, Bool.and_eq_true] at h
    have e := Nat.eq_of_beq_eq_true h.1
    obtain ⟨h1, h2⟩ := tiles_le h.2
    refine ⟨by omega, fun p hp => ?_⟩
    rcases List.mem_cons.1 hp with rfl | hp
    · exact ⟨by omega, by omega⟩
    · have := h2 p hp; exact ⟨by omega, this.2⟩
theorem tiles_piece : ∀ {os : List (Nat × Nat)} {off tot : Nat} {ls : List (List AV)}, tiles off tot os = true → ls.length = os.length →
    (∀ (i : Nat) (p : Nat × Nat) (l : List AV), os[i]? = some p → ls[i]? = some l → l.length = p.2) →
    ls.flatten.length = tot - off ∧ ∀ (i : Nat) (p : Nat × Nat) (l : List AV), os[i]? = some p → ls[i]? = some l → (ls.flatten.drop (p.1 - off)).take p.2 = l
  | [], off, tot, ls, h, hl, _ => by
    have := Nat.eq_of_beq_eq_true h
    obtain rfl : ls = [] := List.eq_nil_of_length_eq_zero hl
    exact ⟨by simp; omega, fun i p l hp => by simp at hp⟩
  | q :: r, off, tot, ls, h, hl, hs => by
    simp only [tiles, Bool.and_eq_true] at h
    have e := Nat.eq_of_beq_eq_true h.1
    match ls, hl with
    | l0 :: ls, hl =>
      have hl0 : l0.length = q.2 := hs 0 q l0 rfl rfl
      have hle := tiles_le h.2
      obtain ⟨h1, h2⟩ := tiles_piece (ls := ls) h.2 (by simpa using hl) fun i p l hp hl => hs (i + 1) p l (by simpa using hp) (by simpa using hl)
      refine ⟨by rw [List.flatten_cons, List.length_append, hl0, h1]; omega, fun i p l hp hlx => ?_⟩
      cases i with
      | zero =>
        simp at hp hlx
        subst hp; subst hlx
        rw [e, Nat.sub_self, List.drop_zero, List.flatten_cons, ← hl0, List.take_left]
      | succ i =>
        simp at hp hlx
        have := h2 i p l hp hlx
        have hp1 := (hle.2 p (List.mem_of_getElem? hp)).1
        rw [List.flatten_cons, ← this]
        congr 1
        rw [show p.1 - off = l0.length + (p.1 - (off + q.2)) from by omega, ← List.drop_drop, List.drop_left]
theorem tiles_range (n s off : Nat) : ∀ k, k ≤ n → tiles (off + (n - k) * s) (off + n * s) ((List.range' (n - k) k).map fun i => (off + i * s, s)) = true := by
  intro k
  induction k with
  | zero => intro _; simp [tiles]
  | succ k ih =>
    intro hk
    have e : n - (k + 1) + 1 = n - k := by omega
    rw [List.range'_succ, List.map_cons]
    simp only [tiles, Bool.and_eq_true]
    refine ⟨by simp, ?_⟩
    have := ih (by omega)
    rw [e]
    have e2 : off + (n - (k + 1)) * s + s = off + (n - k) * s := by
      rw [← e, Nat.add_mul, Nat.one_mul]; omega
    rw [e2]; exact this
theorem LRel.flatten {ρ : Ren} : ∀ {ls : List (List AV)} {cs : List (List Value)}, ls.length = cs.length → (∀ (i : Nat) (l : List AV) (c : List Value), ls[i]? = some l → cs[i]? = some c → LRel ρ l c.toArray) → LRel ρ ls.flatten cs.flatten.toArray
  | [], [], _, _ => LRel.nil ρ
  | l :: ls, c :: cs, h, hh => by
    have h1 := hh 0 l c rfl rfl
    have h2 := LRel.flatten (ls := ls) (cs := cs) (by simpa using h) fun i l c hl hc => hh (i + 1) l c (by simpa using hl) (by simpa using hc)
    have := h1.append h2
    simpa using this
  | [], _ :: _, h, _ => by simp at h
  | _ :: _, [], h, _ => by simp at h
theorem tiles_values : ∀ {os : List (Nat × Nat)} {off tot : Nat} (cs : List Value), tiles off tot os = true → cs.length = tot → (os.map fun p => (cs.drop p.1).take p.2).flatten = cs.drop off
  | [], off, tot, cs, h, hc => by
    have := Nat.eq_of_beq_eq_true h
    simp; omega
  | q :: r, off, tot, cs, h, hc => by
    simp only [tiles, Bool.and_eq_true] at h
    have e := Nat.eq_of_beq_eq_true h.1
    rw [List.map_cons, List.flatten_cons, tiles_values cs h.2 hc, e]
    have : cs.drop (off + q.2) = (cs.drop off).drop q.2 := by rw [List.drop_drop]
    rw [this, List.take_append_drop]

def Mem.Ro (σ : Mem) : Prop := ∀ b k, σ.get b = some k → k.mut = false
structure More (ρ : Ren) (σ : Mem) (w : World) (ρ' : Ren) (σ' : Mem) : Prop where
  st : St ρ' σ' w
  ro : σ'.Ro
  ext : ∀ b p, ρ b = some p → ρ' b = some p
  keep : ∀ b k, σ.get b = some k → σ'.get b = some k
theorem More.refl {ρ : Ren} {σ : Mem} {w : World} (h : St ρ σ w) (hr : σ.Ro) : More ρ σ w ρ σ := ⟨h, hr, fun _ _ e => e, fun _ _ e => e⟩
theorem More.trans {ρ ρ' ρ'' : Ren} {σ σ' σ'' : Mem} {w : World} (h : More ρ σ w ρ' σ') (h' : More ρ' σ' w ρ'' σ'') : More ρ σ w ρ'' σ'' :=
  ⟨h'.st, h'.ro, fun b p e => h'.ext b p (h.ext b p e), fun b k e => h'.keep b k (h.keep b k e)⟩
theorem More.add {ρ : Ren} {σ : Mem} {w : World} (st : St ρ σ w) (hr : σ.Ro) (c : List AV) (p : Loc) (hb : BRel ρ p w (.ro c)) :
    More ρ σ w (fun b => if b = σ.next then some p else ρ b) ((σ.put σ.next (some (.ro c))).bump 1) := by
  have hn : ρ σ.next = none := by
    cases e : ρ σ.next with
    | none => rfl
    | some q => have := st.dom _ _ e; omega
  have hg : σ.get σ.next = none := by
    cases e : σ.get σ.next with
    | none => rfl
    | some q => have := st.live _ _ e; omega
  have hext : ∀ b q, ρ b = some q → (if b = σ.next then some p else ρ b) = some q := fun b q e => by
    rw [if_neg (by intro e'; subst e'; rw [hn] at e; cases e)]; exact e
  have hkeep : ∀ b k, σ.get b = some k → ((σ.put σ.next (some (.ro c))).bump 1).get b = some k := fun b k e => by
    rw [Mem.get_bump, Mem.get_put, if_neg (by intro e'; subst e'; rw [hg] at e; cases e)]; exact e
  have hro : ((σ.put σ.next (some (.ro c))).bump 1).Ro := by
    intro b k h
    rw [Mem.get_bump, Mem.get_put] at h
    split at h
    · cases h; rfl
    · exact hr b k h
  refine ⟨⟨fun b q h => ?_, fun b k h => ?_, fun b k q h hq => ?_, fun b b' k k' q q' h h' hq hq' hm => ?_⟩, hro, hext, hkeep⟩
  · simp only [Mem.next_bump, Mem.next_put]
    split at h
    · omega
    · have := st.dom _ _ h; omega
  · simp only [Mem.next_bump, Mem.next_put]
    rw [Mem.get_bump, Mem.get_put] at h
    split at h
    · omega
    · have := st.live _ _ h; omega
  · rw [Mem.get_bump, Mem.get_put] at h
    split at h
    · rename_i e
      rw [if_pos e] at hq
      cases h; cases hq
      exact hb.mono hext
    · rename_i e
      rw [if_neg e] at hq
      exact (st.rel b k q h hq).mono hext
  · rw [hro b k h] at hm; cases hm

section
variable {H : Type} {enc : TypeId × Value → H} {P : Program} {w : World}

theorem imp_items {items : List (TypeId × List Value)}
    (h : ∀ x ∈ items, ∀ ρ σ, St ρ σ w → σ.Ro → ∃ ρ' σ' l, More ρ σ w ρ' σ' ∧ LRel ρ' l x.2.toArray ∧ Wt P σ' x.1 l) :
    ∀ ρ σ, St ρ σ w → σ.Ro → ∃ (ρ' : Ren) (σ' : Mem) (ls : List (List AV)), More ρ σ w ρ' σ' ∧ ls.length = items.length ∧ ∀ (i : Nat) (x : TypeId × List Value) (l : List AV), items[i]? = some x → ls[i]? = some l → LRel ρ' l x.2.toArray ∧ Wt P σ' x.1 l := by
  induction items with
  | nil => exact fun ρ σ st hr => ⟨ρ, σ, [], .refl st hr, rfl, fun i x l hx => by simp at hx⟩
  | cons y items ih =>
    intro ρ σ st hr
    obtain ⟨ρ1, σ1, l, m1, hl, hw⟩ := h y (by simp) ρ σ st hr
    obtain ⟨ρ2, σ2, ls, m2, hlen, hall⟩ := ih (fun x hx => h x (by simp [hx])) ρ1 σ1 m1.st m1.ro
    refine ⟨ρ2, σ2, l :: ls, m1.trans m2, by simp [hlen], fun i x l' hx hl' => ?_⟩
    cases i with
    | zero =>
      simp at hx hl'
      subst hx; subst hl'
      exact ⟨hl.mono m2.ext, hw.mono m2.keep⟩
    | succ i => exact hall i x l' (by simpa using hx) (by simpa using hl')

theorem weightsAll_mem {e : TypeId} : ∀ {l : List (DataW H)}, (DataW.weightsAll P e l).all (· ≤ reachBytes) = true → ∀ d ∈ l, (d.weights P e).all (· ≤ reachBytes) = true
  | [], _, d, hd => by simp at hd
  | x :: l, h, d, hd => by
    rw [DataW.weightsAll, List.all_append, Bool.and_eq_true] at h
    rcases List.mem_cons.1 hd with rfl | hd
    · exact h.1
    · exact weightsAll_mem h.2 d hd
theorem weightsEach_get : ∀ {ts : List TypeId} {l : List (DataW H)}, (DataW.weightsEach P ts l).all (· ≤ reachBytes) = true → ∀ (i : Nat) (t : TypeId) (d : DataW H), ts[i]? = some t → l[i]? = some d → (d.weights P t).all (· ≤ reachBytes) = true
  | [], _, _, i, t, d, ht, _ => by simp at ht
  | _ :: _, [], _, i, t, d, _, hd => by simp at hd
  | t0 :: ts, d0 :: l, h, i, t, d, ht, hd => by
    rw [DataW.weightsEach, List.all_append, Bool.and_eq_true] at h
    cases i with
    | zero => simp at ht hd; subst ht; subst hd; exact h.1
    | succ i => exact weightsEach_get h.2 i t d (by simpa using ht) (by simpa using hd)
theorem imp_trod : ∀ (fuel n : Nat) (t : TypeId) (cs : List Value) (d : DataW H) (ps : List MemPlace), DataW.trod enc P w 0 (fun _ => true) true fuel t cs = some (d, ps) → impT P n t = true → (d.weights P t).all (· ≤ reachBytes) = true →
    ∀ ρ σ, St ρ σ w → σ.Ro → ∃ ρ' σ' l, More ρ σ w ρ' σ' ∧ LRel ρ' l cs.toArray ∧ Wt P σ' t l := by
  intro fuel
  induction fuel with
  | zero => intro n t cs d ps h; simp [DataW.trod] at h
  | succ fuel ih =>
    intro n t cs d ps h hT hwt ρ σ st hr
    cases n with
    | zero => simp [impT] at hT
    | succ n =>
      have one : ∀ {ρ : Ren} {x : AV} {v : Value}, cs = [v] → VRel ρ x v → LRel ρ [x] cs.toArray := by
        intro ρ x v e hv
        subst e
        exact .of_list rfl fun i a u ha hu => by
          cases i with
          | zero => simp at ha hu; subst ha; subst hu; exact hv
          | succ i => simp at ha
      have h0 := h
      unfold impT at hT
      unfold DataW.trod at h
      cases hu : P.underlying t with
      | none => rw [hu] at hT; cases hT
      | some u =>
        rw [hu] at h hT
        cases u <;> dsimp only at hT <;> first | exact Bool.noConfusion (show false = true from hT) | skip
        case bool =>
          obtain ⟨b, e, _⟩ := DataW.trod_bool hu h0
          exact ⟨ρ, σ, [.bool b], .refl st hr, one e (.bool b), .bool b hu⟩
        case int k =>
          obtain ⟨m, e, _, hw⟩ := DataW.trod_int hu h0
          exact ⟨ρ, σ, [.int k m], .refl st hr, one e (.int k m), .int hu hw⟩
        case string =>
          obtain ⟨s, e, e2, _⟩ := DataW.trod_string hu h0
          simp only [Prod.mk.injEq] at e2
          obtain ⟨rfl, _⟩ := e2
          have hs : s.size ≤ reachBytes := by simpa [DataW.weights] using hwt
          exact ⟨ρ, σ, [.str s], .refl st hr, one e (.str s), .str hu hs⟩
        case slice e =>
          simp only [Bool.and_eq_true, decide_eq_true_eq] at hT
          have hsz : 0 < P.cellsOf e := hT.1
          match cs, h with
          | [.slice none 0 0], h =>
            exact ⟨ρ, σ, [.nils], .refl st hr, one rfl .nils, .nils hu⟩
          | [.slice (some a) len cap], h =>
            dsimp only at h
            split at h
            · rename_i hc
              have hc0 := hc
              simp only [Option.bind_eq_some_iff, if_true, Option.map_eq_some_iff] at h
              obtain ⟨elems, he, rest, hrest, hd⟩ := h
              simp only [Prod.mk.injEq] at hd
              obtain ⟨hd, _⟩ := hd
              have hwt0 := hwt
              rw [← hd, DataW.weights, hu] at hwt0
              simp only [List.all_cons, List.all_append, Bool.and_eq_true, List.length_map, decide_eq_true_eq] at hwt0
              obtain ⟨hwn, hwe, hwr⟩ := hwt0
              have hlenE := mapM_some_length he
              have hlenR := mapM_some_length hrest
              rw [List.length_range] at hlenE hlenR
              have hcell : ∀ (i : Nat), i < cap → ∃ c y, w.cells? 0 (a.add (i * P.cellsOf e)) (P.cellsOf e) = some c ∧ DataW.trod enc P w 0 (fun _ => true) true fuel e c = some y ∧ (y.1.weights P e).all (· ≤ reachBytes) = true := by
                intro i hi
                have : ∃ y, (w.cells? 0 (a.add (i * P.cellsOf e)) (P.cellsOf e)).bind (DataW.trod enc P w 0 (fun _ => true) true fuel e) = some y ∧ (y.1.weights P e).all (· ≤ reachBytes) = true := by
                  rcases Nat.lt_or_ge i len with h1 | h1
                  · have := mapM_some_get he i i (by simp [h1])
                    have hl := mapM_some_length he
                    rw [List.length_range] at hl
                    rw [this, List.getElem?_eq_getElem (by omega)]
                    exact ⟨_, rfl, weightsAll_mem hwe _ (List.mem_map_of_mem (List.getElem_mem _))⟩
                  · have := mapM_some_get hrest (i - len) (i - len) (by rw [List.getElem?_range (by omega)])
                    have hl := mapM_some_length hrest
                    rw [List.length_range] at hl
                    rw [show len + (i - len) = i from by omega] at this
                    rw [this, List.getElem?_eq_getElem (by omega)]
                    exact ⟨_, rfl, weightsAll_mem hwr _ (List.mem_map_of_mem (List.getElem_mem _))⟩
                obtain ⟨y, hy, hyw⟩ := this
                rw [Option.bind_eq_some_iff] at hy
                obtain ⟨c, hc, hy⟩ := hy
                exact ⟨c, y, hc, hy, hyw⟩
              have hadd : ∀ i j, (a.add i).add j = a.add (i + j) := by
                intro i j
                unfold Addr.add
                by_cases h1 : i = 0 <;> by_cases h2 : j = 0 <;> simp [h1, h2]
                · omega
              have hspot : cap ≠ 0 → a.spot = none := by
                intro h0
                obtain ⟨c, y, h1, h2, hyw⟩ := hcell 0 (by omega)
                obtain ⟨_, _, h3⟩ := World.cells?_some h1
                have := h3 0 hsz
                have hl := (World.cells?_some h1).2.1
                rw [List.getElem?_eq_getElem (by omega)] at this
                have := World.cell?_spot this
                simpa [Addr.add] using this
              let items : List (TypeId × List Value) := (List.range len).map fun i => (e, (w.cells? 0 (a.add (i * P.cellsOf e)) (P.cellsOf e)).getD [])
              have hit : ∀ x ∈ items, ∀ ρ σ, St ρ σ w → σ.Ro → ∃ ρ' σ' l, More ρ σ w ρ' σ' ∧ LRel ρ' l x.2.toArray ∧ Wt P σ' x.1 l := by
                intro x hx ρ σ st hr
                obtain ⟨i, hi, rfl⟩ := List.mem_map.1 hx
                obtain ⟨c, y, h1, h2, hyw⟩ := hcell i (by have := List.mem_range.1 hi; omega)
                simp only [h1, Option.getD_some]
                exact ih n e c y.1 y.2 h2 hT.2 hyw ρ σ st hr
              obtain ⟨ρ1, σ1, ls, m1, hlen, hall⟩ := imp_items hit ρ σ st hr
              simp only [items, List.length_map, List.length_range] at hlen
              have hitem : ∀ i c, i < len → w.cells? 0 (a.add (i * P.cellsOf e)) (P.cellsOf e) = some c → items[i]? = some (e, c) := by
                intro i c hi hc
                simp only [items, List.getElem?_map, List.getElem?_range hi, Option.map_some, hc, Option.getD_some]
              have hlsz : ∀ (i : Nat) (l : List AV), ls[i]? = some l → l.length = P.cellsOf e := by
                intro i l hl
                have hi : i < len := by have := (List.getElem?_eq_some_iff.1 hl).1; omega
                obtain ⟨c, y, h1, h2, hyw⟩ := hcell i (by omega)
                have := (hall i _ l (hitem i c hi h1) hl).1.1
                have h3 := (World.cells?_some h1).2.1
                simp at this
                omega
              have htile := tiles_range len (P.cellsOf e) 0 len (Nat.le_refl _)
              simp only [Nat.sub_self, Nat.zero_mul, Nat.zero_add, Nat.add_zero] at htile
              obtain ⟨hfl, hpiece⟩ := tiles_piece (ls := ls) htile (by simp [hlen]) (fun i p l hp hl => by
                simp only [List.getElem?_map, Option.map_eq_some_iff] at hp
                obtain ⟨k, _, rfl⟩ := hp
                exact hlsz i l hl)
              have hro : BRel ρ1 (a.block, a.off, 0) w (.ro ls.flatten) := by
                have hc : ∀ (j : Nat) (x : AV), ls.flatten[j]? = some x → ∃ v, w.cell? ⟨a.block, a.off + j, none⟩ = some v ∧ VRel ρ1 x v := by
                  intro j x hj
                  have hjl : j < ls.flatten.length := (List.getElem?_eq_some_iff.1 hj).1
                  have hi : j / P.cellsOf e < len := by
                    rw [Nat.div_lt_iff_lt_mul hsz]; omega
                  obtain ⟨l, hl⟩ : ∃ l, ls[j / P.cellsOf e]? = some l := ⟨_, List.getElem?_eq_getElem (by omega)⟩
                  obtain ⟨c, y, h1, h2, hyw⟩ := hcell (j / P.cellsOf e) (by omega)
                  have hpc := hpiece (j / P.cellsOf e) (j / P.cellsOf e * P.cellsOf e, P.cellsOf e) l (by
                    rw [List.getElem?_map, List.getElem?_range' hi]
                    simp) hl
                  simp only [Nat.sub_zero] at hpc
                  have hrel := (hall _ _ l (hitem _ c hi h1) hl).1
                  have hmod : j % P.cellsOf e < P.cellsOf e := Nat.mod_lt j hsz
                  have hjj : j / P.cellsOf e * P.cellsOf e + j % P.cellsOf e = j := by rw [Nat.mul_comm]; exact Nat.div_add_mod j _
                  have hx : l[j % P.cellsOf e]? = some x := by
                    rw [← hpc, List.getElem?_take, if_pos hmod, List.getElem?_drop, hjj]; exact hj
                  obtain ⟨v, hv, hvr⟩ := hrel.get hx
                  simp at hv
                  have hcv := (World.cells?_some h1).2.2 (j % P.cellsOf e) hmod
                  rw [hv, hadd, hjj] at hcv
                  have hsp := hspot (by
                    have h9 := hc0.2.1
                    intro h0
                    have : len = 0 := by omega
                    rw [this] at hi; exact absurd hi (Nat.not_lt_zero _))
                  refine ⟨v, ?_, hvr⟩
                  have : a.add j = ⟨a.block, a.off + j, none⟩ := by
                    unfold Addr.add
                    split
                    · rename_i h0; subst h0; cases a; simp_all
                    · rfl
                  rw [← this]; exact hcv
                refine ⟨fun hne => ?_, hc⟩
                obtain ⟨x, xs, hxs⟩ := List.exists_cons_of_ne_nil hne
                obtain ⟨v, hv, _⟩ := hc 0 x (by rw [hxs]; rfl)
                unfold World.cell? at hv
                split at hv
                · rename_i hb; exact (Array.getElem?_eq_some_iff.1 hb).1
                · cases hv
              have m2 := More.add m1.st m1.ro ls.flatten (a.block, a.off, 0) hro
              refine ⟨_, _, [.slice σ1.next 0 len (.op 0)], m1.trans m2, one rfl (.slice (b' := a.block) (o' := a.off) (m := 0) (if_pos rfl) ⟨hc.2.1, by have h9 := hc.2.2; unfold maxLen at h9; omega⟩ (fun k hk => by cases hk) (fun s hs h0 => by cases hs; exact absurd rfl h0) ?_), .slice (c := ls.flatten) hu ?_ (Nat.le_trans (Nat.mul_le_mul_right _ (by omega)) hwn) (by rw [hfl]; omega) ?_⟩
              · rcases Nat.eq_zero_or_pos cap with h0 | h0
                · exact .inl h0
                · refine .inr ?_
                  have := hspot (by omega)
                  cases a; simp_all
              · rw [Mem.get_bump, Mem.get_put_self]
              · intro i hi
                obtain ⟨l, hl⟩ : ∃ l, ls[i]? = some l := ⟨_, List.getElem?_eq_getElem (by omega)⟩
                obtain ⟨c, y, h1, h2, hyw⟩ := hcell i (by omega)
                have hpc := hpiece i (i * P.cellsOf e, P.cellsOf e) l (by
                    rw [List.getElem?_map, List.getElem?_range' hi]
                    simp) hl
                simp only [Nat.sub_zero] at hpc
                rw [hpc]
                exact (hall i _ l (hitem i c hi h1) hl).2.mono m2.keep
            · cases h
        case struct fs =>
          simp only [Bool.and_eq_true, List.all_eq_true] at hT
          obtain ⟨htile, hTs⟩ := hT
          have h1 : cs.length = P.cellsOf t ∧ ∃ xs, (fs.toList.mapM fun f => DataW.trod enc P w 0 (fun _ => true) true fuel f.type ((cs.drop f.offset).take (P.cellsOf f.type))) = some xs ∧ d = .agg (xs.map (·.1)) := by
            dsimp only at h
            split at h
            · rename_i hl
              rw [Option.map_eq_some_iff] at h
              obtain ⟨xs, hx, hd⟩ := h
              exact ⟨hl, xs, hx, by simp only [Prod.mk.injEq] at hd; exact hd.1.symm⟩
            · cases h
          obtain ⟨hlc, xs, hxs, hdx⟩ := h1
          rw [hdx, DataW.weights, hu] at hwt
          let items : List (TypeId × List Value) := fs.toList.map fun f => (f.type, (cs.drop f.offset).take (P.cellsOf f.type))
          have hit : ∀ x ∈ items, ∀ ρ σ, St ρ σ w → σ.Ro → ∃ ρ' σ' l, More ρ σ w ρ' σ' ∧ LRel ρ' l x.2.toArray ∧ Wt P σ' x.1 l := by
            intro x hx ρ σ st hr
            obtain ⟨f, hf, rfl⟩ := List.mem_map.1 hx
            obtain ⟨i, hi⟩ := List.getElem?_of_mem hf
            have h2 := mapM_some_get hxs i f hi
            have hl := mapM_some_length hxs
            have hil : i < xs.length := by have := (List.getElem?_eq_some_iff.1 hi).1; omega
            rw [List.getElem?_eq_getElem hil] at h2
            exact ih n f.type _ xs[i].1 xs[i].2 h2 (hTs f hf) (weightsEach_get hwt i f.type _ (by rw [List.getElem?_map, hi]; rfl) (by rw [List.getElem?_map, List.getElem?_eq_getElem hil]; rfl)) ρ σ st hr
          obtain ⟨ρ1, σ1, ls, m1, hlen, hall⟩ := imp_items hit ρ σ st hr
          simp only [items, List.length_map] at hlen
          have hbd := (tiles_le htile).2
          have hlsz : ∀ (i : Nat) (p : Nat × Nat) (l : List AV), (fs.toList.map fun f => (f.offset, P.cellsOf f.type))[i]? = some p → ls[i]? = some l → l.length = p.2 := by
            intro i p l hp hl
            have hb := hbd p (List.mem_of_getElem? hp)
            rw [List.getElem?_map, Option.map_eq_some_iff] at hp
            obtain ⟨f, hf, rfl⟩ := hp
            have := (hall i (f.type, (cs.drop f.offset).take (P.cellsOf f.type)) l (by simp only [items, List.getElem?_map, hf, Option.map_some]) hl).1.1
            simp at this hb
            simp; omega
          obtain ⟨hfl, hpiece⟩ := tiles_piece htile (by simpa using hlen) hlsz
          refine ⟨ρ1, σ1, ls.flatten, m1, ?_, .struct hu (by rw [hfl]; omega) fun f hf => ?_⟩
          · have := LRel.flatten (ρ := ρ1) (ls := ls) (cs := items.map (·.2)) (by simp [items, hlen]) fun i l c hl hc => by
              rw [List.getElem?_map, Option.map_eq_some_iff] at hc
              obtain ⟨x, hx, rfl⟩ := hc
              exact (hall i x l hx hl).1
            have e : items.map (·.2) = (fs.toList.map fun f => (f.offset, P.cellsOf f.type)).map fun p => (cs.drop p.1).take p.2 := by
              simp only [items, List.map_map]; rfl
            rw [e, tiles_values cs htile hlc, List.drop_zero] at this
            exact this
          · obtain ⟨i, hi⟩ := List.getElem?_of_mem hf
            obtain ⟨l, hl⟩ : ∃ l, ls[i]? = some l := ⟨_, List.getElem?_eq_getElem (by have := (List.getElem?_eq_some_iff.1 hi).1; omega)⟩
            have hpc := hpiece i (f.offset, P.cellsOf f.type) l (by rw [List.getElem?_map, hi]; rfl) hl
            simp only [Nat.sub_zero] at hpc
            rw [hpc]
            exact (hall i (f.type, (cs.drop f.offset).take (P.cellsOf f.type)) l (by simp only [items, List.getElem?_map, hi, Option.map_some]) hl).2
        case array k e =>
          simp only [Bool.and_eq_true] at hT
          have hkc := Nat.eq_of_beq_eq_true hT.1
          have h1 : cs.length = P.cellsOf t ∧ ∃ xs, ((List.range k).mapM fun i => DataW.trod enc P w 0 (fun _ => true) true fuel e ((cs.drop (i * P.cellsOf e)).take (P.cellsOf e))) = some xs ∧ d = .agg (xs.map (·.1)) := by
            dsimp only at h
            split at h
            · rename_i hl
              rw [Option.map_eq_some_iff] at h
              obtain ⟨xs, hx, hd⟩ := h
              exact ⟨hl, xs, hx, by simp only [Prod.mk.injEq] at hd; exact hd.1.symm⟩
            · cases h
          obtain ⟨hlc, xs, hxs, hdx⟩ := h1
          rw [hdx, DataW.weights, hu] at hwt
          have htile := tiles_range k (P.cellsOf e) 0 k (Nat.le_refl _)
          simp only [Nat.sub_self, Nat.zero_mul, Nat.zero_add, Nat.add_zero] at htile
          rw [hkc] at htile
          have hrange : List.range' 0 k = List.range k := (List.range_eq_range' ..).symm
          rw [hrange] at htile
          let items : List (TypeId × List Value) := (List.range k).map fun i => (e, (cs.drop (i * P.cellsOf e)).take (P.cellsOf e))
          have hit : ∀ x ∈ items, ∀ ρ σ, St ρ σ w → σ.Ro → ∃ ρ' σ' l, More ρ σ w ρ' σ' ∧ LRel ρ' l x.2.toArray ∧ Wt P σ' x.1 l := by
            intro x hx ρ σ st hr
            obtain ⟨i, hi, rfl⟩ := List.mem_map.1 hx
            have hi := List.mem_range.1 hi
            have h2 := mapM_some_get hxs i i (List.getElem?_range hi)
            have hl := mapM_some_length hxs
            rw [List.length_range] at hl
            rw [List.getElem?_eq_getElem (by omega)] at h2
            exact ih n e _ (xs[i]'(by omega)).1 (xs[i]'(by omega)).2 h2 hT.2 (weightsAll_mem hwt _ (List.mem_map_of_mem (List.getElem_mem _))) ρ σ st hr
          obtain ⟨ρ1, σ1, ls, m1, hlen, hall⟩ := imp_items hit ρ σ st hr
          simp only [items, List.length_map, List.length_range] at hlen
          have hbd := (tiles_le htile).2
          have hlsz : ∀ (i : Nat) (p : Nat × Nat) (l : List AV), ((List.range k).map fun i => (i * P.cellsOf e, P.cellsOf e))[i]? = some p → ls[i]? = some l → l.length = p.2 := by
            intro i p l hp hl
            have hb := hbd p (List.mem_of_getElem? hp)
            rw [List.getElem?_map, Option.map_eq_some_iff] at hp
            obtain ⟨f, hf, rfl⟩ := hp
            have := (hall i (e, (cs.drop (f * P.cellsOf e)).take (P.cellsOf e)) l (by simp only [items, List.getElem?_map, hf, Option.map_some]) hl).1.1
            simp at this hb
            simp; omega
          obtain ⟨hfl, hpiece⟩ := tiles_piece htile (by simpa using hlen) hlsz
          refine ⟨ρ1, σ1, ls.flatten, m1, ?_, .array hu (by rw [hfl]; omega) fun i hi => ?_⟩
          · have := LRel.flatten (ρ := ρ1) (ls := ls) (cs := items.map (·.2)) (by simp [items, hlen]) fun i l c hl hc => by
              rw [List.getElem?_map, Option.map_eq_some_iff] at hc
              obtain ⟨x, hx, rfl⟩ := hc
              exact (hall i x l hx hl).1
            have e' : items.map (·.2) = ((List.range k).map fun i => (i * P.cellsOf e, P.cellsOf e)).map fun p => (cs.drop p.1).take p.2 := by
              simp only [items, List.map_map]; rfl
            rw [e', tiles_values cs htile hlc, List.drop_zero] at this
            exact this
          · obtain ⟨l, hl⟩ : ∃ l, ls[i]? = some l := ⟨_, List.getElem?_eq_getElem (by omega)⟩
            have hpc := hpiece i (i * P.cellsOf e, P.cellsOf e) l (by rw [List.getElem?_map, List.getElem?_range hi]; rfl) hl
            simp only [Nat.sub_zero] at hpc
            rw [hpc]
            exact (hall i (e, (cs.drop (i * P.cellsOf e)).take (P.cellsOf e)) l (by simp only [items, List.getElem?_map, List.getElem?_range hi, Option.map_some]) hl).2
def aggT (P : Program) (t : TypeId) : Bool :=
  match P.underlying t with
  | some (.struct _) => true
  | some (.array _ _) => true
  | _ => false
def AV.isAgg : AV → Bool
  | .agg _ => true
  | _ => false
inductive Wts (P : Program) (σ : Mem) : List TypeId → List AV → Prop
  | nil : Wts P σ [] []
  | cons {t : TypeId} {ts : List TypeId} {a : AV} {l : List AV} (h : Wt P σ t a.cells) (ha : a.isAgg = aggT P t) (hs : Wts P σ ts l) : Wts P σ (t :: ts) (a :: l)
end
section
variable {P : Program} {σ : Mem}
theorem Wt.int_inv {t : TypeId} {k : IntKind} {c : List AV} (hu : P.underlying t = some (.int k)) (h : Wt P σ t c) : ∃ n, c = [.int k n] ∧ (Lit.int k n).wf = true := by
  cases h <;> rename_i h' <;> simp_all
theorem Wt.bool_inv {t : TypeId} {c : List AV} (hu : P.underlying t = some .bool) (h : Wt P σ t c) : ∃ b, c = [.bool b] := by
  cases h <;> rename_i h' <;> simp_all
theorem Wt.str_inv {t : TypeId} {c : List AV} (hu : P.underlying t = some .string) (h : Wt P σ t c) : ∃ s, c = [.str s] ∧ s.size ≤ reachBytes := by
  cases h <;> rename_i h' <;> simp_all
theorem Wt.slice_inv {t e : TypeId} {c : List AV} (hu : P.underlying t = some (.slice e)) (h : Wt P σ t c) : c = [.nils] ∨ ∃ b n l, c = [.slice b 0 n (.op 0)] ∧ σ.get b = some (.ro l) ∧ n * P.bytesOf e ≤ reachBytes ∧ l.length = n * P.cellsOf e ∧
    ∀ i, i < n → Wt P σ e ((l.drop (i * P.cellsOf e)).take (P.cellsOf e)) := by
  cases h with
  | slice h hg hn hc he =>
    rw [hu] at h
    cases h
    exact .inr ⟨_, _, _, rfl, hg, hn, hc, he⟩
  | nils h => exact .inl rfl
  | bool b h => rw [hu] at h; cases h
  | int h _ => rw [hu] at h; cases h
  | str h _ => rw [hu] at h; cases h
  | struct h _ _ => rw [hu] at h; cases h
  | array h _ _ => rw [hu] at h; cases h
theorem Wts.nil_inv {l : List AV} (h : Wts P σ [] l) : l = [] := by cases h; rfl
theorem Wts.cons_inv {t : TypeId} {ts : List TypeId} {l : List AV} (h : Wts P σ (t :: ts) l) : ∃ a r, l = a :: r ∧ Wt P σ t a.cells ∧ a.isAgg = aggT P t ∧ Wts P σ ts r := by
  cases h with
  | cons h ha hs => exact ⟨_, _, rfl, h, ha, hs⟩
theorem single {a x : AV} (h : a.cells = [x]) (ha : a.isAgg = false) : a = x := by
  cases a <;> simp_all [AV.cells, AV.isAgg]
theorem Wts.int {t : TypeId} {k : IntKind} {ts : List TypeId} {l : List AV} (hu : P.underlying t = some (.int k)) (h : Wts P σ (t :: ts) l) : ∃ n r, l = .int k n :: r ∧ (Lit.int k n).wf = true ∧ Wts P σ ts r := by
  obtain ⟨a, r, rfl, hw, ha, hs⟩ := h.cons_inv
  obtain ⟨n, hc, hn⟩ := hw.int_inv hu
  have := single hc (by rw [ha]; simp [aggT, hu])
  subst this
  exact ⟨n, r, rfl, hn, hs⟩
theorem Wts.bool {t : TypeId} {ts : List TypeId} {l : List AV} (hu : P.underlying t = some .bool) (h : Wts P σ (t :: ts) l) : ∃ b r, l = .bool b :: r ∧ Wts P σ ts r := by
  obtain ⟨a, r, rfl, hw, ha, hs⟩ := h.cons_inv
  obtain ⟨n, hc⟩ := hw.bool_inv hu
  have := single hc (by rw [ha]; simp [aggT, hu])
  subst this
  exact ⟨n, r, rfl, hs⟩
theorem Wts.str {t : TypeId} {ts : List TypeId} {l : List AV} (hu : P.underlying t = some .string) (h : Wts P σ (t :: ts) l) : ∃ s r, l = .str s :: r ∧ s.size ≤ reachBytes ∧ Wts P σ ts r := by
  obtain ⟨a, r, rfl, hw, ha, hs⟩ := h.cons_inv
  obtain ⟨n, hc, hn⟩ := hw.str_inv hu
  have := single hc (by rw [ha]; simp [aggT, hu])
  subst this
  exact ⟨n, r, rfl, hn, hs⟩
theorem Wts.slice {t e : TypeId} {ts : List TypeId} {l : List AV} (hu : P.underlying t = some (.slice e)) (h : Wts P σ (t :: ts) l) : ∃ a r, l = a :: r ∧ Wts P σ ts r ∧ (a = .nils ∨ ∃ b n l, a = .slice b 0 n (.op 0) ∧ σ.get b = some (.ro l) ∧ n * P.bytesOf e ≤ reachBytes ∧ l.length = n * P.cellsOf e ∧
    ∀ i, i < n → Wt P σ e ((l.drop (i * P.cellsOf e)).take (P.cellsOf e))) := by
  obtain ⟨a, r, rfl, hw, ha, hs⟩ := h.cons_inv
  refine ⟨a, r, rfl, hs, ?_⟩
  rcases hw.slice_inv hu with hc | ⟨b, n, l, hc, h1⟩
  · exact .inl (single hc (by rw [ha]; simp [aggT, hu]))
  · exact .inr ⟨b, n, l, single hc (by rw [ha]; simp [aggT, hu]), h1⟩
theorem Wts.agg {t : TypeId} {ts : List TypeId} {l : List AV} (hu : aggT P t = true) (h : Wts P σ (t :: ts) l) : ∃ c r, l = .agg c :: r ∧ Wt P σ t c ∧ Wts P σ ts r := by
  obtain ⟨a, r, rfl, hw, ha, hs⟩ := h.cons_inv
  rw [hu] at ha
  cases a <;> simp [AV.isAgg] at ha
  exact ⟨_, r, rfl, hw, hs⟩
end
end Go.Vit
end

section
namespace Go.Vit
open Go.ChangeShapes Go.WideShapes Go.ChangeAt Go.RowKit
section
variable {H : Type} {enc : TypeId × Value → H} {P : Program}

theorem av_of {ρ : Ren} {v : Value} {l : List AV} (h : LRel ρ l v.cells.toList.toArray) : ∃ a : AV, VRel ρ a v ∧ a.cells = l ∧ (a.isAgg = true ↔ ∃ cs, v = .agg cs) := by
  rcases Classical.em (∃ cs, v = .agg cs) with ⟨cs, rfl⟩ | hno
  · refine ⟨.agg l, .agg ?_ ?_, rfl, by simp [AV.isAgg]⟩
    · have := h.1; simpa [Value.cells] using this
    · intro i a v ha hv; exact h.2 i a v ha (by simpa [Value.cells] using hv)
  · have hc : v.cells = #[v] := by cases v <;> first | rfl | exact absurd ⟨_, rfl⟩ hno
    rw [hc] at h
    have hl := h.1
    match l, hl with
    | [x], _ =>
      have hx := h.2 0 x v rfl (by simp)
      refine ⟨x, hx, ?_, ?_⟩
      · cases hx <;> first | rfl | exact absurd ⟨_, rfl⟩ hno
      · cases hx <;> simp [AV.isAgg] <;> exact absurd ⟨_, rfl⟩ hno
theorem okWide_agg {w : World} {n base : Nat} {t : TypeId} {v : Value} (hT : impT P n t = true) (h : Value.okWide P w .any base t v) : (∃ cs, v = .agg cs) ↔ aggT P t = true := by
  cases n with
  | zero => simp [impT] at hT
  | succ n =>
    unfold impT at hT
    unfold aggT
    cases hu : P.underlying t with
    | none => rw [hu] at hT; cases hT
    | some u =>
      rw [hu] at hT
      cases u <;> dsimp only at hT ⊢ <;> first | exact Bool.noConfusion (show false = true from hT) | skip
      case bool => obtain ⟨b, rfl⟩ := (by simp only [Value.okWide, hu, Cell.okWide] at h; cases v <;> simp_all [Cell.ok] : ∃ b, v = .bool b); simp
      case int k => obtain ⟨b, rfl⟩ := okWide_int hu h; simp
      case string => obtain ⟨b, rfl⟩ := okWide_string hu h; simp
      case slice e => obtain ⟨a, b, c, rfl⟩ := okWide_slice hu h; simp
      case struct fs =>
        unfold Value.okWide at h
        rw [hu] at h
        obtain ⟨cs, h, _⟩ := h
        exact ⟨fun _ => rfl, fun _ => ⟨cs, h⟩⟩
      case array k e =>
        unfold Value.okWide at h
        rw [hu] at h
        obtain ⟨cs, h, _⟩ := h
        exact ⟨fun _ => rfl, fun _ => ⟨cs, h⟩⟩

theorem imp_all {w : World} {n base : Nat} : ∀ {ts : List TypeId} {vs : List Value} {ds : List (DataW H)} {ps : List MemPlace}, DataW.TrodAll enc P w 0 (fun _ => true) true ts vs ds ps → (∀ t ∈ ts, impT P n t = true) → (∀ (i : Nat) (t : TypeId) (d : DataW H), ts[i]? = some t → ds[i]? = some d → (d.weights P t).all (· ≤ reachBytes) = true) → (∀ (j : Nat) t v, ts[j]? = some t → vs[j]? = some v → Value.okWide P w .any base t v) →
    ∀ ρ σ, St ρ σ w → σ.Ro → ∃ ρ' σ' xs, More ρ σ w ρ' σ' ∧ LRel ρ' xs vs.toArray ∧ Wts P σ' ts xs
  | [], vs, ds, ps, h, _, _, _, ρ, σ, st, hr => by
    obtain ⟨rfl, rfl, rfl⟩ := trodAll_nil h
    exact ⟨ρ, σ, [], .refl st hr, LRel.nil ρ, .nil⟩
  | t :: ts, vs, ds, ps, h, hT, hwt, hv, ρ, σ, st, hr => by
    obtain ⟨v, vs', d, ds', p, q, rfl, rfl, rfl, ⟨fuel, h0⟩, h1⟩ := trodAll_cons h
    obtain ⟨ρ1, σ1, l, m1, hl, hw⟩ := imp_trod fuel n t _ d p h0 (hT t (by simp)) (hwt 0 t d rfl rfl) ρ σ st hr
    obtain ⟨ρ2, σ2, xs, m2, hl2, hw2⟩ := imp_all h1 (fun t ht => hT t (by simp [ht])) (fun i t d ht hd => hwt (i + 1) t d (by simpa using ht) (by simpa using hd)) (fun j t v ht hv' => hv (j + 1) t v (by simpa using ht) (by simpa using hv')) ρ1 σ1 m1.st m1.ro
    obtain ⟨a, ha, hc, hag⟩ := av_of hl
    have hag' : a.isAgg = aggT P t := Bool.eq_iff_iff.2 (hag.trans (okWide_agg (hT t (by simp)) (hv 0 t v rfl rfl)))
    refine ⟨ρ2, σ2, a :: xs, m1.trans m2, ?_, .cons (by rw [hc]; exact hw.mono m2.keep) hag' hw2⟩
    have h3 : LRel ρ2 [a] [v].toArray := .of_list rfl fun i x u hx hu => by
      cases i with
      | zero => simp at hx hu; subst hx; subst hu; exact ha.mono m2.ext
      | succ i => simp at hx
    have := h3.append hl2
    simpa using this

theorem all_same {W W' : World} (hl : laidOutB P = true) (hb : Below W.heap.size W W') : ∀ {ts : List TypeId} {vs : List Value} {ds : List (DataW H)} {ps : List MemPlace}, DataW.TrodAll enc P W 0 (fun _ => true) true ts vs ds ps →
    (∀ t ∈ ts, P.readableRec t = true ∧ t < P.types.size) → DataW.TrodAll enc P W' 0 (fun b => decide (b < W.heap.size)) true ts vs ds ps
  | [], vs, ds, ps, h, _ => by
    obtain ⟨rfl, rfl, rfl⟩ := trodAll_nil h
    exact trodAll_mk0
  | t :: ts, vs, ds, ps, h, hT => by
    obtain ⟨v, vs', d, ds', p, q, rfl, rfl, rfl, h0, h1⟩ := trodAll_cons h
    have hlt : ∀ x ∈ p, x.block < W.heap.size := by obtain ⟨m, hm⟩ := h0; exact DataW.trod_lt m _ _ _ hm
    exact trodAll_cons_mk (Below.trod hl (hT t (by simp)).1 (hT t (by simp)).2 h0 hb hlt) (all_same hl hb h1 fun t ht => hT t (by simp [ht]))
theorem trodAll_len {w : World} {base : Nat} {spare : Nat → Bool} {held : Bool} : ∀ {ts : List TypeId} {vs : List Value} {ds : List (DataW H)} {ps : List MemPlace}, DataW.TrodAll enc P w base spare held ts vs ds ps → ds.length = ts.length
  | [], vs, ds, ps, h => by
    obtain ⟨rfl, rfl, rfl⟩ := trodAll_nil h
    rfl
  | t :: ts, vs, ds, ps, h => by
    obtain ⟨v, vs', d, ds', p, q, rfl, rfl, rfl, h0, h1⟩ := trodAll_cons h
    simp [trodAll_len h1]

def isTrue (v : AV) : Prop := v = .bool true
theorem law_step {f : Nat} {fn : Func} {s : ChangeSpec} {tb n : Nat} (hl : laidOutB P = true) (hv : s.vars = []) (hret : fn.resultTypes = #[tb]) (hb : P.underlying tb = some .bool)
    (hread : fn.params.toList.all (fun t => P.readableRec t && decide (t < P.types.size)) = true) (himp : fn.params.toList.all (impT P n) = true)
    (hspec : ∀ ds : List (DataW H), ds.length = fn.params.toList.length → (s.fn H (ds ++ [])).results = [.lit (.bool true)] ∧ (s.fn H (ds ++ [])).args = ds ∧ (s.fn H (ds ++ [])).vars = [])
    (hlaw : ∀ (σ : Mem) (xs : List AV), σ.Ro → Wts P σ fn.params.toList xs → ACalls P f xs σ fun v _ => isTrue v)
    (W : World) (base : Nat) (args : Array Value) (hval : ∀ (j : Nat) t v, fn.params[j]? = some t → args[j]? = some v → Value.okWide P W .any base t v) (ds gs : List (DataW H)) (before : List MemPlace) (hW : DataW.Whole enc P fn.params.toList s.vars false W args.toList ds gs before)
    (hwt : (DataW.weightsEach P (fn.params.toList ++ s.plain.varTypes P) (ds ++ gs)).all (· ≤ reachBytes) = true) :
    Calls P f args W fun e W' => ∃ v, e = .returned v ∧ s.post enc P fn false true false false W args v W' := by
  have hW' := hW
  obtain ⟨p, q, hA, hV, rfl, hfz, hnd⟩ := hW
  rw [hv] at hV
  obtain ⟨rfl, rfl⟩ := trodVars_none hV
  have st0 : St (fun _ => none) ⟨.leaf, 0⟩ W := ⟨fun b p h => (by cases h), fun b k h => (by simp [Mem.get, Tr.get_leaf] at h), fun b k p h => (by simp [Mem.get, Tr.get_leaf] at h), fun b b' k k' p p' h => (by simp [Mem.get, Tr.get_leaf] at h)⟩
  obtain ⟨ρ, σ, xs, m, hlr, hw⟩ := imp_all (n := n) hA (fun t ht => List.all_eq_true.1 himp t ht) (fun i t d ht hd => weightsEach_get hwt i t d (by rw [List.getElem?_append_left (List.getElem?_eq_some_iff.1 ht).1]; exact ht) (by rw [List.getElem?_append_left (List.getElem?_eq_some_iff.1 hd).1]; exact hd)) (fun j t v ht hv => hval j t v (by simpa using ht) (by simpa using hv)) _ _ st0 (fun b k h => by simp [Mem.get, Tr.get_leaf] at h)
  have hlr' : LRel ρ xs args := by simpa using hlr
  refine ((hlaw σ xs m.ro hw).2 ρ W args m.st hlr').mono fun e W' ⟨v, v', σ', ρ', he, hq, hvr, hs⟩ => ?_
  have hv' : v' = .bool true := by
    rw [show v = .bool true from hq] at hvr
    cases hvr; rfl
  subst hv'
  have bel : Below W.heap.size W W' := ⟨hs.os, hs.tape, hs.out, hs.size, fun k hk => hs.frame k hk fun b kk qq h1 h2 => by rw [m.ro b kk h1] at h2; cases h2⟩
  have hread' : ∀ t ∈ fn.params.toList, P.readableRec t = true ∧ t < P.types.size := fun t ht => by
    have := List.all_eq_true.1 hread t ht
    simpa [Bool.and_eq_true] using this
  obtain ⟨e1, e2, e3⟩ := hspec ds (trodAll_len hA)
  refine ⟨_, he, ds, [], p ++ [], [], p, [], hW', ?_, ?_, ?_, bel.frame _, fun h => by cases h⟩
  · rw [e1, hret]
    exact trodAll_mk1 (shut_bool hb _)
  · rw [e2]; exact all_same hl bel hA hread'
  · rw [e3, hv]; exact rfl
end
end Go.Vit
end
