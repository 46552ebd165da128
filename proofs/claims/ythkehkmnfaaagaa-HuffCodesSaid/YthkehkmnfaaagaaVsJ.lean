/- Maps: what stands at a key. -/
import Derived.Test.YthkehkmnfaaagaaVsI
set_option linter.unusedVariables false
set_option linter.unusedSimpArgs false
namespace Go.Vit
/-- A kind of keys. -/
class Key (α : Type) [DecidableEq α] where
  enc : α → AV
  eq : ∀ a b, keyEq (enc a) (enc b) = some (decide (a = b))
instance : Key ByteArray := ⟨.str, fun a b => by
  show some (a.data.toList == b.data.toList) = _
  congr 1
  rcases a with ⟨a⟩
  rcases b with ⟨b⟩
  by_cases h : a = b
  · subst h; simp
  · have h1 : ByteArray.mk a ≠ ByteArray.mk b := fun e => h (by injection e)
    have h2 : a.toList ≠ b.toList := fun e => h (Array.toList_inj.1 e)
    rw [decide_eq_false h1]
    exact beq_false_of_ne h2⟩
instance : Key Int := ⟨.int .i64, fun a b => by
  show (if IntKind.i64 = IntKind.i64 then some (a == b) else none) = _
  rw [if_pos rfl]
  by_cases h : a = b
  · subst h; simp
  · simp [h]⟩
section
variable {α : Type} [DecidableEq α]
def look : List (α × AV × Nat) → α → Option AV
  | [], _ => none
  | e :: l, a => if e.1 = a then some e.2.1 else look l a
def idx : List (α × AV × Nat) → α → Option Nat
  | [], _ => none
  | e :: l, a => if e.1 = a then some 0 else (idx l a).map (· + 1)
theorem idx_none {a : α} : ∀ {l : List (α × AV × Nat)}, idx l a = none → look l a = none
  | [], _ => rfl
  | e :: l, h => by
    by_cases he : e.1 = a
    · rw [idx, if_pos he] at h; exact nomatch h
    · rw [idx, if_neg he, Option.map_eq_none_iff] at h
      rw [look, if_neg he, idx_none h]
theorem idx_some {a : α} : ∀ {l : List (α × AV × Nat)} {i : Nat}, idx l a = some i → ∃ e, l[i]? = some e ∧ e.1 = a ∧ look l a = some e.2.1
  | [], _, h => nomatch h
  | e :: l, i, h => by
    by_cases he : e.1 = a
    · rw [idx, if_pos he] at h
      obtain rfl := Option.some.inj h
      exact ⟨e, rfl, he, by rw [look, if_pos he]⟩
    · rw [idx, if_neg he, Option.map_eq_some_iff] at h
      obtain ⟨j, hj, rfl⟩ := h
      obtain ⟨e', h1, h2, h3⟩ := idx_some hj
      exact ⟨e', by simpa using h1, h2, by rw [look, if_neg he, h3]⟩
theorem look_append (l : List (α × AV × Nat)) (a : α) (v : AV) (n : Nat) (h : look l a = none) (b : α) : look (l ++ [(a, v, n)]) b = if b = a then some v else look l b := by
  induction l with
  | nil =>
    show (if a = b then some v else none) = _
    by_cases hb : b = a
    · rw [if_pos hb, if_pos hb.symm]
    · rw [if_neg hb, if_neg fun e => hb e.symm]; rfl
  | cons e l ih =>
    rw [look] at h
    by_cases he : e.1 = a
    · rw [if_pos he] at h; exact nomatch h
    · rw [if_neg he] at h
      rw [List.cons_append, look, ih h, look]
      by_cases hb : e.1 = b
      · rw [if_pos hb, if_pos hb, if_neg fun e' => he (hb.trans e')]
      · rw [if_neg hb, if_neg hb]
theorem look_modify (v : AV) {a : α} : ∀ {l : List (α × AV × Nat)} {i : Nat}, idx l a = some i → ∀ b, look (l.modify i fun e => (a, v, e.2.2)) b = if b = a then some v else look l b
  | [], _, h => nomatch h
  | e :: l, i, h => fun b => by
    by_cases he : e.1 = a
    · rw [idx, if_pos he] at h
      obtain rfl := Option.some.inj h
      rw [List.modify_zero_cons, look, look]
      by_cases hb : b = a
      · rw [if_pos hb.symm, if_pos hb]
      · rw [if_neg fun e => hb e.symm, if_neg hb, if_neg fun e' => hb (e'.symm.trans he)]
    · rw [idx, if_neg he, Option.map_eq_some_iff] at h
      obtain ⟨j, hj, rfl⟩ := h
      rw [List.modify_succ_cons, look, look_modify v hj b, look]
      by_cases hb : e.1 = b
      · rw [if_pos hb, if_pos hb, if_neg fun e' => he (hb.trans e')]
      · rw [if_neg hb, if_neg hb]
theorem look_nil (a : α) : look [] a = none := rfl
end
section
variable {α : Type} [DecidableEq α] [Key α]
def encE (l : List (α × AV × Nat)) : List (AV × AV × Nat) := l.map fun e => (Key.enc e.1, e.2)
theorem findK_enc (a : α) : ∀ l : List (α × AV × Nat), findK (Key.enc a) (encE l) = some (idx l a)
  | [] => rfl
  | e :: l => by
    show (keyEq (Key.enc a) (Key.enc e.1)).bind _ = _
    rw [Key.eq, Option.bind_some]
    by_cases h : e.1 = a
    · rw [if_pos (decide_eq_true h.symm), idx, if_pos h]
    · rw [if_neg (by simpa using fun e => h e.symm), idx, if_neg h]
      show Option.map _ (findK (Key.enc a) (encE l)) = _
      rw [findK_enc a l]; rfl
theorem encE_modify (a : α) (v : AV) : ∀ (l : List (α × AV × Nat)) (i : Nat), (encE l).modify i (fun e => (Key.enc a, v, e.2.2)) = encE (l.modify i fun e => (a, v, e.2.2))
  | [], i => by simp [encE]
  | e :: l, 0 => rfl
  | e :: l, i + 1 => by
    show (Key.enc e.1, e.2) :: (encE l).modify i _ = _
    rw [encE_modify a v l i]; rfl
theorem encE_get {l : List (α × AV × Nat)} {i : Nat} {e : α × AV × Nat} (h : l[i]? = some e) : (encE l)[i]? = some (Key.enc e.1, e.2) := by
  unfold encE; rw [List.getElem?_map, h]; rfl
theorem look_step {σ : Mem} {m c : Nat} {l : List (α × AV × Nat)} {a : α} {z : AV} {K : AV → Prop} (h : σ.get m = some (.map (encE l) c)) (hk : K ((look l a).getD z)) : lookW σ z false (.map m) (Key.enc a) K := by
  refine opt h ?_
  refine opt (findK_enc a l) ?_
  cases hi : idx l a with
  | none => rw [idx_none hi] at hk; exact hk
  | some i =>
    obtain ⟨e, h1, h2, h3⟩ := idx_some hi
    rw [h3] at hk
    exact opt (encE_get h1) hk
theorem look_ok {σ : Mem} {m c : Nat} {l : List (α × AV × Nat)} {a : α} {z : AV} {K : AV → Prop} (h : σ.get m = some (.map (encE l) c)) (h1 : ∀ v, look l a = some v → K (.tup [v, .bool true])) (h2 : look l a = none → K (.tup [z, .bool false])) : lookW σ z true (.map m) (Key.enc a) K := by
  refine opt h ?_
  refine opt (findK_enc a l) ?_
  cases hi : idx l a with
  | none => exact h2 (idx_none hi)
  | some i =>
    obtain ⟨e, h3, h4, h5⟩ := idx_some hi
    exact opt (encE_get h3) (h1 _ h5)
theorem mup_step {σ : Mem} {m c : Nat} {l : List (α × AV × Nat)} {a : α} {v : AV} {K : Mem → Prop} (h : σ.get m = some (.map (encE l) c))
    (hk : ∀ l' c', (∀ b, look l' b = if b = a then some v else look l b) → K (σ.put m (some (.map (encE l') c')))) : mupW σ (.map m) (Key.enc a) v K := by
  refine opt h ?_
  refine opt (findK_enc a l) ?_
  cases hi : idx l a with
  | none =>
    have := hk (l ++ [(a, v, c)]) (c + 1) (look_append l a v c (idx_none hi))
    rw [show encE (l ++ [(a, v, c)]) = encE l ++ [(Key.enc a, v, c)] from by simp [encE]] at this
    exact this
  | some i =>
    have := hk (l.modify i fun e => (a, v, e.2.2)) c (look_modify v hi)
    rw [← encE_modify] at this
    exact this
end
end Go.Vit
