/- Slices of structs: cells piece by piece; what is known of an argument that is one. -/
import Derived.Test.YthkehkmnfaaagaaVsF
set_option linter.unusedVariables false
set_option linter.unusedSimpArgs false
namespace Go.Vit
theorem flat_length {α : Type} {enc : α → List AV} {k : Nat} (hk : ∀ a, (enc a).length = k) : ∀ l : List α, (l.flatMap enc).length = l.length * k
  | [] => by simp
  | a :: l => by rw [List.flatMap_cons, List.length_append, hk, flat_length hk l, List.length_cons, Nat.add_mul]; omega
theorem flat_drop {α : Type} {enc : α → List AV} {k : Nat} (hk : ∀ a, (enc a).length = k) : ∀ (l : List α) (i : Nat), (l.flatMap enc).drop (i * k) = (l.drop i).flatMap enc
  | l, 0 => by simp
  | [], i + 1 => by simp
  | a :: l, i + 1 => by
    rw [List.flatMap_cons, List.drop_succ_cons, ← flat_drop hk l i, Nat.add_mul, Nat.one_mul, Nat.add_comm, ← List.drop_drop, List.drop_left' (hk a)]
theorem flat_take {α : Type} {enc : α → List AV} {k : Nat} (hk : ∀ a, (enc a).length = k) : ∀ (l : List α) (i : Nat), (l.flatMap enc).take (i * k) = (l.take i).flatMap enc
  | l, 0 => by simp
  | [], i + 1 => by simp
  | a :: l, i + 1 => by
    rw [List.flatMap_cons, List.take_succ_cons, List.flatMap_cons, ← flat_take hk l i, Nat.add_mul, Nat.one_mul, List.take_append, hk]
    rw [List.take_of_length_le (by rw [hk]; omega), Nat.add_sub_cancel]
/-- A piece. -/
theorem flat_piece {α : Type} {enc : α → List AV} {k : Nat} (hk : ∀ a, (enc a).length = k) {l : List α} {i : Nat} (hi : i < l.length) : ((l.flatMap enc).drop (i * k)).take k = enc l[i] := by
  rw [flat_drop hk, List.drop_eq_getElem_cons hi, List.flatMap_cons, List.take_left' (hk _)]
/-- A cell. -/
theorem flat_get {α : Type} {enc : α → List AV} {k : Nat} (hk : ∀ a, (enc a).length = k) {l : List α} {i j : Nat} (hi : i < l.length) (hj : j < k) : (l.flatMap enc)[i * k + j]? = (enc l[i])[j]? := by
  rw [← flat_piece hk hi, List.getElem?_take_of_lt hj, List.getElem?_drop]
theorem flat_set {α : Type} {enc : α → List AV} {k : Nat} (hk : ∀ a, (enc a).length = k) : ∀ (l : List α) (i : Nat) (a : α), i < l.length → setAt (l.flatMap enc) (i * k) (enc a) = (l.set i a).flatMap enc
  | [], i, a, h => by simp at h
  | x :: l, i, a, h => by
    have key : ∀ (cs pre post : List AV), setAt (pre ++ post) pre.length cs = pre ++ setAt post 0 cs := by
      intro cs
      induction cs with
      | nil => intro pre post; rfl
      | cons c cs ih =>
        intro pre post
        rw [setAt, setAt]
        cases post with
        | nil =>
          simp only [List.append_nil, List.set_nil]
          rw [List.set_eq_of_length_le (Nat.le_refl _)]
          have h1 : ∀ (cs l : List AV) (o : Nat), l.length ≤ o → setAt l o cs = l := by
            intro cs
            induction cs with
            | nil => intro l o _; rfl
            | cons c cs ih => intro l o h; rw [setAt, List.set_eq_of_length_le h]; exact ih _ _ (by omega)
          rw [h1 _ _ _ (by omega), h1 _ _ _ (by simp)]; simp
        | cons y post =>
          rw [List.set_append_right _ _ (Nat.le_refl _), Nat.sub_self, List.set_cons_zero]
          have := ih (pre ++ [c]) post
          rw [List.append_assoc, List.length_append] at this
          simp only [List.cons_append, List.nil_append, List.length_cons, List.length_nil, Nat.zero_add] at this
          rw [this]
          have := ih [c] post
          simp only [List.cons_append, List.nil_append, List.length_cons, List.length_nil, Nat.zero_add] at this
          rw [show (0 : Nat) + 1 = 1 from rfl, this]; simp
    have front : ∀ (cs old post : List AV), old.length = cs.length → setAt (old ++ post) 0 cs = cs ++ post := by
      intro cs
      induction cs with
      | nil => intro old post ho; rw [List.length_eq_zero_iff.1 ho]; rfl
      | cons c cs ih =>
        intro old post ho
        cases old with
        | nil => simp at ho
        | cons y old =>
          rw [setAt, List.cons_append, List.set_cons_zero]
          have := key cs [c] (old ++ post)
          simp only [List.cons_append, List.nil_append, List.length_cons, List.length_nil, Nat.zero_add] at this
          rw [show (0 : Nat) + 1 = 1 from rfl, this, ih old post (by simpa using ho)]
          rfl
    cases i with
    | zero => rw [Nat.zero_mul, List.set_cons_zero, List.flatMap_cons, List.flatMap_cons, front _ _ _ (by rw [hk, hk])]
    | succ i =>
      rw [List.flatMap_cons, List.set_cons_succ, List.flatMap_cons, Nat.add_mul, Nat.one_mul, Nat.add_comm]
      have : ∀ (cs pre post : List AV) (o : Nat), setAt (pre ++ post) (pre.length + o) cs = pre ++ setAt post o cs := by
        intro cs
        induction cs with
        | nil => intro pre post o; rfl
        | cons c cs ih => intro pre post o; rw [setAt, setAt, List.set_append_right _ _ (by omega), Nat.add_sub_cancel_left, Nat.add_assoc, ih]
      have h2 := this (enc a) (enc x) (l.flatMap enc) (i * k)
      rw [hk] at h2
      rw [h2, flat_set hk l i a (by simpa using h)]
section
variable {P : Program} {σ : Mem}
/-- The fields of a struct type: their types and places. -/
def fieldsOf (P : Program) (t : TypeId) : List (Nat × Nat) :=
  match P.underlying t with
  | some (.struct fs) => fs.toList.map fun f => (f.type, f.offset)
  | _ => []
theorem Wt.fields {t : TypeId} {c : List AV} {p : Nat × Nat} {L : List (Nat × Nat)} (hL : fieldsOf P t = p :: L) (h : Wt P σ t c) : c.length = P.cellsOf t ∧ ∀ q ∈ p :: L, Wt P σ q.1 ((c.drop q.2).take (P.cellsOf q.1)) := by
  unfold fieldsOf at hL
  split at hL
  · rename_i fs hu
    obtain ⟨h1, h2⟩ := h.struct_inv hu
    refine ⟨h1, fun q hq => ?_⟩
    rw [← hL] at hq
    obtain ⟨f, hf, rfl⟩ := List.mem_map.1 hq
    exact h2 f hf
  · cases hL
/-- A slice's cells, thing by thing. -/
theorem slice_decode {α : Type} {enc : α → List AV} {good : α → Prop} {e : TypeId} {k : Nat} (hc : ∀ c, Wt P σ e c → ∃ a, c = enc a ∧ good a) : ∀ {n : Nat} {l : List AV}, l.length = n * k → (∀ i, i < n → Wt P σ e ((l.drop (i * k)).take k)) →
    ∃ as : List α, as.length = n ∧ l = as.flatMap enc ∧ ∀ a ∈ as, good a
  | 0, l, hl, _ => ⟨[], rfl, by simpa using hl, fun a h => by simp at h⟩
  | n + 1, l, hl, hw => by
    rw [Nat.add_mul, Nat.one_mul] at hl
    obtain ⟨a, ha, hg⟩ := hc _ (hw 0 (by omega))
    obtain ⟨as, h1, h2, h3⟩ := slice_decode (enc := enc) (good := good) (k := k) (n := n) (l := l.drop k) hc (by rw [List.length_drop]; omega) fun i hi => by
      have := hw (i + 1) (by omega)
      rw [List.drop_drop]
      rw [Nat.add_mul, Nat.one_mul, Nat.add_comm] at this
      exact this
    refine ⟨a :: as, by simp [h1], ?_, fun b hb => ?_⟩
    · rw [List.flatMap_cons, ← ha, ← h2, Nat.zero_mul, List.drop_zero, List.take_append_drop]
    · rcases List.mem_cons.1 hb with rfl | hb
      · exact hg
      · exact h3 b hb
end
end Go.Vit
