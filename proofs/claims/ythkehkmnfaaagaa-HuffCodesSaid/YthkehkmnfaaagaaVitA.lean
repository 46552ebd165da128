/- The abstract memory of this proof: a trie, abstract values, and how they stand for the model's values and worlds under a renaming of some blocks. -/
import Derived.Orders
import Derived.Laws.Cells
set_option linter.unusedVariables false
set_option linter.unusedSimpArgs false
namespace Go.Vit

/-! ### A trie over natural numbers -/
inductive Tr (α : Type) where
  | leaf
  | node (v : Option α) (l r : Tr α)

namespace Tr
variable {α : Type}
def get : Tr α → Nat → Option α
  | .leaf, _ => none
  | .node v l r, n =>
    match n with
    | 0 => v
    | k + 1 => match Nat.beq (k % 2) 0 with
      | true => l.get (k / 2)
      | false => r.get (k / 2)
def val : Tr α → Option α
  | .leaf => none
  | .node v _ _ => v
def lt : Tr α → Tr α
  | .leaf => .leaf
  | .node _ l _ => l
def rt : Tr α → Tr α
  | .leaf => .leaf
  | .node _ _ r => r
def putF : Nat → Tr α → Nat → Option α → Tr α
  | 0, t, _, _ => t
  | f + 1, t, n, o =>
    match n with
    | 0 => .node o t.lt t.rt
    | k + 1 => match Nat.beq (k % 2) 0 with
      | true => .node t.val (putF f t.lt (k / 2) o) t.rt
      | false => .node t.val t.lt (putF f t.rt (k / 2) o)
def put (t : Tr α) (n : Nat) (o : Option α) : Tr α := putF (n + 1) t n o

theorem get_zero (t : Tr α) : t.get 0 = t.val := by cases t <;> rfl
theorem get_succ (t : Tr α) (k : Nat) : t.get (k + 1) = if k % 2 = 0 then t.lt.get (k / 2) else t.rt.get (k / 2) := by
  cases t with
  | leaf => simp [get, lt, rt]
  | node v l r =>
    simp only [get, lt, rt]
    by_cases h : k % 2 = 0
    · simp [h]
    · have : Nat.beq (k % 2) 0 = false := Bool.eq_false_iff.2 fun e => h (Nat.eq_of_beq_eq_true e)
      simp [this, h]
theorem putF_succ (f : Nat) (t : Tr α) (k : Nat) (o : Option α) :
    putF (f + 1) t (k + 1) o = if k % 2 = 0 then .node t.val (putF f t.lt (k / 2) o) t.rt else .node t.val t.lt (putF f t.rt (k / 2) o) := by
  simp only [putF]
  by_cases h : k % 2 = 0
  · simp [h]
  · have : Nat.beq (k % 2) 0 = false := Bool.eq_false_iff.2 fun e => h (Nat.eq_of_beq_eq_true e)
    simp [this, h]
theorem get_putF : ∀ (f : Nat) (t : Tr α) (n m : Nat) (o : Option α), n < f → (putF f t n o).get m = if m = n then o else t.get m
  | 0, _, _, _, _, h => absurd h (Nat.not_lt_zero _)
  | f + 1, t, 0, m, o, _ => by
    cases m with
    | zero => simp [putF, get]
    | succ m => rw [get_succ, get_succ]; simp [putF, lt, rt]
  | f + 1, t, k + 1, m, o, h => by
    rw [putF_succ]
    have hk : k / 2 < f := by omega
    cases m with
    | zero => split <;> simp [get_zero, val]
    | succ m =>
      rw [get_succ t]
      split
      · rename_i hk2
        rw [get_succ]
        simp only [lt, rt]
        split
        · rw [get_putF f _ _ _ _ hk]
          by_cases e : m / 2 = k / 2
          · rw [if_pos e, if_pos (by omega)]
          · rw [if_neg e, if_neg (by omega)]
        · rw [if_neg (by omega)]
      · rename_i hk2
        rw [get_succ]
        simp only [lt, rt]
        split
        · rw [if_neg (by omega)]
        · rw [get_putF f _ _ _ _ hk]
          by_cases e : m / 2 = k / 2
          · rw [if_pos e, if_pos (by omega)]
          · rw [if_neg e, if_neg (by omega)]
theorem get_put (t : Tr α) (n m : Nat) (o : Option α) : (t.put n o).get m = if m = n then o else t.get m := get_putF _ _ _ _ _ (Nat.lt_succ_self n)
theorem get_put_self (t : Tr α) (n : Nat) (o : Option α) : (t.put n o).get n = o := by rw [get_put, if_pos rfl]
theorem get_put_ne (t : Tr α) {n m : Nat} (h : m ≠ n) (o : Option α) : (t.put n o).get m = t.get m := by rw [get_put, if_neg h]
theorem get_leaf (n : Nat) : (Tr.leaf : Tr α).get n = none := rfl
end Tr

/-! ### Abstract values -/
/-- What is known of a slice's capacity: just so many elements, or (with the size of an element) that the row bears it. -/
inductive Cap where
  | ex (k : Nat)
  | op (s : Nat)
inductive AV where
  | bool (b : Bool)
  | int (k : IntKind) (n : Int)
  | str (s : ByteArray)
  | nilp
  | ptr (b o : Nat)
  | nils
  | slice (b o n : Nat) (c : Cap)
  | nilm
  | map (b : Nat)
  | nilf
  | func (f : Nat) (capt : List AV)
  | agg (l : List AV)
  | tup (l : List AV)
  | nili
  | iface (t : Nat) (v : AV)
  | yld (b : Nat)

instance : Inhabited AV := ⟨.tup []⟩

def AV.one : AV → Bool
  | .agg _ | .tup _ => false
  | _ => true
def AV.cells : AV → List AV
  | .agg l => l
  | v => [v]

/-- An abstract block's place: the block, the first cell, how many cells the block has. -/
abbrev Loc := Nat × Nat × Nat
abbrev Ren := Nat → Option Loc

inductive VRel (ρ : Ren) : AV → Value → Prop
  | bool (b : Bool) : VRel ρ (.bool b) (.bool b)
  | int (k : IntKind) (n : Int) : VRel ρ (.int k n) (.int k n)
  | str (s : ByteArray) : VRel ρ (.str s) (.string s)
  | nilp : VRel ρ .nilp (.pointer none)
  | ptr {b o b' o' m : Nat} (h : ρ b = some (b', o', m)) : VRel ρ (.ptr b o) (.pointer (some ⟨b', o' + o, none⟩))
  | nils : VRel ρ .nils (.slice none 0 0)
  | slice {b o n b' o' m cap : Nat} {c : Cap} {a : Addr} (h : ρ b = some (b', o', m)) (hn : n ≤ cap) (hc : ∀ k, c = .ex k → cap = k)
      (hm : ∀ s, c = .op s → s ≠ 0 → o' + o + cap * s ≤ m) (ha : cap = 0 ∨ a = ⟨b', o' + o, none⟩) : VRel ρ (.slice b o n c) (.slice (some a) n cap)
  | nilm : VRel ρ .nilm (.map none)
  | map {b b' o' m : Nat} (h : ρ b = some (b', o', m)) : VRel ρ (.map b) (.map (some b'))
  | nilf : VRel ρ .nilf .nilFunc
  | func {f : Nat} {l : List AV} {cs : Array Value} (hl : l.length = cs.size) (h : ∀ (i : Nat) (a : AV) (v : Value), l[i]? = some a → cs[i]? = some v → VRel ρ a v) :
      VRel ρ (.func f l) (.func (.func f) #[] cs)
  | agg {l : List AV} {cs : Array Value} (hl : l.length = cs.size) (h : ∀ (i : Nat) (a : AV) (v : Value), l[i]? = some a → cs[i]? = some v → VRel ρ a v) :
      VRel ρ (.agg l) (.agg cs)
  | tup {l : List AV} {cs : Array Value} (hl : l.length = cs.size) (h : ∀ (i : Nat) (a : AV) (v : Value), l[i]? = some a → cs[i]? = some v → VRel ρ a v) :
      VRel ρ (.tup l) (.tuple cs)
  | nili : VRel ρ .nili .nilIface
  | iface {t : Nat} {x : AV} {v : Value} (h : VRel ρ x v) : VRel ρ (.iface t x) (.iface t v)
  | yld {b l o m : Nat} (h : ρ b = some (l, o, m)) : VRel ρ (.yld b) (.func (.yield l) #[] #[])

theorem VRel.mono {ρ ρ' : Ren} (he : ∀ b p, ρ b = some p → ρ' b = some p) {x : AV} {v : Value} (h : VRel ρ x v) : VRel ρ' x v := by
  induction h with
  | bool b => exact .bool b
  | int k n => exact .int k n
  | str s => exact .str s
  | nilp => exact .nilp
  | ptr h => exact .ptr (he _ _ h)
  | nils => exact .nils
  | slice h hn hc hm ha => exact .slice (he _ _ h) hn hc hm ha
  | nilm => exact .nilm
  | map h => exact .map (he _ _ h)
  | nilf => exact .nilf
  | func hl _ ih => exact .func hl ih
  | agg hl _ ih => exact .agg hl ih
  | tup hl _ ih => exact .tup hl ih
  | nili => exact .nili
  | iface _ ih => exact .iface ih
  | yld h => exact .yld (he _ _ h)

/-- A list of abstract values stands for an array of values. -/
def LRel (ρ : Ren) (l : List AV) (cs : Array Value) : Prop := l.length = cs.size ∧ ∀ (i : Nat) (a : AV) (v : Value), l[i]? = some a → cs[i]? = some v → VRel ρ a v
theorem LRel.mono {ρ ρ' : Ren} (he : ∀ b p, ρ b = some p → ρ' b = some p) {l : List AV} {cs : Array Value} (h : LRel ρ l cs) : LRel ρ' l cs :=
  ⟨h.1, fun i a v ha hv => (h.2 i a v ha hv).mono he⟩
theorem LRel.nil (ρ : Ren) : LRel ρ [] #[] := ⟨rfl, fun i a v h => by simp at h⟩
theorem LRel.get {ρ : Ren} {l : List AV} {cs : Array Value} (h : LRel ρ l cs) {i : Nat} {a : AV} (ha : l[i]? = some a) : ∃ v, cs[i]? = some v ∧ VRel ρ a v := by
  have hi : i < l.length := (List.getElem?_eq_some_iff.1 ha).1
  have hi' : i < cs.size := h.1 ▸ hi
  exact ⟨cs[i], Array.getElem?_eq_getElem hi', h.2 i a _ ha (Array.getElem?_eq_getElem hi')⟩
theorem LRel.push {ρ : Ren} {l : List AV} {cs : Array Value} (h : LRel ρ l cs) {a : AV} {v : Value} (hv : VRel ρ a v) : LRel ρ (l ++ [a]) (cs.push v) := by
  refine ⟨by simp [h.1], fun i x y hx hy => ?_⟩
  rw [Array.getElem?_push] at hy
  by_cases hi : i = cs.size
  · subst hi
    rw [if_pos rfl] at hy
    rw [← h.1] at hx
    simp at hx
    cases hx; cases hy; exact hv
  · rw [if_neg hi] at hy
    have : i < cs.size := (Array.getElem?_eq_some_iff.1 hy).1
    have hl := h.1
    rw [List.getElem?_append_left (by omega)] at hx
    exact h.2 i x y hx hy
theorem LRel.append {ρ : Ren} {l l' : List AV} {cs cs' : Array Value} (h : LRel ρ l cs) (h' : LRel ρ l' cs') : LRel ρ (l ++ l') (cs ++ cs') := by
  refine ⟨by simp [h.1, h'.1], fun i x y hx hy => ?_⟩
  by_cases hi : i < l.length
  · rw [List.getElem?_append_left hi] at hx
    rw [Array.getElem?_append_left (by rw [← h.1]; exact hi)] at hy
    exact h.2 i x y hx hy
  · rw [List.getElem?_append_right (by omega)] at hx
    rw [Array.getElem?_append_right (by rw [← h.1]; omega), ← h.1] at hy
    exact h'.2 _ x y hx hy
theorem LRel.extract {ρ : Ren} {l : List AV} {cs : Array Value} (h : LRel ρ l cs) (i j : Nat) : LRel ρ ((l.drop i).take (j - i)) (cs.extract i j) := by
  refine ⟨by simp [h.1]; omega, fun k x y hx hy => ?_⟩
  rw [Array.getElem?_extract] at hy
  split at hy
  · rw [List.getElem?_take] at hx
    split at hx
    · rw [List.getElem?_drop] at hx; exact h.2 _ x y hx hy
    · simp at hx
  · simp at hy
theorem LRel.of_list {ρ : Ren} {l : List AV} {vs : List Value} (hl : l.length = vs.length) (h : ∀ (i : Nat) (a : AV) (v : Value), l[i]? = some a → vs[i]? = some v → VRel ρ a v) : LRel ρ l vs.toArray :=
  ⟨by simp [hl], fun i a v ha hv => h i a v ha (by simpa using hv)⟩
theorem LRel.toVals {ρ : Ren} {l : List AV} {cs : Array Value} (h : LRel ρ l cs) : LRel ρ l cs.toList.toArray := by simpa using h

theorem VRel.cells {ρ : Ren} {x : AV} {v : Value} (h : VRel ρ x v) : LRel ρ x.cells v.cells := by
  cases h
  case agg hl h => exact ⟨hl, h⟩
  all_goals
    refine ⟨rfl, fun i a v ha hv => ?_⟩
    cases i with
    | zero => simp [AV.cells, Value.cells] at ha hv; subst ha hv; constructor <;> assumption
    | succ i => simp [AV.cells] at ha
theorem VRel.not_agg {ρ : Ren} {x : AV} {v : Value} (h : VRel ρ x v) (h1 : x.one = true) : (∀ cs, v ≠ .agg cs) ∧ ∀ cs, v ≠ .tuple cs := by
  cases h <;> simp_all [AV.one]

/-! ### Abstract memory -/
inductive Blk where
  | rw (c : List AV)
  | ro (c : List AV)
  | map (es : List (AV × AV × Nat)) (clock : Nat)
def Blk.mut : Blk → Bool
  | .ro _ => false
  | _ => true
def Blk.solid : Blk → Bool
  | .ro [] => false
  | _ => true

structure Mem where
  blk : Tr Blk
  next : Nat
def Mem.get (σ : Mem) (b : Nat) : Option Blk := σ.blk.get b
def Mem.put (σ : Mem) (b : Nat) (o : Option Blk) : Mem := ⟨σ.blk.put b o, σ.next⟩
def Mem.bump (σ : Mem) (n : Nat) : Mem := ⟨σ.blk, σ.next + n⟩
theorem Mem.get_put (σ : Mem) (b b' : Nat) (o : Option Blk) : (σ.put b o).get b' = if b' = b then o else σ.get b' := Tr.get_put _ _ _ _
theorem Mem.get_put_self (σ : Mem) (b : Nat) (o : Option Blk) : (σ.put b o).get b = o := Tr.get_put_self _ _ _
theorem Mem.get_put_ne (σ : Mem) {b b' : Nat} (h : b' ≠ b) (o : Option Blk) : (σ.put b o).get b' = σ.get b' := Tr.get_put_ne _ h _
theorem Mem.get_bump (σ : Mem) (n b : Nat) : (σ.bump n).get b = σ.get b := rfl
theorem Mem.next_put (σ : Mem) (b : Nat) (o : Option Blk) : (σ.put b o).next = σ.next := rfl
theorem Mem.next_bump (σ : Mem) (n : Nat) : (σ.bump n).next = σ.next + n := rfl

def BRel (ρ : Ren) (p : Loc) (w : World) : Blk → Prop
  | .rw c => p.2.1 = 0 ∧ ∃ cs e fz, w.heap[p.1]? = some (.cells cs e fz) ∧ (c.length ≤ cs.size ∧ cs.size = p.2.2) ∧ (∀ i, i < cs.size → ¬ (fz.1 ≤ i ∧ i < fz.2)) ∧
      ∀ (i : Nat) (a : AV), c[i]? = some a → ∃ v, cs[i]? = some v ∧ VRel ρ a v
  | .ro c => (c ≠ [] → p.1 < w.heap.size) ∧ ∀ (i : Nat) (a : AV), c[i]? = some a → ∃ v, w.cell? ⟨p.1, p.2.1 + i, none⟩ = some v ∧ VRel ρ a v
  | .map es clock => p.2.1 = 0 ∧ ∃ xs, w.heap[p.1]? = some (.map xs clock) ∧ xs.size = es.length ∧
      ∀ (i : Nat) (e : AV × AV × Nat), es[i]? = some e → ∃ x, xs[i]? = some x ∧ VRel ρ e.1 x.key ∧ VRel ρ e.2.1 x.val ∧ x.born = e.2.2

theorem BRel.mono {ρ ρ' : Ren} {p : Loc} {w : World} (he : ∀ b p, ρ b = some p → ρ' b = some p) {k : Blk} (h : BRel ρ p w k) : BRel ρ' p w k := by
  cases k with
  | rw c =>
    obtain ⟨h0, cs, e, fz, h1, h2, h3, h4⟩ := h
    exact ⟨h0, cs, e, fz, h1, h2, h3, fun i a ha => let ⟨v, hv, hr⟩ := h4 i a ha; ⟨v, hv, hr.mono he⟩⟩
  | ro c => exact ⟨h.1, fun i a ha => let ⟨v, hv, hr⟩ := h.2 i a ha; ⟨v, hv, hr.mono he⟩⟩
  | map es clock =>
    obtain ⟨h0, xs, h1, h2, h3⟩ := h
    exact ⟨h0, xs, h1, h2, fun i e hi => let ⟨x, hx, a, b, c⟩ := h3 i e hi; ⟨x, hx, a.mono he, b.mono he, c⟩⟩

theorem cell?_congr {w w' : World} {a : Addr} (h : w'.heap[a.block]? = w.heap[a.block]?) : w'.cell? a = w.cell? a := by
  unfold World.cell?; rw [h]
/-- A block's relation looks at its own block of the world alone. -/
theorem BRel.move {ρ : Ren} {p : Loc} {w w' : World} {k : Blk} (h : BRel ρ p w k) (hs : k.solid = true → w'.heap[p.1]? = w.heap[p.1]?) : BRel ρ p w' k := by
  cases k with
  | rw c =>
    obtain ⟨h0, cs, e, fz, h1, h2⟩ := h
    exact ⟨h0, cs, e, fz, (hs rfl).trans h1, h2⟩
  | ro c =>
    cases c with
    | nil => exact ⟨fun e => absurd rfl e, fun i a ha => by simp at ha⟩
    | cons x xs =>
      have hh := hs rfl
      refine ⟨fun e => ?_, fun i a ha => ?_⟩
      · have := h.1 e
        rcases Nat.lt_or_ge p.1 w'.heap.size with h' | h'
        · exact h'
        · rw [Array.getElem?_eq_none h', Array.getElem?_eq_getElem this] at hh; cases hh
      · obtain ⟨v, hv, hr⟩ := h.2 i a ha
        exact ⟨v, (cell?_congr (a := ⟨p.1, p.2.1 + i, none⟩) hh).trans hv, hr⟩
  | map es clock =>
    obtain ⟨h0, xs, h1, h2⟩ := h
    exact ⟨h0, xs, (hs rfl).trans h1, h2⟩
theorem BRel.lt {ρ : Ren} {p : Loc} {w : World} {k : Blk} (h : BRel ρ p w k) (hs : k.solid = true) : p.1 < w.heap.size := by
  cases k with
  | rw c => obtain ⟨_, cs, e, fz, h1, _⟩ := h; exact (Array.getElem?_eq_some_iff.1 h1).1
  | ro c =>
    cases c with
    | nil => simp [Blk.solid] at hs
    | cons x xs => exact h.1 (by simp)
  | map es clock => obtain ⟨_, xs, h1, _⟩ := h; exact (Array.getElem?_eq_some_iff.1 h1).1

/-- The abstract memory stands for the world. -/
structure St (ρ : Ren) (σ : Mem) (w : World) : Prop where
  dom : ∀ b p, ρ b = some p → b < σ.next
  live : ∀ b k, σ.get b = some k → b < σ.next
  rel : ∀ b k p, σ.get b = some k → ρ b = some p → BRel ρ p w k
  inj : ∀ b b' k k' p p', σ.get b = some k → σ.get b' = some k' → ρ b = some p → ρ b' = some p' → k.mut = true → k'.solid = true → b ≠ b' → p.1 ≠ p'.1

/-- From one state to a later one; N: which abstract blocks may be new. -/
structure Step (N : Nat → Prop) (ρ : Ren) (σ : Mem) (w : World) (ρ' : Ren) (σ' : Mem) (w' : World) : Prop where
  st : St ρ' σ' w'
  next : σ.next ≤ σ'.next
  ext : ∀ b p, ρ b = some p → ρ' b = some p
  fresh : ∀ b p, ρ' b = some p → ρ b = none → N b ∧ (w.heap.size ≤ p.1 ∨ ∃ b0 k q, σ.get b0 = some k ∧ k.mut = true ∧ ρ b0 = some q ∧ q.1 = p.1)
  old : ∀ b k, σ'.get b = some k → (ρ b ≠ none → ∃ k0, σ.get b = some k0 ∧ k0.mut = k.mut)
  same : ∀ b, ¬ N b → ρ b = none → σ'.get b = σ.get b
  frame : ∀ c, c < w.heap.size → (∀ b k q, σ.get b = some k → k.mut = true → ρ b = some q → q.1 ≠ c) → w'.heap[c]? = w.heap[c]?
  size : w.heap.size ≤ w'.heap.size
  os : w'.os = w.os
  tape : w'.tape = w.tape
  out : w'.output = w.output

theorem Step.refl {N : Nat → Prop} {ρ : Ren} {σ : Mem} {w : World} (h : St ρ σ w) : Step N ρ σ w ρ σ w :=
  ⟨h, Nat.le_refl _, fun _ _ e => e, fun b p e e' => by rw [e] at e'; (cases e'), fun b k hk _ => ⟨k, hk, rfl⟩, fun _ _ _ => rfl, fun _ _ _ => rfl, Nat.le_refl _, rfl, rfl, rfl⟩

theorem Step.trans {N N1 N2 : Nat → Prop} {ρ0 ρ1 ρ2 : Ren} {σ0 σ1 σ2 : Mem} {w0 w1 w2 : World} (h : Step N1 ρ0 σ0 w0 ρ1 σ1 w1) (h' : Step N2 ρ1 σ1 w1 ρ2 σ2 w2)
    (hN1 : ∀ b, N1 b → N b) (hN2 : ∀ b, N2 b → N b) : Step N ρ0 σ0 w0 ρ2 σ2 w2 := by
  have hold : ∀ b k, σ2.get b = some k → (ρ0 b ≠ none → ∃ k0, σ0.get b = some k0 ∧ k0.mut = k.mut) := by
    intro b k hk hb
    have hb1 : ρ1 b ≠ none := by
      cases e : ρ0 b with
      | none => exact absurd e hb
      | some p => rw [h.ext b p e]; simp
    obtain ⟨k1, hk1, e1⟩ := h'.old b k hk hb1
    obtain ⟨k0, hk0, e0⟩ := h.old b k1 hk1 hb
    exact ⟨k0, hk0, e0.trans e1⟩
  have himg : ∀ b k q, σ1.get b = some k → k.mut = true → ρ1 b = some q → w0.heap.size ≤ q.1 ∨ ∃ b0 k q', σ0.get b0 = some k ∧ k.mut = true ∧ ρ0 b0 = some q' ∧ q'.1 = q.1 := by
    intro b k q hk hm hq
    cases e : ρ0 b with
    | none => exact (h.fresh b q hq e).2
    | some p =>
      obtain ⟨k0, hk0, e0⟩ := h.old b k hk (by simp [e])
      have : ρ1 b = some p := h.ext b p e
      rw [hq] at this; cases this
      exact .inr ⟨b, k0, q, hk0, e0.trans hm, e, rfl⟩
  refine ⟨h'.st, Nat.le_trans h.next h'.next, fun b p e => h'.ext b p (h.ext b p e), ?_, hold, ?_, ?_, Nat.le_trans h.size h'.size, h'.os.trans h.os, h'.tape.trans h.tape, h'.out.trans h.out⟩
  · intro b p hp hb
    cases e : ρ1 b with
    | some p1 =>
      have := h'.ext b p1 e
      rw [hp] at this; cases this
      obtain ⟨hn, hf⟩ := h.fresh b p e hb
      exact ⟨hN1 b hn, hf⟩
    | none =>
      obtain ⟨hn, hf⟩ := h'.fresh b p hp e
      refine ⟨hN2 b hn, ?_⟩
      rcases hf with hf | ⟨b0, k, q, hk, hm, hq, e1⟩
      · exact .inl (Nat.le_trans h.size hf)
      · rw [← e1]; exact himg b0 k q hk hm hq
  · intro b hn hb
    have hb1 : ρ1 b = none := by
      cases e : ρ1 b with
      | none => rfl
      | some p => exact absurd (hN1 b (h.fresh b p e hb).1) hn
    rw [h'.same b (fun x => hn (hN2 b x)) hb1, h.same b (fun x => hn (hN1 b x)) hb]
  · intro c hc hno
    have h1 := h.frame c hc hno
    rw [← h1]
    refine h'.frame c (Nat.lt_of_lt_of_le hc h.size) ?_
    intro b k q hk hm hq
    rcases himg b k q hk hm hq with hge | ⟨b0, k0, q', hk0, hm0, hq', e⟩
    · omega
    · rw [← e]; exact hno b0 k0 q' hk0 hm0 hq'

theorem Step.weaken {N N' : Nat → Prop} {ρ : Ren} {σ : Mem} {w : World} {ρ' : Ren} {σ' : Mem} {w' : World} (h : Step N ρ σ w ρ' σ' w') (hN : ∀ b, N b → N' b) : Step N' ρ σ w ρ' σ' w' :=
  ⟨h.st, h.next, h.ext, fun b p e e' => ⟨hN b (h.fresh b p e e').1, (h.fresh b p e e').2⟩, h.old, fun b hn e => h.same b (fun x => hn (hN b x)) e, h.frame, h.size, h.os, h.tape, h.out⟩

end Go.Vit
