/- The library. -/
import Derived.Orders
import Derived.Laws.Cells
import Derived.ChangeKeysEq
import Derived.Laws.Append
import Derived.MapKept
import Derived.Laws.StructEq
import Derived.Laws.Concat
import Derived.Laws.MakeOwn
import Derived.Laws.IdiomStrings
import Derived.Laws.BytesString
import Derived.Carry
import Derived.Laws.IdiomCopy
set_option linter.unusedVariables false
set_option linter.unusedSimpArgs false

section
namespace Go.Vit

/-! ### A trie over natural numbers -/
inductive Tr (α : Type) where
  | leaf
  | node (v : Option α) (l r : Tr α)

namespace Tr
variable {α : Type}
def get : Tr α → Nat → Option α
  | .leaf, _ => none
  | .node v l r, n =>
    match n with
    | 0 => v
    | k + 1 => match Nat.beq (k % 2) 0 with
      | true => l.get (k / 2)
      | false => r.get (k / 2)
def val : Tr α → Option α
  | .leaf => none
  | .node v _ _ => v
def lt : Tr α → Tr α
  | .leaf => .leaf
  | .node _ l _ => l
def rt : Tr α → Tr α
  | .leaf => .leaf
  | .node _ _ r => r
def putF : Nat → Tr α → Nat → Option α → Tr α
  | 0, t, _, _ => t
  | f + 1, t, n, o =>
    match n with
    | 0 => .node o t.lt t.rt
    | k + 1 => match Nat.beq (k % 2) 0 with
      | true => .node t.val (putF f t.lt (k / 2) o) t.rt
      | false => .node t.val t.lt (putF f t.rt (k / 2) o)
def put (t : Tr α) (n : Nat) (o : Option α) : Tr α := putF (n + 1) t n o

theorem get_zero (t : Tr α) : t.get 0 = t.val := by cases t <;> rfl
theorem get_succ (t : Tr α) (k : Nat) : t.get (k + 1) = if k % 2 = 0 then t.lt.get (k / 2) else t.rt.get (k / 2) := by
  cases t with
  | leaf => simp [get, lt, rt]
  | node v l r =>
    simp only [get, lt, rt]
    by_cases h : k % 2 = 0
    · simp [h]
    · have : Nat.beq (k % 2) 0 = false := Bool.eq_false_iff.2 fun e => h (Nat.eq_of_beq_eq_true e)
      simp [this, h]
theorem putF_succ (f : Nat) (t : Tr α) (k : Nat) (o : Option α) :
    putF (f + 1) t (k + 1) o = if k % 2 = 0 then .node t.val (putF f t.lt (k / 2) o) t.rt else .node t.val t.lt (putF f t.rt (k / 2) o) := by
  simp only [putF]
  by_cases h : k % 2 = 0
  · simp [h]
  · have : Nat.beq (k % 2) 0 = false := Bool.eq_false_iff.2 fun e => h (Nat.eq_of_beq_eq_true e)
    simp [this, h]
theorem get_putF : ∀ (f : Nat) (t : Tr α) (n m : Nat) (o : Option α), n < f → (putF f t n o).get m = if m = n then o else t.get m
  | 0, _, _, _, _, h => absurd h (Nat.not_lt_zero _)
  | f + 1, t, 0, m, o, _ => by
    cases m with
    | zero => simp [putF, get]
    | succ m => rw [get_succ, get_succ]; simp [putF, lt, rt]
  | f + 1, t, k + 1, m, o, h => by
    rw [putF_succ]
    have hk : k / 2 < f := by omega
    cases m with
    | zero => split <;> simp [get_zero, val]
    | succ m =>
      rw [get_succ t]
      split
      · rename_i hk2
        rw [get_succ]
        simp only [lt, rt]
        split
        · rw [get_putF f _ _ _ _ hk]
          by_cases e : m / 2 = k / 2
          · rw [if_pos e, if_pos (by omega)]
          · rw [if_neg e, if_neg (by omega)]
        · rw [if_neg (by omega)]
      · rename_i hk2
        rw [get_succ]
        simp only [lt, rt]
        split
        · rw [if_neg (by omega)]
        · rw [get_putF f _ _ _ _ hk]
          by_cases e : m / 2 = k / 2
          · rw [if_pos e, if_pos (by omega)]
          · rw [if_neg e, if_neg (by omega)]
theorem get_put (t : Tr α) (n m : Nat) (o : Option α) : (t.put n o).get m = if m = n then o else t.get m := get_putF _ _ _ _ _ (Nat.lt_succ_self n)
theorem get_put_self (t : Tr α) (n : Nat) (o : Option α) : (t.put n o).get n = o := by rw [get_put, if_pos rfl]
theorem get_put_ne (t : Tr α) {n m : Nat} (h : m ≠ n) (o : Option α) : (t.put n o).get m = t.get m := by rw [get_put, if_neg h]
theorem get_leaf (n : Nat) : (Tr.leaf : Tr α).get n = none := rfl
end Tr

/-! ### Abstract values -/
inductive Cap where
  | ex (k : Nat)
  | op (s : Nat)
inductive AV where
  | bool (b : Bool)
  | int (k : IntKind) (n : Int)
  | str (s : ByteArray)
  | nilp
  | ptr (b o : Nat)
  | nils
  | slice (b o n : Nat) (c : Cap)
  | nilm
  | map (b : Nat)
  | nilf
  | func (f : Nat) (capt : List AV)
  | agg (l : List AV)
  | tup (l : List AV)
  | nili
  | iface (t : Nat) (v : AV)
  | yld (b : Nat)

instance : Inhabited AV := ⟨.tup []⟩

def AV.one : AV → Bool
  | .agg _ | .tup _ => false
  | _ => true
def AV.cells : AV → List AV
  | .agg l => l
  | v => [v]

abbrev Loc := Nat × Nat × Nat
abbrev Ren := Nat → Option Loc

inductive VRel (ρ : Ren) : AV → Value → Prop
  | bool (b : Bool) : VRel ρ (.bool b) (.bool b)
  | int (k : IntKind) (n : Int) : VRel ρ (.int k n) (.int k n)
  | str (s : ByteArray) : VRel ρ (.str s) (.string s)
  | nilp : VRel ρ .nilp (.pointer none)
  | ptr {b o b' o' m : Nat} (h : ρ b = some (b', o', m)) : VRel ρ (.ptr b o) (.pointer (some ⟨b', o' + o, none⟩))
  | nils : VRel ρ .nils (.slice none 0 0)
  | slice {b o n b' o' m cap : Nat} {c : Cap} {a : Addr} (h : ρ b = some (b', o', m)) (hn : n ≤ cap ∧ cap ≤ 9223372036854775807) (hc : ∀ k, c = .ex k → cap = k)
      (hm : ∀ s, c = .op s → s ≠ 0 → o' + o + cap * s ≤ m) (ha : cap = 0 ∨ a = ⟨b', o' + o, none⟩) : VRel ρ (.slice b o n c) (.slice (some a) n cap)
  | nilm : VRel ρ .nilm (.map none)
  | map {b b' o' m : Nat} (h : ρ b = some (b', o', m)) : VRel ρ (.map b) (.map (some b'))
  | nilf : VRel ρ .nilf .nilFunc
  | func {f : Nat} {l : List AV} {cs : Array Value} (hl : l.length = cs.size) (h : ∀ (i : Nat) (a : AV) (v : Value), l[i]? = some a → cs[i]? = some v → VRel ρ a v) :
      VRel ρ (.func f l) (.func (.func f) #[] cs)
  | agg {l : List AV} {cs : Array Value} (hl : l.length = cs.size) (h : ∀ (i : Nat) (a : AV) (v : Value), l[i]? = some a → cs[i]? = some v → VRel ρ a v) :
      VRel ρ (.agg l) (.agg cs)
  | tup {l : List AV} {cs : Array Value} (hl : l.length = cs.size) (h : ∀ (i : Nat) (a : AV) (v : Value), l[i]? = some a → cs[i]? = some v → VRel ρ a v) :
      VRel ρ (.tup l) (.tuple cs)
  | nili : VRel ρ .nili .nilIface
  | iface {t : Nat} {x : AV} {v : Value} (h : VRel ρ x v) : VRel ρ (.iface t x) (.iface t v)
  | yld {b l o m : Nat} (h : ρ b = some (l, o, m)) : VRel ρ (.yld b) (.func (.yield l) #[] #[])

theorem VRel.mono {ρ ρ' : Ren} (he : ∀ b p, ρ b = some p → ρ' b = some p) {x : AV} {v : Value} (h : VRel ρ x v) : VRel ρ' x v := by
  induction h with
  | bool b => exact .bool b
  | int k n => exact .int k n
  | str s => exact .str s
  | nilp => exact .nilp
  | ptr h => exact .ptr (he _ _ h)
  | nils => exact .nils
  | slice h hn hc hm ha => exact .slice (he _ _ h) hn hc hm ha
  | nilm => exact .nilm
  | map h => exact .map (he _ _ h)
  | nilf => exact .nilf
  | func hl _ ih => exact .func hl ih
  | agg hl _ ih => exact .agg hl ih
  | tup hl _ ih => exact .tup hl ih
  | nili => exact .nili
  | iface _ ih => exact .iface ih
  | yld h => exact .yld (he _ _ h)

def LRel (ρ : Ren) (l : List AV) (cs : Array Value) : Prop := l.length = cs.size ∧ ∀ (i : Nat) (a : AV) (v : Value), l[i]? = some a → cs[i]? = some v → VRel ρ a v
theorem LRel.mono {ρ ρ' : Ren} (he : ∀ b p, ρ b = some p → ρ' b = some p) {l : List AV} {cs : Array Value} (h : LRel ρ l cs) : LRel ρ' l cs :=
  ⟨h.1, fun i a v ha hv => (h.2 i a v ha hv).mono he⟩
theorem LRel.nil (ρ : Ren) : LRel ρ [] #[] := ⟨rfl, fun i a v h => by simp at h⟩
theorem LRel.get {ρ : Ren} {l : List AV} {cs : Array Value} (h : LRel ρ l cs) {i : Nat} {a : AV} (ha : l[i]? = some a) : ∃ v, cs[i]? = some v ∧ VRel ρ a v := by
  have hi : i < l.length := (List.getElem?_eq_some_iff.1 ha).1
  have hi' : i < cs.size := h.1 ▸ hi
  exact ⟨cs[i], Array.getElem?_eq_getElem hi', h.2 i a _ ha (Array.getElem?_eq_getElem hi')⟩
theorem LRel.push {ρ : Ren} {l : List AV} {cs : Array Value} (h : LRel ρ l cs) {a : AV} {v : Value} (hv : VRel ρ a v) : LRel ρ (l ++ [a]) (cs.push v) := by
  refine ⟨by simp [h.1], fun i x y hx hy => ?_⟩
  rw [Array.getElem?_push] at hy
  by_cases hi : i = cs.size
  · subst hi
    rw [if_pos rfl] at hy
    rw [← h.1] at hx
    simp at hx
    cases hx; cases hy; exact hv
  · rw [if_neg hi] at hy
    have : i < cs.size := (Array.getElem?_eq_some_iff.1 hy).1
    have hl := h.1
    rw [List.getElem?_append_left (by omega)] at hx
    exact h.2 i x y hx hy
theorem LRel.append {ρ : Ren} {l l' : List AV} {cs cs' : Array Value} (h : LRel ρ l cs) (h' : LRel ρ l' cs') : LRel ρ (l ++ l') (cs ++ cs') := by
  refine ⟨by simp [h.1, h'.1], fun i x y hx hy => ?_⟩
  by_cases hi : i < l.length
  · rw [List.getElem?_append_left hi] at hx
    rw [Array.getElem?_append_left (by rw [← h.1]; exact hi)] at hy
    exact h.2 i x y hx hy
  · rw [List.getElem?_append_right (by omega)] at hx
    rw [Array.getElem?_append_right (by rw [← h.1]; omega), ← h.1] at hy
    exact h'.2 _ x y hx hy
theorem LRel.extract {ρ : Ren} {l : List AV} {cs : Array Value} (h : LRel ρ l cs) (i j : Nat) : LRel ρ ((l.drop i).take (j - i)) (cs.extract i j) := by
  refine ⟨by simp [h.1]; omega, fun k x y hx hy => ?_⟩
  rw [Array.getElem?_extract] at hy
  split at hy
  · rw [List.getElem?_take] at hx
    split at hx
    · rw [List.getElem?_drop] at hx; exact h.2 _ x y hx hy
    · simp at hx
  · simp at hy
theorem LRel.of_list {ρ : Ren} {l : List AV} {vs : List Value} (hl : l.length = vs.length) (h : ∀ (i : Nat) (a : AV) (v : Value), l[i]? = some a → vs[i]? = some v → VRel ρ a v) : LRel ρ l vs.toArray :=
  ⟨by simp [hl], fun i a v ha hv => h i a v ha (by simpa using hv)⟩
theorem VRel.cells {ρ : Ren} {x : AV} {v : Value} (h : VRel ρ x v) : LRel ρ x.cells v.cells := by
  cases h
  case agg hl h => exact ⟨hl, h⟩
  all_goals
    refine ⟨rfl, fun i a v ha hv => ?_⟩
    cases i with
    | zero => simp [AV.cells, Value.cells] at ha hv; subst ha hv; constructor <;> assumption
    | succ i => simp [AV.cells] at ha
theorem VRel.not_agg {ρ : Ren} {x : AV} {v : Value} (h : VRel ρ x v) (h1 : x.one = true) : (∀ cs, v ≠ .agg cs) ∧ ∀ cs, v ≠ .tuple cs := by
  cases h <;> simp_all [AV.one]

/-! ### Abstract memory -/
inductive Blk where
  | rw (c : List AV)
  | ro (c : List AV)
  | map (es : List (AV × AV × Nat)) (clock : Nat)
  | iter (m : Option Nat) (since : Nat) (seen : List Nat) (last : Nat)
  | bld (t : Nat) (buf : Option (Nat × Nat))
  | row (e : Nat) (c : List AV)
def Blk.mut : Blk → Bool
  | .ro _ => false
  | _ => true
def Blk.solid : Blk → Bool
  | .ro [] => false
  | _ => true

structure Mem where
  blk : Tr Blk
  next : Nat
def Mem.get (σ : Mem) (b : Nat) : Option Blk := σ.blk.get b
def Mem.put (σ : Mem) (b : Nat) (o : Option Blk) : Mem := ⟨σ.blk.put b o, σ.next⟩
def Mem.bump (σ : Mem) (n : Nat) : Mem := ⟨σ.blk, σ.next + n⟩
theorem Mem.get_put (σ : Mem) (b b' : Nat) (o : Option Blk) : (σ.put b o).get b' = if b' = b then o else σ.get b' := Tr.get_put _ _ _ _
theorem Mem.get_put_self (σ : Mem) (b : Nat) (o : Option Blk) : (σ.put b o).get b = o := Tr.get_put_self _ _ _
theorem Mem.get_put_ne (σ : Mem) {b b' : Nat} (h : b' ≠ b) (o : Option Blk) : (σ.put b o).get b' = σ.get b' := Tr.get_put_ne _ h _
theorem Mem.get_bump (σ : Mem) (n b : Nat) : (σ.bump n).get b = σ.get b := rfl
theorem Mem.next_put (σ : Mem) (b : Nat) (o : Option Blk) : (σ.put b o).next = σ.next := rfl
theorem Mem.next_bump (σ : Mem) (n : Nat) : (σ.bump n).next = σ.next + n := rfl

def BRel (ρ : Ren) (p : Loc) (w : World) : Blk → Prop
  | .rw c => p.2.1 = 0 ∧ ∃ cs e fz, w.heap[p.1]? = some (.cells cs e fz) ∧ (c.length ≤ cs.size ∧ cs.size = p.2.2) ∧ (∀ i, i < cs.size → ¬ (fz.1 ≤ i ∧ i < fz.2)) ∧
      ∀ (i : Nat) (a : AV), c[i]? = some a → ∃ v, cs[i]? = some v ∧ VRel ρ a v
  | .ro c => (c ≠ [] → p.1 < w.heap.size) ∧ ∀ (i : Nat) (a : AV), c[i]? = some a → ∃ v, w.cell? ⟨p.1, p.2.1 + i, none⟩ = some v ∧ VRel ρ a v
  | .map es clock => p.2.1 = 0 ∧ ∃ xs, w.heap[p.1]? = some (.map xs clock) ∧ xs.size = es.length ∧
      ∀ (i : Nat) (e : AV × AV × Nat), es[i]? = some e → ∃ x, xs[i]? = some x ∧ VRel ρ e.1 x.key ∧ VRel ρ e.2.1 x.val ∧ x.born = e.2.2
  | .iter m since seen last => p.2.1 = 0 ∧ ∃ m', w.heap[p.1]? = some (.mapIter m' since seen.toArray last) ∧ (m = none → m' = none) ∧ ∀ b, m = some b → ∃ l o k, ρ b = some (l, o, k) ∧ m' = some l
  | .bld t buf => p.2.1 = 0 ∧ ∃ pv v, w.heap[p.1]? = some (.cells #[pv, v] t (0, 0)) ∧ (pv = .pointer none ∨ pv = .pointer (some ⟨p.1, 0, none⟩)) ∧
      (buf = none → v = .slice none 0 0) ∧ ∀ g n, buf = some (g, n) → ∃ l m, ρ g = some (l, 0, m) ∧ v = .slice (some ⟨l, 0, none⟩) n m
  | .row e c => p.2.1 = 0 ∧ p.2.2 ≤ 9223372036854775807 ∧ ∃ cs fz, w.heap[p.1]? = some (.cells cs e fz) ∧ fz.2 ≤ c.length ∧ (c.length ≤ cs.size ∧ cs.size = p.2.2) ∧
      ∀ (i : Nat) (a : AV), c[i]? = some a → ∃ v, cs[i]? = some v ∧ VRel ρ a v

theorem BRel.mono {ρ ρ' : Ren} {p : Loc} {w : World} (he : ∀ b p, ρ b = some p → ρ' b = some p) {k : Blk} (h : BRel ρ p w k) : BRel ρ' p w k := by
  cases k with
  | rw c =>
    obtain ⟨h0, cs, e, fz, h1, h2, h3, h4⟩ := h
    exact ⟨h0, cs, e, fz, h1, h2, h3, fun i a ha => let ⟨v, hv, hr⟩ := h4 i a ha; ⟨v, hv, hr.mono he⟩⟩
  | ro c => exact ⟨h.1, fun i a ha => let ⟨v, hv, hr⟩ := h.2 i a ha; ⟨v, hv, hr.mono he⟩⟩
  | map es clock =>
    obtain ⟨h0, xs, h1, h2, h3⟩ := h
    exact ⟨h0, xs, h1, h2, fun i e hi => let ⟨x, hx, a, b, c⟩ := h3 i e hi; ⟨x, hx, a.mono he, b.mono he, c⟩⟩
  | iter m since seen last =>
    obtain ⟨h0, m', h1, h2, h3⟩ := h
    exact ⟨h0, m', h1, h2, fun b hb => let ⟨l, o, k, e1, e2⟩ := h3 b hb; ⟨l, o, k, he _ _ e1, e2⟩⟩
  | bld t buf =>
    obtain ⟨h0, pv, v, h1, h2, h3, h4⟩ := h
    exact ⟨h0, pv, v, h1, h2, h3, fun g n e => let ⟨l, m, e1, e2⟩ := h4 g n e; ⟨l, m, he _ _ e1, e2⟩⟩
  | row e c =>
    obtain ⟨h0, hm, cs, fz, h1, h2, h3, h4⟩ := h
    exact ⟨h0, hm, cs, fz, h1, h2, h3, fun i a ha => let ⟨v, hv, hr⟩ := h4 i a ha; ⟨v, hv, hr.mono he⟩⟩

theorem cell?_congr {w w' : World} {a : Addr} (h : w'.heap[a.block]? = w.heap[a.block]?) : w'.cell? a = w.cell? a := by
  unfold World.cell?; rw [h]
theorem BRel.move {ρ : Ren} {p : Loc} {w w' : World} {k : Blk} (h : BRel ρ p w k) (hs : k.solid = true → w'.heap[p.1]? = w.heap[p.1]?) : BRel ρ p w' k := by
  cases k with
  | rw c =>
    obtain ⟨h0, cs, e, fz, h1, h2⟩ := h
    exact ⟨h0, cs, e, fz, (hs rfl).trans h1, h2⟩
  | ro c =>
    cases c with
    | nil => exact ⟨fun e => absurd rfl e, fun i a ha => by simp at ha⟩
    | cons x xs =>
      have hh := hs rfl
      refine ⟨fun e => ?_, fun i a ha => ?_⟩
      · have := h.1 e
        rcases Nat.lt_or_ge p.1 w'.heap.size with h' | h'
        · exact h'
        · rw [Array.getElem?_eq_none h', Array.getElem?_eq_getElem this] at hh; cases hh
      · obtain ⟨v, hv, hr⟩ := h.2 i a ha
        exact ⟨v, (cell?_congr (a := ⟨p.1, p.2.1 + i, none⟩) hh).trans hv, hr⟩
  | map es clock =>
    obtain ⟨h0, xs, h1, h2⟩ := h
    exact ⟨h0, xs, (hs rfl).trans h1, h2⟩
  | iter m since seen last =>
    obtain ⟨h0, m', h1, h2⟩ := h
    exact ⟨h0, m', (hs rfl).trans h1, h2⟩
  | bld t buf =>
    obtain ⟨h0, pv, v, h1, h2⟩ := h
    exact ⟨h0, pv, v, (hs rfl).trans h1, h2⟩
  | row e c =>
    obtain ⟨h0, hm, cs, fz, h1, h2⟩ := h
    exact ⟨h0, hm, cs, fz, (hs rfl).trans h1, h2⟩
theorem BRel.lt {ρ : Ren} {p : Loc} {w : World} {k : Blk} (h : BRel ρ p w k) (hs : k.solid = true) : p.1 < w.heap.size := by
  cases k with
  | rw c => obtain ⟨_, cs, e, fz, h1, _⟩ := h; exact (Array.getElem?_eq_some_iff.1 h1).1
  | ro c =>
    cases c with
    | nil => simp [Blk.solid] at hs
    | cons x xs => exact h.1 (by simp)
  | map es clock => obtain ⟨_, xs, h1, _⟩ := h; exact (Array.getElem?_eq_some_iff.1 h1).1
  | iter m since seen last => obtain ⟨_, m', h1, _⟩ := h; exact (Array.getElem?_eq_some_iff.1 h1).1
  | bld t buf => obtain ⟨_, pv, v, h1, _⟩ := h; exact (Array.getElem?_eq_some_iff.1 h1).1
  | row e c => obtain ⟨_, _, cs, fz, h1, _⟩ := h; exact (Array.getElem?_eq_some_iff.1 h1).1

structure St (ρ : Ren) (σ : Mem) (w : World) : Prop where
  dom : ∀ b p, ρ b = some p → b < σ.next
  live : ∀ b k, σ.get b = some k → b < σ.next
  rel : ∀ b k p, σ.get b = some k → ρ b = some p → BRel ρ p w k
  inj : ∀ b b' k k' p p', σ.get b = some k → σ.get b' = some k' → ρ b = some p → ρ b' = some p' → k.mut = true → k'.solid = true → b ≠ b' → p.1 ≠ p'.1

structure Step (N : Nat → Prop) (ρ : Ren) (σ : Mem) (w : World) (ρ' : Ren) (σ' : Mem) (w' : World) : Prop where
  st : St ρ' σ' w'
  next : σ.next ≤ σ'.next
  ext : ∀ b p, ρ b = some p → ρ' b = some p
  fresh : ∀ b p, ρ' b = some p → ρ b = none → N b ∧ (w.heap.size ≤ p.1 ∨ ∃ b0 k q, σ.get b0 = some k ∧ k.mut = true ∧ ρ b0 = some q ∧ q.1 = p.1)
  old : ∀ b k, σ'.get b = some k → (ρ b ≠ none → ∃ k0, σ.get b = some k0 ∧ k0.mut = k.mut)
  same : ∀ b, ¬ N b → ρ b = none → σ'.get b = σ.get b
  frame : ∀ c, c < w.heap.size → (∀ b k q, σ.get b = some k → k.mut = true → ρ b = some q → q.1 ≠ c) → w'.heap[c]? = w.heap[c]?
  size : w.heap.size ≤ w'.heap.size
  os : w'.os = w.os
  tape : w'.tape = w.tape
  out : w'.output = w.output

theorem Step.refl {N : Nat → Prop} {ρ : Ren} {σ : Mem} {w : World} (h : St ρ σ w) : Step N ρ σ w ρ σ w :=
  ⟨h, Nat.le_refl _, fun _ _ e => e, fun b p e e' => by rw [e] at e'; (cases e'), fun b k hk _ => ⟨k, hk, rfl⟩, fun _ _ _ => rfl, fun _ _ _ => rfl, Nat.le_refl _, rfl, rfl, rfl⟩

theorem Step.trans {N N1 N2 : Nat → Prop} {ρ0 ρ1 ρ2 : Ren} {σ0 σ1 σ2 : Mem} {w0 w1 w2 : World} (h : Step N1 ρ0 σ0 w0 ρ1 σ1 w1) (h' : Step N2 ρ1 σ1 w1 ρ2 σ2 w2)
    (hN1 : ∀ b, N1 b → N b) (hN2 : ∀ b, N2 b → N b) : Step N ρ0 σ0 w0 ρ2 σ2 w2 := by
  have hold : ∀ b k, σ2.get b = some k → (ρ0 b ≠ none → ∃ k0, σ0.get b = some k0 ∧ k0.mut = k.mut) := by
    intro b k hk hb
    have hb1 : ρ1 b ≠ none := by
      cases e : ρ0 b with
      | none => exact absurd e hb
      | some p => rw [h.ext b p e]; simp
    obtain ⟨k1, hk1, e1⟩ := h'.old b k hk hb1
    obtain ⟨k0, hk0, e0⟩ := h.old b k1 hk1 hb
    exact ⟨k0, hk0, e0.trans e1⟩
  have himg : ∀ b k q, σ1.get b = some k → k.mut = true → ρ1 b = some q → w0.heap.size ≤ q.1 ∨ ∃ b0 k q', σ0.get b0 = some k ∧ k.mut = true ∧ ρ0 b0 = some q' ∧ q'.1 = q.1 := by
    intro b k q hk hm hq
    cases e : ρ0 b with
    | none => exact (h.fresh b q hq e).2
    | some p =>
      obtain ⟨k0, hk0, e0⟩ := h.old b k hk (by simp [e])
      have : ρ1 b = some p := h.ext b p e
      rw [hq] at this; cases this
      exact .inr ⟨b, k0, q, hk0, e0.trans hm, e, rfl⟩
  refine ⟨h'.st, Nat.le_trans h.next h'.next, fun b p e => h'.ext b p (h.ext b p e), ?_, hold, ?_, ?_, Nat.le_trans h.size h'.size, h'.os.trans h.os, h'.tape.trans h.tape, h'.out.trans h.out⟩
  · intro b p hp hb
    cases e : ρ1 b with
    | some p1 =>
      have := h'.ext b p1 e
      rw [hp] at this; cases this
      obtain ⟨hn, hf⟩ := h.fresh b p e hb
      exact ⟨hN1 b hn, hf⟩
    | none =>
      obtain ⟨hn, hf⟩ := h'.fresh b p hp e
      refine ⟨hN2 b hn, ?_⟩
      rcases hf with hf | ⟨b0, k, q, hk, hm, hq, e1⟩
      · exact .inl (Nat.le_trans h.size hf)
      · rw [← e1]; exact himg b0 k q hk hm hq
  · intro b hn hb
    have hb1 : ρ1 b = none := by
      cases e : ρ1 b with
      | none => rfl
      | some p => exact absurd (hN1 b (h.fresh b p e hb).1) hn
    rw [h'.same b (fun x => hn (hN2 b x)) hb1, h.same b (fun x => hn (hN1 b x)) hb]
  · intro c hc hno
    have h1 := h.frame c hc hno
    rw [← h1]
    refine h'.frame c (Nat.lt_of_lt_of_le hc h.size) ?_
    intro b k q hk hm hq
    rcases himg b k q hk hm hq with hge | ⟨b0, k0, q', hk0, hm0, hq', e⟩
    · omega
    · rw [← e]; exact hno b0 k0 q' hk0 hm0 hq'

theorem Step.weaken {N N' : Nat → Prop} {ρ : Ren} {σ : Mem} {w : World} {ρ' : Ren} {σ' : Mem} {w' : World} (h : Step N ρ σ w ρ' σ' w') (hN : ∀ b, N b → N' b) : Step N' ρ σ w ρ' σ' w' :=
  ⟨h.st, h.next, h.ext, fun b p e e' => ⟨hN b (h.fresh b p e e').1, (h.fresh b p e e').2⟩, h.old, fun b hn e => h.same b (fun x => hn (hN b x)) e, h.frame, h.size, h.os, h.tape, h.out⟩

end Go.Vit
end

section
namespace Go.Vit

inductive AOpd where
  | tmp (i : Nat)
  | const (v : AV)
  | glob (g : Nat)
inductive EqK where
  | basic
  | bool
  | ptr
  | sl
  | map
  | func
  | flat (offs : List (Nat × Nat))
inductive AConv where
  | toInt (k : IntKind)
  | strBytes
  | bytesStr
  | same

inductive AOp where
  | mov (x : AOpd)
  | pick (c a b : AOpd)
  | alloc (z : List AV)
  | allocB (e : Nat)
  | box (x : AOpd)
  | build (z : List AV) (parts : List (Nat × Nat × AOpd))
  | newSlice (n : Nat) (z : List AV) (parts : List (Nat × Nat × AOpd))
  | load (k : Option Nat) (x : AOpd)
  | nilchk (x : AOpd)
  | bin (op : BinOp) (e : EqK) (x y : AOpd)
  | un (op : UnOp) (x : AOpd)
  | conv (c : AConv) (x : AOpd)
  | mkFn (f : Nat) (capt : List AOpd)
  | mkMap
  | make (bytes size : Nat) (z : List AV) (n c : AOpd)
  | slStr (x : AOpd) (lo hi : Option AOpd)
  | slSl (size : Nat) (x : AOpd) (lo hi mx : Option AOpd)
  | slArr (len size : Nat) (x : AOpd) (lo hi : Option AOpd)
  | faddr (off : Nat) (x : AOpd)
  | field (off : Nat) (k : Option Nat) (x : AOpd)
  | iaddrS (size : Nat) (x i : AOpd)
  | iaddrA (len size : Nat) (x i : AOpd)
  | idxStr (x i : AOpd)
  | idxArr (len size : Nat) (k : Option Nat) (x i : AOpd)
  | extract (x : AOpd) (i : Nat)
  | len (s : Bool) (x : AOpd)
  | cap (x : AOpd)
  | lenArr (n : Nat)
  | lenMap (x : AOpd)
  | lookup (kk : Bool) (z : AV) (ok : Bool) (x k : AOpd)
  | minmax (mx : Bool) (x : AOpd) (xs : List AOpd)
  | store (n : Nat) (a x : AOpd)
  | append (size bytes : Nat) (s x : AOpd)
  | appendZ (size bytes : Nat) (z : List AV) (s n : AOpd)
  | copy (size : Nat) (d s : AOpd)
  | mapUpd (kk : Bool) (m k x : AOpd)
  | mapEnt (kk : Bool) (z : AV) (m k : AOpd)
  | entSt (m s x : AOpd)
  | del (kk : Bool) (m k : AOpd)
  | rangeM (x : AOpd)
  | nextM (x : AOpd)
  | entM (x : AOpd)
  | call (f : Nat) (args : List AOpd)
  | callv (x : AOpd) (args : List AOpd)
  | fail

structure AOper where
  d : Option Nat
  g : Option (Nat × Bool)
  op : AOp

abbrev Tmps := Tr AV
def Tmps.set (t : Tmps) (d : Option Nat) (v : AV) : Tmps :=
  match d with
  | some i => Tr.put t i (some v)
  | none => t

def AOpd.ev (t : Tmps) : AOpd → Option AV
  | .tmp i => Tr.get t i
  | .const v => some v
  | .glob g => some (.ptr g 0)
def evs (t : Tmps) : List AOpd → Option (List AV)
  | [] => some []
  | x :: xs => (x.ev t).bind fun v => (evs t xs).bind fun vs => some (v :: vs)

/-! ### Values -/
def AV.asI : AV → Option Int
  | .int _ n => some n
  | _ => none
def eqScalar : Nat → AV → AV → Option Bool
  | 0, .bool a, .bool b => some (a == b)
  | 1, .int k a, .int k' b => if k = k' then some (a == b) else none
  | 2, .str a, .str b => some (a.data.toList == b.data.toList)
  | _, _, _ => none
def eqFlat (l l' : List AV) : List (Nat × Nat) → Option Bool
  | [] => some true
  | o :: os => (l[o.1]?).bind fun a => (l'[o.1]?).bind fun b => (eqScalar o.2 a b).bind fun r => if r then eqFlat l l' os else some false
def eqVal : EqK → AV → AV → Option Bool
  | .flat offs, .agg l, .agg l' => eqFlat l l' offs
  | .bool, .bool a, .bool b => some (a == b)
  | .ptr, .nilp, .nilp => some true
  | .ptr, .nilp, .ptr _ _ => some false
  | .ptr, .ptr _ _, .nilp => some false
  | .sl, .nils, .nils => some true
  | .sl, .nils, .slice .. => some false
  | .sl, .slice .., .nils => some false
  | .map, .nilm, .nilm => some true
  | .map, .nilm, .map _ => some false
  | .map, .map _, .nilm => some false
  | .func, .nilf, .nilf => some true
  | .func, .nilf, .func _ _ => some false
  | .func, .func _ _, .nilf => some false
  | _, _, _ => none
def bitsOp (op : BinOp) (k : IntKind) (x y : Int) : Int :=
  match op with
  | .and => k.wrap ((BitVec.ofInt k.bits x &&& BitVec.ofInt k.bits y).toNat)
  | .or => k.wrap ((BitVec.ofInt k.bits x ||| BitVec.ofInt k.bits y).toNat)
  | .xor => k.wrap ((BitVec.ofInt k.bits x ^^^ BitVec.ofInt k.bits y).toNat)
  | _ => k.wrap ((BitVec.ofInt k.bits x &&& ~~~ BitVec.ofInt k.bits y).toNat)
def binInt (op : BinOp) (k : IntKind) (a b : Int) : Option AV :=
  match op with
  | .add => some (.int k (k.wrap (a + b)))
  | .sub => some (.int k (k.wrap (a - b)))
  | .mul => some (.int k (k.wrap (a * b)))
  | .quo => if b = 0 then none else some (.int k (k.wrap (a.tdiv b)))
  | .rem => if b = 0 then none else some (.int k (a.tmod b))
  | .and => some (.int k (bitsOp .and k a b))
  | .or => some (.int k (bitsOp .or k a b))
  | .xor => some (.int k (bitsOp .xor k a b))
  | .andNot => some (.int k (bitsOp .andNot k a b))
  | .eql => some (.bool (a == b))
  | .neq => some (.bool (a != b))
  | .lss => some (.bool (decide (a < b)))
  | .leq => some (.bool (decide (a ≤ b)))
  | .gtr => some (.bool (decide (b < a)))
  | .geq => some (.bool (decide (b ≤ a)))
  | _ => none
def shInt (op : BinOp) (k : IntKind) (a b : Int) : Option AV :=
  if b < 0 then none else
  match op with
  | .shl => some (.int k (k.wrap (a * 2 ^ (min b.toNat k.bits))))
  | .shr => some (.int k (a.fdiv (2 ^ (min b.toNat k.bits))))
  | _ => none
def binStr (op : BinOp) (a b : ByteArray) : Option AV :=
  match op with
  | .add => if ((a.size + b.size : Nat) : Int) ≤ 9223372036854775807 then some (.str (a ++ b)) else none
  | .eql => some (.bool (a.data.toList == b.data.toList))
  | .neq => some (.bool (!(a.data.toList == b.data.toList)))
  | .lss => some (.bool (Op.bytesLess a.data.toList b.data.toList))
  | .leq => some (.bool (Op.bytesLess a.data.toList b.data.toList || a.data.toList == b.data.toList))
  | .gtr => some (.bool (!(Op.bytesLess a.data.toList b.data.toList || a.data.toList == b.data.toList)))
  | .geq => some (.bool (!Op.bytesLess a.data.toList b.data.toList))
  | _ => none
def binV (op : BinOp) (e : EqK) (x y : AV) : Option AV :=
  match x, y with
  | .int k a, .int k' b =>
    match op with
    | .shl => shInt .shl k a b
    | .shr => shInt .shr k a b
    | op => if k = k' then binInt op k a b else none
  | .str a, .str b => binStr op a b
  | x, y =>
    match op with
    | .eql => (eqVal e x y).map .bool
    | .neq => (eqVal e x y).map fun r => .bool (!r)
    | _ => none
def unV (op : UnOp) : AV → Option AV
  | .int k n => match op with
    | .neg => some (.int k (k.wrap (0 - n)))
    | .xor => some (.int k (bitsOp .xor k (if k.signed then -1 else k.max) n))
    | _ => none
  | .bool b => match op with
    | .not => some (.bool (!b))
    | _ => none
  | _ => none
def minmaxV (mx : Bool) : AV → AV → Option AV
  | .int k a, .int k' b => if k = k' then some (.int k (if mx then (if b > a then b else a) else (if b < a then b else a))) else none
  | _, _ => none
def minmaxL (mx : Bool) : AV → List AV → Option AV
  | a, [] => some a
  | a, b :: l => (minmaxV mx a b).bind fun c => minmaxL mx c l

def bytesOf (s : ByteArray) : List AV := s.data.toList.map fun b => .int .u8 b.toNat
def toBytes : List AV → Option (List UInt8)
  | [] => some []
  | .int .u8 n :: l => (toBytes l).map fun r => UInt8.ofNat n.toNat :: r
  | _ => none

def setAt (l : List AV) (off : Nat) : List AV → List AV
  | [] => l
  | c :: cs => setAt (l.set off c) (off + 1) cs
def fillA (t : Tmps) (l : List AV) : List (Nat × Nat × AOpd) → Option (List AV)
  | [] => some l
  | (off, size, x) :: rest => (x.ev t).bind fun v =>
    if v.cells.length = size ∧ off + size ≤ l.length ∧ v.cells.all AV.one then fillA t (setAt l off v.cells) rest else none
def partA (l : List AV) (off : Nat) : Option Nat → Option AV
  | none => l[off]?
  | some n => if off + n ≤ l.length then some (.agg ((l.drop off).take n)) else none
def Blk.cellsR : Blk → Option (List AV)
  | .rw c => some c
  | .ro c => some c
  | _ => none
def Mem.cells (σ : Mem) (b o n : Nat) : Option (List AV) :=
  (σ.get b).bind fun k => k.cellsR.bind fun c => if o + n ≤ c.length then some ((c.drop o).take n) else none
def bnd (v : AV) (c : Nat) : Option Nat := v.asI.bind fun i => if 0 ≤ i ∧ i ≤ c then some i.toNat else none
def sliceBoundsA (len cap : Nat) (lo hi mx : Option AV) : Option (Nat × Nat × Nat) :=
  (match mx with
    | some v => bnd v cap
    | none => some cap).bind fun m =>
  (match hi with
    | some v => bnd v m
    | none => if mx.isSome then none else some len).bind fun h =>
  (match lo with
    | some v => bnd v h
    | none => some 0).bind fun l => some (l, h, m)
def Cap.least (n : Nat) : Cap → Nat
  | .ex k => k
  | .op _ => n
def Cap.fits (size : Nat) : Cap → Bool
  | .ex _ => true
  | .op s => s == size || s == 0
def Cap.cut (exact : Bool) (l m : Nat) : Cap → Cap
  | .ex k => .ex (if exact then m - l else k - l)
  | .op s => if exact then .ex (m - l) else .op s
def evo (t : Tmps) : Option AOpd → Option (Option AV)
  | none => some none
  | some x => (x.ev t).map some
def keyEq : AV → AV → Option Bool
  | .int k a, .int k' b => if k = k' then some (a == b) else none
  | .str a, .str b => some (a.data.toList == b.data.toList)
  | _, _ => none
def findK (k : AV) : List (AV × AV × Nat) → Option (Option Nat)
  | [] => some none
  | e :: es => (keyEq k e.1).bind fun r => if r then some (some 0) else (findK k es).map fun o => o.map (· + 1)
def isKey : Bool → AV → Bool
  | false, .int .. => true
  | true, .str _ => true
  | _, _ => false

def nop (id : Nat) (op : AOp) (t : Tmps) (σ : Mem) : Option (AV × Option Blk) :=
  match op with
  | .mov x => (x.ev t).bind fun v => some (v, none)
  | .pick c a b => (c.ev t).bind fun cv => match cv with
    | .bool r => ((if r then a else b).ev t).bind fun v => some (v, none)
    | _ => none
  | .alloc z => some (.ptr id 0, some (.rw z))
  | .allocB e => some (.ptr id 0, some (.bld e none))
  | .box x => (x.ev t).bind fun v => if v.cells.all AV.one then some (.ptr id 0, some (.rw v.cells)) else none
  | .build z ps => (fillA t z ps).bind fun l => some (.agg l, none)
  | .newSlice n z ps => (fillA t z ps).bind fun l => some (.slice id 0 n (.ex n), some (.rw l))
  | .load k x => (x.ev t).bind fun v => match v with
    | .ptr b o => match k with
      | none => (σ.cells b o 1).bind fun c => match c with
        | [a] => some (a, none)
        | _ => none
      | some n => (σ.cells b o n).bind fun c => some (.agg c, none)
    | _ => none
  | .nilchk x => (x.ev t).bind fun v => match v with
    | .ptr .. => some (v, none)
    | .func .. => some (v, none)
    | _ => none
  | .bin op e x y => (x.ev t).bind fun a => (y.ev t).bind fun b => (binV op e a b).bind fun v => some (v, none)
  | .un op x => (x.ev t).bind fun a => (unV op a).bind fun v => some (v, none)
  | .conv c x => (x.ev t).bind fun a => match c with
    | .toInt k => match a with
      | .int _ n => some (.int k (k.wrap n), none)
      | _ => none
    | .strBytes => match a with
      | .str s => if (s.size : Int) ≤ 9223372036854775806 then some (.slice id 0 s.size (.op 1), some (.rw (bytesOf s))) else none
      | _ => none
    | .bytesStr => match a with
      | .nils => some (.str ByteArray.empty, none)
      | .slice b o n _ => (σ.cells b o n).bind fun l => (toBytes l).bind fun r => some (.str ⟨r.toArray⟩, none)
      | _ => none
    | .same => match a with
      | .str s => some (.str s, none)
      | _ => none
  | .mkFn f xs => (evs t xs).bind fun l => some (.func f l, none)
  | .mkMap => some (.map id, some (.map [] 0))
  | .make bytes size z n c => (n.ev t).bind fun nv => (c.ev t).bind fun cv => nv.asI.bind fun i => cv.asI.bind fun k =>
      if 0 ≤ i ∧ i ≤ k ∧ k ≤ 9223372036854775807 ∧ (bytes : Int) * k ≤ 2 ^ 47 ∧ z.length = size then
        some (.slice id 0 i.toNat (.ex k.toNat), some (.rw (List.replicate k.toNat z).flatten)) else none
  | .slStr x lo hi => (x.ev t).bind fun a => (evo t lo).bind fun l => (evo t hi).bind fun h => match a with
    | .str s => (sliceBoundsA s.size s.size l h none).bind fun r => some (.str (s.extract r.1 r.2.1), none)
    | _ => none
  | .slSl size x lo hi mx => (x.ev t).bind fun a => (evo t lo).bind fun l => (evo t hi).bind fun h => (evo t mx).bind fun m => match a with
    | .slice b o n c => if c.fits size then (sliceBoundsA n (c.least n) l h m).bind fun r =>
        some (.slice b (o + r.1 * size) (r.2.1 - r.1) (c.cut m.isSome r.1 r.2.2), none) else none
    | .nils => (sliceBoundsA 0 0 l h m).bind fun _ => some (.nils, none)
    | _ => none
  | .slArr len size x lo hi => (x.ev t).bind fun a => (evo t lo).bind fun l => (evo t hi).bind fun h => match a with
    | .ptr b o => (sliceBoundsA len len l h none).bind fun r => some (.slice b (o + r.1 * size) (r.2.1 - r.1) (.ex (len - r.1)), none)
    | _ => none
  | .faddr off x => (x.ev t).bind fun v => match v with
    | .ptr b o => some (.ptr b (o + off), none)
    | _ => none
  | .field off k x => (x.ev t).bind fun v => match v with
    | .agg l => (partA l off k).bind fun r => some (r, none)
    | _ => none
  | .iaddrS size x i => (x.ev t).bind fun v => (i.ev t).bind fun iv => iv.asI.bind fun j => match v with
    | .slice b o n _ => if 0 ≤ j ∧ j < n then some (.ptr b (o + j.toNat * size), none) else none
    | _ => none
  | .iaddrA len size x i => (x.ev t).bind fun v => (i.ev t).bind fun iv => iv.asI.bind fun j => match v with
    | .ptr b o => if 0 ≤ j ∧ j < len then some (.ptr b (o + j.toNat * size), none) else none
    | _ => none
  | .idxStr x i => (x.ev t).bind fun v => (i.ev t).bind fun iv => iv.asI.bind fun j => match v with
    | .str s => if 0 ≤ j then (s.data.toList[j.toNat]?).bind fun c => some (.int .u8 c.toNat, none) else none
    | _ => none
  | .idxArr len size k x i => (x.ev t).bind fun v => (i.ev t).bind fun iv => iv.asI.bind fun j => match v with
    | .agg l => if 0 ≤ j ∧ j < len then (partA l (j.toNat * size) k).bind fun r => some (r, none) else none
    | _ => none
  | .extract x i => (x.ev t).bind fun v => match v with
    | .tup l => (l[i]?).bind fun r => some (r, none)
    | _ => none
  | .len q x => (x.ev t).bind fun v => match q, v with
    | true, .str s => some (.int .i64 s.size, none)
    | false, .nils => some (.int .i64 0, none)
    | false, .slice _ _ n _ => some (.int .i64 n, none)
    | _, _ => none
  | .cap x => (x.ev t).bind fun v => match v with
    | .nils => some (.int .i64 0, none)
    | .slice _ _ _ (.ex k) => some (.int .i64 k, none)
    | _ => none
  | .lenArr n => some (.int .i64 n, none)
  | .lenMap x => (x.ev t).bind fun v => match v with
    | .nilm => some (.int .i64 0, none)
    | .map b => (σ.get b).bind fun k => match k with
      | .map es _ => some (.int .i64 es.length, none)
      | _ => none
    | _ => none
  | .lookup kk z ok x k => (x.ev t).bind fun v => (k.ev t).bind fun kv => if !isKey kk kv then none else
      (match v with
        | .nilm => some []
        | .map b => (σ.get b).bind fun q => match q with
          | .map es _ => some es
          | _ => none
        | _ => none).bind fun es => (findK kv es).bind fun r =>
      match r with
      | some i => (es[i]?).bind fun e => some (if ok then .tup [e.2.1, .bool true] else e.2.1, none)
      | none => some (if ok then .tup [z, .bool false] else z, none)
  | .minmax mx x xs => (x.ev t).bind fun v => (evs t xs).bind fun l => (minmaxL mx v l).bind fun r => some (r, none)
  | .rangeM x => (x.ev t).bind fun v => match v with
    | .nilm => some (.ptr id 0, some (.iter none 0 [] 0))
    | .map b => (σ.get b).bind fun q => match q with
      | .map _ clock => some (.ptr id 0, some (.iter (some b) clock [] clock))
      | _ => none
    | _ => none
  | .entM x => (x.ev t).bind fun v => match v with
    | .ptr b 0 => (σ.get b).bind fun q => match q with
      | .iter (some m) _ seen stepped => (σ.get m).bind fun q => match q with
        | .map es clock => seen.getLast?.bind fun stamp => if clock = stepped then (es.find? fun e => e.2.2 == stamp).bind fun e => some (.tup [e.1, e.2.1], none) else none
        | _ => none
      | _ => none
    | _ => none
  | _ => none

def Mem.add (σ : Mem) (id : Nat) : Option Blk → Mem
  | none => σ
  | some k => σ.put id (some k)

def srcCells (σ : Mem) (size : Nat) : AV → Option (Nat × List AV)
  | .nils => some (0, [])
  | .slice b o n _ => (σ.cells b o (n * size)).bind fun c => some (n, c)
  | .str s => if size = 1 then some (s.size, bytesOf s) else none
  | _ => none

def eop (id : Nat) (op : AOp) (t : Tmps) (σ : Mem) : Option (AV × Mem) :=
  match op with
  | .store n a x => (a.ev t).bind fun av => (x.ev t).bind fun v => match av with
    | .ptr b o => match σ.get b with
      | some (.rw c) => if v.cells.length = n ∧ o + n ≤ c.length ∧ v.cells.all AV.one then some (.tup [], σ.put b (some (.rw (setAt c o v.cells)))) else none
      | _ => none
    | _ => none
  | .append size bytes s x => (s.ev t).bind fun sv => (x.ev t).bind fun xv => (srcCells σ size xv).bind fun nc =>
    match sv with
    | .nils => if nc.1 = 0 then some (.nils, σ) else
        if nc.1 * bytes ≤ 140737488355328 ∧ nc.1 ≤ 9223372036854775806 ∧ nc.2.all AV.one then some (.slice id 0 nc.1 (.op size), σ.put id (some (.rw nc.2))) else none
    | .slice b o n c => if nc.1 = 0 then some (.slice b o n c, σ) else
        match c with
        | .ex k =>
          if n + nc.1 ≤ k then
            match σ.get b with
            | some (.rw l) => if o + (n + nc.1) * size ≤ l.length ∧ nc.2.all AV.one then some (.slice b o (n + nc.1) (.ex k), σ.put b (some (.rw (setAt l (o + n * size) nc.2)))) else none
            | _ => none
          else if (n + nc.1) * bytes ≤ 140737488355328 ∧ n + nc.1 ≤ 9223372036854775806 ∧ nc.2.all AV.one then
            (σ.cells b o (n * size)).bind fun l => if l.all AV.one then some (.slice id 0 (n + nc.1) (.op size), σ.put id (some (.rw (l ++ nc.2)))) else none
          else none
        | .op s =>
          match σ.get b with
          | some (.rw l) => if s = size ∧ o = 0 ∧ n * size ≤ l.length ∧ (n + nc.1) * bytes ≤ 140737488355328 ∧ n + nc.1 ≤ 9223372036854775806 ∧ nc.2.all AV.one ∧ l.all AV.one then
              some (.slice id 0 (n + nc.1) (.op size), (σ.put b none).put id (some (.rw (l.take (n * size) ++ nc.2)))) else none
          | _ => none
    | _ => none
  | .appendZ size bytes z s n => (s.ev t).bind fun sv => (n.ev t).bind fun nv =>
    match sv with
    | .nils => (match nv with
      | .int _ m => if m = 0 then some (.nils, σ) else
        if 0 < m ∧ m.toNat * bytes ≤ 140737488355328 ∧ m.toNat ≤ 9223372036854775806 ∧ z.all AV.one then some (.slice id 0 m.toNat (.op size), σ.put id (some (.rw (List.replicate m.toNat z).flatten))) else none
      | _ => none)
    | _ => none
  | .copy size d s => (d.ev t).bind fun dv => (s.ev t).bind fun sv =>
    (match sv with
      | .nils => some 0
      | .slice _ _ n _ => some n
      | .str s => if size = 1 then some s.size else none
      | _ => none).bind fun sn =>
    match dv with
    | .nils => some (.int .i64 0, σ)
    | .slice b o n _ =>
      (match sv with
        | .nils => some []
        | .slice b' o' _ _ => σ.cells b' o' (Nat.min sn n * size)
        | .str s => some ((bytesOf s).take (Nat.min sn n))
        | _ => none).bind fun l =>
      if Nat.min sn n = 0 then some (.int .i64 0, σ) else
      match σ.get b with
      | some (.rw c) => if o + l.length ≤ c.length ∧ l.all AV.one then some (.int .i64 (Nat.min sn n : Nat), σ.put b (some (.rw (setAt c o l)))) else none
      | _ => none
    | _ => none
  | .mapUpd kk m k x => (m.ev t).bind fun mv => (k.ev t).bind fun kv => (x.ev t).bind fun v => if !isKey kk kv then none else match mv with
    | .map b => match σ.get b with
      | some (.map es clock) => (findK kv es).bind fun r => match r with
        | some i => some (.tup [], σ.put b (some (.map (es.modify i fun e => (kv, v, e.2.2)) clock)))
        | none => some (.tup [], σ.put b (some (.map (es ++ [(kv, v, clock)]) (clock + 1))))
      | _ => none
    | _ => none
  | .mapEnt kk z m k => (m.ev t).bind fun mv => (k.ev t).bind fun kv => if !isKey kk kv then none else match mv with
    | .map b => match σ.get b with
      | some (.map es clock) => (findK kv es).bind fun r => match r with
        | some i => (es[i]?).bind fun e => some (.tup [e.2.1, .int .i64 e.2.2], σ.put b (some (.map (es.modify i fun e => (kv, e.2)) clock)))
        | none => some (.tup [z, .int .i64 clock], σ.put b (some (.map (es ++ [(kv, z, clock)]) (clock + 1))))
      | _ => none
    | _ => none
  | .entSt m s x => (m.ev t).bind fun mv => (s.ev t).bind fun sv => (x.ev t).bind fun v => sv.asI.bind fun j => match mv with
    | .map b => match σ.get b with
      | some (.map es clock) => (es.findIdx? (fun e => (e.2.2 : Int) == j)).bind fun i =>
          some (.tup [], σ.put b (some (.map (es.modify i fun e => (e.1, v, e.2.2)) clock)))
      | _ => none
    | _ => none
  | .del kk m k => (m.ev t).bind fun mv => (k.ev t).bind fun kv => if !isKey kk kv then none else match mv with
    | .nilm => some (.tup [], σ)
    | .map b => match σ.get b with
      | some (.map es clock) => (findK kv es).bind fun r => match r with
        | some i => some (.tup [], σ.put b (some (.map (es.eraseIdx i) clock)))
        | none => some (.tup [], σ)
      | _ => none
    | _ => none
  | _ => none

def AOp.eff : AOp → Bool
  | .store .. | .append .. | .appendZ .. | .copy .. | .mapUpd .. | .mapEnt .. | .entSt .. | .del .. | .nextM .. | .call .. | .callv .. | .fail => true
  | _ => false
def AOp.reads : AOp → Bool
  | .load .. | .conv .bytesStr _ | .lenMap _ | .lookup .. | .rangeM _ | .entM _ => true
  | _ => false
def AOpd.ts : AOpd → List Nat
  | .tmp i => [i]
  | _ => []
def AOp.opds : AOp → List AOpd
  | .mov x | .box x | .load _ x | .nilchk x | .un _ x | .conv _ x | .faddr _ x | .field _ _ x | .extract x _ | .len _ x | .cap x | .lenMap x | .rangeM x | .nextM x | .entM x => [x]
  | .pick c a b => [c, a, b]
  | .alloc _ | .allocB _ | .mkMap | .lenArr _ | .fail => []
  | .build _ ps | .newSlice _ _ ps => ps.map fun p => p.2.2
  | .bin _ _ x y | .make _ _ _ x y | .iaddrS _ x y | .iaddrA _ _ x y | .idxStr x y | .idxArr _ _ _ x y | .lookup _ _ _ x y | .store _ x y | .append _ _ x y | .appendZ _ _ _ x y | .copy _ x y
  | .mapEnt _ _ x y | .del _ x y => [x, y]
  | .mkFn _ xs => xs
  | .slStr x lo hi | .slArr _ _ x lo hi => x :: (lo.toList ++ hi.toList)
  | .slSl _ x lo hi mx => x :: (lo.toList ++ hi.toList ++ mx.toList)
  | .minmax _ x xs => x :: xs
  | .mapUpd _ m k x | .entSt m k x => [m, k, x]
  | .call _ xs => xs
  | .callv x xs => x :: xs
def AOper.ts (o : AOper) : List Nat := o.op.opds.flatMap AOpd.ts ++ (match o.g with | some g => [g.1] | none => [])
end Go.Vit
end

section
namespace Go.Vit

def ofV1 : Value → Option AV
  | .bool b => some (.bool b)
  | .int k n => some (.int k n)
  | .string s => some (.str s)
  | .pointer none => some .nilp
  | .slice none 0 0 => some .nils
  | .map none => some .nilm
  | .nilFunc => some .nilf
  | .nilIface => some .nili
  | _ => none
def ofVs : List Value → Option (List AV)
  | [] => some []
  | v :: vs => (ofV1 v).bind fun a => (ofVs vs).bind fun l => some (a :: l)
def ofV : Value → Option AV
  | .agg cs => (ofVs cs.toList).map .agg
  | v => ofV1 v
def opd : Operand → Option AOpd
  | .tmp t => some (.tmp t)
  | .const v => (ofV v).map .const
  | .global _ => none
  | .func f => some (.const (.func f []))
def opds : List Operand → Option (List AOpd)
  | [] => some []
  | x :: xs => (opd x).bind fun a => (opds xs).bind fun l => some (a :: l)
def opdo : Option Operand → Option (Option AOpd)
  | none => some none
  | some x => (opd x).map some

theorem ofV1_rel {v : Value} {a : AV} (h : ofV1 v = some a) (ρ : Ren) : VRel ρ a v := by
  unfold ofV1 at h
  split at h <;> first | (cases h; constructor) | cases h
theorem ofV1_one {v : Value} {a : AV} (h : ofV1 v = some a) : a.one = true ∧ v.oneCell' = true ∧ v.cells = #[v] := by
  unfold ofV1 at h
  split at h <;> first | (cases h; exact ⟨rfl, rfl, rfl⟩) | cases h
theorem ofVs_rel : ∀ {vs : List Value} {l : List AV}, ofVs vs = some l → ∀ ρ : Ren, LRel ρ l vs.toArray
  | [], l, h, ρ => by simp [ofVs] at h; subst h; exact LRel.nil ρ
  | v :: vs, l, h, ρ => by
    simp only [ofVs, Option.bind_eq_some_iff] at h
    obtain ⟨a, ha, l', hl, e⟩ := h
    cases e
    have ih := ofVs_rel hl ρ
    refine ⟨by have := ih.1; simp at this ⊢; exact this, fun i x y hx hy => ?_⟩
    cases i with
    | zero => simp at hx hy; subst hx; subst hy; exact ofV1_rel ha ρ
    | succ i => exact ih.2 i x y (by simpa using hx) (by simpa using hy)
theorem ofVs_one : ∀ {vs : List Value} {l : List AV}, ofVs vs = some l → l.all AV.one = true ∧ ∀ v ∈ vs, v.oneCell' = true
  | [], l, h => by simp [ofVs] at h; subst h; exact ⟨rfl, fun v hv => by simp at hv⟩
  | v :: vs, l, h => by
    simp only [ofVs, Option.bind_eq_some_iff] at h
    obtain ⟨a, ha, l', hl, e⟩ := h
    cases e
    have ih := ofVs_one hl
    exact ⟨by simp [List.all_cons, (ofV1_one ha).1, ih.1], fun u hu => by
      rcases List.mem_cons.1 hu with rfl | hu
      · exact (ofV1_one ha).2.1
      · exact ih.2 u hu⟩
theorem ofV_rel {v : Value} {a : AV} (h : ofV v = some a) (ρ : Ren) : VRel ρ a v := by
  unfold ofV at h
  split at h
  · simp only [Option.map_eq_some_iff] at h
    obtain ⟨l, hl, rfl⟩ := h
    have := ofVs_rel hl ρ
    exact .agg (by simpa using this.1) (by simpa using this.2)
  · exact ofV1_rel h ρ

def zeroOf (P : Program) (t : TypeId) : Option (List AV) := (P.info? t).bind fun i => i.zero.bind fun z => ofVs z.cells.toList
def shapeOf (P : Program) (t : TypeId) : Option (Option Nat) :=
  (P.underlying t).bind fun d => (P.info? t).bind fun i => match d with
    | .struct _ | .array _ _ => some (some i.size)
    | _ => some none
def places (P : Program) : List Field → Option (List (Nat × Nat))
  | [] => some []
  | f :: fs => (P.info? f.type).bind fun i => (places P fs).bind fun l => some ((f.offset, i.size) :: l)
def partsF (pl : List (Nat × Nat)) : List (Nat × Operand) → Option (List (Nat × Nat × AOpd))
  | [] => some []
  | (i, x) :: r => (pl[i]?).bind fun p => (opd x).bind fun a => (partsF pl r).bind fun l => some ((p.1, p.2, a) :: l)
def partsA (size : Nat) : List (Nat × Operand) → Option (List (Nat × Nat × AOpd))
  | [] => some []
  | (i, x) :: r => (opd x).bind fun a => (partsA size r).bind fun l => some ((i * size, size, a) :: l)
def flatOffs (P : Program) : List Field → Option (List (Nat × Nat))
  | [] => some []
  | f :: fs => (P.underlying f.type).bind fun d => (flatOffs P fs).bind fun l =>
    if f.name = "_" then none else match d with
    | .bool => some ((f.offset, 0) :: l)
    | .int _ => some ((f.offset, 1) :: l)
    | .string => some ((f.offset, 2) :: l)
    | _ => none
def eqKind (P : Program) (t : TypeId) : Option EqK :=
  (P.underlying t).bind fun d => match d with
    | .struct fs => if P.stoodInHeld t || P.eqGuardType P.depth t then none else (flatOffs P fs.toList).map .flat
    | .int _ | .string => some .basic
    | .bool => some .bool
    | .pointer _ => some .ptr
    | .slice _ => some .sl
    | .map _ _ => some .map
    | .func _ _ _ => some .func
    | _ => none
def keyT (P : Program) (k : TypeId) : Option Bool :=
  match P.underlying k with
  | some (.int _) => some false
  | some .string => some true
  | _ => none

def compCall (P : Program) (c : Call) : Option AOp :=
  match c.callee with
  | .value (.func f) =>
    (P.funcs[f]?).bind fun fn => if fn.body.isSome && !(fn.name == "runtime.NumGoroutine") then (opds c.args.toList).map (.call f) else none
  | .value x => (opd x).bind fun a => (opds c.args.toList).map (.callv a)
  | .invoke _ _ => none
  | .builtin b =>
    match b, c.args.toList, c.argTypes.toList with
    | .len, [x], t :: _ => (P.underlying t).bind fun d => (opd x).bind fun a => match d with
      | .string => some (.len true a)
      | .slice _ => some (.len false a)
      | .array n _ => some (.lenArr n)
      | .map _ _ => some (.lenMap a)
      | _ => none
    | .cap, [x], t :: _ => (P.underlying t).bind fun d => (opd x).bind fun a => match d with
      | .slice _ => some (.cap a)
      | _ => none
    | .append, [s, x], t :: u :: _ => (P.underlying t).bind fun d => (P.underlying u).bind fun du => (opd s).bind fun a => (opd x).bind fun b => match d with
      | .slice e => (P.info? e).bind fun i => match du with
        | .int _ => if i.size = 0 ∨ i.bytes = 0 ∨ (i.zero.map fun z => z.cells.size) ≠ some i.size then none else (zeroOf P e).map fun z => .appendZ i.size i.bytes z a b
        | _ => if i.size = 0 ∨ i.bytes = 0 ∨ (i.zero.map fun z => z.cells.size) ≠ some i.size then none else some (.append i.size i.bytes a b)
      | _ => none
    | .copy, [d, s], t :: _ => (P.underlying t).bind fun dd => (opd d).bind fun a => (opd s).bind fun b => match dd with
      | .slice e => (P.info? e).bind fun i => some (.copy i.size a b)
      | _ => none
    | .min, x :: xs, _ => (opd x).bind fun a => (opds xs).bind fun l => some (.minmax false a l)
    | .max, x :: xs, _ => (opd x).bind fun a => (opds xs).bind fun l => some (.minmax true a l)
    | .delete, [m, k], t :: _ => (P.underlying t).bind fun d => (opd m).bind fun a => (opd k).bind fun b => match d with
      | .map kt _ => (keyT P kt).map fun kk => .del kk a b
      | _ => none
    | _, _, _ => none

def bldT1 (P : Program) (e : TypeId) : Bool :=
  match P.underlying e with
  | some (.struct fs) => (match fs.toList with
    | [a, _] => (match P.underlying a.type with
      | some (.pointer x) => Nat.beq x e
      | _ => false)
    | _ => false)
  | _ => false
def bldT (P : Program) (e : TypeId) : Bool :=
  bldT1 P e || (match P.underlying e with
    | some (.struct fs) => (match fs.toList with
      | [a] => bldT1 P a.type
      | _ => false)
    | _ => false)
def bldZ (P : Program) (e : TypeId) (z : List AV) : AOp :=
  match z with
  | [.nilp, .nils] => (match bldT P e with
    | true => .allocB e
    | false => .alloc z)
  | _ => .alloc z
def compOp (P : Program) : Op → Option AOp
  | .move x | .assign x => (opd x).map .mov
  | .pick c a b => (opd c).bind fun c => (opd a).bind fun a => (opd b).bind fun b => some (.pick c a b)
  | .alloc e => (zeroOf P e).map (bldZ P e)
  | .box e x => (opd x).map .box
  | .build t ps => (P.underlying t).bind fun d => (zeroOf P t).bind fun z => match d with
    | .struct fs => (places P fs.toList).bind fun pl => (partsF pl ps.toList).map fun l => .build z l
    | .array _ e => (P.info? e).bind fun i => (partsA i.size ps.toList).map fun l => .build z l
    | _ => none
  | .buildSlice t n ps => (P.underlying t).bind fun d => match d with
    | .slice e => (P.info? e).bind fun i => (zeroOf P e).bind fun z => (partsA i.size ps.toList).bind fun l =>
      if (n * i.size ≤ 16777216 ∧ n ≤ 16777216) ∧ z.length = i.size then some (.newSlice n (List.replicate n z).flatten l) else none
    | _ => none
  | .load t a => (shapeOf P t).bind fun k => (opd a).map (.load k)
  | .store t a x => (P.info? t).bind fun i => (opd a).bind fun a => (opd x).map (.store i.size a)
  | .nilCheck x => (opd x).map .nilchk
  | .binOp op t x y _ => (eqKind P t).bind fun e => (opd x).bind fun a => (opd y).map (.bin op e a)
  | .unOp op _ x => (opd x).map (.un op)
  | .convert src dst x => (P.underlying src).bind fun s => (P.underlying dst).bind fun d => (opd x).bind fun a => match s, d with
    | .int _, .int k => some (.conv (.toInt k) a)
    | .string, .string => some (.conv .same a)
    | .string, .slice e => match P.underlying e with
      | some (.int .u8) => some (.conv .strBytes a)
      | _ => none
    | .slice e, .string => match P.underlying e with
      | some (.int .u8) => some (.conv .bytesStr a)
      | _ => none
    | _, _ => none
  | .makeFunc (.func f) first captured => if first.size = 0 then (opds captured.toList).map (.mkFn f) else none
  | .makeMap _ none => some .mkMap
  | .makeSlice t n c => (P.underlying t).bind fun d => match d with
    | .slice e => (P.info? e).bind fun i => (zeroOf P e).bind fun z => (opd n).bind fun n => (opd c).map fun c => .make i.bytes i.size z n c
    | _ => none
  | .slice t x lo hi mx => (P.underlying t).bind fun d => (opd x).bind fun a => (opdo lo).bind fun l => (opdo hi).bind fun h => (opdo mx).bind fun m => match d with
    | .string => if m.isSome then none else some (.slStr a l h)
    | .slice e => (P.info? e).bind fun i => some (.slSl i.size a l h m)
    | .array n e => (P.info? e).bind fun i => if m.isSome then none else if n ≤ 16777216 then some (.slArr n i.size a l h) else none
    | .pointer ar => (P.underlying ar).bind fun d => match d with
      | .array n e => (P.info? e).bind fun i => if m.isSome then none else if n ≤ 16777216 then some (.slArr n i.size a l h) else none
      | _ => none
    | _ => none
  | .fieldAddr s x f => (P.underlying s).bind fun d => match d with
    | .struct fs => (fs[f]?).bind fun f => (P.info? f.type).bind fun i => if i.size = 0 then none else (opd x).map (.faddr f.offset)
    | _ => none
  | .field t x f => (P.underlying t).bind fun d => match d with
    | .struct fs => (fs[f]?).bind fun f => (shapeOf P f.type).bind fun k => (opd x).map (.field f.offset k)
    | _ => none
  | .indexAddr t x ix => (P.underlying t).bind fun d => (opd x).bind fun a => (opd ix).bind fun i => match d with
    | .slice e => (P.info? e).bind fun q => some (.iaddrS q.size a i)
    | .array n e => (P.info? e).bind fun q => some (.iaddrA n q.size a i)
    | _ => none
  | .index t x ix => (P.underlying t).bind fun d => (opd x).bind fun a => (opd ix).bind fun i => match d with
    | .string => some (.idxStr a i)
    | .array n e => (P.info? e).bind fun q => (shapeOf P e).bind fun k => some (.idxArr n q.size k a i)
    | _ => none
  | .lookup t x k ok => (P.underlying t).bind fun d => (opd x).bind fun a => (opd k).bind fun b => match d with
    | .map kt e => (keyT P kt).bind fun kk => (P.info? e).bind fun i => i.zero.bind fun z => (ofV z).map fun z => .lookup kk z ok a b
    | _ => none
  | .mapUpdate t m k x | .insert t m k x => (P.underlying t).bind fun d => (opd m).bind fun a => (opd k).bind fun b => (opd x).bind fun c => match d with
    | .map kt _ => (keyT P kt).map fun kk => .mapUpd kk a b c
    | _ => none
  | .mapEntry t m k => (P.underlying t).bind fun d => (opd m).bind fun a => (opd k).bind fun b => match d with
    | .map kt e => (keyT P kt).bind fun kk => (P.info? e).bind fun i => i.zero.bind fun z => (ofV z).map fun z => .mapEnt kk z a b
    | _ => none
  | .entryStore _ m s x => (opd m).bind fun a => (opd s).bind fun b => (opd x).map (.entSt a b)
  | .extract x i => (opd x).map fun a => .extract a i
  | .range t x => (P.underlying t).bind fun d => (opd x).bind fun a => match d with
    | .map _ _ => some (.rangeM a)
    | _ => none
  | .next it s => if s then none else (opd it).map .nextM
  | .entry it => (opd it).map .entM
  | .call c => compCall P c
  | _ => none
end Go.Vit
end

section
namespace Go.Vit

def updR (ρ : Ren) (id : Nat) (p : Loc) : Ren := fun b => if b = id then some p else ρ b

structure NRes (id : Nat) (ρ : Ren) (w : World) (v : AV) (ob : Option Blk) (v' : Value) (w' : World) (ρ' : Ren) : Prop where
  val : VRel ρ' v v'
  ren : ∀ b, b ≠ id → ρ' b = ρ b
  no : ob = none → ρ' = ρ
  new : ∀ k, ob = some k → ∃ m, ρ' id = some (w.heap.size, 0, m) ∧ BRel ρ' (w.heap.size, 0, m) w' k ∧ k.mut = true ∧ k.solid = true
  heap : ∀ c, c < w.heap.size → w'.heap[c]? = w.heap[c]?
  size : w.heap.size ≤ w'.heap.size
  os : w'.os = w.os
  tape : w'.tape = w.tape
  out : w'.output = w.output

theorem NRes.same {id : Nat} {ρ : Ren} {w : World} {v : AV} {v' : Value} (h : VRel ρ v v') : NRes id ρ w v none v' w ρ :=
  ⟨h, fun _ _ => rfl, fun _ => rfl, (fun k e => by cases e), fun _ _ => rfl, Nat.le_refl _, rfl, rfl, rfl⟩

theorem updR_ext {ρ : Ren} {id : Nat} {p : Loc} (h : ρ id = none) : ∀ b q, ρ b = some q → updR ρ id p b = some q := by
  intro b q e
  unfold updR
  rw [if_neg (fun x => by subst x; rw [h] at e; cases e)]
  exact e
theorem updR_self {ρ : Ren} {id : Nat} {p : Loc} : updR ρ id p id = some p := by simp [updR]

theorem NRes.alloc {id : Nat} {ρ : Ren} {w w' : World} {v : AV} {v' : Value} {c : List AV} {cs : Array Value} {e : TypeId} {fz : Nat × Nat} (hρ : ρ id = none)
    (hv : VRel (updR ρ id (w.heap.size, 0, cs.size)) v v') (hw : w'.heap = w.heap.push (.cells cs e fz)) (hlen : c.length ≤ cs.size)
    (hfz : ∀ i, i < cs.size → ¬ (fz.1 ≤ i ∧ i < fz.2)) (hr : ∀ (i : Nat) (a : AV), c[i]? = some a → ∃ u, cs[i]? = some u ∧ VRel ρ a u)
    (hos : w'.os = w.os) (htape : w'.tape = w.tape) (hout : w'.output = w.output) : NRes id ρ w v (some (.rw c)) v' w' (updR ρ id (w.heap.size, 0, cs.size)) := by
  refine ⟨hv, fun b hb => by simp [updR, hb], (by intro e; cases e), fun k e => ?_, fun c hc => ?_, ?_, hos, htape, hout⟩
  · cases e
    refine ⟨cs.size, updR_self, ⟨rfl, cs, _, fz, (by rw [hw]; exact Array.getElem?_push_size), ⟨hlen, rfl⟩, hfz, fun i a ha => ?_⟩, rfl, rfl⟩
    obtain ⟨u, hu, hr⟩ := hr i a ha
    exact ⟨u, hu, hr.mono (updR_ext hρ)⟩
  · rw [hw, Array.getElem?_push, if_neg (by omega)]
  · rw [hw]; simp

theorem NRes.allocB {id : Nat} {ρ : Ren} {w w' : World} {e : TypeId} (hw : w'.heap = w.heap.push (.cells #[.pointer none, .slice none 0 0] e (0, 0)))
    (hos : w'.os = w.os) (htape : w'.tape = w.tape) (hout : w'.output = w.output) : NRes id ρ w (.ptr id 0) (some (.bld e none)) (.pointer (some ⟨w.heap.size, 0, none⟩)) w' (updR ρ id (w.heap.size, 0, 2)) := by
  refine ⟨.ptr updR_self, fun b hb => by simp [updR, hb], (by intro e; cases e), fun k e => ?_, fun c hc => ?_, ?_, hos, htape, hout⟩
  · cases e
    exact ⟨2, updR_self, ⟨rfl, _, _, (by rw [hw]; exact Array.getElem?_push_size), .inl rfl, fun _ => rfl, fun g n e => by cases e⟩, rfl, rfl⟩
  · rw [hw, Array.getElem?_push, if_neg (by omega)]
  · rw [hw]; simp

theorem heap_push_lt {w : World} {o : Obj} {c : Nat} (hc : c < w.heap.size) : (w.heap.push o)[c]? = w.heap[c]? := by
  rw [Array.getElem?_push, if_neg (by omega)]

theorem St.cells {ρ : Ren} {σ : Mem} {w : World} (st : St ρ σ w) {b o n : Nat} {c : List AV} (h : σ.cells b o n = some c) {p : Loc} (hp : ρ b = some p) :
    c.length = n ∧ ∃ cs : List Value, cs.length = n ∧ (∀ j v, cs[j]? = some v → w.cell? ⟨p.1, p.2.1 + o + j, none⟩ = some v) ∧
      ∀ (i : Nat) (a : AV) (v : Value), c[i]? = some a → cs[i]? = some v → VRel ρ a v := by
  simp only [Mem.cells, Option.bind_eq_some_iff] at h
  obtain ⟨k, hk, l, hl, h⟩ := h
  split at h
  · rename_i hle
    cases h
    have hrel := st.rel b k p hk hp
    have hlen : ((l.drop o).take n).length = n := by simp; omega
    refine ⟨hlen, ?_⟩
    have key : ∀ i a, l[i]? = some a → ∃ v, w.cell? ⟨p.1, p.2.1 + i, none⟩ = some v ∧ VRel ρ a v := by
      cases k with
      | rw c =>
        cases hl
        obtain ⟨h0, cs, e, fz, h1, _, _, h4⟩ := hrel
        intro i a ha
        obtain ⟨v, hv, hr⟩ := h4 i a ha
        exact ⟨v, by simp [World.cell?, h1, h0, hv], hr⟩
      | ro c => cases hl; exact hrel.2
      | map es cl => cases hl
      | iter m si se la => cases hl
      | bld t buf => cases hl
      | row e c => cases hl
    have hex : ∀ j, j < n → ∃ v, w.cell? ⟨p.1, p.2.1 + o + j, none⟩ = some v ∧ ∀ a, l[o + j]? = some a → VRel ρ a v := by
      intro j hj
      have hlt : o + j < l.length := by omega
      obtain ⟨v, hv, hr⟩ := key (o + j) l[o + j] (List.getElem?_eq_getElem hlt)
      refine ⟨v, by rw [Nat.add_assoc]; exact hv, fun a ha => ?_⟩
      rw [List.getElem?_eq_getElem hlt] at ha
      cases ha; exact hr
    let f : Nat → Value := fun j => ((w.cell? ⟨p.1, p.2.1 + o + j, none⟩).getD undef)
    refine ⟨(List.range n).map f, by simp, ?_, ?_⟩
    · intro j v hj
      simp only [List.getElem?_map] at hj
      by_cases hlt : j < n
      · obtain ⟨u, hu, _⟩ := hex j hlt
        rw [List.getElem?_range hlt] at hj
        simp [f, hu] at hj
        rw [hu, hj]
      · rw [List.getElem?_eq_none (by simpa using hlt)] at hj; cases hj
    · intro i a v ha hv
      rw [List.getElem?_take] at ha
      split at ha
      · rename_i hlt
        obtain ⟨u, hu, hr⟩ := hex i hlt
        rw [List.getElem?_drop] at ha
        rw [List.getElem?_map, List.getElem?_range hlt] at hv
        simp [f, hu] at hv
        subst hv
        exact hr a ha
      · cases ha
  · cases h

theorem VRel.asI {ρ : Ren} {x : AV} {v : Value} (h : VRel ρ x v) {i : Int} (hi : x.asI = some i) : ∃ k, v = .int k i := by
  cases h <;> simp [AV.asI] at hi
  subst hi; exact ⟨_, rfl⟩

theorem evs_rel {P : Program} {t : Tmps} {ρ : Ren} {η : Operand → Value} : ∀ {xs : List Operand} {as : List AOpd} {vs : List AV}, opds xs = some as → evs t as = some vs →
    (∀ x a v, opd x = some a → a ∈ as → a.ev t = some v → VRel ρ v (η x)) → LRel ρ vs (xs.map η).toArray
  | [], as, vs, h, he, _ => by simp [opds] at h; subst h; simp [evs] at he; subst he; exact LRel.nil ρ
  | x :: xs, as, vs, h, he, hE => by
    simp only [opds, Option.bind_eq_some_iff] at h
    obtain ⟨a, ha, l, hl, e⟩ := h
    cases e
    simp only [evs, Option.bind_eq_some_iff] at he
    obtain ⟨v, hv, us, hus, e⟩ := he
    cases e
    have ih := evs_rel (P := P) hl hus (fun x a v hx hm hv => hE x a v hx (List.mem_cons_of_mem _ hm) hv)
    have h0 := hE x a v ha (by simp) hv
    refine LRel.of_list (by have := ih.1; simp at this ⊢; exact this) fun i y z hy hz => ?_
    cases i with
    | zero => simp at hy hz; subst hy; subst hz; exact h0
    | succ i => exact ih.2 i y z (by simpa using hy) (by simpa using hz)

/-! ### Comparisons -/
theorem data_toList_eq {a b : ByteArray} : (a.data.toList == b.data.toList) = (a == b) := by
  rw [beq_toListBytes, ByteArray.toList_eq, ByteArray.toList_eq]

section
variable {P : Program} {w : World}

theorem bits_run (op : BinOp) (ho : op = .and ∨ op = .or ∨ op = .xor ∨ op = .andNot) (k : IntKind) (a b : Int) : (Op.intBits op k a b).run P w = .ok (.int k (bitsOp op k a b)) w := by
  rcases ho with rfl | rfl | rfl | rfl <;> simp [Op.intBits, bitsOp]

theorem binInt_run {op : BinOp} {k : IntKind} {a b : Int} {r : AV} (h : binInt op k a b = some r) (t : TypeId) :
    ∃ v, (binOp op t (.int k a) (.int k b)).run P w = .ok v w ∧ ∀ ρ, VRel ρ r v := by
  cases op <;> simp only [binInt, Option.some.injEq] at h
  case quo => split at h <;> cases h; rename_i hb; exact ⟨_, by simp [binOp, Op.intDiv, hb], fun _ => .int _ _⟩
  case rem => split at h <;> cases h; rename_i hb; exact ⟨_, by simp [binOp, Op.intDiv, hb], fun _ => .int _ _⟩
  case and => subst h; exact ⟨_, by simp only [binOp, ne_eq, not_true_eq_false, if_false, bits_run .and (by simp)], fun _ => .int _ _⟩
  case or => subst h; exact ⟨_, by simp only [binOp, ne_eq, not_true_eq_false, if_false, bits_run .or (by simp)], fun _ => .int _ _⟩
  case xor => subst h; exact ⟨_, by simp only [binOp, ne_eq, not_true_eq_false, if_false, bits_run .xor (by simp)], fun _ => .int _ _⟩
  case andNot => subst h; exact ⟨_, by simp only [binOp, ne_eq, not_true_eq_false, if_false, bits_run .andNot (by simp)], fun _ => .int _ _⟩
  case shl => cases h
  case shr => cases h
  all_goals
    subst h
    exact ⟨_, by simp [binOp, Op.intArith, Op.intCmp]; rfl, fun _ => by first | exact .int _ _ | exact .bool _⟩

theorem shInt_run {op : BinOp} (ho : op = .shl ∨ op = .shr) {k yk : IntKind} {a b : Int} {r : AV} (h : shInt op k a b = some r) (t : TypeId) :
    ∃ v, (binOp op t (.int k a) (.int yk b)).run P w = .ok v w ∧ ∀ ρ, VRel ρ r v := by
  unfold shInt at h
  split at h
  · cases h
  · rename_i hb
    rcases ho with rfl | rfl <;> cases h <;> exact ⟨_, by simp [binOp, Op.shift, hb], fun _ => .int _ _⟩

theorem binStr_run {op : BinOp} {a b : ByteArray} {r : AV} (h : binStr op a b = some r) (t : TypeId) :
    ∃ v, (binOp op t (.string a) (.string b)).run P w = .ok v w ∧ ∀ ρ, VRel ρ r v := by
  cases op <;> simp only [binStr, Option.some.injEq] at h
  case add =>
    split at h
    · rename_i hs
      cases h
      refine ⟨_, ?_, fun _ => .str _⟩
      have : (binOp .add t (.string a) (.string b)) = Op.stringOp .add a b := by simp [binOp]
      rw [this, run_string_add_sum w a b (by omega)]
    · cases h
  all_goals first
    | (cases h; done)
    | (subst h
       exact ⟨_, by simp only [binOp, Op.stringOp, ByteArray.toList_eq]; rfl, fun _ => .bool _⟩)

theorem eqScalar_run {tag : Nat} {x y : AV} {r : Bool} (h : eqScalar tag x y = some r) {ρ : Ren} {v u : Value} (hx : VRel ρ x v) (hy : VRel ρ y u) {t : TypeId} {d : TypeDesc} (ht : P.underlying t = some d)
    (hd : (d = .bool ∧ tag = 0) ∨ (∃ k, d = .int k ∧ tag = 1) ∨ (d = .string ∧ tag = 2)) (n : Nat) :
    (Op.equalIn (n + 1) t v u).run P w = .ok r w := by
  unfold eqScalar at h
  split at h
  · cases h; cases hx; cases hy
    obtain ⟨rfl, _⟩ | ⟨k', rfl, h⟩ | ⟨rfl, h⟩ := hd
    · simp [Op.equalIn, run_underlying ht]
    · cases h
    · cases h
  · split at h
    · rename_i hk; subst hk; cases h; cases hx; cases hy
      obtain ⟨rfl, h⟩ | ⟨k', rfl, h⟩ | ⟨rfl, h⟩ := hd
      · cases h
      · simp [Op.equalIn, run_underlying ht]
      · cases h
    · cases h
  · cases h; cases hx; cases hy
    obtain ⟨rfl, h⟩ | ⟨k', rfl, h⟩ | ⟨rfl, h⟩ := hd
    · cases h
    · cases h
    · simp only [data_toList_eq]; simp [Op.equalIn, run_underlying ht]
  · cases h

theorem run_part_scalar {t : TypeId} {d : TypeDesc} (ht : P.underlying t = some d) (hd : d = .bool ∨ (∃ k, d = .int k) ∨ d = .string) {cs : Array Value} {off : Nat} {v : Value} (hv : cs[off]? = some v) :
    (part t cs off).run P w = .ok v w := by
  have : (isAgg t).run P w = .ok false w := by
    rcases hd with rfl | ⟨k, rfl⟩ | rfl <;> simp [isAgg, run_underlying ht]
  simp [part, this, hv]

theorem eqFlat_run {ρ : Ren} {l l' : List AV} {xs ys : Array Value} (hx : LRel ρ l xs) (hy : LRel ρ l' ys) (n : Nat) : ∀ (fs : List Field) (offs : List (Nat × Nat)) (r : Bool), flatOffs P fs = some offs →
    eqFlat l l' offs = some r → (Op.eqFields (n + 1) xs ys fs).run P w = .ok r w
  | [], offs, r, hf, h => by
    simp [flatOffs] at hf; subst hf; simp [eqFlat] at h; subst h; simp [Op.eqFields]
  | f :: fs, offs, r, hf, h => by
    simp only [flatOffs, Option.bind_eq_some_iff] at hf
    obtain ⟨d, hd, os, hos, hf⟩ := hf
    split at hf
    · cases hf
    · rename_i hne
      obtain ⟨tag, e, hdt⟩ : ∃ tag, offs = (f.offset, tag) :: os ∧ ((d = .bool ∧ tag = 0) ∨ (∃ k, d = .int k ∧ tag = 1) ∨ (d = .string ∧ tag = 2)) := by
        cases d <;> simp at hf <;> subst hf <;> exact ⟨_, rfl, by simp⟩
      subst e
      simp only [eqFlat, Option.bind_eq_some_iff] at h
      obtain ⟨a, ha, b, hb, q, hq, h⟩ := h
      obtain ⟨v, hv, hav⟩ := hx.get ha
      obtain ⟨u, hu, hbu⟩ := hy.get hb
      have hsc : d = .bool ∨ (∃ k, d = .int k) ∨ d = .string := by
        rcases hdt with ⟨h, _⟩ | ⟨k, h, _⟩ | ⟨h, _⟩
        · exact .inl h
        · exact .inr (.inl ⟨k, h⟩)
        · exact .inr (.inr h)
      have p1 := run_part_scalar (w := w) hd hsc hv
      have p2 := run_part_scalar (w := w) hd hsc hu
      have p3 := eqScalar_run (w := w) hq hav hbu hd hdt n
      have ih := eqFlat_run hx hy n fs os
      simp only [Op.eqFields, ne_eq, hne, not_false_eq_true, if_true, Sem.run_bind, p1, p2, p3, Result.andThen_ok]
      cases q with
      | true => simp at h; simpa using ih r hos h
      | false => simp at h; subst h; simp

theorem equal_of {t : TypeId} {v u : Value} {q : Bool} (h : ∀ n, (Op.equalIn (n + 1) t v u).run P w = .ok q w) : (Op.equal t v u).run P w = .ok q w := h 9999

theorem bin_run {op : BinOp} {t : TypeId} {e : EqK} (he : eqKind P t = some e) {x y r : AV} (h : binV op e x y = some r) {ρ : Ren} {v u : Value} (hx : VRel ρ x v) (hy : VRel ρ y u) (X Y : Operand) :
    ∃ z, (do eqGuard op t X Y v u; binOp op t v u).run P w = .ok z w ∧ VRel ρ r z := by
  unfold binV at h
  split at h
  · cases hx; cases hy
    have hg : ∀ k k' a b, eqGuard op t X Y (.int k a) (.int k' b) = pure () := by intro k k' a b; cases op <;> rfl
    rw [hg]
    split at h
    · obtain ⟨z, h1, h2⟩ := shInt_run (P := P) (w := w) (.inl rfl) h t; exact ⟨z, by simpa using h1, h2 ρ⟩
    · obtain ⟨z, h1, h2⟩ := shInt_run (P := P) (w := w) (.inr rfl) h t; exact ⟨z, by simpa using h1, h2 ρ⟩
    · split at h
      · rename_i hk; subst hk
        obtain ⟨z, h1, h2⟩ := binInt_run (P := P) (w := w) h t; exact ⟨z, by simpa using h1, h2 ρ⟩
      · cases h
  · cases hx; cases hy
    have hg : ∀ a b, eqGuard op t X Y (.string a) (.string b) = pure () := by intro a b; cases op <;> rfl
    rw [hg]
    obtain ⟨z, h1, h2⟩ := binStr_run (P := P) (w := w) h t; exact ⟨z, by simpa using h1, h2 ρ⟩
  · rename_i hni hns
    have key : ∀ q, eqVal e x y = some q → (op = .eql ∨ op = .neq) → (eqGuard op t X Y v u).run P w = .ok () w ∧ (Op.equal t v u).run P w = .ok q w := by
      intro q hq hop
      simp only [eqKind, Option.bind_eq_some_iff] at he
      obtain ⟨d, hd, he⟩ := he
      unfold eqVal at hq
      split at hq
      · have q1 := hx.cells
        have q2 := hy.cells
        cases hx; cases hy
        cases d <;> simp at he
        rename_i fs
        obtain ⟨⟨hs1, hs2⟩, he⟩ := he
        have hfo : P.fieldsOf t = fs := by simp [Program.fieldsOf, hd]
        refine ⟨run_eqGuard_agg w op t X Y _ _ hs2, ?_⟩
        unfold Op.equal Op.maxDepth
        exact (run_equalIn_struct (P := P) w 9999 t _ _ (by rw [hfo]; exact hd) hs1).trans (by rw [hfo]; exact eqFlat_run q1 q2 9998 fs.toList _ q he hq)
      all_goals first
        | (cases hq; done)
        | (cases d <;> simp at he <;> (try (split at he <;> simp at he))
           cases hq; cases hx; cases hy
           refine ⟨by rcases hop with rfl | rfl <;> rfl, ?_⟩
           refine equal_of ?_
           intro n
           simp only [Op.equalIn, run_underlying hd, Sem.run_bind, Result.andThen_ok, Sem.run_pure]
           try rfl)
    have n1 : ∀ k a k' b, v = .int k a → u = .int k' b → False := by
      intro k a k' b e1 e2; subst e1; subst e2; cases hx; cases hy; exact hni _ _ _ _ rfl rfl
    have n2 : ∀ a b, v = .string a → u = .string b → False := by
      intro a b e1 e2; subst e1; subst e2; cases hx; cases hy; exact hns _ _ rfl rfl
    have hb1 : binOp .eql t v u = (do let q ← Op.equal t v u; pure (.bool q)) := by
      cases hx <;> cases hy <;> first | rfl | (exact (n1 _ _ _ _ rfl rfl).elim) | (exact (n2 _ _ rfl rfl).elim)
    have hb2 : binOp .neq t v u = (do let q ← Op.equal t v u; pure (.bool (!q))) := by
      cases hx <;> cases hy <;> first | rfl | (exact (n1 _ _ _ _ rfl rfl).elim) | (exact (n2 _ _ rfl rfl).elim)
    split at h
    · simp only [Option.map_eq_some_iff] at h
      obtain ⟨q, hq, rfl⟩ := h
      obtain ⟨h1, h2⟩ := key q hq (.inl rfl)
      exact ⟨.bool q, by rw [hb1]; simp [h1, h2], .bool q⟩
    · simp only [Option.map_eq_some_iff] at h
      obtain ⟨q, hq, rfl⟩ := h
      obtain ⟨h1, h2⟩ := key q hq (.inr rfl)
      exact ⟨.bool (!q), by rw [hb2]; simp [h1, h2], .bool (!q)⟩
    · cases h
end

end Go.Vit
end

section
namespace Go.Vit

def HE (η : Operand → Value) (ρ : Ren) (t : Tmps) (as : List AOpd) : Prop := ∀ x a v, opd x = some a → a ∈ as → a.ev t = some v → VRel ρ v (η x)
theorem HE.sub {η : Operand → Value} {ρ : Ren} {t : Tmps} {as bs : List AOpd} (h : HE η ρ t as) (hs : ∀ a, a ∈ bs → a ∈ as) : HE η ρ t bs := fun x a v hx hm hv => h x a v hx (hs a hm) hv

def NRun (P : Program) (η : Operand → Value) (o : Op) (w : World) (ρ : Ren) (id : Nat) (v : AV) (ob : Option Blk) : Prop :=
  ∀ (dst : Option Tmp) (ty : TypeId) (pos : String) (after : Array Edge) (g : Option (Nat × Bool)),
    ∃ v' w' ρ', (execOp η ⟨dst, o, ty, pos, after, g⟩).run P w = .ok (.value v') w' ∧ NRes id ρ w v ob v' w' ρ'

section
variable {P : Program} {w : World} {ρ : Ren} {σ : Mem} {t : Tmps} {η : Operand → Value} {id : Nat} {v : AV} {ob : Option Blk} {op : AOp}

theorem NRun.val {o : Op} {v' : Value} (hr : ∀ dst ty pos after g, (execOp η ⟨dst, o, ty, pos, after, g⟩).run P w = .ok (.value v') w) (h : VRel ρ v v') : NRun P η o w ρ id v none :=
  fun dst ty pos after g => ⟨v', w, ρ, hr dst ty pos after g, .same h⟩
theorem NRun.mk {o : Op} {v' : Value} {w' : World} {ρ' : Ren} (hr : ∀ dst ty pos after g, (execOp η ⟨dst, o, ty, pos, after, g⟩).run P w = .ok (.value v') w') (h : NRes id ρ w v ob v' w' ρ') : NRun P η o w ρ id v ob :=
  fun dst ty pos after g => ⟨v', w', ρ', hr dst ty pos after g, h⟩

theorem add_plain (a : Addr) (ha : a.spot = none) (j : Nat) : a.add j = ⟨a.block, a.off + j, none⟩ := by
  unfold Addr.add; split
  · cases a; simp at ha; subst ha; simp_all
  · rfl

theorem zeroOf_spec {e : TypeId} {z : List AV} (h : zeroOf P e = some z) : ∃ i zv, P.info? e = some i ∧ i.zero = some zv ∧ (∀ ρ : Ren, LRel ρ z zv.cells) ∧ z.all AV.one = true := by
  simp only [zeroOf, Option.bind_eq_some_iff] at h
  obtain ⟨i, hi, zv, hz, h⟩ := h
  exact ⟨i, zv, hi, hz, fun ρ => by have := ofVs_rel h ρ; simpa using this, (ofVs_one h).1⟩

theorem shapeOf_spec {ty : TypeId} {k : Option Nat} (h : shapeOf P ty = some k) : ∃ i, P.info? ty = some i ∧ (∀ w, (isAgg ty).run P w = .ok k.isSome w) ∧ (∀ n, k = some n → i.size = n) := by
  simp only [shapeOf, Option.bind_eq_some_iff] at h
  obtain ⟨d, hd, i, hi, h⟩ := h
  refine ⟨i, hi, fun w => ?_, fun n hn => ?_⟩
  · cases d <;> simp at h <;> subst h <;> simp [isAgg, run_underlying hd]
  · cases d <;> simp at h <;> subst h <;> simp at hn <;> exact hn

theorem part_rel {ty : TypeId} {k : Option Nat} (hk : shapeOf P ty = some k) {l : List AV} {cs : Array Value} (h : LRel ρ l cs) {off : Nat} {r : AV} (hr : partA l off k = some r) :
    ∃ v, (part ty cs off).run P w = .ok v w ∧ VRel ρ r v := by
  obtain ⟨i, hi, hagg, hsz⟩ := shapeOf_spec hk
  cases k with
  | none =>
    simp only [partA] at hr
    obtain ⟨v, hv, hrel⟩ := h.get hr
    exact ⟨v, by simp [part, hagg, hv], hrel⟩
  | some n =>
    simp only [partA] at hr
    split at hr
    · cases hr
      rename_i hle
      refine ⟨.agg (cs.extract off (off + n)), by simp [part, hagg, sizeOf, typeInfo, hi, hsz n rfl], ?_⟩
      have := h.extract off (off + n)
      rw [Nat.add_sub_cancel_left] at this
      exact .agg this.1 this.2
    · cases hr

theorem setAt_rel : ∀ (vc : List AV) (vs : List Value) (l : List AV) (cs : Array Value) (off k : Nat), LRel ρ l cs → vc.length = vs.length →
    (∀ (i : Nat) (a : AV) (v : Value), vc[i]? = some a → vs[i]? = some v → VRel ρ a v) → LRel ρ (setAt l (off + k) vc) ((vs.zipIdx k).foldl (fun cs p => cs.setIfInBounds (off + p.2) p.1) cs)
  | [], [], l, cs, off, k, h, _, _ => h
  | [], _ :: _, _, _, _, _, _, hl, _ => by simp at hl
  | _ :: _, [], _, _, _, _, _, hl, _ => by simp at hl
  | a :: vc, v :: vs, l, cs, off, k, h, hl, hr => by
    simp only [setAt, List.zipIdx_cons, List.foldl_cons]
    have h1 : LRel ρ (l.set (off + k) a) (cs.setIfInBounds (off + k) v) := by
      refine ⟨by simp [h.1], fun i x y hx hy => ?_⟩
      by_cases hi : off + k = i
      · subst hi
        rw [List.getElem?_set_self' ] at hx
        rw [Array.getElem?_setIfInBounds_self] at hy
        split at hy
        · cases hy
          cases e : l[off + k]? with
          | none => rw [e] at hx; cases hx
          | some z => rw [e] at hx; cases hx; exact hr 0 a v rfl rfl
        · cases hy
      · rw [List.getElem?_set_ne hi] at hx
        rw [Array.getElem?_setIfInBounds_ne hi] at hy
        exact h.2 i x y hx hy
    have := setAt_rel vc vs _ _ off (k + 1) h1 (by simpa using hl) (fun i x y hx hy => hr (i + 1) x y (by simpa using hx) (by simpa using hy))
    rw [← Nat.add_assoc] at this
    exact this
theorem setAt_length : ∀ (vc l : List AV) (off : Nat), (setAt l off vc).length = l.length
  | [], _, _ => rfl
  | a :: vc, l, off => by simp [setAt, setAt_length vc]
theorem fill_rel (place : Nat → Option (Nat × Nat)) : ∀ (ps : List (Nat × Operand)) (as : List (Nat × Nat × AOpd)) (z l : List AV) (zc : Array Value),
    (as.length = ps.length ∧ ∀ (i : Nat) p a, ps[i]? = some p → as[i]? = some a → place p.1 = some (a.1, a.2.1) ∧ opd p.2 = some a.2.2) →
    fillA t z as = some l → LRel ρ z zc → HE η ρ t (as.map fun p => p.2.2) → ∃ cs, Instr.fill place zc (ps.map fun p => (p.1, η p.2)) = some cs ∧ LRel ρ l cs
  | [], [], z, l, zc, _, h, hz, _ => by simp [fillA] at h; subst h; exact ⟨zc, rfl, hz⟩
  | [], _ :: _, _, _, _, hp, _, _, _ => by simp at hp
  | _ :: _, [], _, _, _, hp, _, _, _ => by simp at hp
  | (i, x) :: ps, (off, size, a) :: as, z, l, zc, hp, h, hz, hE => by
    obtain ⟨hpl, hpx⟩ := hp.2 0 (i, x) (off, size, a) rfl rfl
    simp only [fillA, Option.bind_eq_some_iff] at h
    obtain ⟨v, hv, h⟩ := h
    split at h
    · rename_i hc
      have hvr := hE x a v hpx (by simp) hv
      have hcl := hvr.cells
      simp only [List.map_cons, Instr.fill, hpl]
      rw [if_neg (by rw [← hcl.1, ← hz.1]; simp; omega)]
      have hs : LRel ρ (setAt z off v.cells) ((η x).cells.zipIdx.foldl (fun cs p => cs.setIfInBounds (off + p.2) p.1) zc) := by
        have := setAt_rel v.cells (η x).cells.toList z zc off 0 hz (by simpa using hcl.1) (fun i a v ha hv => hcl.2 i a v ha (by simpa using hv))
        rw [← Array.foldl_toList, Array.toList_zipIdx]
        exact this
      exact fill_rel place ps as _ l _ ⟨by simpa using hp.1, fun i p a hi ha => hp.2 (i + 1) p a (by simpa using hi) (by simpa using ha)⟩ h hs (hE.sub fun a ha => List.mem_cons_of_mem _ ha)
    · cases h

theorem partsF_spec {pl : List (Nat × Nat)} : ∀ {ps : List (Nat × Operand)} {as : List (Nat × Nat × AOpd)}, partsF pl ps = some as →
    as.length = ps.length ∧ ∀ (i : Nat) p a, ps[i]? = some p → as[i]? = some a → pl[p.1]? = some (a.1, a.2.1) ∧ opd p.2 = some a.2.2
  | [], as, h => by simp [partsF] at h; subst h; exact ⟨rfl, fun i p a h => by simp at h⟩
  | (j, x) :: ps, as, h => by
    simp only [partsF, Option.bind_eq_some_iff] at h
    obtain ⟨q, hq, a, ha, l, hl, e⟩ := h
    cases e
    have ih := partsF_spec hl
    refine ⟨by simp [ih.1], fun i p b hp hb => ?_⟩
    cases i with
    | zero => simp at hp hb; subst hp; subst hb; exact ⟨hq, ha⟩
    | succ i => exact ih.2 i p b (by simpa using hp) (by simpa using hb)
theorem partsA_spec {size : Nat} : ∀ {ps : List (Nat × Operand)} {as : List (Nat × Nat × AOpd)}, partsA size ps = some as →
    as.length = ps.length ∧ ∀ (i : Nat) p a, ps[i]? = some p → as[i]? = some a → (some (p.1 * size, size) : Option (Nat × Nat)) = some (a.1, a.2.1) ∧ opd p.2 = some a.2.2
  | [], as, h => by simp [partsA] at h; subst h; exact ⟨rfl, fun i p a h => by simp at h⟩
  | (j, x) :: ps, as, h => by
    simp only [partsA, Option.bind_eq_some_iff] at h
    obtain ⟨a, ha, l, hl, e⟩ := h
    cases e
    have ih := partsA_spec hl
    refine ⟨by simp [ih.1], fun i p b hp hb => ?_⟩
    cases i with
    | zero => simp at hp hb; subst hp; subst hb; exact ⟨rfl, ha⟩
    | succ i => exact ih.2 i p b (by simpa using hp) (by simpa using hb)

theorem places_run : ∀ {fs : List Field} {pl : List (Nat × Nat)}, places P fs = some pl → (fs.mapM (fun (f : Field) => (do let s ← sizeOf f.type; pure (f.offset, s) : Sem (Nat × Nat)))).run P w = .ok pl w
  | [], pl, h => by simp [places] at h; subst h; simp
  | f :: fs, pl, h => by
    simp only [places, Option.bind_eq_some_iff] at h
    obtain ⟨i, hi, l, hl, e⟩ := h
    cases e
    have ih := places_run hl
    simp only [List.mapM_cons, sizeOf, typeInfo, Sem.run_bind, run_program, Result.andThen_ok, hi, Sem.run_pure] at ih ⊢
    rw [ih]; rfl

theorem nop_build {ty : TypeId} {ps : Array (Nat × Operand)} (hc : compOp P (.build ty ps) = some op) (hn : nop id op t σ = some (v, ob)) (hE : HE η ρ t op.opds) : NRun P η (.build ty ps) w ρ id v ob := by
  simp only [compOp, Option.bind_eq_some_iff] at hc
  obtain ⟨d, hd, z, hz, hc⟩ := hc
  obtain ⟨i, zv, hi, hzv, hzr, hz1⟩ := zeroOf_spec hz
  have hmap : ∀ l : List (Nat × Operand), (l.toArray.map fun p => (p.1, η p.2)).toList = l.map fun p => (p.1, η p.2) := by intro l; simp
  cases d <;> simp only [Option.bind_eq_some_iff, Option.map_eq_some_iff] at hc
  case struct fs =>
    obtain ⟨pl, hpl, as, has, rfl⟩ := hc
    simp only [nop, Option.bind_eq_some_iff, Option.some.injEq, Prod.mk.injEq] at hn
    obtain ⟨l, hl, rfl, rfl⟩ := hn
    obtain ⟨cs, hf, hr⟩ := fill_rel (η := η) (fun i => pl.toArray[i]?) ps.toList as z l zv.cells ⟨(partsF_spec has).1, fun i p a hp ha => by simpa using (partsF_spec has).2 i p a hp ha⟩ hl (hzr ρ) hE
    refine .val (v' := .agg cs) (fun _ _ _ _ _ => ?_) (.agg hr.1 hr.2)
    have hm : (fs.mapM fun f => (do let s ← sizeOf f.type; pure (f.offset, s) : Sem (Nat × Nat))).run P w = .ok pl.toArray w := by
      rw [Array.mapM_eq_mapM_toList, Sem.run_map, places_run hpl]; rfl
    have hm' : (ps.map fun (i, x) => (i, η x)).toList = ps.toList.map fun p => (p.1, η p.2) := by simp
    simp only [execOp, Instr.build, Sem.run_bind, zeroValue, typeInfo, run_program, hi, hzv, Result.andThen_ok, Sem.run_pure, run_underlying hd, hm, hm', hf]
  case array n e =>
    obtain ⟨i', hi', as, has, rfl⟩ := hc
    simp only [nop, Option.bind_eq_some_iff, Option.some.injEq, Prod.mk.injEq] at hn
    obtain ⟨l, hl, rfl, rfl⟩ := hn
    obtain ⟨cs, hf, hr⟩ := fill_rel (η := η) (fun i => some (i * i'.size, i'.size)) ps.toList as z l zv.cells ⟨(partsA_spec has).1, fun i p a hp ha => (partsA_spec has).2 i p a hp ha⟩ hl (hzr ρ) hE
    refine .val (v' := .agg cs) (fun _ _ _ _ _ => ?_) (.agg hr.1 hr.2)
    have hm' : (ps.map fun (i, x) => (i, η x)).toList = ps.toList.map fun p => (p.1, η p.2) := by simp
    simp only [execOp, Instr.build, Sem.run_bind, zeroValue, sizeOf, typeInfo, run_program, hi, hi', hzv, Result.andThen_ok, Sem.run_pure, run_underlying hd, hm', hf]
  all_goals cases hc
end
end Go.Vit
end

section
namespace Go.Vit
section
variable {P : Program} {w : World} {ρ : Ren} {σ : Mem} {t : Tmps} {η : Operand → Value} {id : Nat} {v : AV} {ob : Option Blk} {op : AOp}

theorem VRel.int_inv {k : IntKind} {n : Int} {v : Value} (h : VRel ρ (.int k n) v) : v = .int k n := by cases h; rfl
theorem VRel.str_inv {s : ByteArray} {v : Value} (h : VRel ρ (.str s) v) : v = .string s := by cases h; rfl
theorem VRel.bool_inv {b : Bool} {v : Value} (h : VRel ρ (.bool b) v) : v = .bool b := by cases h; rfl

theorem nop_mov {x : Operand} (o : Op) (ho : o = .move x ∨ o = .assign x) (hc : compOp P o = some op) (hn : nop id op t σ = some (v, ob)) (hE : HE η ρ t op.opds) : NRun P η o w ρ id v ob := by
  have hc' : (opd x).map .mov = some op := by rcases ho with rfl | rfl <;> exact hc
  simp only [Option.map_eq_some_iff] at hc'
  obtain ⟨a, ha, rfl⟩ := hc'
  simp only [nop, Option.bind_eq_some_iff, Option.some.injEq, Prod.mk.injEq] at hn
  obtain ⟨u, hu, rfl, rfl⟩ := hn
  exact .val (v' := η x) (fun _ _ _ _ _ => by rcases ho with rfl | rfl <;> rfl) (hE x a u ha (by simp [AOp.opds]) hu)

theorem nop_pick {c a b : Operand} (hc : compOp P (.pick c a b) = some op) (hn : nop id op t σ = some (v, ob)) (hE : HE η ρ t op.opds) : NRun P η (.pick c a b) w ρ id v ob := by
  simp only [compOp, Option.bind_eq_some_iff, Option.some.injEq] at hc
  obtain ⟨c', hc', a', ha', b', hb', rfl⟩ := hc
  simp only [nop, Option.bind_eq_some_iff] at hn
  obtain ⟨cv, hcv, hn⟩ := hn
  cases cv <;> simp only [Option.bind_eq_some_iff, Option.some.injEq, Prod.mk.injEq, reduceCtorEq] at hn
  rename_i r
  obtain ⟨u, hu, rfl, rfl⟩ := hn
  have h1 := hE c c' _ hc' (by simp [AOp.opds]) hcv
  have e1 := h1.bool_inv
  cases r with
  | true =>
    refine .val (v' := η a) (fun _ _ _ _ _ => by simp [execOp, e1, asBool]) (hE a a' u ha' (by simp [AOp.opds]) (by simpa using hu))
  | false =>
    refine .val (v' := η b) (fun _ _ _ _ _ => by simp [execOp, e1, asBool]) (hE b b' u hb' (by simp [AOp.opds]) (by simpa using hu))

theorem nop_alloc {e : TypeId} (hc : compOp P (.alloc e) = some op) (hn : nop id op t σ = some (v, ob)) (hρ : ρ id = none) : NRun P η (.alloc e) w ρ id v ob := by
  simp only [compOp, Option.map_eq_some_iff] at hc
  obtain ⟨z, hz, rfl⟩ := hc
  obtain ⟨i, zv, hi, hzv, hzr, hz1⟩ := zeroOf_spec hz
  have plain : nop id (.alloc z) t σ = some (v, ob) → NRun P η (.alloc e) w ρ id v ob := by
    intro hn
    simp only [nop, Option.some.injEq, Prod.mk.injEq] at hn
    obtain ⟨rfl, rfl⟩ := hn
    refine .mk (v' := .pointer (some ⟨w.heap.size, 0, none⟩)) (w' := w.alloc (.cells zv.cells e)) (fun _ _ _ _ _ => ?_)
      (.alloc (cs := zv.cells) (e := e) (fz := (0, 0)) hρ (.ptr updR_self) rfl (by rw [(hzr ρ).1]; exact Nat.le_refl _) (by simp) (fun i a ha => (hzr ρ).get ha) rfl rfl rfl)
    simp only [execOp, Instr.alloc, Sem.run_bind, zeroValue, typeInfo, run_program, hi, hzv, Result.andThen_ok, Sem.run_pure, newVar, newRow, run_newObj]; rfl
  unfold bldZ at hn
  split at hn
  · split at hn
    · have h2 := hzr (fun _ => none)
      have hcs : zv.cells = #[.pointer none, .slice none 0 0] := by
        obtain ⟨v0, h0, r0⟩ := h2.get (i := 0) (a := .nilp) rfl
        obtain ⟨v1, h1, r1⟩ := h2.get (i := 1) (a := .nils) rfl
        cases r0; cases r1
        refine Array.ext' ?_
        have hl : zv.cells.toList.length = 2 := h2.1.symm
        rw [← Array.getElem?_toList] at h0 h1
        match hx : zv.cells.toList, hl with
        | [a, b], _ =>
          rw [hx] at h0 h1
          cases h0; cases h1; rfl
      simp only [nop, Option.some.injEq, Prod.mk.injEq] at hn
      obtain ⟨rfl, rfl⟩ := hn
      refine .mk (v' := .pointer (some ⟨w.heap.size, 0, none⟩)) (w' := w.alloc (.cells zv.cells e)) (fun _ _ _ _ _ => ?_)
        (.allocB (e := e) (by rw [hcs]; rfl) rfl rfl rfl)
      simp only [execOp, Instr.alloc, Sem.run_bind, zeroValue, typeInfo, run_program, hi, hzv, Result.andThen_ok, Sem.run_pure, newVar, newRow, run_newObj]; rfl
    · exact plain hn
  · exact plain hn

theorem nop_box {e : TypeId} {x : Operand} (hc : compOp P (.box e x) = some op) (hn : nop id op t σ = some (v, ob)) (hE : HE η ρ t op.opds) (hρ : ρ id = none) : NRun P η (.box e x) w ρ id v ob := by
  simp only [compOp, Option.map_eq_some_iff] at hc
  obtain ⟨a, ha, rfl⟩ := hc
  simp only [nop, Option.bind_eq_some_iff] at hn
  obtain ⟨u, hu, hn⟩ := hn
  split at hn
  · simp only [Option.some.injEq, Prod.mk.injEq] at hn
    obtain ⟨rfl, rfl⟩ := hn
    have h1 := (hE x a u ha (by simp [AOp.opds]) hu).cells
    refine .mk (v' := .pointer (some ⟨w.heap.size, 0, none⟩)) (w' := w.alloc (.cells (η x).cells e)) (fun _ _ _ _ _ => ?_)
      (.alloc (cs := (η x).cells) (e := e) (fz := (0, 0)) hρ (.ptr updR_self) rfl (by rw [h1.1]; exact Nat.le_refl _) (by simp) (fun i a ha => h1.get ha) rfl rfl rfl)
    simp only [execOp, Instr.box, Sem.run_bind, Result.andThen_ok, Sem.run_pure, newVar, newRow, run_newObj]; rfl
  · cases hn

theorem replicate_getElem {l : List AV} {cs : Array Value} (h : LRel ρ l cs) (n : Nat) : LRel ρ (List.replicate n l).flatten ((Array.range (n * l.length)).map (cs[· % cs.size]!)) := by
  induction n with
  | zero => simp [Array.range_zero']; exact LRel.nil ρ
  | succ n ih =>
    refine ⟨by simp, fun i a v ha hv => ?_⟩
    simp only [Array.getElem?_map, Option.map_eq_some_iff] at hv
    obtain ⟨j, hj, rfl⟩ := hv
    have hij : i = j ∧ i < (n + 1) * l.length := by
      rw [Array.getElem?_range] at hj
      split at hj
      · cases hj; exact ⟨rfl, by assumption⟩
      · cases hj
    obtain ⟨rfl, hlt⟩ := hij
    have hpos : 0 < l.length := by
      rcases Nat.eq_zero_or_pos l.length with e | e
      · rw [e] at hlt; simp at hlt
      · exact e
    have hmod : ∀ (m i : Nat), i < m * l.length → (List.replicate m l).flatten[i]? = l[i % l.length]? := by
      intro m
      induction m with
      | zero => intro i hi; simp at hi
      | succ m ihm =>
        intro i hi
        rw [List.replicate_succ, List.flatten_cons]
        by_cases h : i < l.length
        · rw [List.getElem?_append_left h, Nat.mod_eq_of_lt h]
        · rw [List.getElem?_append_right (by omega), ihm _ (by rw [Nat.succ_mul] at hi; omega)]
          congr 1
          exact (Nat.mod_eq_sub_mod (by omega)).symm
    rw [hmod _ _ hlt] at ha
    have hlt' : i % l.length < l.length := Nat.mod_lt _ hpos
    have hlt2 : i % cs.size < cs.size := by rw [← h.1]; exact hlt'
    have : cs[i % cs.size]! = cs[i % cs.size]'hlt2 := by simp [hlt2]
    rw [this]
    refine h.2 _ a _ ha ?_
    rw [h.1]
    exact Array.getElem?_eq_getElem hlt2

theorem nop_newSlice {ty : TypeId} {n : Nat} {ps : Array (Nat × Operand)} (hc : compOp P (.buildSlice ty n ps) = some op) (hn : nop id op t σ = some (v, ob)) (hE : HE η ρ t op.opds) (hρ : ρ id = none) :
    NRun P η (.buildSlice ty n ps) w ρ id v ob := by
  simp only [compOp, Option.bind_eq_some_iff] at hc
  obtain ⟨d, hd, hc⟩ := hc
  cases d <;> simp only [Option.bind_eq_some_iff, reduceCtorEq] at hc
  rename_i e
  obtain ⟨i, hi, z, hz, as, has, hc⟩ := hc
  split at hc
  · rename_i hcond
    cases hc
    obtain ⟨i', zv, hi', hzv, hzr, hz1⟩ := zeroOf_spec hz
    have ei : i = i' := by rw [hi] at hi'; cases hi'; rfl
    subst ei
    simp only [nop, Option.bind_eq_some_iff, Option.some.injEq, Prod.mk.injEq] at hn
    obtain ⟨l, hl, rfl, rfl⟩ := hn
    have hzz := replicate_getElem (hzr ρ) n
    rw [hcond.2] at hzz
    obtain ⟨cs, hf, hr⟩ := fill_rel (η := η) (fun j => some (j * i.size, i.size)) ps.toList as _ l _ ⟨(partsA_spec has).1, fun i p a hp ha => (partsA_spec has).2 i p a hp ha⟩ hl hzz hE
    refine .mk (v' := .slice (some ⟨w.heap.size, 0, none⟩) n n) (w' := w.alloc (.cells cs e)) (fun _ _ _ _ _ => ?_)
      (.alloc (cs := cs) (e := e) (fz := (0, 0)) hρ (.slice updR_self ⟨Nat.le_refl _, by have := hcond.1.2; omega⟩ (fun k hk => by cases hk; rfl) (fun s hs _ => by cases hs) (.inr rfl)) rfl (by rw [hr.1]; exact Nat.le_refl _) (by simp) (fun i a ha => hr.get ha) rfl rfl rfl)
    have hm' : (ps.map fun (i, x) => (i, η x)).toList = ps.toList.map fun p => (p.1, η p.2) := by simp
    have hno : ¬ (n * i.size > 2 ^ 24) := by omega
    by_cases h0 : n * i.size = 0
    · have e0 : (Array.range (n * i.size)).map (fun j => (#[] : Array Value)[j % (#[] : Array Value).size]!) = (Array.range (n * i.size)).map (fun j => zv.cells[j % zv.cells.size]!) := by rw [h0]; simp [Array.range_zero']
      simp only [execOp, Instr.buildSlice, Sem.run_bind, run_underlying hd, Result.andThen_ok, sizeOf, typeInfo, run_program, hi, Sem.run_pure, hno, if_false, h0, if_true]
      rw [h0] at hf
      simp only [Array.range_zero', Array.map_empty] at hf ⊢
      simp only [hm', hf]
      simp only [newRow, Sem.run_bind, run_newObj, Result.andThen_ok, Sem.run_pure]; rfl
    · simp only [execOp, Instr.buildSlice, Sem.run_bind, run_underlying hd, Result.andThen_ok, sizeOf, typeInfo, run_program, hi, Sem.run_pure, hno, if_false, h0, zeroValue, hzv, hm', hf]
      simp only [newRow, Sem.run_bind, run_newObj, Result.andThen_ok, Sem.run_pure]; rfl
  · cases hc

theorem nop_load {ty : TypeId} {x : Operand} (hc : compOp P (.load ty x) = some op) (hn : nop id op t σ = some (v, ob)) (hE : HE η ρ t op.opds) (st : St ρ σ w) : NRun P η (.load ty x) w ρ id v ob := by
  simp only [compOp, Option.bind_eq_some_iff, Option.map_eq_some_iff] at hc
  obtain ⟨k, hk, a, ha, rfl⟩ := hc
  obtain ⟨i, hi, hagg, hsz⟩ := shapeOf_spec hk
  simp only [nop, Option.bind_eq_some_iff] at hn
  obtain ⟨av, hav, hn⟩ := hn
  have h1 := hE x a av ha (by simp [AOp.opds]) hav
  cases av <;> simp only [reduceCtorEq] at hn
  rename_i b o
  obtain ⟨b', o', m', hρb, hx⟩ : ∃ b' o' m', ρ b = some (b', o', m') ∧ η x = .pointer (some ⟨b', o' + o, none⟩) := by
    generalize η x = u at h1
    cases h1; rename_i h; exact ⟨_, _, _, h, rfl⟩
  cases k with
  | none =>
    simp only [Option.bind_eq_some_iff] at hn
    obtain ⟨c, hc, hn⟩ := hn
    match c, hn with
    | [u], hn =>
      simp only [Option.some.injEq, Prod.mk.injEq] at hn
      obtain ⟨rfl, rfl⟩ := hn
      obtain ⟨_, cs, hcl, hcell, hrel⟩ := st.cells hc hρb
      match cs, hcl with
      | [z], _ =>
        have hz := hcell 0 z rfl
        refine .val (v' := z) (fun _ _ _ _ _ => ?_) (hrel 0 u z rfl rfl)
        simp only [Nat.add_zero] at hz
        simp [execOp, Instr.loadAt, Instr.sureAddr, hx, loadVar, hagg, hz]
  | some n =>
    simp only [Option.bind_eq_some_iff, Option.some.injEq, Prod.mk.injEq] at hn
    obtain ⟨c, hc, rfl, rfl⟩ := hn
    obtain ⟨hlen, cs, hcl, hcell, hrel⟩ := st.cells hc hρb
    refine .val (v' := .agg cs.toArray) (fun _ _ _ _ _ => ?_) (.agg (by simp [hlen, hcl]) (fun i a v ha hv => hrel i a v ha (by simpa using hv)))
    have hl := run_loadCells_list (P := P) w ⟨b', o' + o, none⟩ cs (fun j v hj => by rw [add_plain _ rfl]; exact hcell j v hj)
    rw [hcl] at hl
    simp [execOp, Instr.loadAt, Instr.sureAddr, hx, loadVar, hagg, sizeOf, typeInfo, hi, hsz n rfl, hl]

theorem nop_nilchk {x : Operand} (hc : compOp P (.nilCheck x) = some op) (hn : nop id op t σ = some (v, ob)) (hE : HE η ρ t op.opds) : NRun P η (.nilCheck x) w ρ id v ob := by
  simp only [compOp, Option.map_eq_some_iff] at hc
  obtain ⟨a, ha, rfl⟩ := hc
  simp only [nop, Option.bind_eq_some_iff] at hn
  obtain ⟨av, hav, hn⟩ := hn
  have h1 := hE x a av ha (by simp [AOp.opds]) hav
  cases av <;> simp only [reduceCtorEq, Option.some.injEq, Prod.mk.injEq] at hn
  all_goals
    obtain ⟨rfl, rfl⟩ := hn
    refine .val (v' := η x) (fun _ _ _ _ _ => ?_) h1
    simp only [execOp]
    generalize η x = u at h1
    cases h1
    simp

theorem nop_bin {b : BinOp} {ty : TypeId} {x y : Operand} {yt : TypeId} (hc : compOp P (.binOp b ty x y yt) = some op) (hn : nop id op t σ = some (v, ob)) (hE : HE η ρ t op.opds) : NRun P η (.binOp b ty x y yt) w ρ id v ob := by
  simp only [compOp, Option.bind_eq_some_iff, Option.map_eq_some_iff] at hc
  obtain ⟨e, he, a, ha, c, hc, rfl⟩ := hc
  simp only [nop, Option.bind_eq_some_iff, Option.some.injEq, Prod.mk.injEq] at hn
  obtain ⟨av, hav, bv, hbv, r, hr, rfl, rfl⟩ := hn
  obtain ⟨z, h1, h2⟩ := bin_run (w := w) he hr (hE x a av ha (by simp [AOp.opds]) hav) (hE y c bv hc (by simp [AOp.opds]) hbv) x y
  refine .val (v' := z) (fun _ _ _ _ _ => ?_) h2
  simp only [execOp, Sem.run_bind] at h1 ⊢
  rw [h1]; rfl

theorem nop_un {b : UnOp} {ty : TypeId} {x : Operand} (hc : compOp P (.unOp b ty x) = some op) (hn : nop id op t σ = some (v, ob)) (hE : HE η ρ t op.opds) : NRun P η (.unOp b ty x) w ρ id v ob := by
  simp only [compOp, Option.map_eq_some_iff] at hc
  obtain ⟨a, ha, rfl⟩ := hc
  simp only [nop, Option.bind_eq_some_iff, Option.some.injEq, Prod.mk.injEq] at hn
  obtain ⟨av, hav, r, hr, rfl, rfl⟩ := hn
  have h1 := hE x a av ha (by simp [AOp.opds]) hav
  unfold unV at hr
  split at hr
  · have e1 := h1.int_inv
    cases b <;> simp only [reduceCtorEq, Option.some.injEq] at hr
    · subst hr; exact .val (v' := .int _ _) (fun _ _ _ _ _ => by simp [execOp, e1, Op.unary, Op.intArith]) (.int _ _)
    · subst hr
      exact .val (v' := .int _ _) (fun _ _ _ _ _ => by simp only [execOp, e1, Op.unary, Sem.run_bind, bits_run .xor (by simp), Result.andThen_ok, Sem.run_pure]) (.int _ _)
  · have e1 := h1.bool_inv
    cases b <;> simp only [reduceCtorEq, Option.some.injEq] at hr
    subst hr; exact .val (v' := .bool _) (fun _ _ _ _ _ => by simp [execOp, e1, Op.unary]) (.bool _)
  · cases hr

theorem nop_mkFn {fn : Fn} {first captured : Array Operand} (hc : compOp P (.makeFunc fn first captured) = some op) (hn : nop id op t σ = some (v, ob)) (hE : HE η ρ t op.opds) : NRun P η (.makeFunc fn first captured) w ρ id v ob := by
  cases fn <;> simp only [compOp, reduceCtorEq] at hc
  split at hc
  · rename_i f h0
    simp only [Option.map_eq_some_iff] at hc
    obtain ⟨as, has, rfl⟩ := hc
    simp only [nop, Option.bind_eq_some_iff, Option.some.injEq, Prod.mk.injEq] at hn
    obtain ⟨l, hl, rfl, rfl⟩ := hn
    have hr := evs_rel (P := P) (η := η) has hl (fun x a v hx hm hv => hE x a v hx hm hv)
    have e0 : first = #[] := Array.eq_empty_of_size_eq_zero h0
    subst e0
    have hm : captured.map η = (captured.toList.map η).toArray := by rw [← Array.toList_map]
    refine .val (v' := .func (.func f) #[] (captured.toList.map η).toArray) (fun _ _ _ _ _ => ?_) (.func hr.1 hr.2)
    simp only [execOp, Instr.makeFunc, Sem.run_bind, Sem.run_pure, Result.andThen_ok, hm, Array.map_empty]
  · cases hc

theorem nop_mkMap {ty : TypeId} {r : Option Operand} (hc : compOp P (.makeMap ty r) = some op) (hn : nop id op t σ = some (v, ob)) (hρ : ρ id = none) : NRun P η (.makeMap ty r) w ρ id v ob := by
  cases r <;> simp only [compOp, reduceCtorEq, Option.some.injEq] at hc
  subst hc
  simp only [nop, Option.some.injEq, Prod.mk.injEq] at hn
  obtain ⟨rfl, rfl⟩ := hn
  refine .mk (v' := .map (some w.heap.size)) (w' := w.alloc (.map #[] 0)) (ρ' := updR ρ id (w.heap.size, 0, 0)) (fun _ _ _ _ _ => ?_) ?_
  · simp only [execOp, Option.map_none, Sem.run_bind, Instr.makeMap, run_newObj, Result.andThen_ok, Sem.run_pure]; rfl
  · refine ⟨.map updR_self, fun b hb => by simp [updR, hb], (by intro e; cases e), fun k e => ?_, fun c hc => heap_push_lt hc, (by show _ ≤ (w.heap.push _).size; rw [Array.size_push]; omega), rfl, rfl, rfl⟩
    cases e
    exact ⟨0, updR_self, ⟨rfl, #[], Array.getElem?_push_size, rfl, fun i e h => by simp at h⟩, rfl, rfl⟩
end
end Go.Vit
end

section
namespace Go.Vit
section
variable {P : Program} {w : World} {ρ : Ren} {σ : Mem} {t : Tmps} {η : Operand → Value} {id : Nat} {v : AV} {ob : Option Blk} {op : AOp}

theorem VRel.ptr_inv {b o : Nat} {v : Value} (h : VRel ρ (.ptr b o) v) : ∃ b' o' m, ρ b = some (b', o', m) ∧ v = .pointer (some ⟨b', o' + o, none⟩) := by cases h; rename_i h; exact ⟨_, _, _, h, rfl⟩
theorem VRel.slice_inv {b o n : Nat} {c : Cap} {v : Value} (h : VRel ρ (.slice b o n c) v) : ∃ b' o' m cap a, ρ b = some (b', o', m) ∧ v = .slice (some a) n cap ∧ (n ≤ cap ∧ cap ≤ 9223372036854775807) ∧ (∀ k, c = .ex k → cap = k) ∧ (∀ s, c = .op s → s ≠ 0 → o' + o + cap * s ≤ m) ∧ (cap = 0 ∨ a = ⟨b', o' + o, none⟩) := by
  cases h with | slice h1 h2 h3 h4 h5 => exact ⟨_, _, _, _, _, h1, rfl, h2, h3, h4, h5⟩
theorem VRel.nils_inv {v : Value} (h : VRel ρ .nils v) : v = .slice none 0 0 := by cases h; rfl
theorem VRel.agg_inv {l : List AV} {v : Value} (h : VRel ρ (.agg l) v) : ∃ cs, v = .agg cs ∧ LRel ρ l cs := by cases h; rename_i h1 h2; exact ⟨_, rfl, h1, h2⟩
theorem VRel.tup_inv {l : List AV} {v : Value} (h : VRel ρ (.tup l) v) : ∃ cs, v = .tuple cs ∧ LRel ρ l cs := by cases h; rename_i h1 h2; exact ⟨_, rfl, h1, h2⟩
theorem VRel.map_inv {b : Nat} {v : Value} (h : VRel ρ (.map b) v) : ∃ b' o' m, ρ b = some (b', o', m) ∧ v = .map (some b') := by cases h; rename_i h; exact ⟨_, _, _, h, rfl⟩
theorem VRel.nilm_inv {v : Value} (h : VRel ρ .nilm v) : v = .map none := by cases h; rfl

theorem toBytes_rel : ∀ {l : List AV} {cs : List Value} {r : List UInt8}, toBytes l = some r → l.length = cs.length → (∀ (i : Nat) (a : AV) (v : Value), l[i]? = some a → cs[i]? = some v → VRel ρ a v) →
    ∃ ns : List Int, cs = ns.map (Value.int .u8) ∧ ns.map (fun n => UInt8.ofNat n.toNat) = r
  | [], [], r, h, _, _ => by simp [toBytes] at h; subst h; exact ⟨[], rfl, rfl⟩
  | [], _ :: _, _, _, hl, _ => by simp at hl
  | _ :: _, [], _, _, hl, _ => by simp at hl
  | a :: l, v :: cs, r, h, hl, hr => by
    unfold toBytes at h
    split at h
    · rename_i heq; cases heq
    · rename_i n l' heq
      cases heq
      simp only [Option.map_eq_some_iff] at h
      obtain ⟨r', hr', rfl⟩ := h
      obtain ⟨ns, h1, h2⟩ := toBytes_rel hr' (by simpa using hl) (fun i a v ha hv => hr (i + 1) a v (by simpa using ha) (by simpa using hv))
      have h0 := (hr 0 _ v rfl rfl).int_inv
      subst h0
      exact ⟨n :: ns, by simp [h1], by simp [h2]⟩
    · cases h

theorem push_bytes : ∀ (ns : List Int) (r : ByteArray), ns.foldl (fun r n => r.push (UInt8.ofNat n.toNat)) r = ⟨r.data ++ (ns.map fun n => UInt8.ofNat n.toNat).toArray⟩
  | [], r => by simp
  | n :: ns, r => by
    simp only [List.foldl_cons, List.map_cons]
    rw [push_bytes ns]
    simp [ByteArray.push]

theorem nop_conv {src dst : TypeId} {x : Operand} (hc : compOp P (.convert src dst x) = some op) (hn : nop id op t σ = some (v, ob)) (hE : HE η ρ t op.opds) (st : St ρ σ w) (hρ : ρ id = none) :
    NRun P η (.convert src dst x) w ρ id v ob := by
  simp only [compOp, Option.bind_eq_some_iff] at hc
  obtain ⟨s, hs, d, hd, a, ha, hc⟩ := hc
  split at hc
  · cases hc
    simp only [nop, Option.bind_eq_some_iff] at hn
    obtain ⟨av, hav, hn⟩ := hn
    cases av <;> simp only [reduceCtorEq, Option.some.injEq, Prod.mk.injEq] at hn
    obtain ⟨rfl, rfl⟩ := hn
    have e1 := (hE x a _ ha (by simp [AOp.opds]) hav).int_inv
    exact .val (v' := .int _ _) (fun _ _ _ _ _ => by simp only [execOp, convert, e1, Sem.run_bind, run_underlying hs, run_underlying hd, Result.andThen_ok, Conv.intToInt, Sem.run_pure]) (.int _ _)
  · cases hc
    simp only [nop, Option.bind_eq_some_iff] at hn
    obtain ⟨av, hav, hn⟩ := hn
    cases av <;> simp only [reduceCtorEq, Option.some.injEq, Prod.mk.injEq] at hn
    obtain ⟨rfl, rfl⟩ := hn
    have e1 := (hE x a _ ha (by simp [AOp.opds]) hav).str_inv
    exact .val (v' := .string _) (fun _ _ _ _ _ => by simp only [execOp, convert, e1, Sem.run_bind, run_underlying hs, run_underlying hd, Result.andThen_ok, Sem.run_pure]) (.str _)
  · rename_i e
    split at hc
    · rename_i he
      cases hc
      simp only [nop, Option.bind_eq_some_iff] at hn
      obtain ⟨av, hav, hn⟩ := hn
      cases av <;> simp only [reduceCtorEq] at hn
      rename_i s
      split at hn
      · rename_i hsz
        simp only [Option.some.injEq, Prod.mk.injEq] at hn
        obtain ⟨rfl, rfl⟩ := hn
        have e1 := (hE x a _ ha (by simp [AOp.opds]) hav).str_inv
        have hge : s.size ≤ grownCap w s.size 0 e := Nat.le_add_right _ _
        have hcapsz : grownCap w s.size 0 e ≤ s.data.size + (grownCap w s.size 0 e - s.size) := by show _ ≤ s.size + _; omega
        refine .mk (v' := .slice (some ⟨w.heap.size, 0, none⟩) s.size (grownCap w s.size 0 e))
          (w' := w.drew.alloc (.cells (bytesRow s (grownCap w s.size 0 e)) e ((bytesRow s (grownCap w s.size 0 e)).size, (bytesRow s (grownCap w s.size 0 e)).size + 1))) (fun _ _ _ _ _ => ?_)
          (.alloc hρ (.slice updR_self ⟨hge, grownCap_le_maxLen w s.size 0 e (by unfold maxLen; omega)⟩ (fun k hk => by cases hk) (fun s' hs _ => by cases hs; simp [bytesRow]; exact hcapsz) (.inr rfl)) rfl ?_ ?_ ?_ rfl rfl rfl)
        · simp only [execOp, e1, Sem.run_bind, run_bytes_of_string w src dst e s hs hd he, Result.andThen_ok, Sem.run_pure]
        · have : s.data.size = s.size := rfl
          simp [bytesOf, bytesRow, this]
        · intro i hi; omega
        · intro i a ha
          simp only [bytesOf, List.getElem?_map, Option.map_eq_some_iff] at ha
          obtain ⟨c, hc, rfl⟩ := ha
          refine ⟨.int .u8 c.toNat, ?_, .int _ _⟩
          have hlt : i < s.data.size := by
            have := (List.getElem?_eq_some_iff.1 hc).1; simpa using this
          unfold bytesRow
          rw [Array.getElem?_append_left (by simpa using hlt), Array.getElem?_map]
          rw [Array.getElem?_toList] at hc
          rw [hc]; rfl
      · cases hn
    · cases hc
  · rename_i e
    split at hc
    · rename_i he
      cases hc
      simp only [nop, Option.bind_eq_some_iff] at hn
      obtain ⟨av, hav, hn⟩ := hn
      have h1 := hE x a av ha (by simp [AOp.opds]) hav
      cases av <;> simp only [reduceCtorEq] at hn
      case nils =>
        simp only [Option.some.injEq, Prod.mk.injEq] at hn
        obtain ⟨rfl, rfl⟩ := hn
        have e1 := h1.nils_inv
        exact .val (v' := .string .empty) (fun _ _ _ _ _ => by simp only [execOp, convert, e1, Sem.run_bind, run_underlying hs, run_underlying hd, run_underlying he, Result.andThen_ok, Conv.bytesToString, Sem.run_pure]) (.str _)
      case slice b o n c =>
        simp only [Option.bind_eq_some_iff, Option.some.injEq, Prod.mk.injEq] at hn
        obtain ⟨l, hl, r, hr, rfl, rfl⟩ := hn
        obtain ⟨b', o', _, cap, ad, hρb, e1, hncap, _, _, had⟩ := h1.slice_inv
        obtain ⟨hlen, cs, hcl, hcell, hrel⟩ := st.cells hl hρb
        obtain ⟨ns, hcs, hns⟩ := toBytes_rel hr (by rw [hlen, hcl]) hrel
        have hload : (loadCells ad n).run P w = .ok (ns.map (Value.int .u8)).toArray w := by
          rcases Nat.eq_zero_or_pos n with h0 | h0
          · subst h0
            have : ns = [] := by
              have := congrArg List.length hcs; rw [hcl] at this; simpa using this.symm
            subst this; simp [loadCells, loadCellsFrom]
          · have hcap : ad = ⟨b', o' + o, none⟩ := had.resolve_left (by omega)
            have := run_loadCells_list (P := P) w ad cs (fun j v hj => by rw [hcap, add_plain _ rfl]; exact hcell j v hj)
            rw [hcl, hcs] at this; exact this
        have hb := run_bytesToString (P := P) w ad n cap ns hload
        refine .val (v' := .string ⟨r.toArray⟩) (fun _ _ _ _ _ => ?_) (.str _)
        rw [push_bytes, hns] at hb
        have hb' : (Conv.bytesToString (.slice (some ad) n cap)).run P w = .ok (.string ⟨r.toArray⟩) w := by rw [hb]; congr 3; show (#[] ++ r.toArray) = r.toArray; simp
        simp only [execOp, convert, e1, Sem.run_bind, run_underlying hs, run_underlying hd, run_underlying he, Result.andThen_ok, hb', Sem.run_pure]
    · cases hc
  · cases hc

theorem nop_make {ty : TypeId} {n c : Operand} (hc : compOp P (.makeSlice ty n c) = some op) (hn : nop id op t σ = some (v, ob)) (hE : HE η ρ t op.opds) (hρ : ρ id = none) : NRun P η (.makeSlice ty n c) w ρ id v ob := by
  simp only [compOp, Option.bind_eq_some_iff] at hc
  obtain ⟨d, hd, hc⟩ := hc
  cases d <;> simp only [Option.bind_eq_some_iff, Option.map_eq_some_iff, reduceCtorEq] at hc
  rename_i e
  obtain ⟨i, hi, z, hz, n', hn', c', hc', rfl⟩ := hc
  obtain ⟨i', zv, hi', hzv, hzr, hz1⟩ := zeroOf_spec hz
  have ei : i = i' := by rw [hi] at hi'; cases hi'; rfl
  subst ei
  simp only [nop, Option.bind_eq_some_iff] at hn
  obtain ⟨nv, hnv, cv, hcv, x, hx, k, hk, hn⟩ := hn
  split at hn
  · rename_i hcond
    obtain ⟨c1, c2, c3, c4, c5⟩ := hcond
    simp only [Option.some.injEq, Prod.mk.injEq] at hn
    obtain ⟨rfl, rfl⟩ := hn
    obtain ⟨kn, e1⟩ := (hE n n' nv hn' (by simp [AOp.opds]) hnv).asI hx
    obtain ⟨kc, e2⟩ := (hE c c' cv hc' (by simp [AOp.opds]) hcv).asI hk
    have hr := run_make (P := P) w ty e i zv hd hi hzv kn kc x k c1 c2 (by omega) c3
    have hzz := replicate_getElem (hzr ρ) k.toNat
    rw [c5] at hzz
    refine .mk (v' := .slice (some ⟨w.heap.size, 0, none⟩) x.toNat k.toNat) (w' := w.alloc (.cells (madeCells zv.cells (k.toNat * i.size)) e)) (fun _ _ _ _ _ => by simp only [execOp, e1, e2, Sem.run_bind, hr, Result.andThen_ok, Sem.run_pure])
      (.alloc (cs := madeCells zv.cells (k.toNat * i.size)) (e := e) (fz := (0, 0)) hρ (.slice updR_self (by omega) (fun q hq => by cases hq; rfl) (fun s hs _ => by cases hs) (.inr rfl)) rfl ?_ (by simp) ?_ rfl rfl rfl)
    · exact Nat.le_of_eq hzz.1
    · exact fun i a ha => hzz.get ha
  · cases hn

theorem opdo_run {x : Option Operand} {a : Option AOpd} (h : opdo x = some a) {r : Option AV} (he : evo t a = some r) {as : List AOpd} (hs : ∀ y, a = some y → y ∈ as) (hE : HE η ρ t as) :
    (x = none ∧ r = none) ∨ ∃ y q, x = some y ∧ r = some q ∧ VRel ρ q (η y) := by
  cases x with
  | none => simp [opdo] at h; subst h; simp [evo] at he; exact .inl ⟨rfl, he.symm⟩
  | some y =>
    simp only [opdo, Option.map_eq_some_iff] at h
    obtain ⟨b, hb, rfl⟩ := h
    simp only [evo, Option.map_eq_some_iff] at he
    obtain ⟨q, hq, rfl⟩ := he
    exact .inr ⟨y, q, rfl, rfl, hE y b q hb (hs b rfl) hq⟩

end
end Go.Vit
end

section
namespace Go.Vit
section
variable {P : Program} {w : World} {ρ : Ren} {σ : Mem} {t : Tmps} {η : Operand → Value} {id : Nat} {v : AV} {ob : Option Blk} {op : AOp}

theorem add_at (b o j : Nat) : (⟨b, o, none⟩ : Addr).add j = ⟨b, o + j, none⟩ := add_plain _ rfl j

theorem bnd_run {q : AV} {u : Value} (h : VRel ρ q u) {c m y : Nat} (hb : bnd q c = some m) (hy : c ≤ y) : m ≤ c ∧ ∀ code, (Instr.sliceBound u y code).run P w = .ok m w := by
  simp only [bnd, Option.bind_eq_some_iff] at hb
  obtain ⟨i, hi, hb⟩ := hb
  split at hb
  · rename_i hc
    cases hb
    obtain ⟨k, rfl⟩ := h.asI hi
    have h2 : i ≤ (y : Int) := by omega
    exact ⟨by omega, fun code => by simp [Instr.sliceBound, asIntOf, hc.1, h2]⟩
  · cases hb

theorem sliceBounds_run {isS : Bool} {n capA cap : Nat} {lo hi mx : Option Operand} {l h m : Option AV} {r : Nat × Nat × Nat} (hr : sliceBoundsA n capA l h m = some r) (hn : n ≤ capA) (hcap : capA ≤ cap)
    (hl : (lo = none ∧ l = none) ∨ ∃ y q, lo = some y ∧ l = some q ∧ VRel ρ q (η y)) (hh : (hi = none ∧ h = none) ∨ ∃ y q, hi = some y ∧ h = some q ∧ VRel ρ q (η y))
    (hm : (mx = none ∧ m = none) ∨ ∃ y q, mx = some y ∧ m = some q ∧ VRel ρ q (η y)) :
    (Instr.sliceBounds isS n cap (lo.map η) (hi.map η) (mx.map η)).run P w = .ok (r.1, r.2.1, if m.isSome then r.2.2 else cap) w ∧ r.1 ≤ r.2.1 ∧ r.2.1 ≤ r.2.2 ∧ r.2.2 ≤ capA ∧ (m = none → r.2.2 = capA) := by
  simp only [sliceBoundsA, Option.bind_eq_some_iff] at hr
  obtain ⟨mm, hmm, hv, hhv, lv, hlv, e⟩ := hr
  cases e
  rcases hm with ⟨rfl, rfl⟩ | ⟨y3, q3, rfl, rfl, hq3⟩
  · simp only [Option.some.injEq] at hmm
    subst hmm
    rcases hh with ⟨rfl, rfl⟩ | ⟨y2, q2, rfl, rfl, hq2⟩
    · simp only [Option.isSome_none, Bool.false_eq_true, if_false, Option.some.injEq] at hhv
      subst hhv
      rcases hl with ⟨rfl, rfl⟩ | ⟨y1, q1, rfl, rfl, hq1⟩
      · simp only [Option.some.injEq] at hlv
        subst hlv
        exact ⟨by simp [Instr.sliceBounds], Nat.zero_le _, hn, Nat.le_refl _, fun _ => rfl⟩
      · have r1 := bnd_run (P := P) (w := w) hq1 hlv (Nat.le_refl _)
        exact ⟨by simp [Instr.sliceBounds, r1.2], r1.1, hn, Nat.le_refl _, fun _ => rfl⟩
    · have r2 := bnd_run (P := P) (w := w) hq2 hhv hcap
      rcases hl with ⟨rfl, rfl⟩ | ⟨y1, q1, rfl, rfl, hq1⟩
      · simp only [Option.some.injEq] at hlv
        subst hlv
        exact ⟨by simp [Instr.sliceBounds, r2.2], Nat.zero_le _, r2.1, Nat.le_refl _, fun _ => rfl⟩
      · have r1 := bnd_run (P := P) (w := w) hq1 hlv (Nat.le_refl _)
        exact ⟨by simp [Instr.sliceBounds, r1.2, r2.2], r1.1, r2.1, Nat.le_refl _, fun _ => rfl⟩
  · have r3 := bnd_run (P := P) (w := w) hq3 hmm hcap
    rcases hh with ⟨rfl, rfl⟩ | ⟨y2, q2, rfl, rfl, hq2⟩
    · simp at hhv
    · have r2 := bnd_run (P := P) (w := w) hq2 hhv (Nat.le_refl _)
      rcases hl with ⟨rfl, rfl⟩ | ⟨y1, q1, rfl, rfl, hq1⟩
      · simp only [Option.some.injEq] at hlv
        subst hlv
        exact ⟨by simp [Instr.sliceBounds, r2.2, r3.2], Nat.zero_le _, r2.1, r3.1, fun e => by cases e⟩
      · have r1 := bnd_run (P := P) (w := w) hq1 hlv (Nat.le_refl _)
        exact ⟨by simp [Instr.sliceBounds, r1.2, r2.2, r3.2], r1.1, r2.1, r3.1, fun e => by cases e⟩

theorem opdo_none {x : Option Operand} {a : Option AOpd} (h : opdo x = some a) (ha : ¬ a.isSome = true) : x = none := by
  cases x with
  | none => rfl
  | some y =>
    simp only [opdo, Option.map_eq_some_iff] at h
    obtain ⟨b, _, rfl⟩ := h
    simp at ha

theorem nop_slice {ty : TypeId} {x : Operand} {lo hi mx : Option Operand} (hc : compOp P (.slice ty x lo hi mx) = some op) (hn : nop id op t σ = some (v, ob)) (hE : HE η ρ t op.opds) : NRun P η (.slice ty x lo hi mx) w ρ id v ob := by
  simp only [compOp, Option.bind_eq_some_iff] at hc
  obtain ⟨d, hd, a, ha, l', hl', h', hh', m', hm', hc⟩ := hc
  have arr : ∀ (n e : Nat) (i : TypeInfo), n ≤ 16777216 → P.info? e = some i → op = .slArr n i.size a l' h' → mx = none → (∀ ad : Addr, ∀ r : Nat × Nat × Nat, (Instr.sliceBounds false n n (lo.map η) (hi.map η) none).run P w = .ok r w →
      (Instr.sliceAt ty (.pointer (some ad)) (lo.map η) (hi.map η) none).run P w = .ok (.slice (some (if r.2.2 = r.1 then ad else ad.add (r.1 * i.size))) (r.2.1 - r.1) (r.2.2 - r.1)) w) → NRun P η (.slice ty x lo hi mx) w ρ id v ob := by
    intro n e i hnb hi' hop hmx hsl
    subst hop; subst hmx
    simp only [nop, Option.bind_eq_some_iff] at hn
    obtain ⟨av, hav, lv, hlv, hv, hhv, hn⟩ := hn
    have h1 := hE x a av ha (by simp [AOp.opds]) hav
    have k1 := opdo_run hl' hlv (as := (AOp.slArr n i.size a l' h').opds) (fun y hy => by simp [AOp.opds, hy]) hE
    have k2 := opdo_run hh' hhv (as := (AOp.slArr n i.size a l' h').opds) (fun y hy => by simp [AOp.opds, hy]) hE
    cases av <;> simp only [reduceCtorEq] at hn
    rename_i b o
    simp only [Option.bind_eq_some_iff, Option.some.injEq, Prod.mk.injEq] at hn
    obtain ⟨r, hr, rfl, rfl⟩ := hn
    obtain ⟨b', o', _, hρb, e1⟩ := h1.ptr_inv
    obtain ⟨hrun, h01, h02, h03, h04⟩ := sliceBounds_run (P := P) (w := w) (isS := false) hr (Nat.le_refl _) (Nat.le_refl _) k1 k2 (mx := none) (.inl ⟨rfl, rfl⟩)
    have := hsl ⟨b', o' + o, none⟩ _ hrun
    simp only [Option.isSome_none, Bool.false_eq_true, if_false] at this
    refine .val (v' := .slice (some (if n = r.1 then ⟨b', o' + o, none⟩ else (⟨b', o' + o, none⟩ : Addr).add (r.1 * i.size))) (r.2.1 - r.1) (n - r.1)) (fun _ _ _ _ _ => by simp only [execOp, e1, Option.map_none, Sem.run_bind, this, Result.andThen_ok, Sem.run_pure]) ?_
    have h05 := h04 rfl
    by_cases heq : n = r.1
    · rw [if_pos heq]
      exact .slice (o' := o') hρb (by omega) (fun k hk => by cases hk; rfl) (fun s hs _ => by cases hs) (.inl (by omega))
    · rw [if_neg heq]
      refine .slice (o' := o') hρb (by omega) (fun k hk => by cases hk; rfl) (fun s hs _ => by cases hs) (.inr ?_)
      rw [add_plain _ rfl, Nat.add_assoc]
  cases d <;> simp only [reduceCtorEq, Option.bind_eq_some_iff] at hc
  case string =>
    split at hc
    · cases hc
    · rename_i hms
      cases hc
      have := opdo_none hm' hms
      subst this
      simp only [nop, Option.bind_eq_some_iff] at hn
      obtain ⟨av, hav, lv, hlv, hv, hhv, hn⟩ := hn
      have h1 := hE x a av ha (by simp [AOp.opds]) hav
      have k1 := opdo_run hl' hlv (as := (AOp.slStr a l' h').opds) (fun y hy => by simp [AOp.opds, hy]) hE
      have k2 := opdo_run hh' hhv (as := (AOp.slStr a l' h').opds) (fun y hy => by simp [AOp.opds, hy]) hE
      cases av <;> simp only [reduceCtorEq] at hn
      simp only [Option.bind_eq_some_iff, Option.some.injEq, Prod.mk.injEq] at hn
      obtain ⟨r, hr, rfl, rfl⟩ := hn
      have e1 := h1.str_inv
      obtain ⟨hrun, _⟩ := sliceBounds_run (P := P) (w := w) (isS := false) hr (Nat.le_refl _) (Nat.le_refl _) k1 k2 (mx := none) (.inl ⟨rfl, rfl⟩)
      simp only [Option.map_none, Option.isSome_none, Bool.false_eq_true, if_false] at hrun
      refine .val (v' := .string _) (fun _ _ _ _ _ => ?_) (.str _)
      simp only [execOp, e1, Option.map_none, Sem.run_bind, Instr.sliceAt, Instr.slice, run_underlying hd, Result.andThen_ok, Option.isSome_none, Bool.false_eq_true, if_false, hrun, Sem.run_pure]
  case slice e =>
    obtain ⟨i, hi', hc⟩ := hc
    cases hc
    simp only [nop, Option.bind_eq_some_iff] at hn
    obtain ⟨av, hav, lv, hlv, hv, hhv, mv, hmv, hn⟩ := hn
    have h1 := hE x a av ha (by simp [AOp.opds]) hav
    have k1 := opdo_run hl' hlv (as := (AOp.slSl i.size a l' h' m').opds) (fun y hy => by simp [AOp.opds, hy]) hE
    have k2 := opdo_run hh' hhv (as := (AOp.slSl i.size a l' h' m').opds) (fun y hy => by simp [AOp.opds, hy]) hE
    have k3 := opdo_run hm' hmv (as := (AOp.slSl i.size a l' h' m').opds) (fun y hy => by simp [AOp.opds, hy]) hE
    cases av <;> simp only [reduceCtorEq] at hn
    case nils =>
      simp only [Option.bind_eq_some_iff, Option.some.injEq, Prod.mk.injEq] at hn
      obtain ⟨r, hr, rfl, rfl⟩ := hn
      have e1 := h1.nils_inv
      obtain ⟨hrun, h01, h02, h03, h04⟩ := sliceBounds_run (P := P) (w := w) (isS := true) hr (Nat.le_refl _) (Nat.le_refl _) k1 k2 k3
      have hz : r.1 = 0 ∧ r.2.1 = 0 ∧ r.2.2 = 0 := by omega
      have hif : (if mv.isSome = true then r.2.2 else 0) = 0 := by split <;> omega
      refine .val (v' := .slice none 0 0) (fun _ _ _ _ _ => ?_) .nils
      simp only [execOp, e1, Sem.run_bind, Instr.sliceAt, Instr.slice, run_underlying hd, Result.andThen_ok, hrun, sizeOf, typeInfo, run_program, hi', Sem.run_pure, hif, hz.1, hz.2.1, if_true, Nat.sub_self]
    case slice b o n c =>
      split at hn
      · rename_i hfits
        simp only [Option.bind_eq_some_iff, Option.some.injEq, Prod.mk.injEq] at hn
        obtain ⟨r, hr, rfl, rfl⟩ := hn
        obtain ⟨b', o', mm, cap, ad, hρb, e1, hncap, hck, hop, had⟩ := h1.slice_inv
        have hcA : n ≤ c.least n ∧ c.least n ≤ cap := by
          cases c with
          | op s => exact ⟨Nat.le_refl _, hncap.1⟩
          | ex k => have := hck k rfl; exact ⟨by simp [Cap.least]; omega, by simp [Cap.least]; omega⟩
        obtain ⟨hrun, h01, h02, h03, h04⟩ := sliceBounds_run (P := P) (w := w) (isS := true) hr hcA.1 hcA.2 k1 k2 k3
        refine .val (v' := .slice (if (if mv.isSome = true then r.2.2 else cap) = r.1 then some ad else (some ad).map (·.add (r.1 * i.size))) (r.2.1 - r.1) ((if mv.isSome = true then r.2.2 else cap) - r.1)) (fun _ _ _ _ _ => by
          simp only [execOp, e1, Sem.run_bind, Instr.sliceAt, Instr.slice, run_underlying hd, Result.andThen_ok, hrun, sizeOf, typeInfo, run_program, hi', Sem.run_pure]) ?_
        have hM : r.2.1 ≤ (if mv.isSome = true then r.2.2 else cap) := by split <;> omega
        have hM2 : (if mv.isSome = true then r.2.2 else cap) ≤ cap := by split <;> omega
        have hex : ∀ k, c.cut mv.isSome r.1 r.2.2 = .ex k → (if mv.isSome = true then r.2.2 else cap) - r.1 = k := by
          intro k hk
          cases c with
          | ex k' =>
            have := hck k' rfl
            simp only [Cap.cut, Cap.ex.injEq] at hk
            rw [← hk]; split <;> omega
          | op s =>
            simp only [Cap.cut] at hk
            split at hk
            · cases hk; rename_i hq; rw [if_pos hq]
            · cases hk
        have hopn : ∀ s, c.cut mv.isSome r.1 r.2.2 = .op s → s ≠ 0 → o' + (o + r.1 * i.size) + ((if mv.isSome = true then r.2.2 else cap) - r.1) * s ≤ mm := by
          intro s hs hs0
          cases c with
          | ex k' => simp [Cap.cut] at hs
          | op s' =>
            simp only [Cap.cut] at hs
            split at hs
            · cases hs
            · rename_i hq
              cases hs
              have := hop s rfl hs0
              rw [if_neg hq] at hM ⊢
              simp only [Cap.fits, Bool.or_eq_true, beq_iff_eq] at hfits
              rcases hfits with rfl | rfl
              · have e2 : r.1 * i.size + (cap - r.1) * i.size = cap * i.size := by rw [← Nat.add_mul]; congr 1; omega
                omega
              · exact absurd rfl hs0
        generalize hMe : (if mv.isSome = true then r.2.2 else cap) = M at *
        by_cases heq : M = r.1
        · rw [if_pos heq]
          exact .slice (o' := o') hρb (by omega) hex hopn (.inl (by omega))
        · rw [if_neg heq]
          refine .slice (o' := o') hρb (by omega) hex hopn (.inr ?_)
          rw [had.resolve_left (by omega), ← Nat.add_assoc]; exact add_at _ _ _
      · cases hn
  case array n e =>
    obtain ⟨i, hi', hc⟩ := hc
    split at hc
    · cases hc
    · rename_i hms
      split at hc
      · rename_i hnb
        cases hc
        refine arr n e i hnb hi' rfl (opdo_none hm' hms) (fun ad r hr => ?_)
        simp only [Instr.sliceAt, Sem.run_bind, run_underlying hd, Result.andThen_ok, Instr.sureAddr, Sem.run_pure, hr, sizeOf, typeInfo, run_program, hi']
      · cases hc
  case pointer ar =>
    obtain ⟨d2, hd2, hc⟩ := hc
    cases d2 <;> simp only [reduceCtorEq, Option.bind_eq_some_iff] at hc
    rename_i n e
    obtain ⟨i, hi', hc⟩ := hc
    split at hc
    · cases hc
    · rename_i hms
      split at hc
      · rename_i hnb
        cases hc
        refine arr n e i hnb hi' rfl (opdo_none hm' hms) (fun ad r hr => ?_)
        simp only [Instr.sliceAt, Instr.slice, Sem.run_bind, run_underlying hd, run_underlying hd2, Result.andThen_ok, asAddr, Sem.run_pure, hr, sizeOf, typeInfo, run_program, hi']
      · cases hc

theorem nop_faddr {ty : TypeId} {x : Operand} {f : Nat} (hc : compOp P (.fieldAddr ty x f) = some op) (hn : nop id op t σ = some (v, ob)) (hE : HE η ρ t op.opds) : NRun P η (.fieldAddr ty x f) w ρ id v ob := by
  simp only [compOp, Option.bind_eq_some_iff] at hc
  obtain ⟨d, hd, hc⟩ := hc
  cases d <;> simp only [reduceCtorEq, Option.bind_eq_some_iff] at hc
  rename_i fs
  obtain ⟨fl, hfl, i, hi, hc⟩ := hc
  split at hc
  · cases hc
  · rename_i h0
    simp only [Option.map_eq_some_iff] at hc
    obtain ⟨a, ha, rfl⟩ := hc
    simp only [nop, Option.bind_eq_some_iff] at hn
    obtain ⟨av, hav, hn⟩ := hn
    have h1 := hE x a av ha (by simp [AOp.opds]) hav
    cases av <;> simp only [reduceCtorEq, Option.some.injEq, Prod.mk.injEq] at hn
    obtain ⟨rfl, rfl⟩ := hn
    obtain ⟨b', o', _, hρb, e1⟩ := h1.ptr_inv
    refine .val (v' := .pointer (some ⟨b', o' + (_ + fl.offset), none⟩)) (fun _ _ _ _ _ => ?_) (.ptr hρb)
    simp only [execOp, Instr.fieldAt, e1, Sem.run_bind, run_underlying hd, Result.andThen_ok, hfl, Instr.sureAddr, Sem.run_pure, fieldPlace, sizeOf, typeInfo, run_program, hi, h0, if_false, add_at, Nat.add_assoc]

theorem nop_field {ty : TypeId} {x : Operand} {f : Nat} (hc : compOp P (.field ty x f) = some op) (hn : nop id op t σ = some (v, ob)) (hE : HE η ρ t op.opds) : NRun P η (.field ty x f) w ρ id v ob := by
  simp only [compOp, Option.bind_eq_some_iff] at hc
  obtain ⟨d, hd, hc⟩ := hc
  cases d <;> simp only [reduceCtorEq, Option.bind_eq_some_iff, Option.map_eq_some_iff] at hc
  rename_i fs
  obtain ⟨fl, hfl, k, hk, a, ha, rfl⟩ := hc
  simp only [nop, Option.bind_eq_some_iff] at hn
  obtain ⟨av, hav, hn⟩ := hn
  have h1 := hE x a av ha (by simp [AOp.opds]) hav
  cases av <;> simp only [reduceCtorEq, Option.bind_eq_some_iff, Option.some.injEq, Prod.mk.injEq] at hn
  obtain ⟨r, hr, rfl, rfl⟩ := hn
  obtain ⟨cs, e1, hcs⟩ := h1.agg_inv
  obtain ⟨u, hu, hrel⟩ := part_rel (w := w) hk hcs hr
  refine .val (v' := u) (fun _ _ _ _ _ => ?_) hrel
  simp only [execOp, Instr.field, e1, Sem.run_bind, run_underlying hd, Result.andThen_ok, hfl, asAgg, Sem.run_pure, hu]

theorem nop_iaddr {ty : TypeId} {x i : Operand} (hc : compOp P (.indexAddr ty x i) = some op) (hn : nop id op t σ = some (v, ob)) (hE : HE η ρ t op.opds) : NRun P η (.indexAddr ty x i) w ρ id v ob := by
  simp only [compOp, Option.bind_eq_some_iff] at hc
  obtain ⟨d, hd, a, ha, b, hb, hc⟩ := hc
  cases d <;> simp only [reduceCtorEq, Option.bind_eq_some_iff, Option.some.injEq] at hc
  case slice e =>
    obtain ⟨q, hq, rfl⟩ := hc
    simp only [nop, Option.bind_eq_some_iff] at hn
    obtain ⟨av, hav, iv, hiv, j, hj, hn⟩ := hn
    have h1 := hE x a av ha (by simp [AOp.opds]) hav
    obtain ⟨k, e2⟩ := (hE i b iv hb (by simp [AOp.opds]) hiv).asI hj
    cases av <;> simp only [reduceCtorEq] at hn
    split at hn
    · rename_i hc
      simp only [Option.some.injEq, Prod.mk.injEq] at hn
      obtain ⟨rfl, rfl⟩ := hn
      obtain ⟨b', o', _, cap, ad, hρb, e1, hncap, hck, _, had⟩ := h1.slice_inv
      have had := had.resolve_left (by omega)
      refine .val (v' := .pointer (some ⟨b', o' + (_ + j.toNat * q.size), none⟩)) (fun _ _ _ _ _ => ?_) (.ptr hρb)
      simp only [execOp, Instr.indexAt, e1, e2, asIntOf, Sem.run_bind, run_underlying hd, Result.andThen_ok, Sem.run_pure, hc, and_self, if_true, sizeOf, typeInfo, run_program, hq, had, add_at, Nat.add_assoc]
    · cases hn
  case array n e =>
    obtain ⟨q, hq, rfl⟩ := hc
    simp only [nop, Option.bind_eq_some_iff] at hn
    obtain ⟨av, hav, iv, hiv, j, hj, hn⟩ := hn
    have h1 := hE x a av ha (by simp [AOp.opds]) hav
    obtain ⟨k, e2⟩ := (hE i b iv hb (by simp [AOp.opds]) hiv).asI hj
    cases av <;> simp only [reduceCtorEq] at hn
    split at hn
    · rename_i hc
      simp only [Option.some.injEq, Prod.mk.injEq] at hn
      obtain ⟨rfl, rfl⟩ := hn
      obtain ⟨b', o', _, hρb, e1⟩ := h1.ptr_inv
      refine .val (v' := .pointer (some ⟨b', o' + (_ + j.toNat * q.size), none⟩)) (fun _ _ _ _ _ => ?_) (.ptr hρb)
      simp only [execOp, Instr.indexAt, e1, e2, asIntOf, Instr.sureAddr, Sem.run_bind, run_underlying hd, Result.andThen_ok, Sem.run_pure, hc, and_self, if_true, sizeOf, typeInfo, run_program, hq, add_at, Nat.add_assoc]
    · cases hn

theorem nop_index {ty : TypeId} {x i : Operand} (hc : compOp P (.index ty x i) = some op) (hn : nop id op t σ = some (v, ob)) (hE : HE η ρ t op.opds) : NRun P η (.index ty x i) w ρ id v ob := by
  simp only [compOp, Option.bind_eq_some_iff] at hc
  obtain ⟨d, hd, a, ha, b, hb, hc⟩ := hc
  cases d <;> simp only [reduceCtorEq, Option.bind_eq_some_iff, Option.some.injEq] at hc
  case string =>
    subst hc
    simp only [nop, Option.bind_eq_some_iff] at hn
    obtain ⟨av, hav, iv, hiv, j, hj, hn⟩ := hn
    have h1 := hE x a av ha (by simp [AOp.opds]) hav
    obtain ⟨k, e2⟩ := (hE i b iv hb (by simp [AOp.opds]) hiv).asI hj
    cases av <;> simp only [reduceCtorEq] at hn
    rename_i s
    split at hn
    · rename_i h0
      simp only [Option.bind_eq_some_iff, Option.some.injEq, Prod.mk.injEq] at hn
      obtain ⟨c, hc, rfl, rfl⟩ := hn
      have e1 := h1.str_inv
      have hs : s[j.toNat]? = some c := by
        obtain ⟨hlt, hg⟩ := List.getElem?_eq_some_iff.1 hc
        have hlt' : j.toNat < s.size := by rw [Array.length_toList] at hlt; exact hlt
        have h3 : s[j.toNat]? = some (s[j.toNat]'hlt') := by simp [hlt']
        rw [h3]; congr 1
      refine .val (v' := .int .u8 c.toNat) (fun _ _ _ _ _ => ?_) (.int _ _)
      simp only [execOp, Instr.index, e1, e2, asIntOf, Sem.run_bind, run_underlying hd, Result.andThen_ok, Sem.run_pure, h0, if_true, hs]
    · cases hn
  case array n e =>
    obtain ⟨q, hq, k, hk, rfl⟩ := hc
    simp only [nop, Option.bind_eq_some_iff] at hn
    obtain ⟨av, hav, iv, hiv, j, hj, hn⟩ := hn
    have h1 := hE x a av ha (by simp [AOp.opds]) hav
    obtain ⟨kk, e2⟩ := (hE i b iv hb (by simp [AOp.opds]) hiv).asI hj
    cases av <;> simp only [reduceCtorEq] at hn
    split at hn
    · rename_i hc
      simp only [Option.bind_eq_some_iff, Option.some.injEq, Prod.mk.injEq] at hn
      obtain ⟨r, hr, rfl, rfl⟩ := hn
      obtain ⟨cs, e1, hcs⟩ := h1.agg_inv
      obtain ⟨u, hu, hrel⟩ := part_rel (w := w) hk hcs hr
      refine .val (v' := u) (fun _ _ _ _ _ => ?_) hrel
      simp only [execOp, Instr.index, e1, e2, asIntOf, Sem.run_bind, run_underlying hd, Result.andThen_ok, Sem.run_pure, hc, and_self, if_true, sizeOf, typeInfo, run_program, hq, hu]
    · cases hn

theorem nop_extract {x : Operand} {i : Nat} (hc : compOp P (.extract x i) = some op) (hn : nop id op t σ = some (v, ob)) (hE : HE η ρ t op.opds) : NRun P η (.extract x i) w ρ id v ob := by
  simp only [compOp, Option.map_eq_some_iff] at hc
  obtain ⟨a, ha, rfl⟩ := hc
  simp only [nop, Option.bind_eq_some_iff] at hn
  obtain ⟨av, hav, hn⟩ := hn
  have h1 := hE x a av ha (by simp [AOp.opds]) hav
  cases av <;> simp only [reduceCtorEq, Option.bind_eq_some_iff, Option.some.injEq, Prod.mk.injEq] at hn
  obtain ⟨r, hr, rfl, rfl⟩ := hn
  obtain ⟨cs, e1, hcs⟩ := h1.tup_inv
  obtain ⟨u, hu, hrel⟩ := hcs.get hr
  refine .val (v' := u) (fun _ _ _ _ _ => ?_) hrel
  simp only [execOp, Instr.extract, e1, hu, Sem.run_bind, Sem.run_pure, Result.andThen_ok]
end
end Go.Vit
end

section
namespace Go.Vit
section
variable {P : Program} {w : World} {ρ : Ren} {σ : Mem} {t : Tmps} {η : Operand → Value} {id : Nat} {v : AV} {ob : Option Blk} {op : AOp}

theorem sameBits_int (n : Nat) (j k : IntKind) (a b : Int) : Instr.sameBits n (.int j a) (.int k b) = (j == k && a == b) := by cases n <;> rfl
theorem sameBits_string (n : Nat) (a b : ByteArray) : Instr.sameBits n (.string a) (.string b) = (a == b) := by cases n <;> rfl

def KT (kk : Bool) (d : TypeDesc) : Prop := if kk then d = .string else ∃ k, d = .int k
theorem keyT_spec {kt : TypeId} {kk : Bool} (h : keyT P kt = some kk) : ∃ d, P.underlying kt = some d ∧ KT kk d := by
  unfold keyT at h
  split at h
  · rename_i k hk; cases h; exact ⟨_, hk, k, rfl⟩
  · rename_i hk; cases h; exact ⟨_, hk, rfl⟩
  · cases h

theorem keyEq_spec {kk : Bool} {d : TypeDesc} (hd : KT kk d) {x y : AV} {q : Bool} (hx1 : isKey kk x = true) (h : keyEq x y = some q) {v u : Value} (hx : VRel ρ x v) (hy : VRel ρ y u) :
    Instr.sameNow d v u = some q ∧ (q = true → ∀ n, Instr.sameBits n u v = true) := by
  unfold keyEq at h
  split at h
  · split at h
    · rename_i hkk; subst hkk; cases h; cases hx; cases hy
      cases kk <;> simp [isKey] at hx1
      obtain ⟨k', rfl⟩ := hd
      refine ⟨by simp only [Instr.sameNow]; simp, fun e n => ?_⟩
      rw [sameBits_int]; simp at e ⊢; exact e.symm
    · cases h
  · cases h; cases hx; cases hy
    cases kk <;> simp [isKey] at hx1
    obtain rfl := (by simpa [KT] using hd : d = .string)
    refine ⟨by simp only [Instr.sameNow, data_toList_eq], fun e n => ?_⟩
    rw [sameBits_string, ← data_toList_eq]
    simp only [beq_iff_eq] at e ⊢; exact e.symm
  · cases h

theorem checkKey_run {kk : Bool} {kt : TypeId} {d : TypeDesc} (hk : P.underlying kt = some d) (hd : KT kk d) {x : AV} (hx1 : isKey kk x = true) {v : Value} (hx : VRel ρ x v) (e : Bool) (n : Nat) :
    (Instr.checkKey e (n + 1) kt v).run P w = .ok () w := by
  cases kk with
  | false =>
    obtain ⟨k, rfl⟩ := hd
    cases x <;> simp [isKey] at hx1
    cases hx
    simp only [Instr.checkKey, Sem.run_bind, run_underlying hk, Result.andThen_ok, Sem.run_pure]
  | true =>
    obtain rfl := (by simpa [KT] using hd : d = .string)
    cases x <;> simp [isKey] at hx1
    cases hx
    simp only [Instr.checkKey, Sem.run_bind, run_underlying hk, Result.andThen_ok, Sem.run_pure]

def ERel (ρ : Ren) (es : List (AV × AV × Nat)) (xs : List MapEntry) : Prop :=
  xs.length = es.length ∧ ∀ (i : Nat) (e : AV × AV × Nat) (x : MapEntry), es[i]? = some e → xs[i]? = some x → VRel ρ e.1 x.key ∧ VRel ρ e.2.1 x.val ∧ x.born = e.2.2
theorem ERel.get {es : List (AV × AV × Nat)} {xs : List MapEntry} (h : ERel ρ es xs) {i : Nat} {e : AV × AV × Nat} (he : es[i]? = some e) : ∃ x, xs[i]? = some x ∧ VRel ρ e.1 x.key ∧ VRel ρ e.2.1 x.val ∧ x.born = e.2.2 := by
  have hi : i < es.length := (List.getElem?_eq_some_iff.1 he).1
  have hi' : i < xs.length := by rw [h.1]; exact hi
  exact ⟨xs[i], List.getElem?_eq_getElem hi', h.2 i e _ he (List.getElem?_eq_getElem hi')⟩

theorem findNow_run {kk : Bool} {d : TypeDesc} (hd : KT kk d) {x : AV} (hx1 : isKey kk x = true) {v : Value} (hx : VRel ρ x v) : ∀ (es : List (AV × AV × Nat)) (xs : List MapEntry) (r : Option Nat) (i0 : Nat), findK x es = some r → ERel ρ es xs →
    (r = none → Instr.findNow d v xs i0 = some none) ∧ ∀ i, r = some i → ∃ y, xs[i]? = some y ∧ Instr.findNow d v xs i0 = some (some (i0 + i, y.val)) ∧ ∀ n, Instr.sameBits n y.key v = true
  | [], [], r, i0, h, _ => by simp [findK] at h; subst h; exact ⟨fun _ => rfl, fun i e => by cases e⟩
  | [], _ :: _, _, _, _, hr => by have := hr.1; simp at this
  | _ :: _, [], _, _, _, hr => by have := hr.1; simp at this
  | e :: es, y :: xs, r, i0, h, hr => by
    simp only [findK, Option.bind_eq_some_iff] at h
    obtain ⟨q, hq, h⟩ := h
    obtain ⟨h1, h2, h3⟩ := hr.2 0 e y rfl rfl
    obtain ⟨k1, k2⟩ := keyEq_spec hd hx1 hq hx h1
    cases q with
    | true =>
      simp only [if_true, Option.some.injEq] at h
      subst h
      refine ⟨fun e => by (cases e), fun i e => ?_⟩
      cases e
      exact ⟨y, rfl, by simp [Instr.findNow, k1], k2 rfl⟩
    | false =>
      simp only [Bool.false_eq_true, if_false, Option.map_eq_some_iff] at h
      obtain ⟨r', hr', rfl⟩ := h
      have ih := findNow_run hd hx1 hx es xs r' (i0 + 1) hr' ⟨by have := hr.1; simpa using this, fun i e x he hx => hr.2 (i + 1) e x (by simpa using he) (by simpa using hx)⟩
      refine ⟨fun e => ?_, fun i e => ?_⟩
      · simp only [Option.map_eq_none_iff] at e
        simp only [Instr.findNow, k1]; exact ih.1 e
      · simp only [Option.map_eq_some_iff] at e
        obtain ⟨j, hj, rfl⟩ := e
        obtain ⟨z, hz, hf, hs⟩ := ih.2 j hj
        refine ⟨z, by simpa using hz, ?_, hs⟩
        simp only [Instr.findNow, k1, hf]
        congr 3; omega

theorem BRel.map_inv {p : Loc} {es : List (AV × AV × Nat)} {clock : Nat} (h : BRel ρ p w (.map es clock)) : p.2.1 = 0 ∧ ∃ xs, w.heap[p.1]? = some (.map xs clock) ∧ ERel ρ es xs.toList := by
  obtain ⟨h0, xs, h1, h2, h3⟩ := h
  refine ⟨h0, xs, h1, by simpa using h2, fun i e x he hx => ?_⟩
  obtain ⟨x', hx', a, b, c⟩ := h3 i e he
  have : x' = x := by
    rw [Array.getElem?_toList, hx'] at hx; cases hx; rfl
  subst this
  exact ⟨a, b, c⟩
theorem BRel.map_mk {p : Loc} {es : List (AV × AV × Nat)} {clock : Nat} {xs : Array MapEntry} (h0 : p.2.1 = 0) (h1 : w.heap[p.1]? = some (.map xs clock)) (h : ERel ρ es xs.toList) : BRel ρ p w (.map es clock) := by
  refine ⟨h0, xs, h1, by simpa using h.1, fun i e he => ?_⟩
  obtain ⟨x, hx, a, b, c⟩ := h.get he
  exact ⟨x, by rw [← Array.getElem?_toList]; exact hx, a, b, c⟩

theorem run_getMap {r : Nat} {xs : Array MapEntry} {clock : Nat} (h : w.heap[r]? = some (.map xs clock)) : (getObj r).run P w = .ok (.map xs clock) w := by
  simp [getObj, Sem.run, h]

theorem findKey_run {kk : Bool} {kt : TypeId} {d : TypeDesc} (hk : P.underlying kt = some d) (hd : KT kk d) {x : AV} (hx1 : isKey kk x = true) {v : Value} (hx : VRel ρ x v) {es : List (AV × AV × Nat)} {xs : List MapEntry} {r : Option Nat}
    (hf : findK x es = some r) (hr : ERel ρ es xs) : (r = none → (Instr.findKey kt v xs).run P w = .ok none w) ∧
      ∀ i, r = some i → ∃ y, xs[i]? = some y ∧ (Instr.findKey kt v xs).run P w = .ok (some (i, y.val)) w ∧ ∀ n, Instr.sameBits n y.key v = true := by
  have := findNow_run hd hx1 hx es xs r 0 hf hr
  refine ⟨fun e => ?_, fun i e => ?_⟩
  · simp only [Instr.findKey, Sem.run_bind, run_underlying hk, Result.andThen_ok, this.1 e, Sem.run_pure]
  · obtain ⟨y, hy, hfn, hs⟩ := this.2 i e
    rw [Nat.zero_add] at hfn
    exact ⟨y, hy, by simp only [Instr.findKey, Sem.run_bind, run_underlying hk, Result.andThen_ok, hfn, Sem.run_pure], hs⟩

theorem nop_lookup {ty : TypeId} {x k : Operand} {ok : Bool} (hc : compOp P (.lookup ty x k ok) = some op) (hn : nop id op t σ = some (v, ob)) (hE : HE η ρ t op.opds) (st : St ρ σ w) : NRun P η (.lookup ty x k ok) w ρ id v ob := by
  simp only [compOp, Option.bind_eq_some_iff] at hc
  obtain ⟨d, hd, a, ha, b, hb, hc⟩ := hc
  cases d <;> simp only [reduceCtorEq, Option.bind_eq_some_iff, Option.map_eq_some_iff] at hc
  rename_i kt e
  obtain ⟨kk, hkk, i, hi, zv, hzv, z, hz, rfl⟩ := hc
  obtain ⟨kd, hkd, hkt⟩ := keyT_spec hkk
  simp only [nop, Option.bind_eq_some_iff] at hn
  obtain ⟨av, hav, kv, hkv, hn⟩ := hn
  split at hn
  · cases hn
  · rename_i hkey
    have hkey : isKey kk kv = true := by simpa using hkey
    simp only [Option.bind_eq_some_iff] at hn
    obtain ⟨es, hes, r, hr, hn⟩ := hn
    have h1 := hE x a av ha (by simp [AOp.opds]) hav
    have h2 := hE k b kv hb (by simp [AOp.opds]) hkv
    have hck := fun e => checkKey_run (P := P) (w := w) hkd hkt hkey h2 e 9999
    obtain ⟨xs, hget, hER⟩ : ∃ xs : Array MapEntry, ((η x = .map none ∧ xs = #[]) ∨ ∃ b' clock, η x = .map (some b') ∧ w.heap[b']? = some (.map xs clock)) ∧ ERel ρ es xs.toList := by
      cases av <;> simp only [reduceCtorEq, Option.some.injEq, Option.bind_eq_some_iff] at hes
      case nilm => subst hes; exact ⟨#[], .inl ⟨h1.nilm_inv, rfl⟩, rfl, fun i e x he => by simp at he⟩
      case map b =>
        obtain ⟨q, hq, hes⟩ := hes
        cases q <;> simp only [reduceCtorEq, Option.some.injEq] at hes
        subst hes
        obtain ⟨b', o', _, hρb, e1⟩ := h1.map_inv
        obtain ⟨_, xs, hh, hER⟩ := (st.rel b _ _ hq hρb).map_inv
        exact ⟨xs, .inr ⟨b', _, e1, hh⟩, hER⟩
    have hfk := findKey_run (P := P) (w := w) hkd hkt hkey h2 hr hER
    cases r with
    | some i =>
      simp only [Option.bind_eq_some_iff, Option.some.injEq, Prod.mk.injEq] at hn
      obtain ⟨e', he', hv, rfl⟩ := hn
      obtain ⟨y, hy, hf, _⟩ := hfk.2 i rfl
      obtain ⟨_, hval, _⟩ := hER.2 i e' y he' hy
      refine .val (v' := if ok then .tuple #[y.val, .bool true] else y.val) (fun _ _ _ _ _ => ?_) ?_
      · have hl : (Instr.lookup ty (η x) (η k) ok).run P w = .ok (if ok then .tuple #[y.val, .bool true] else y.val) w := by
          rcases hget with ⟨e1, rfl⟩ | ⟨b', clock, e1, hh⟩
          · simp only [Instr.lookup, e1, Sem.run_bind, run_underlying hd, Result.andThen_ok, Sem.run_pure, hck, hf]
          · simp only [Instr.lookup, e1, Sem.run_bind, run_underlying hd, run_getMap hh, Result.andThen_ok, Sem.run_pure, hck, hf]
        simp only [execOp, Sem.run_bind, hl, Result.andThen_ok, Sem.run_pure]
      · subst hv
        cases ok with
        | true => exact .tup rfl (fun i a v ha hv => by
            match i with
            | 0 => simp at ha hv; subst ha; subst hv; exact hval
            | 1 => simp at ha hv; subst ha; subst hv; exact .bool true
            | i + 2 => simp at ha)
        | false => exact hval
    | none =>
      simp only [Option.some.injEq, Prod.mk.injEq] at hn
      obtain ⟨hv, rfl⟩ := hn
      have hf := hfk.1 rfl
      have hzr := ofV_rel hz ρ
      refine .val (v' := if ok then .tuple #[zv, .bool false] else zv) (fun _ _ _ _ _ => ?_) ?_
      · have hl : (Instr.lookup ty (η x) (η k) ok).run P w = .ok (if ok then .tuple #[zv, .bool false] else zv) w := by
          rcases hget with ⟨e1, rfl⟩ | ⟨b', clock, e1, hh⟩
          · simp only [Instr.lookup, e1, Sem.run_bind, run_underlying hd, Result.andThen_ok, Sem.run_pure, hck, hf, zeroValue, typeInfo, run_program, hi, hzv]
          · simp only [Instr.lookup, e1, Sem.run_bind, run_underlying hd, run_getMap hh, Result.andThen_ok, Sem.run_pure, hck, hf, zeroValue, typeInfo, run_program, hi, hzv]
        simp only [execOp, Sem.run_bind, hl, Result.andThen_ok, Sem.run_pure]
      · subst hv
        cases ok with
        | true => exact .tup rfl (fun i a v ha hv => by
            match i with
            | 0 => simp at ha hv; subst ha; subst hv; exact hzr
            | 1 => simp at ha hv; subst ha; subst hv; exact .bool false
            | i + 2 => simp at ha)
        | false => exact hzr
end
end Go.Vit
end

section
namespace Go.Vit
section
variable {P : Program} {w : World} {ρ : Ren} {σ : Mem} {t : Tmps} {η : Operand → Value} {id : Nat} {v : AV} {ob : Option Blk} {op : AOp}

theorem exec_builtin (b : Builtin) (args : Array Operand) (ats : Array TypeId) (dst : Option Tmp) (ty : TypeId) (pos : String) (after : Array Edge) (g : Option (Nat × Bool)) :
    execOp η ⟨dst, .call { callee := .builtin b, args := args, argTypes := ats }, ty, pos, after, g⟩ = builtin b ats ty (args.map fun | .const _ => true | _ => false) (args.map η) := rfl

theorem two_args {args : Array Operand} {x y : Operand} (h : args.toList = [x, y]) : args = #[x, y] := by cases args; simp at h; simp [h]
theorem one_arg {args : Array Operand} {x : Operand} (h : args.toList = [x]) : args = #[x] := by cases args; simp at h; simp [h]

theorem minmax_run {mx : Bool} : ∀ {l : List AV} {a r : AV}, minmaxL mx a l = some r → ∀ {u : Value} {us : List Value}, VRel ρ a u → LRel ρ l us.toArray →
    ∃ z, (us.foldlM (if mx then Builtin.max2 else Builtin.min2) u).run P w = .ok z w ∧ VRel ρ r z
  | [], a, r, h, u, us, hu, hl => by
    simp only [minmaxL, Option.some.injEq] at h; subst h
    have : us = [] := by have := hl.1; simp at this; exact List.eq_nil_of_length_eq_zero this.symm
    subst this
    exact ⟨u, by simp, hu⟩
  | b :: l, a, r, h, u, us, hu, hl => by
    simp only [minmaxL, Option.bind_eq_some_iff] at h
    obtain ⟨c, hc, h⟩ := h
    match us, hl with
    | [], hl => have := hl.1; simp at this
    | z :: us, hl =>
      have hz := hl.2 0 b z rfl (by simp)
      have hl' : LRel ρ l us.toArray := ⟨by have := hl.1; simpa using this, fun i a v ha hv => hl.2 (i + 1) a v (by simpa using ha) (by simpa using hv)⟩
      unfold minmaxV at hc
      split at hc
      · split at hc
        · rename_i hk; subst hk; cases hc
          cases hu; cases hz
          obtain ⟨q, hq, hqr⟩ := minmax_run h (.int _ _) hl'
          refine ⟨q, ?_, hqr⟩
          cases mx
          · simp only [Bool.false_eq_true, if_false] at hq ⊢
            simp only [List.foldlM_cons, Sem.run_bind, Builtin.min2, Sem.run_pure, Result.andThen_ok, hq]
          · simp only [if_true] at hq ⊢
            simp only [List.foldlM_cons, Sem.run_bind, Builtin.max2, Sem.run_pure, Result.andThen_ok, hq]
        · cases hc
      · cases hc

theorem nop_builtin {b : Builtin} {args : Array Operand} {ats : Array TypeId} (hc : compCall P { callee := .builtin b, args := args, argTypes := ats } = some op) (hne : op.eff = false) (hn : nop id op t σ = some (v, ob)) (hE : HE η ρ t op.opds) (st : St ρ σ w) :
    NRun P η (.call { callee := .builtin b, args := args, argTypes := ats }) w ρ id v ob := by
  have mk : ∀ {v' : Value}, (∀ ty, (builtin b ats ty (args.map fun | .const _ => true | _ => false) (args.map η)).run P w = .ok (.value v') w) → VRel ρ v v' → ob = none →
      NRun P η (.call { callee := .builtin b, args := args, argTypes := ats }) w ρ id v ob := by
    intro v' h1 h2 h3
    subst h3
    exact .val (v' := v') (fun _ ty _ _ _ => by rw [exec_builtin]; exact h1 ty) h2
  simp only [compCall] at hc
  split at hc
  · rename_i x ty tys hargs hats
    have ea := one_arg hargs
    obtain ⟨tys', et⟩ : ∃ tys', ats = (ty :: tys').toArray := ⟨tys, by rw [← hats]⟩
    subst ea; subst et
    simp only [Option.bind_eq_some_iff] at hc
    obtain ⟨d, hd, a, ha, hc⟩ := hc
    have e0 : (ty :: tys').toArray[0]? = some ty := rfl
    have e1 : (Array.map η #[x])[0]? = some (η x) := by simp
    cases d <;> simp only [reduceCtorEq, Option.some.injEq] at hc
    case string =>
      subst hc
      simp only [nop, Option.bind_eq_some_iff] at hn
      obtain ⟨av, hav, hn⟩ := hn
      have h1 := hE x a av ha (by simp [AOp.opds]) hav
      cases av <;> simp only [reduceCtorEq, Option.some.injEq, Prod.mk.injEq] at hn
      obtain ⟨rfl, rfl⟩ := hn
      refine mk (v' := goInt _) (fun ty => ?_) (.int _ _) rfl
      simp only [builtin, Builtin.len_, e0, e1, h1.str_inv, Sem.run_bind, run_underlying hd, Result.andThen_ok, Sem.run_pure]
    case slice e =>
      subst hc
      simp only [nop, Option.bind_eq_some_iff] at hn
      obtain ⟨av, hav, hn⟩ := hn
      have h1 := hE x a av ha (by simp [AOp.opds]) hav
      cases av <;> simp only [reduceCtorEq, Option.some.injEq, Prod.mk.injEq] at hn
      case nils =>
        obtain ⟨rfl, rfl⟩ := hn
        refine mk (v' := goInt 0) (fun ty => ?_) (.int _ _) rfl
        simp only [builtin, Builtin.len_, e0, e1, h1.nils_inv, Sem.run_bind, run_underlying hd, Result.andThen_ok, Sem.run_pure]; rfl
      case slice b o n c =>
        obtain ⟨rfl, rfl⟩ := hn
        obtain ⟨b', o', _, cap, ad, _, ex, _⟩ := h1.slice_inv
        refine mk (v' := goInt n) (fun ty => ?_) (.int _ _) rfl
        simp only [builtin, Builtin.len_, e0, e1, ex, Sem.run_bind, run_underlying hd, Result.andThen_ok, Sem.run_pure]
    case array n e =>
      subst hc
      simp only [nop, Option.some.injEq, Prod.mk.injEq] at hn
      obtain ⟨rfl, rfl⟩ := hn
      refine mk (v' := goInt n) (fun ty => ?_) (.int _ _) rfl
      simp only [builtin, Builtin.len_, e0, e1, Sem.run_bind, run_underlying hd, Result.andThen_ok, Sem.run_pure]
    case map k e =>
      subst hc
      simp only [nop, Option.bind_eq_some_iff] at hn
      obtain ⟨av, hav, hn⟩ := hn
      have h1 := hE x a av ha (by simp [AOp.opds]) hav
      cases av <;> simp only [reduceCtorEq, Option.some.injEq, Prod.mk.injEq, Option.bind_eq_some_iff] at hn
      case nilm =>
        obtain ⟨rfl, rfl⟩ := hn
        refine mk (v' := goInt 0) (fun ty => ?_) (.int _ _) rfl
        simp only [builtin, Builtin.len_, e0, e1, h1.nilm_inv, Sem.run_bind, run_underlying hd, Result.andThen_ok, Sem.run_pure]
      case map b =>
        obtain ⟨q, hq, hn⟩ := hn
        cases q <;> simp only [reduceCtorEq, Option.some.injEq, Prod.mk.injEq] at hn
        obtain ⟨rfl, rfl⟩ := hn
        obtain ⟨b', o', _, hρb, ex⟩ := h1.map_inv
        obtain ⟨_, xs, hh, hER⟩ := (st.rel b _ _ hq hρb).map_inv
        have hlen : (xs.size : Int) = _ := congrArg Int.ofNat (by simpa using hER.1)
        refine mk (v' := goInt xs.size) (fun ty => ?_) (by rw [hlen]; exact .int _ _) rfl
        simp only [builtin, Builtin.len_, e0, e1, ex, Sem.run_bind, run_underlying hd, run_getMap hh, Result.andThen_ok, Sem.run_pure]
  · rename_i x ty tys hargs hats
    have ea := one_arg hargs
    obtain ⟨tys', et⟩ : ∃ tys', ats = (ty :: tys').toArray := ⟨tys, by rw [← hats]⟩
    subst ea; subst et
    simp only [Option.bind_eq_some_iff] at hc
    obtain ⟨d, hd, a, ha, hc⟩ := hc
    have e0 : (ty :: tys').toArray[0]? = some ty := rfl
    have e1 : (Array.map η #[x])[0]? = some (η x) := by simp
    cases d <;> simp only [reduceCtorEq, Option.some.injEq] at hc
    subst hc
    simp only [nop, Option.bind_eq_some_iff] at hn
    obtain ⟨av, hav, hn⟩ := hn
    have h1 := hE x a av ha (by simp [AOp.opds]) hav
    cases av <;> try simp only [reduceCtorEq, Option.some.injEq, Prod.mk.injEq] at hn
    case nils =>
      obtain ⟨rfl, rfl⟩ := hn
      refine mk (v' := goInt 0) (fun ty => ?_) (.int _ _) rfl
      simp only [builtin, Builtin.cap_, e0, e1, h1.nils_inv, Sem.run_bind, run_underlying hd, Result.andThen_ok, Sem.run_pure]; rfl
    case slice b o n c =>
      cases c with
      | op s => exact absurd hn (by simp)
      | ex k =>
      replace hn : AV.int IntKind.i64 (k : Nat) = v ∧ none = ob := by simpa using hn
      obtain ⟨rfl, rfl⟩ := hn
      obtain ⟨b', o', _, cap, ad, _, ex, _, hck, _⟩ := h1.slice_inv
      refine mk (v' := goInt k) (fun ty => ?_) (.int _ _) rfl
      simp only [builtin, Builtin.cap_, e0, e1, ex, hck k rfl, Sem.run_bind, run_underlying hd, Result.andThen_ok, Sem.run_pure]
  · simp only [Option.bind_eq_some_iff] at hc
    obtain ⟨d, hd, du, hdu, a, ha, b, hb, hc⟩ := hc
    cases d <;> simp only [reduceCtorEq, Option.bind_eq_some_iff] at hc
    obtain ⟨i, hi, hc⟩ := hc
    split at hc
    · split at hc
      · cases hc
      · simp only [Option.map_eq_some_iff] at hc
        obtain ⟨z, _, rfl⟩ := hc
        simp [AOp.eff] at hne
    · split at hc
      · cases hc
      · cases hc; simp [AOp.eff] at hne
  · simp only [Option.bind_eq_some_iff] at hc
    obtain ⟨dd, hd, a, ha, b, hb, hc⟩ := hc
    cases dd <;> simp only [reduceCtorEq, Option.bind_eq_some_iff, Option.some.injEq] at hc
    obtain ⟨i, hi, rfl⟩ := hc
    simp [AOp.eff] at hne
  · rename_i x xs hargs
    simp only [Option.bind_eq_some_iff, Option.some.injEq] at hc
    obtain ⟨a, ha, l, hl, rfl⟩ := hc
    simp only [nop, Option.bind_eq_some_iff, Option.some.injEq, Prod.mk.injEq] at hn
    obtain ⟨av, hav, vs, hvs, r, hr, rfl, rfl⟩ := hn
    have h1 := hE x a av ha (by simp [AOp.opds]) hav
    have h2 := evs_rel (P := P) (η := η) hl hvs (fun x a v hx hm hv => hE x a v hx (by simp [AOp.opds, hm]) hv)
    obtain ⟨z, hz, hzr⟩ := minmax_run (P := P) (w := w) hr h1 h2
    have ea : (args.map η).toList = η x :: xs.map η := by rw [Array.toList_map, hargs]; rfl
    refine mk (v' := z) (fun ty => ?_) hzr rfl
    simp only [Bool.false_eq_true, if_false] at hz
    simp only [builtin, Builtin.min_, ea, Sem.run_bind, hz, Result.andThen_ok, Sem.run_pure]
  · rename_i x xs hargs
    simp only [Option.bind_eq_some_iff, Option.some.injEq] at hc
    obtain ⟨a, ha, l, hl, rfl⟩ := hc
    simp only [nop, Option.bind_eq_some_iff, Option.some.injEq, Prod.mk.injEq] at hn
    obtain ⟨av, hav, vs, hvs, r, hr, rfl, rfl⟩ := hn
    have h1 := hE x a av ha (by simp [AOp.opds]) hav
    have h2 := evs_rel (P := P) (η := η) hl hvs (fun x a v hx hm hv => hE x a v hx (by simp [AOp.opds, hm]) hv)
    obtain ⟨z, hz, hzr⟩ := minmax_run (P := P) (w := w) hr h1 h2
    have ea : (args.map η).toList = η x :: xs.map η := by rw [Array.toList_map, hargs]; rfl
    refine mk (v' := z) (fun ty => ?_) hzr rfl
    simp only [if_true] at hz
    simp only [builtin, Builtin.max_, ea, Sem.run_bind, hz, Result.andThen_ok, Sem.run_pure]
  · simp only [Option.bind_eq_some_iff] at hc
    obtain ⟨d, hd, a, ha, b, hb, hc⟩ := hc
    cases d <;> simp only [reduceCtorEq, Option.map_eq_some_iff] at hc
    obtain ⟨kk, hkk, rfl⟩ := hc
    simp [AOp.eff] at hne
  · cases hc

theorem nop_rangeM {ty : TypeId} {x : Operand} (hc : compOp P (.range ty x) = some op) (hn : nop id op t σ = some (v, ob)) (hE : HE η ρ t op.opds) (st : St ρ σ w) (hρ : ρ id = none) : NRun P η (.range ty x) w ρ id v ob := by
  simp only [compOp, Option.bind_eq_some_iff] at hc
  obtain ⟨d, hd, a, ha, hc⟩ := hc
  cases d <;> simp only [reduceCtorEq, Option.some.injEq] at hc
  subst hc
  simp only [nop, Option.bind_eq_some_iff] at hn
  obtain ⟨av, hav, hn⟩ := hn
  have h1 := hE x a av ha (by simp [AOp.opds]) hav
  cases av <;> simp only [reduceCtorEq, Option.some.injEq, Prod.mk.injEq, Option.bind_eq_some_iff] at hn
  case nilm =>
    obtain ⟨rfl, rfl⟩ := hn
    have e1 := h1.nilm_inv
    refine .mk (v' := .pointer (some ⟨w.heap.size, 0, none⟩)) (w' := w.alloc (.mapIter none 0 #[] 0)) (ρ' := updR ρ id (w.heap.size, 0, 0)) (fun _ _ _ _ _ => ?_) ?_
    · simp only [execOp, Instr.range, e1, Sem.run_bind, run_underlying hd, Result.andThen_ok, Sem.run_pure, run_newObj]; rfl
    · refine ⟨.ptr updR_self, fun b hb => by simp [updR, hb], (by intro e; cases e), fun k e => ?_, fun c hc => heap_push_lt hc, (by show _ ≤ (w.heap.push _).size; rw [Array.size_push]; omega), rfl, rfl, rfl⟩
      cases e
      exact ⟨0, updR_self, ⟨rfl, none, Array.getElem?_push_size, fun _ => rfl, fun b hb => by cases hb⟩, rfl, rfl⟩
  case map b =>
    obtain ⟨q, hq, hn⟩ := hn
    cases q <;> simp only [reduceCtorEq, Option.some.injEq, Prod.mk.injEq] at hn
    rename_i es clock
    obtain ⟨rfl, rfl⟩ := hn
    obtain ⟨b', o', m, hρb, e1⟩ := h1.map_inv
    obtain ⟨_, xs, hh, hER⟩ := (st.rel b _ _ hq hρb).map_inv
    refine .mk (v' := .pointer (some ⟨w.heap.size, 0, none⟩)) (w' := w.alloc (.mapIter (some b') clock #[] clock)) (ρ' := updR ρ id (w.heap.size, 0, 0)) (fun _ _ _ _ _ => ?_) ?_
    · simp only [execOp, Instr.range, e1, Sem.run_bind, run_underlying hd, Result.andThen_ok, Sem.run_pure, getObj, Sem.run, hh, run_newObj]; rfl
    · refine ⟨.ptr updR_self, fun b hb => by simp [updR, hb], (by intro e; cases e), fun k e => ?_, fun c hc => heap_push_lt hc, (by show _ ≤ (w.heap.push _).size; rw [Array.size_push]; omega), rfl, rfl, rfl⟩
      cases e
      refine ⟨0, updR_self, ⟨rfl, some b', Array.getElem?_push_size, fun (e : some b = none) => (nomatch e), fun b2 hb2 => ?_⟩, rfl, rfl⟩
      injection hb2 with hb2
      subst hb2
      refine ⟨b', o', m, ?_, rfl⟩
      have : b ≠ id := fun e => by rw [e, hρ] at hρb; cases hρb
      simp [updR, this, hρb]
theorem find_rel {es : List (AV × AV × Nat)} {L : List MapEntry} (h : ERel ρ es L) {s : Nat} {e : AV × AV × Nat} (he : es.find? (fun e => e.2.2 == s) = some e) : ∃ x, L.find? (fun x => x.born == s) = some x ∧ VRel ρ e.1 x.key ∧ VRel ρ e.2.1 x.val ∧ x.born = e.2.2 := by
  rw [List.find?_eq_some_iff_getElem] at he
  obtain ⟨hp, i, hi, rfl, hno⟩ := he
  have hlen := h.1
  have hiL : i < L.length := by omega
  have hr := h.2 i es[i] L[i] (List.getElem?_eq_getElem hi) (List.getElem?_eq_getElem hiL)
  refine ⟨L[i], ?_, hr⟩
  rw [List.find?_eq_some_iff_getElem]
  refine ⟨by rw [hr.2.2]; exact hp, i, hiL, rfl, fun j hj => ?_⟩
  have hr2 := h.2 j es[j] L[j] (List.getElem?_eq_getElem (by omega)) (List.getElem?_eq_getElem (by omega))
  have := hno j hj
  rw [hr2.2.2]; exact this
theorem nop_entM {it : Operand} (hc : compOp P (.entry it) = some op) (hn : nop id op t σ = some (v, ob)) (hE : HE η ρ t op.opds) (st : St ρ σ w) : NRun P η (.entry it) w ρ id v ob := by
  simp only [compOp, Option.map_eq_some_iff] at hc
  obtain ⟨a, ha, rfl⟩ := hc
  simp only [nop, Option.bind_eq_some_iff] at hn
  obtain ⟨av, hav, hn⟩ := hn
  have h1 := hE it a av ha (by simp [AOp.opds]) hav
  split at hn
  · rename_i b
    simp only [Option.bind_eq_some_iff] at hn
    obtain ⟨q, hq, hn⟩ := hn
    split at hn
    · rename_i m since seen stepped
      simp only [Option.bind_eq_some_iff] at hn
      obtain ⟨q2, hq2, hn⟩ := hn
      split at hn
      · rename_i es clock
        simp only [Option.bind_eq_some_iff] at hn
        obtain ⟨stamp, hst, hn⟩ := hn
        split at hn
        · rename_i hcl
          simp only [Option.bind_eq_some_iff, Option.some.injEq, Prod.mk.injEq] at hn
          obtain ⟨e, he, rfl, rfl⟩ := hn
          obtain ⟨b', o', k, hρb, e1⟩ := h1.ptr_inv
          obtain ⟨ho, m', hm', _, hmm⟩ := st.rel b _ _ hq hρb
          obtain ⟨l, o2, k2, hρm, rfl⟩ := hmm m rfl
          obtain ⟨_, xs, hh, hER⟩ := (st.rel m _ _ hq2 hρm).map_inv
          obtain ⟨x, hx, hk, hv, _⟩ := find_rel hER he
          have hx' : xs.find? (fun x => x.born == stamp) = some x := by rw [← Array.find?_toList]; exact hx
          dsimp only at ho hm'
          subst ho hcl
          refine .val (v' := .tuple #[x.key, x.val]) (fun _ _ _ _ _ => ?_) ?_
          · simp only [execOp, Instr.entry, e1, Nat.add_zero, getObj, Sem.run_bind, Sem.run, hm', hh, Result.andThen, List.back?_toArray, hst, bne_self_eq_false, Bool.false_eq_true, if_false, hx']; rfl
          · exact .tup rfl (fun i a v ha hv' => by
              match i with
              | 0 => simp at ha hv'; subst ha; subst hv'; exact hk
              | 1 => simp at ha hv'; subst ha; subst hv'; exact hv
              | i + 2 => simp at ha)
        · cases hn
      · cases hn
    · cases hn
  · cases hn
theorem nop_run {o : Op} (hc : compOp P o = some op) (hne : op.eff = false) (hn : nop id op t σ = some (v, ob)) (hE : HE η ρ t op.opds) (st : St ρ σ w) (hρ : ρ id = none) : NRun P η o w ρ id v ob := by
  cases o with
  | move x => exact nop_mov _ (.inl rfl) hc hn hE
  | assign x => exact nop_mov _ (.inr rfl) hc hn hE
  | pick c a b => exact nop_pick hc hn hE
  | alloc e => exact nop_alloc hc hn hρ
  | box e x => exact nop_box hc hn hE hρ
  | build ty ps => exact nop_build hc hn hE
  | buildSlice ty n ps => exact nop_newSlice hc hn hE hρ
  | load ty x => exact nop_load hc hn hE st
  | nilCheck x => exact nop_nilchk hc hn hE
  | binOp b ty x y yt => exact nop_bin hc hn hE
  | unOp b ty x => exact nop_un hc hn hE
  | convert s d x => exact nop_conv hc hn hE st hρ
  | makeFunc fn f c => exact nop_mkFn hc hn hE
  | makeMap ty r => exact nop_mkMap hc hn hρ
  | makeSlice ty n c => exact nop_make hc hn hE hρ
  | slice ty x lo hi mx => exact nop_slice hc hn hE
  | fieldAddr ty x f => exact nop_faddr hc hn hE
  | field ty x f => exact nop_field hc hn hE
  | indexAddr ty x i => exact nop_iaddr hc hn hE
  | index ty x i => exact nop_index hc hn hE
  | lookup ty x k ok => exact nop_lookup hc hn hE st
  | extract x i => exact nop_extract hc hn hE
  | range ty x => exact nop_rangeM hc hn hE st hρ
  | entry it => exact nop_entM hc hn hE st
  | next it s =>
    simp only [compOp] at hc
    split at hc
    · cases hc
    · simp only [Option.map_eq_some_iff] at hc
      obtain ⟨a, _, rfl⟩ := hc
      simp [AOp.eff] at hne
  | call c =>
    obtain ⟨callee, args, ats⟩ := c
    cases callee with
    | builtin b => exact nop_builtin hc hne hn hE st
    | invoke r m => simp [compOp, compCall] at hc
    | value f =>
      exfalso
      cases f <;> simp only [compOp, compCall, Option.bind_eq_some_iff, Option.map_eq_some_iff] at hc
      case func f =>
        obtain ⟨fn, _, hc⟩ := hc
        split at hc
        · simp only [Option.map_eq_some_iff] at hc
          obtain ⟨l, _, rfl⟩ := hc; simp [AOp.eff] at hne
        · cases hc
      all_goals
        obtain ⟨a, _, l, _, rfl⟩ := hc; simp [AOp.eff] at hne
  | store ty a x =>
    exfalso
    simp only [compOp, Option.bind_eq_some_iff, Option.map_eq_some_iff] at hc
    obtain ⟨i, _, a, _, x, _, rfl⟩ := hc; simp [AOp.eff] at hne
  | mapUpdate ty m k x =>
    exfalso
    simp only [compOp, Option.bind_eq_some_iff] at hc
    obtain ⟨d, _, a, _, b, _, c, _, hc⟩ := hc
    cases d <;> simp only [reduceCtorEq, Option.map_eq_some_iff] at hc
    obtain ⟨kk, _, rfl⟩ := hc; simp [AOp.eff] at hne
  | insert ty m k x =>
    exfalso
    simp only [compOp, Option.bind_eq_some_iff] at hc
    obtain ⟨d, _, a, _, b, _, c, _, hc⟩ := hc
    cases d <;> simp only [reduceCtorEq, Option.map_eq_some_iff] at hc
    obtain ⟨kk, _, rfl⟩ := hc; simp [AOp.eff] at hne
  | mapEntry ty m k =>
    exfalso
    simp only [compOp, Option.bind_eq_some_iff] at hc
    obtain ⟨d, _, a, _, b, _, hc⟩ := hc
    cases d <;> simp only [reduceCtorEq, Option.map_eq_some_iff, Option.bind_eq_some_iff] at hc
    obtain ⟨kk, _, i, _, z, _, z', _, rfl⟩ := hc; simp [AOp.eff] at hne
  | entryStore ty m s x =>
    exfalso
    simp only [compOp, Option.bind_eq_some_iff, Option.map_eq_some_iff] at hc
    obtain ⟨a, _, b, _, c, _, rfl⟩ := hc; simp [AOp.eff] at hne
  | _ => simp [compOp] at hc
end
end Go.Vit
end

section
namespace Go.Vit
section
variable {P : Program} {w w' : World} {ρ ρ' : Ren} {σ : Mem} {id : Nat} {N : Nat → Prop}

theorem St.put_free (st : St ρ σ w) {b : Nat} (hρ : ρ b = none) (hb : b < σ.next) (o : Option Blk) : St ρ (σ.put b o) w := by
  have hne : ∀ c q, ρ c = some q → c ≠ b := fun c q h e => by subst e; rw [hρ] at h; cases h
  refine ⟨st.dom, fun c k hk => ?_, fun c k q hk hq => ?_, fun c c' k k' q q' hk hk' hq hq' hm hs hcc => ?_⟩
  · rw [Mem.get_put] at hk
    split at hk
    · rename_i e; subst e; exact hb
    · exact st.live c k hk
  · rw [Mem.get_put_ne _ (hne c q hq)] at hk; exact st.rel c k q hk hq
  · rw [Mem.get_put_ne _ (hne c q hq)] at hk
    rw [Mem.get_put_ne _ (hne c' q' hq')] at hk'
    exact st.inj c c' k k' q q' hk hk' hq hq' hm hs hcc

theorem Step.put_free (st : St ρ σ w) (hρ : ρ id = none) (hid : id < σ.next) (o : Option Blk) : Step (· = id) ρ σ w ρ (σ.put id o) w := by
  have hne : ∀ c, ρ c ≠ none → c ≠ id := fun c h e => by subst e; exact h hρ
  refine ⟨st.put_free hρ hid o, Nat.le_refl _, fun _ _ e => e, fun b p e e' => by rw [e] at e'; (cases e'), fun b k hk hb => ?_, fun b hn _ => Mem.get_put_ne _ hn _, fun _ _ _ => rfl, Nat.le_refl _, rfl, rfl, rfl⟩
  rw [Mem.get_put_ne _ (hne b hb)] at hk
  exact ⟨k, hk, rfl⟩

theorem NRes.step {v : AV} {ob : Option Blk} {v' : Value} (h : NRes id ρ w v ob v' w' ρ') (st : St ρ σ w) (hρ : ρ id = none) (hid : id < σ.next) (hk : ∀ k, ob = some k → σ.get id = some k) :
    Step (· = id) ρ σ w ρ' σ w' := by
  have hext : ∀ b p, ρ b = some p → ρ' b = some p := fun b p e => by
    rw [h.ren b (fun x => by subst x; rw [hρ] at e; cases e)]; exact e
  have hcase : ∀ b p, ρ' b = some p → ρ b = some p ∨ (b = id ∧ ∃ k, ob = some k ∧ p.1 = w.heap.size ∧ BRel ρ' p w' k) := by
    intro b p e
    by_cases hb : b = id
    · subst hb
      cases ob with
      | none => rw [h.no rfl, hρ] at e; cases e
      | some k =>
        obtain ⟨m, h1, h2, _⟩ := h.new k rfl
        rw [h1] at e; cases e; exact .inr ⟨rfl, k, rfl, rfl, h2⟩
    · rw [h.ren b hb] at e; exact .inl e
  have hrel : ∀ b k p, σ.get b = some k → ρ' b = some p → BRel ρ' p w' k := by
    intro b k p hb hp
    rcases hcase b p hp with e | ⟨rfl, k', hk', hpp⟩
    · have := st.rel b k p hb e
      exact (this.mono hext).move fun hs => h.heap _ (this.lt hs)
    · have := hk k' hk'
      rw [hb] at this; cases this
      exact hpp.2
  refine ⟨⟨fun b p e => ?_, st.live, hrel, fun b b' k k' p p' hb hb' hp hp' hm hs hne => ?_⟩, Nat.le_refl _, hext, fun b p e e' => ?_, fun b k hb _ => ⟨k, hb, rfl⟩, fun _ _ _ => rfl, fun c hc _ => h.heap c hc, h.size, h.os, h.tape, h.out⟩
  · rcases hcase b p e with e | ⟨rfl, _⟩
    · exact st.dom b p e
    · exact hid
  · have hms : k.solid = true := by cases k <;> first | rfl | simp [Blk.mut] at hm
    rcases hcase b p hp with e | ⟨eb, _, _, ep, _⟩ <;> rcases hcase b' p' hp' with e' | ⟨eb', _, _, ep', _⟩
    · exact st.inj b b' k k' p p' hb hb' e e' hm hs hne
    · have := (st.rel b k p hb e).lt hms; omega
    · have := (st.rel b' k' p' hb' e').lt hs; omega
    · exact absurd (eb.trans eb'.symm) hne
  · rcases hcase b p e with e | ⟨rfl, _, _, ep, _⟩
    · rw [e'] at e; cases e
    · exact ⟨rfl, .inl (Nat.le_of_eq ep.symm)⟩

theorem NRes.step_add {v : AV} {ob : Option Blk} {v' : Value} (h : NRes id ρ w v ob v' w' ρ') (st : St ρ σ w) (hρ : ρ id = none) (hid : id < σ.next) :
    Step (· = id) ρ σ w ρ' (σ.add id ob) w' := by
  cases ob with
  | none => exact h.step st hρ hid (fun k e => by cases e)
  | some k =>
    have h1 := Step.put_free st hρ hid (some k)
    exact h1.trans (h.step h1.st hρ hid (fun k' e => by cases e; exact Mem.get_put_self _ _ _)) (fun _ e => e) (fun _ e => e)

theorem Step.update (st : St ρ σ w) {b : Nat} {k k' : Blk} {p : Loc} (hb : σ.get b = some k) (hm : k.mut = true) (hm' : k'.mut = true) (hp : ρ b = some p) (hrel : BRel ρ p w' k')
    (hheap : ∀ c, c ≠ p.1 → w'.heap[c]? = w.heap[c]?) (hsize : w'.heap.size = w.heap.size) (hos : w'.os = w.os) (htape : w'.tape = w.tape) (hout : w'.output = w.output) : Step N ρ σ w ρ (σ.put b (some k')) w' := by
  have hs' : k'.solid = true := by cases k' <;> first | rfl | simp [Blk.mut] at hm'
  have hs0 : k.solid = true := by cases k <;> first | rfl | simp [Blk.mut] at hm
  refine ⟨⟨st.dom, fun c q hq => ?_, fun c q r hq hr => ?_, fun c c' q q' r r' hq hq' hr hr' hmq hsq hne => ?_⟩, Nat.le_refl _, fun _ _ e => e, fun _ _ e e' => by rw [e] at e'; (cases e'), fun c q hq _ => ?_, fun c _ hc => ?_, fun c _ hno => ?_, by omega, hos, htape, hout⟩
  · rw [Mem.get_put] at hq
    split at hq
    · rename_i e; subst e; exact st.live _ _ hb
    · exact st.live c q hq
  · rw [Mem.get_put] at hq
    split at hq
    · rename_i e; subst e; cases hq; rw [hp] at hr; cases hr; exact hrel
    · rename_i e
      have h1 := st.rel c q r hq hr
      exact h1.move fun hs => hheap _ (fun x => st.inj b c k q p r hb hq hp hr hm hs (fun y => e y.symm) x.symm)
  · rw [Mem.get_put] at hq hq'
    split at hq <;> split at hq'
    · rename_i e e'; exact absurd (e.trans e'.symm) hne
    · rename_i e e'; subst e; cases hq; exact st.inj c c' k q' r r' hb hq' hr hr' hm hsq hne
    · rename_i e e'; subst e'; cases hq'; exact st.inj c c' q k r r' hq hb hr hr' hmq hs0 hne
    · exact st.inj c c' q q' r r' hq hq' hr hr' hmq hsq hne
  · rw [Mem.get_put] at hq
    split at hq
    · rename_i e; subst e; cases hq; exact ⟨k, hb, by rw [hm, hm']⟩
    · exact ⟨q, hq, rfl⟩
  · rw [Mem.get_put, if_neg]; intro e; subst e; rw [hp] at hc; cases hc
  · exact hheap c (fun e => hno b k p hb hm hp e.symm)

theorem Step.erase (st : St ρ σ w) {b : Nat} {p : Loc} (hp : ρ b = some p) : Step N ρ σ w ρ (σ.put b none) w := by
  refine ⟨⟨st.dom, fun c q hq => ?_, fun c q r hq hr => ?_, fun c c' q q' r r' hq hq' hr hr' hmq hsq hne => ?_⟩, Nat.le_refl _, fun _ _ e => e, fun _ _ e e' => by rw [e] at e'; (cases e'), fun c q hq _ => ?_, fun c _ hc => ?_, fun _ _ _ => rfl, Nat.le_refl _, rfl, rfl, rfl⟩
  · rw [Mem.get_put] at hq; split at hq
    · cases hq
    · exact st.live c q hq
  · rw [Mem.get_put] at hq; split at hq
    · cases hq
    · exact st.rel c q r hq hr
  · rw [Mem.get_put] at hq hq'; split at hq
    · cases hq
    · split at hq'
      · cases hq'
      · exact st.inj c c' q q' r r' hq hq' hr hr' hmq hsq hne
  · rw [Mem.get_put] at hq; split at hq
    · cases hq
    · exact ⟨q, hq, rfl⟩
  · rw [Mem.get_put, if_neg]; intro e; subst e; rw [hp] at hc; cases hc

theorem Step.recycle (st : St ρ σ w) {b : Nat} {k k' : Blk} {p : Loc} (hb : σ.get b = some k) (hm : k.mut = true) (hm' : k'.mut = true) (hp : ρ b = some p) (hρ : ρ id = none) (hid : id < σ.next)
    (hrel : BRel ρ p w' k') (hheap : ∀ c, c ≠ p.1 → w'.heap[c]? = w.heap[c]?) (hsize : w'.heap.size = w.heap.size) (hos : w'.os = w.os) (htape : w'.tape = w.tape) (hout : w'.output = w.output) :
    Step (· = id) ρ σ w (updR ρ id p) ((σ.put b none).put id (some k')) w' := by
  have hbid : b ≠ id := fun e => by subst e; rw [hρ] at hp; cases hp
  have hs0 : k.solid = true := by cases k <;> first | rfl | simp [Blk.mut] at hm
  have hext := updR_ext (p := p) hρ
  have hcase : ∀ c r, updR ρ id p c = some r → (c = id ∧ r = p) ∨ (c ≠ id ∧ ρ c = some r) := by
    intro c r h
    unfold updR at h
    split at h
    · rename_i e; cases h; exact .inl ⟨e, rfl⟩
    · rename_i e; exact .inr ⟨e, h⟩
  have hget : ∀ c q, ((σ.put b none).put id (some k')).get c = some q → (c = id ∧ q = k') ∨ (c ≠ id ∧ c ≠ b ∧ σ.get c = some q) := by
    intro c q h
    rw [Mem.get_put, Mem.get_put] at h
    split at h
    · rename_i e; cases h; exact .inl ⟨e, rfl⟩
    · rename_i e
      split at h
      · cases h
      · rename_i e'; exact .inr ⟨e, e', h⟩
  refine ⟨⟨fun c r h => ?_, fun c q h => ?_, fun c q r hq hr => ?_, fun c c' q q' r r' hq hq' hr hr' hmq hsq hne => ?_⟩, Nat.le_refl _, hext, fun c r e e' => ?_, fun c q hq hc => ?_, fun c hn hc => ?_, fun c _ hno => ?_, by omega, hos, htape, hout⟩
  · rcases hcase c r h with ⟨rfl, _⟩ | ⟨_, h⟩
    · exact hid
    · exact st.dom c r h
  · rcases hget c q h with ⟨rfl, _⟩ | ⟨_, _, h⟩
    · exact hid
    · exact st.live c q h
  · rcases hget c q hq with ⟨rfl, rfl⟩ | ⟨e1, e2, hq⟩
    · rw [updR_self] at hr; cases hr; exact hrel.mono hext
    · rcases hcase c r hr with ⟨e, _⟩ | ⟨_, hr⟩
      · exact absurd e e1
      · have h1 := st.rel c q r hq hr
        exact (h1.mono hext).move fun hs => hheap _ (fun x => st.inj b c k q p r hb hq hp hr hm hs (fun y => e2 y.symm) x.symm)
  · rcases hget c q hq with ⟨e0, e00⟩ | ⟨e1, e2, hq1⟩ <;> rcases hget c' q' hq' with ⟨f0, f00⟩ | ⟨e1', e2', hq2⟩
    · exact absurd (e0.trans f0.symm) hne
    · subst e0; subst e00
      rw [updR_self] at hr; cases hr
      rcases hcase c' r' hr' with ⟨e, _⟩ | ⟨_, hr2⟩
      · exact absurd e e1'
      · exact st.inj b c' k q' p r' hb hq2 hp hr2 hm hsq (fun y => e2' y.symm)
    · subst f0; subst f00
      rw [updR_self] at hr'; cases hr'
      rcases hcase c r hr with ⟨e, _⟩ | ⟨_, hr1⟩
      · exact absurd e e1
      · exact st.inj c b q k r p hq1 hb hr1 hp hmq hs0 e2
    · rcases hcase c r hr with ⟨e, _⟩ | ⟨_, hr1⟩
      · exact absurd e e1
      · rcases hcase c' r' hr' with ⟨e, _⟩ | ⟨_, hr2⟩
        · exact absurd e e1'
        · exact st.inj c c' q q' r r' hq1 hq2 hr1 hr2 hmq hsq hne
  · rcases hcase c r e with ⟨rfl, rfl⟩ | ⟨_, h⟩
    · exact ⟨rfl, .inr ⟨b, k, r, hb, hm, hp, rfl⟩⟩
    · rw [e'] at h; cases h
  · rcases hget c q hq with ⟨rfl, rfl⟩ | ⟨e1, e2, hq⟩
    · exact absurd hρ hc
    · exact ⟨q, hq, rfl⟩
  · rw [Mem.get_put_ne _ hn, Mem.get_put_ne]; intro e; subst e; rw [hp] at hc; cases hc
  · exact hheap c (fun e => hno b k p hb hm hp e.symm)

/-! ### Storing a row of cells -/
def setArr (cs : Array Value) (off : Nat) : List Value → Array Value
  | [] => cs
  | v :: vs => setArr (cs.setIfInBounds off v) (off + 1) vs
theorem setArr_size : ∀ (vs : List Value) (cs : Array Value) (off : Nat), (setArr cs off vs).size = cs.size
  | [], _, _ => rfl
  | v :: vs, cs, off => by simp [setArr, setArr_size vs]

theorem run_storeBlock (g o : Nat) (e : TypeId) (fz : Nat × Nat) : ∀ (vs : List Value) (i : Nat) (cs : Array Value) (w : World), w.heap[g]? = some (.cells cs e fz) → (∀ j, j < cs.size → ¬ (fz.1 ≤ j ∧ j < fz.2)) →
    o + i + vs.length ≤ cs.size → (∀ v ∈ vs, v.oneCell' = true) →
    ∃ w', (storeCells ⟨g, o, none⟩ vs i).run P w = .ok () w' ∧ w'.heap[g]? = some (.cells (setArr cs (o + i) vs) e fz) ∧ (∀ c, c ≠ g → w'.heap[c]? = w.heap[c]?) ∧ w'.heap.size = w.heap.size ∧ w'.os = w.os ∧ w'.tape = w.tape ∧ w'.output = w.output
  | [], i, cs, w, h, _, _, _ => ⟨w, rfl, h, fun _ _ => rfl, rfl, rfl, rfl, rfl⟩
  | v :: vs, i, cs, w, h, hfz, hlen, h1 => by
    simp only [List.length_cons] at hlen
    have hlt : o + i < cs.size := by omega
    have hcell : w.cell? ⟨g, o + i, none⟩ = some cs[o + i] := by simp [World.cell?, h, hlt]
    have hfr : w.frozen? ⟨g, o + i, none⟩ = false := by
      have := hfz (o + i) hlt
      simp only [World.frozen?, h]
      simp only [Bool.and_eq_false_iff, decide_eq_false_iff_not]
      omega
    have hst : (store ((⟨g, o, none⟩ : Addr).add i) v).run P w = .ok () (w.setCell ⟨g, o + i, none⟩ v) := by
      rw [add_at, run_store P w _ v _ (h1 v (by simp))]
      simp [hcell, hfr]
    have hh : (w.setCell ⟨g, o + i, none⟩ v).heap[g]? = some (.cells (cs.setIfInBounds (o + i) v) e fz) := by
      simp [World.setCell, Array.getElem?_modify, h]
    obtain ⟨w', h2, h3, h4, h5, h6, h7, h8⟩ := run_storeBlock g o e fz vs (i + 1) (cs.setIfInBounds (o + i) v) (w.setCell ⟨g, o + i, none⟩ v) hh (fun j hj => hfz j (by simpa using hj)) (by simp; omega) (fun x hx => h1 x (by simp [hx]))
    refine ⟨w', ?_, by rw [h3]; rfl, fun c hc => ?_, ?_, h6, h7, h8⟩
    · simp only [storeCells, Sem.run_bind, hst, Result.andThen_ok, h2]
    · rw [h4 c hc]; show (w.heap.modify g _)[c]? = _; rw [Array.getElem?_modify, if_neg (fun x => hc x.symm)]
    · rw [h5]; simp [World.setCell]

def PRel (ρ : Ren) (c : List AV) (cs : Array Value) : Prop := c.length ≤ cs.size ∧ ∀ (i : Nat) (a : AV), c[i]? = some a → ∃ v, cs[i]? = some v ∧ VRel ρ a v
theorem PRel.setAt : ∀ (vc : List AV) (vs : List Value) (c : List AV) (cs : Array Value) (off : Nat), PRel ρ c cs → LRel ρ vc vs.toArray → off + vc.length ≤ cs.size → PRel ρ (setAt c off vc) (setArr cs off vs)
  | [], [], c, cs, off, h, _, _ => h
  | [], _ :: _, _, _, _, _, hl, _ => by have := hl.1; simp at this
  | _ :: _, [], _, _, _, _, hl, _ => by have := hl.1; simp at this
  | a :: vc, v :: vs, c, cs, off, h, hl, hle => by
    simp only [List.length_cons] at hle
    have h0 : VRel ρ a v := hl.2 0 a v rfl (by simp)
    have hl' : LRel ρ vc vs.toArray := ⟨by have := hl.1; simpa using this, fun i a v ha hv => hl.2 (i + 1) a v (by simpa using ha) (by simpa using hv)⟩
    have h1 : PRel ρ (c.set off a) (cs.setIfInBounds off v) := by
      refine ⟨by simpa using h.1, fun i x hx => ?_⟩
      by_cases hi : off = i
      · subst hi
        rw [List.getElem?_set_self'] at hx
        have hlt : off < cs.size := by omega
        refine ⟨v, by simp [hlt], ?_⟩
        cases e : c[off]? with
        | none => rw [e] at hx; cases hx
        | some z => rw [e] at hx; cases hx; exact h0
      · rw [List.getElem?_set_ne hi] at hx
        rw [Array.getElem?_setIfInBounds_ne hi]
        exact h.2 i x hx
    exact PRel.setAt vc vs _ _ (off + 1) h1 hl' (by simp; omega)
theorem BRel.rw_inv {p : Loc} {c : List AV} (h : BRel ρ p w (.rw c)) : p.2.1 = 0 ∧ ∃ cs e fz, w.heap[p.1]? = some (.cells cs e fz) ∧ PRel ρ c cs ∧ cs.size = p.2.2 ∧ ∀ i, i < cs.size → ¬ (fz.1 ≤ i ∧ i < fz.2) := by
  obtain ⟨h0, cs, e, fz, h1, h2, h3, h4⟩ := h
  exact ⟨h0, cs, e, fz, h1, ⟨h2.1, h4⟩, h2.2, h3⟩
theorem BRel.rw_mk {p : Loc} {c : List AV} (h0 : p.2.1 = 0) {cs : Array Value} {e : TypeId} {fz : Nat × Nat} (h1 : w.heap[p.1]? = some (.cells cs e fz)) (h2 : PRel ρ c cs) (hm : cs.size = p.2.2) (h3 : ∀ i, i < cs.size → ¬ (fz.1 ≤ i ∧ i < fz.2)) : BRel ρ p w (.rw c) :=
  ⟨h0, cs, e, fz, h1, ⟨h2.1, hm⟩, h3, h2.2⟩
theorem LRel.oneCell {c : List AV} {vs : List Value} (h : LRel ρ c vs.toArray) (h1 : c.all AV.one = true) : ∀ v ∈ vs, v.oneCell' = true := by
  intro v hv
  obtain ⟨i, hi, rfl⟩ := List.getElem_of_mem hv
  have hi' : i < c.length := by have := h.1; simp at this; omega
  have hr := h.2 i c[i] vs[i] (List.getElem?_eq_getElem hi') (by simp [hi])
  have := hr.not_agg (List.all_eq_true.1 h1 _ (List.getElem_mem hi'))
  cases e : vs[i] <;> simp_all [Value.oneCell']
end
end Go.Vit
end

section
namespace Go.Vit
def ERun (P : Program) (η : Operand → Value) (o : Op) (w : World) (ρ : Ren) (σ : Mem) (id : Nat) (v : AV) (σ' : Mem) : Prop :=
  ∀ (dst : Option Tmp) (ty : TypeId) (pos : String) (after : Array Edge) (g : Option (Nat × Bool)),
    ∃ nx v' w' ρ', (execOp η ⟨dst, o, ty, pos, after, g⟩).run P w = .ok nx w' ∧ (nx = .value v' ∨ (nx = .skip ∧ v' = undef)) ∧ VRel ρ' v v' ∧ Step (· = id) ρ σ w ρ' σ' w'
section
variable {P : Program} {w : World} {ρ : Ren} {σ σ' : Mem} {t : Tmps} {η : Operand → Value} {id : Nat} {v : AV} {op : AOp}

theorem undef_rel : VRel ρ (.tup []) undef := .tup rfl (fun i a v h => by simp at h)
theorem ERun.unit {o : Op} {w' : World} {ρ' : Ren} (hr : ∀ dst ty pos after g, (execOp η ⟨dst, o, ty, pos, after, g⟩).run P w = .ok .skip w') (h : Step (· = id) ρ σ w ρ' σ' w') : ERun P η o w ρ σ id (.tup []) σ' :=
  fun dst ty pos after g => ⟨.skip, undef, w', ρ', hr dst ty pos after g, .inr ⟨rfl, rfl⟩, undef_rel, h⟩
theorem ERun.mk {o : Op} {v' : Value} {w' : World} {ρ' : Ren} (hr : ∀ dst ty pos after g, (execOp η ⟨dst, o, ty, pos, after, g⟩).run P w = .ok (.value v') w') (hv : VRel ρ' v v') (h : Step (· = id) ρ σ w ρ' σ' w') : ERun P η o w ρ σ id v σ' :=
  fun dst ty pos after g => ⟨.value v', v', w', ρ', hr dst ty pos after g, .inl rfl, hv, h⟩

theorem St.congr {w' : World} (st : St ρ σ w) (h : w'.heap = w.heap) : St ρ σ w' :=
  ⟨st.dom, st.live, fun b k p hb hp => (st.rel b k p hb hp).move (fun _ => by rw [h]), st.inj⟩
theorem Step.congr {N : Nat → Prop} {ρ' : Ren} {w0 w' : World} (h : Step N ρ σ w0 ρ' σ' w') (hh : w0.heap = w.heap) (ho : w0.os = w.os) (ht : w0.tape = w.tape) (hout : w0.output = w.output) : Step N ρ σ w ρ' σ' w' :=
  ⟨h.st, h.next, h.ext, fun b p e e' => by have := h.fresh b p e e'; rw [hh] at this; exact this, h.old, h.same, fun c hc hno => by have := h.frame c (by rw [hh]; exact hc) hno; rw [hh] at this; exact this,
    by have := h.size; rw [hh] at this; exact this, h.os.trans ho, h.tape.trans ht, h.out.trans hout⟩

theorem eop_store {ty : TypeId} {a x : Operand} (hc : compOp P (.store ty a x) = some op) (he : eop id op t σ = some (v, σ')) (hE : HE η ρ t op.opds) (st : St ρ σ w) : ERun P η (.store ty a x) w ρ σ id v σ' := by
  simp only [compOp, Option.bind_eq_some_iff, Option.map_eq_some_iff] at hc
  obtain ⟨i, hi, a', ha, x', hx, rfl⟩ := hc
  simp only [eop, Option.bind_eq_some_iff] at he
  obtain ⟨av, hav, xv, hxv, he⟩ := he
  have h1 := hE a a' av ha (by simp [AOp.opds]) hav
  have h2 := hE x x' xv hx (by simp [AOp.opds]) hxv
  cases av <;> simp only [reduceCtorEq] at he
  rename_i b o
  split at he
  · rename_i c hget
    split at he
    · rename_i hcond
      simp only [Option.some.injEq, Prod.mk.injEq] at he
      obtain ⟨rfl, rfl⟩ := he
      obtain ⟨b', o', m', hρb, e1⟩ := h1.ptr_inv
      obtain ⟨h0, cs, e, fz, hh, hP, hmm, hfz⟩ := (st.rel b _ _ hget hρb).rw_inv
      simp only at h0; subst h0
      have hcl := h2.cells
      have hcl' : LRel ρ xv.cells (η x).cells.toList.toArray := by simpa using hcl
      have hsz : (η x).cells.size = i.size := by rw [← hcl.1]; exact hcond.1
      obtain ⟨w', r1, r2, r3, r4, r5, r6, r7⟩ := run_storeBlock (P := P) b' (0 + o) e fz (η x).cells.toList 0 cs w hh hfz (by have := hP.1; simp; omega) (hcl'.oneCell hcond.2.2)
      rw [Nat.add_zero, Nat.zero_add] at r2
      refine .unit (w' := w') (fun _ _ _ _ _ => ?_) (.update st hget rfl rfl hρb (.rw_mk rfl r2 (PRel.setAt _ _ _ _ _ hP hcl' (by have := hP.1; omega)) (by rw [setArr_size]; exact hmm) (fun i hi => hfz i (by rwa [setArr_size] at hi))) r3 r4 r5 r6 r7)
      simp only [execOp, Instr.storeAt, e1, Instr.sureAddr, Sem.run_bind, Sem.run_pure, Result.andThen_ok, storeVar, sizeOf, typeInfo, run_program, hi, hsz, ne_eq, not_true_eq_false, if_false, r1]
    · cases he
  · cases he

theorem src_run {size : Nat} {xa : AV} {nc : Nat × List AV} (h : srcCells σ size xa = some nc) {u : Value} (hx : VRel ρ xa u) (st : St ρ σ w) :
    (∀ w', (Builtin.lenOf u).run P w' = .ok nc.1 w') ∧ nc.2.length = nc.1 * size ∧ ∃ vs : List Value, (Builtin.firstCells size nc.1 u).run P w = .ok vs.toArray w ∧ LRel ρ nc.2 vs.toArray := by
  cases xa <;> simp only [srcCells, reduceCtorEq, Option.some.injEq, Option.bind_eq_some_iff] at h
  case nils =>
    subst h; rw [hx.nils_inv]
    exact ⟨fun w' => by simp [Builtin.lenOf], by simp, [], by simp [Builtin.firstCells], LRel.nil ρ⟩
  case slice b o n c =>
    obtain ⟨l, hl, e⟩ := h
    subst e
    obtain ⟨b', o', _, cap, ad, hρb, e1, hncap, _, _, had⟩ := hx.slice_inv
    obtain ⟨hlen, cs, hcl, hcell, hrel⟩ := st.cells hl hρb
    rw [e1]
    refine ⟨fun w' => by simp [Builtin.lenOf], hlen, cs, ?_, .of_list (by rw [hlen, hcl]) hrel⟩
    rcases Nat.eq_zero_or_pos n with h0 | h0
    · subst h0
      rw [Nat.zero_mul] at hcl
      have : cs = [] := List.eq_nil_of_length_eq_zero hcl
      subst this; simp [Builtin.firstCells, loadCells, loadCellsFrom]
    · have hcap : ad = ⟨b', o' + o, none⟩ := had.resolve_left (by omega)
      exact run_firstCells_some (P := P) w size n ad n cap cs hcl (fun j v hj => by rw [hcap, add_at]; exact hcell j v hj)
  case str s =>
    split at h
    · rename_i h1; subst h1
      cases h
      rw [hx.str_inv]
      have hex : s.extract 0 s.size = s := by
        apply ByteArray.ext
        simp [ByteArray.data_extract]
      refine ⟨fun w' => by simp [Builtin.lenOf], by simp [bytesOf], s.data.toList.map (fun b => .int .u8 b.toNat), ?_, .of_list (by simp [bytesOf]) (fun i a v ha hv => ?_)⟩
      · simp only [Builtin.firstCells, hex, Sem.run_pure]
        congr 1
        apply Array.ext'; simp
      · simp only [bytesOf, List.getElem?_map, Option.map_eq_some_iff] at ha hv
        obtain ⟨c, hc, rfl⟩ := ha
        obtain ⟨c', hc', rfl⟩ := hv
        rw [hc] at hc'; cases hc'; exact .int _ _
    · cases h

theorem append_room {ty e : TypeId} {u : TypeId} {us : List TypeId} {du : TypeDesc} {i : TypeInfo} (ht : P.underlying ty = some (.slice e)) (hu : P.underlying u = some du) (hnz : ∀ k, du ≠ .int k) (hi : P.info? e = some i)
    {base : Option Addr} {sLen sCap n : Nat} {xv : Value} (hlen : ∀ w', (Builtin.lenOf xv).run P w' = .ok n w') (hle : sLen + n ≤ sCap) {new : Array Value} (hnew : (Builtin.firstCells i.size n xv).run P w = .ok new w) {w2 : World}
    (hst : match base with | some a => (storeCells (a.add (sLen * i.size)) new.toList).run P w = .ok () w2 | none => w2 = w) :
    ∀ ty', (Builtin.append_ (ty :: u :: us).toArray ty' #[.slice base sLen sCap, xv]).run P w = .ok (.slice base (sLen + n) sCap) w2 := by
  intro ty'
  have hz : (match du with | .int _ => true | _ => false) = false := by cases du <;> first | rfl | exact absurd rfl (hnz _)
  have e0 : (ty :: u :: us).toArray[0]? = some ty := rfl
  have e1 : (ty :: u :: us).toArray[1]? = some u := rfl
  have a0 : (#[.slice base sLen sCap, xv] : Array Value)[0]? = some (.slice base sLen sCap) := rfl
  have a1 : (#[.slice base sLen sCap, xv] : Array Value)[1]? = some xv := rfl
  cases base with
  | none =>
    simp only at hst; subst hst
    simp only [Builtin.append_, e0, e1, a0, a1, Sem.run_bind, run_underlying ht, run_underlying hu, Result.andThen_ok, sizeOf, typeInfo, run_program, hi, Sem.run_pure, hz, Bool.false_eq_true, if_false, hlen, hle, if_true, Bool.not_false, hnew]
  | some a =>
    simp only at hst
    simp only [Builtin.append_, e0, e1, a0, a1, Sem.run_bind, run_underlying ht, run_underlying hu, Result.andThen_ok, sizeOf, typeInfo, run_program, hi, Sem.run_pure, hz, Bool.false_eq_true, if_false, hlen, hle, if_true, Bool.not_false, hnew, hst]

theorem zeroCells_size (z : Array Value) (n : Nat) : (Builtin.zeroCells z n).size = n * z.size := by simp [Builtin.zeroCells]

theorem append_grow {ty e : TypeId} {u : TypeId} {us : List TypeId} {du : TypeDesc} {i : TypeInfo} {z : Value} (ht : P.underlying ty = some (.slice e)) (hu : P.underlying u = some du) (hnz : ∀ k, du ≠ .int k) (hi : P.info? e = some i) (hzv : i.zero = some z)
    (hzs : z.cells.size = i.size)
    {base : Option Addr} {sLen sCap n : Nat} {xv : Value} (hlen : ∀ w', (Builtin.lenOf xv).run P w' = .ok n w') (hlt : sCap < sLen + n) (hb : (sLen + n) * i.bytes ≤ 140737488355328) (hb0 : i.bytes ≠ 0)
    {old new : Array Value} (hold : (Builtin.firstCells i.size sLen (.slice base sLen sCap)).run P w.drew = .ok old w.drew) (hnew : (Builtin.firstCells i.size n xv).run P w.drew = .ok new w.drew) (hsz : old.size + new.size = (sLen + n) * i.size) :
    ∃ cap rest, (sLen + n ≤ cap ∧ cap ≤ 9223372036854775807) ∧ (old ++ new ++ rest).size = cap * i.size ∧ ∀ ty', (Builtin.append_ (ty :: u :: us).toArray ty' #[.slice base sLen sCap, xv]).run P w = .ok (.slice (some ⟨w.heap.size, 0, none⟩) (sLen + n) cap) (w.drew.alloc (.cells (old ++ new ++ rest) e)) := by
  have hz : (match du with | .int _ => true | _ => false) = false := by cases du <;> first | rfl | exact absurd rfl (hnz _)
  have e0 : (ty :: u :: us).toArray[0]? = some ty := rfl
  have e1 : (ty :: u :: us).toArray[1]? = some u := rfl
  have a0 : (#[.slice base sLen sCap, xv] : Array Value)[0]? = some (.slice base sLen sCap) := rfl
  have a1 : (#[.slice base sLen sCap, xv] : Array Value)[1]? = some xv := rfl
  have hn : ¬ (sLen + n ≤ sCap) := by omega
  have hfit : ¬ (Builtin.nextslicecap (sLen + n) sCap * i.bytes > 2 ^ 48) := by have := growslice_fits (bytes := i.bytes) hlt hb; omega
  have hc1 : ¬ (((sLen + n : Nat) : Int) > IntKind.i64.max ∧ (false = true ∨ i.bytes = 0)) := by rintro ⟨_, h | h⟩ <;> simp_all
  have hforced : (Question.appendCap (sLen + n) sCap e).forced = false := rfl
  have hdrew : ({ w with drawn := w.drawn + 1 } : World) = w.drew := rfl
  refine ⟨(Question.appendCap (sLen + n) sCap e).cut (w.tape w.drawn (.appendCap (sLen + n) sCap e)), Builtin.zeroCells z.cells ((Question.appendCap (sLen + n) sCap e).cut (w.tape w.drawn (.appendCap (sLen + n) sCap e)) - (sLen + n)), ⟨Nat.le_add_right _ _, grownCap_le_maxLen w (sLen + n) sCap e (by have h1 : sLen + n ≤ (sLen + n) * i.bytes := Nat.le_mul_of_pos_right _ (by omega); unfold maxLen; omega)⟩, ?_, ?_⟩
  · have hge : sLen + n ≤ (Question.appendCap (sLen + n) sCap e).cut (w.tape w.drawn (.appendCap (sLen + n) sCap e)) := Nat.le_add_right _ _
    rw [Array.size_append, Array.size_append, zeroCells_size, hsz, hzs, ← Nat.add_mul]
    congr 1; omega
  · intro ty'
    simp only [Builtin.append_, e0, e1, a0, a1, Sem.run_bind, run_underlying ht, run_underlying hu, Result.andThen_ok, sizeOf, typeInfo, run_program, hi, Sem.run_pure, hz, Bool.false_eq_true, if_false, hlen, hn, if_true, Bool.not_false]
    simp only [hc1, hfit, if_false, false_or, Sem.run_bind, Sem.run_pure, Sem.run_ite, Result.andThen_ok, run_choose, hforced, Bool.false_eq_true, run_askRoom, hdrew, hold, hnew, zeroValue, typeInfo, run_program, hi, hzv, newRow, run_newObj]
    simp [hi, hb0, hfit]
    rfl

theorem PRel.append {c d : List AV} {cs rest : Array Value} {vs : List Value} (h : LRel ρ c cs) (h' : LRel ρ d vs.toArray) : PRel ρ (c ++ d) (cs ++ vs.toArray ++ rest) := by
  have hh := h.append h'
  refine ⟨by rw [hh.1]; simp, fun i a ha => ?_⟩
  obtain ⟨v, hv, hr⟩ := hh.get ha
  refine ⟨v, ?_, hr⟩
  have hi : i < (cs ++ vs.toArray).size := (Array.getElem?_eq_some_iff.1 hv).1
  rw [Array.getElem?_append_left hi]; exact hv

theorem PRel.take {l : List AV} {cs : Array Value} (h : PRel ρ l cs) (n : Nat) : PRel ρ (l.take n) cs :=
  ⟨by rw [List.length_take]; have := h.1; omega, fun i a ha => h.2 i a (by
    rw [List.getElem?_take] at ha
    split at ha
    · exact ha
    · cases ha)⟩
theorem PRel.extend {l d : List AV} {cs : Array Value} {vs : List Value} {off : Nat} (h : PRel ρ l cs) (h' : LRel ρ d vs.toArray) (hl : l.length = off) (hle : off + d.length ≤ cs.size) : PRel ρ (l ++ d) (setArr cs off vs) := by
  have key : ∀ (d : List AV) (vs : List Value) (l : List AV) (cs : Array Value), PRel ρ l cs → LRel ρ d vs.toArray → l.length + d.length ≤ cs.size → PRel ρ (l ++ d) (setArr cs l.length vs) := by
    intro d
    induction d with
    | nil =>
      intro vs l cs h h' _
      have : vs = [] := List.eq_nil_of_length_eq_zero (by have := h'.1; simpa using this.symm)
      subst this; simpa [setArr] using h
    | cons a d ih =>
      intro vs l cs h h' hle
      match vs, h' with
      | [], h' => have := h'.1; simp at this
      | v :: vs, h' =>
        simp only [List.length_cons] at hle
        have h0 : VRel ρ a v := h'.2 0 a v rfl (by simp)
        have h1 : PRel ρ (l ++ [a]) (cs.setIfInBounds l.length v) := by
          refine ⟨by simp; omega, fun i x hx => ?_⟩
          by_cases hi : i < l.length
          · rw [List.getElem?_append_left hi] at hx
            rw [Array.getElem?_setIfInBounds_ne (by omega)]
            exact h.2 i x hx
          · have : i = l.length := by have := (List.getElem?_eq_some_iff.1 hx).1; simp at this; omega
            subst this
            simp at hx; subst hx
            exact ⟨v, by have : l.length < cs.size := by omega
                         simp [this], h0⟩
        have hl' : LRel ρ d vs.toArray := ⟨by have := h'.1; simpa using this, fun i a v ha hv => h'.2 (i + 1) a v (by simpa using ha) (by simpa using hv)⟩
        have := ih vs (l ++ [a]) (cs.setIfInBounds l.length v) h1 hl' (by simp; omega)
        rw [List.append_assoc, List.length_append] at this
        exact this
  subst hl
  exact key d vs l cs h h' hle

theorem appendZ_run {ty e u : TypeId} {us : List TypeId} {kk k : IntKind} {i : TypeInfo} {zv : Value} (hd : P.underlying ty = some (.slice e)) (hdu : P.underlying u = some (.int kk)) (hi : P.info? e = some i) (hzv : i.zero = some zv) (hzs : zv.cells.size = i.size) (hs0 : i.size ≠ 0) (hb0 : i.bytes ≠ 0)
    {n : Nat} (hn : 0 < n) (hb : n * i.bytes ≤ 140737488355328) (hnm : n ≤ 9223372036854775806) :
    ∃ cap rest, (n ≤ cap ∧ cap ≤ 9223372036854775807) ∧ (#[] ++ Builtin.zeroCells zv.cells n ++ rest).size = cap * i.size ∧ ∀ ty', (Builtin.append_ (ty :: u :: us).toArray ty' #[.slice none 0 0, .int k (n : Nat)]).run P w = .ok (.slice (some ⟨w.heap.size, 0, none⟩) n cap) (w.drew.alloc (.cells (#[] ++ Builtin.zeroCells zv.cells n ++ rest) e)) := by
  have e0 : (ty :: u :: us).toArray[0]? = some ty := rfl
  have e1 : (ty :: u :: us).toArray[1]? = some u := rfl
  have a0 : (#[.slice none 0 0, .int k (n : Nat)] : Array Value)[0]? = some (.slice none 0 0) := rfl
  have a1 : (#[.slice none 0 0, .int k (n : Nat)] : Array Value)[1]? = some (.int k (n : Nat)) := rfl
  have hw : IntKind.i64.wrap (n : Int) = (n : Nat) := by rw [IntKind.wrap_i64]; omega
  have h1 : ¬ ((n : Int) < 0) := by omega
  have h2 : ¬ ((n : Int) * i.bytes > 2 ^ 48) := by
    have : ((n * i.bytes : Nat) : Int) = (n : Int) * i.bytes := by push_cast; rfl
    omega
  have h3 : ¬ (n ≤ 0) := by omega
  have h4 : ¬ (((n : Nat) : Int) > IntKind.i64.max) := by
    have : IntKind.i64.max = 9223372036854775807 := by decide
    omega
  have hlt : 0 < 0 + n := by omega
  have hfit : ¬ (Builtin.nextslicecap (0 + n) 0 * i.bytes > 2 ^ 48) := by have := growslice_fits (bytes := i.bytes) hlt (by rw [Nat.zero_add]; exact hb); omega
  rw [Nat.zero_add] at hfit
  have hforced : (Question.appendCap n 0 e).forced = false := rfl
  have hdrew : ({ w with drawn := w.drawn + 1 } : World) = w.drew := rfl
  have h5 : ¬ (n * i.size = 0) := by
    intro h
    rcases Nat.mul_eq_zero.1 h with h | h
    · omega
    · exact hs0 h
  refine ⟨(Question.appendCap n 0 e).cut (w.tape w.drawn (.appendCap n 0 e)), Builtin.zeroCells zv.cells ((Question.appendCap n 0 e).cut (w.tape w.drawn (.appendCap n 0 e)) - n), ⟨Nat.le_add_right _ _, grownCap_le_maxLen w n 0 e (by unfold maxLen; omega)⟩, ?_, ?_⟩
  · have hge : n ≤ (Question.appendCap n 0 e).cut (w.tape w.drawn (.appendCap n 0 e)) := Nat.le_add_right _ _
    rw [Array.size_append, Array.size_append, zeroCells_size, zeroCells_size, hzs]
    simp only [List.size_toArray, List.length_nil, Nat.zero_add]
    rw [← Nat.add_mul]
    congr 1; omega
  · intro ty'
    simp only [Builtin.append_, e0, e1, a0, a1, Sem.run_bind, run_underlying hd, run_underlying hdu, Result.andThen_ok, sizeOf, typeInfo, run_program, hi, Sem.run_pure, asInt, asIntOf, hw, h1, h2, if_true, if_false, Int.toNat_natCast, Nat.zero_add, h3, Sem.run_ite]
    have hold : (Builtin.firstCells i.size 0 (.slice none 0 0)).run P w.drew = .ok #[] w.drew := by simp [Builtin.firstCells]
    rw [if_neg (fun h => h4 h.1), if_neg hfit]
    simp only [h5, if_false, Sem.run_bind, Sem.run_pure, Sem.run_ite, Result.andThen_ok, run_choose, hforced, Bool.false_eq_true, run_askRoom, hdrew, hold, Bool.not_true, zeroValue, typeInfo, run_program, hi, hzv, newRow, run_newObj]
    rfl
theorem eop_append {s x : Operand} {ats : Array TypeId} {args : Array Operand} (hc : compCall P { callee := .builtin .append, args := args, argTypes := ats } = some op) (he : eop id op t σ = some (v, σ')) (hE : HE η ρ t op.opds) (st : St ρ σ w) (hρ : ρ id = none) (hid : id < σ.next) (hget : σ.get id = none) :
    ERun P η (.call { callee := .builtin .append, args := args, argTypes := ats }) w ρ σ id v σ' := by
  simp only [compCall] at hc
  split at hc
  all_goals (try (rename_i heq _ _; cases heq; done))
  all_goals (try (rename_i heq _; cases heq; done))
  all_goals (try (cases hc; done))
  rename_i s x ty u us _ hargs hats
  have ea := two_args hargs
  obtain ⟨us', et⟩ : ∃ us', ats = (ty :: u :: us').toArray := ⟨us, by rw [← hats]⟩
  subst ea; subst et
  simp only [Option.bind_eq_some_iff] at hc
  obtain ⟨d, hd, du, hdu, a, ha, b, hb, hc⟩ := hc
  cases d <;> simp only [reduceCtorEq, Option.bind_eq_some_iff] at hc
  rename_i e
  obtain ⟨i, hi, hc⟩ := hc
  have hex0 : ∀ (ty' : TypeId) (dst : Option Tmp) (pos : String) (after : Array Edge) (g : Option (Nat × Bool)) {r : Value} {w2 : World}, (Builtin.append_ (ty :: u :: us').toArray ty' #[η s, η x]).run P w = .ok r w2 →
      (execOp η ⟨dst, .call { callee := .builtin .append, args := #[s, x], argTypes := (ty :: u :: us').toArray }, ty', pos, after, g⟩).run P w = .ok (.value r) w2 := by
    intro ty' dst pos after g r w2 h
    rw [exec_builtin]
    have : (#[s, x] : Array Operand).map η = #[η s, η x] := by simp
    rw [this]
    simp only [builtin, Sem.run_bind, h, Result.andThen_ok, Sem.run_pure]
  by_cases hint : ∃ k, du = .int k
  · obtain ⟨kk, rfl⟩ := hint
    simp only at hc
    split at hc
    · cases hc
    rename_i hcond
    simp only [Option.map_eq_some_iff] at hc
    obtain ⟨z, hz, rfl⟩ := hc
    obtain ⟨i', zv, hi', hzv, hzr, hz1⟩ := zeroOf_spec hz
    obtain rfl : i = i' := by rw [hi] at hi'; injection hi'
    have hb0 : i.bytes ≠ 0 := fun h => hcond (.inr (.inl h))
    have hs0 : i.size ≠ 0 := fun h => hcond (.inl h)
    have hzs : zv.cells.size = i.size := by
      have h2 : (i.zero.map fun z => z.cells.size) = some i.size := Decidable.byContradiction fun h => hcond (.inr (.inr h))
      rw [hzv] at h2
      simpa using h2
    simp only [eop, Option.bind_eq_some_iff] at he
    obtain ⟨sv, hsv, nv, hnv, he⟩ := he
    have h1 := hE s a sv ha (by simp [AOp.opds]) hsv
    have h2 := hE x b nv hb (by simp [AOp.opds]) hnv
    cases sv <;> try simp only [reduceCtorEq] at he
    cases nv <;> try simp only [reduceCtorEq] at he
    rename_i k m
    have e1 := h1.nils_inv
    have e2 := h2.int_inv
    rw [e1, e2] at hex0
    split at he
    · rename_i h0
      subst h0
      simp only [Option.some.injEq, Prod.mk.injEq] at he
      obtain ⟨rfl, rfl⟩ := he
      refine .mk (v' := .slice none 0 0) (w' := w) (fun dst ty' pos after g => hex0 ty' dst pos after g ?_) .nils (.refl st)
      have a0 : (#[.slice none 0 0, .int k 0] : Array Value)[0]? = some (.slice none 0 0) := rfl
      have a1 : (#[.slice none 0 0, .int k 0] : Array Value)[1]? = some (.int k 0) := rfl
      have c0 : (ty :: u :: us').toArray[0]? = some ty := rfl
      have c1 : (ty :: u :: us').toArray[1]? = some u := rfl
      have hw : IntKind.i64.wrap 0 = 0 := by decide
      simp [Builtin.append_, c0, c1, a0, a1, Sem.run_bind, run_underlying hd, run_underlying hdu, Result.andThen_ok, sizeOf, typeInfo, run_program, hi, Sem.run_pure, asInt, asIntOf, hw]
    · rename_i h0
      split at he
      · rename_i hcnd
        simp only [Option.some.injEq, Prod.mk.injEq] at he
        obtain ⟨rfl, rfl⟩ := he
        obtain ⟨n, rfl⟩ : ∃ n : Nat, m = n := ⟨m.toNat, by omega⟩
        rw [Int.toNat_natCast] at hcnd ⊢
        obtain ⟨cap, rest, hcap, hsz, hrun⟩ := appendZ_run (w := w) (us := us') (k := k) hd hdu hi hzv hzs hs0 hb0 (n := n) (by omega) hcnd.2.1 hcnd.2.2.1
        have hrel : LRel ρ (List.replicate n z).flatten (Builtin.zeroCells zv.cells n) := by
          have := replicate_getElem (hzr ρ) n
          rw [(hzr ρ).1] at this
          exact this
        have hN : NRes id ρ w (.slice id 0 n (.op i.size)) (some (.rw (List.replicate n z).flatten)) (.slice (some ⟨w.heap.size, 0, none⟩) n cap) (w.drew.alloc (.cells (#[] ++ Builtin.zeroCells zv.cells n ++ rest) e)) (updR ρ id (w.heap.size, 0, (#[] ++ Builtin.zeroCells zv.cells n ++ rest).size)) := by
          have hP := PRel.append (vs := (Builtin.zeroCells zv.cells n).toList) (rest := rest) (LRel.nil ρ) (by simpa using hrel)
          rw [List.nil_append] at hP
          have hP : PRel ρ (List.replicate n z).flatten (#[] ++ Builtin.zeroCells zv.cells n ++ rest) := by simpa using hP
          exact .alloc (fz := (0, 0)) hρ (.slice updR_self (by omega) (fun k hk => by cases hk) (fun s hs _ => by cases hs; simp only [Nat.zero_add]; exact Nat.le_of_eq hsz.symm) (.inr rfl)) rfl hP.1 (by simp) hP.2 rfl rfl rfl
        exact .mk (fun dst ty' pos after g => hex0 ty' dst pos after g (hrun ty')) hN.val (hN.step_add st hρ hid)
      · cases he
  have hnz : ∀ k, du ≠ .int k := fun k hk => hint ⟨k, hk⟩
  have hc' : ¬ (i.size = 0 ∨ i.bytes = 0 ∨ (i.zero.map fun z => z.cells.size) ≠ some i.size) ∧ op = .append i.size i.bytes a b := by
    cases du with
    | int k => exact absurd rfl (hnz k)
    | _ =>
      simp only at hc
      split at hc
      · cases hc
      · rename_i h; cases hc; exact ⟨h, rfl⟩
  obtain ⟨hcond, rfl⟩ := hc'
  have hb0 : i.bytes ≠ 0 := fun h => hcond (.inr (.inl h))
  obtain ⟨zv, hzv, hzs⟩ : ∃ z, i.zero = some z ∧ z.cells.size = i.size := by
    have h2 : (i.zero.map fun z => z.cells.size) = some i.size := Decidable.byContradiction fun h => hcond (.inr (.inr h))
    simpa [Option.map_eq_some_iff] using h2
  simp only [eop, Option.bind_eq_some_iff] at he
  obtain ⟨sv, hsv, xv, hxv, nc, hnc, he⟩ := he
  have h1 := hE s a sv ha (by simp [AOp.opds]) hsv
  have h2 := hE x b xv hb (by simp [AOp.opds]) hxv
  obtain ⟨hlen, hcl, vs, hfirst, hvs⟩ := src_run (P := P) hnc h2 st
  obtain ⟨_, _, vs', hfirst', hvs'⟩ := src_run (P := P) hnc h2 (st.congr (w' := w.drew) rfl)
  have hex : ∀ (ty' : TypeId) (dst : Option Tmp) (pos : String) (after : Array Edge) (g : Option (Nat × Bool)) {r : Value} {w2 : World}, (Builtin.append_ (ty :: u :: us').toArray ty' #[η s, η x]).run P w = .ok r w2 →
      (execOp η ⟨dst, .call { callee := .builtin .append, args := #[s, x], argTypes := (ty :: u :: us').toArray }, ty', pos, after, g⟩).run P w = .ok (.value r) w2 := by
    intro ty' dst pos after g r w2 h
    rw [exec_builtin]
    have : (#[s, x] : Array Operand).map η = #[η s, η x] := by simp
    rw [this]
    simp only [builtin, Sem.run_bind, h, Result.andThen_ok, Sem.run_pure]
  -- an append of nothing
  have none_case : ∀ {base : Option Addr} {sLen sCap : Nat}, η s = .slice base sLen sCap → sLen ≤ sCap → nc.1 = 0 → v = sv → σ' = σ → ERun P η (.call { callee := .builtin .append, args := #[s, x], argTypes := (ty :: u :: us').toArray }) w ρ σ id v σ' := by
    intro base sLen sCap e1 hle h0 hv hσ
    subst hv; subst hσ
    have hvs0 : vs = [] := by
      have := hvs.1; rw [hcl, h0, Nat.zero_mul] at this; exact List.eq_nil_of_length_eq_zero (by simpa using this.symm)
    subst hvs0
    refine .mk (v' := η s) (w' := w) (fun dst ty' pos after g => hex ty' dst pos after g ?_) h1 (.refl st)
    rw [e1]
    have := append_room (base := base) (sLen := sLen) (sCap := sCap) (xv := η x) (us := us') hd hdu hnz hi hlen (by rw [h0]; exact hle) hfirst (w2 := w) (by cases base <;> simp [storeCells])
    rw [this ty', h0]; rfl
  cases sv <;> simp only [reduceCtorEq] at he
  case nils =>
    have e1 := h1.nils_inv
    split at he
    · rename_i h0
      simp only [Option.some.injEq, Prod.mk.injEq] at he
      exact none_case e1 (Nat.le_refl _) h0 he.1.symm he.2.symm
    · rename_i h0
      split at he
      · rename_i hcnd
        simp only [Option.some.injEq, Prod.mk.injEq] at he
        obtain ⟨rfl, rfl⟩ := he
        have hold : (Builtin.firstCells i.size 0 (.slice none 0 0)).run P w.drew = .ok #[] w.drew := by simp [Builtin.firstCells]
        have hvl : vs'.toArray.size = nc.1 * i.size := by rw [← hvs'.1, hcl]
        obtain ⟨cap, rest, hcap, hsz, hrun⟩ := append_grow (w := w) (us := us') (xv := η x) hd hdu hnz hi hzv hzs hlen (sLen := 0) (sCap := 0) (base := none) (by omega) (by rw [Nat.zero_add]; exact hcnd.1) hb0 hold hfirst' (by rw [hvl]; simp)
        have hN : NRes id ρ w (.slice id 0 nc.1 (.op i.size)) (some (.rw nc.2)) (.slice (some ⟨w.heap.size, 0, none⟩) nc.1 cap) (w.drew.alloc (.cells (#[] ++ vs'.toArray ++ rest) e)) (updR ρ id (w.heap.size, 0, (#[] ++ vs'.toArray ++ rest).size)) := by
          have hP := PRel.append (rest := rest) (LRel.nil ρ) hvs'
          rw [List.nil_append] at hP
          exact .alloc (fz := (0, 0)) hρ (.slice updR_self (by omega) (fun k hk => by cases hk) (fun s hs _ => by cases hs; simp only [Nat.zero_add]; exact Nat.le_of_eq hsz.symm) (.inr rfl)) rfl hP.1 (by simp) hP.2 rfl rfl rfl
        refine .mk (fun dst ty' pos after g => hex ty' dst pos after g ?_) hN.val (hN.step_add st hρ hid)
        have := hrun ty'
        rw [Nat.zero_add] at this
        rw [e1]; exact this
      · cases he
  case slice bb o n c =>
    obtain ⟨b', o', m, cap, ad, hρb, e1, hncap, hck, hop, had⟩ := h1.slice_inv
    split at he
    · rename_i h0
      simp only [Option.some.injEq, Prod.mk.injEq] at he
      exact none_case e1 hncap.1 h0 he.1.symm he.2.symm
    · rename_i h0
      have hposn : 0 < nc.1 := by omega
      have hvl : vs.toArray.size = nc.1 * i.size := by rw [← hvs.1, hcl]
      have hvl' : vs'.toArray.size = nc.1 * i.size := by rw [← hvs'.1, hcl]
      have hex1 := hex
      rw [e1] at hex1
      -- a row that is made anew
      have grow : ∀ {l : List AV} {σ1 : Mem}, σ.cells bb o (n * i.size) = some l → Step (· = id) ρ σ w ρ σ1 w → σ1.next = σ.next → cap < n + nc.1 → (n + nc.1) * i.bytes ≤ 140737488355328 →
          ERun P η (.call { callee := .builtin .append, args := #[s, x], argTypes := (ty :: u :: us').toArray }) w ρ σ id (.slice id 0 (n + nc.1) (.op i.size)) (σ1.put id (some (.rw (l ++ nc.2)))) := by
        intro l σ1 hl hst hnx hlt hbyt
        have hsrc : srcCells σ i.size (.slice bb o n c) = some (n, l) := by simp [srcCells, hl]
        obtain ⟨_, hll, os, hof, hos⟩ := src_run (P := P) hsrc h1 (st.congr (w' := w.drew) rfl)
        rw [e1] at hof
        obtain ⟨cap2, rest, hcap2, hsz2, hrun⟩ := append_grow (w := w) (us := us') (xv := η x) hd hdu hnz hi hzv hzs hlen hlt hbyt hb0 hof hfirst' (by rw [hvl', ← hos.1, hll, ← Nat.add_mul])
        have hN : NRes id ρ w (.slice id 0 (n + nc.1) (.op i.size)) (some (.rw (l ++ nc.2))) (.slice (some ⟨w.heap.size, 0, none⟩) (n + nc.1) cap2) (w.drew.alloc (.cells (os.toArray ++ vs'.toArray ++ rest) e)) (updR ρ id (w.heap.size, 0, (os.toArray ++ vs'.toArray ++ rest).size)) := by
          have hP := PRel.append (rest := rest) hos hvs'
          exact .alloc (fz := (0, 0)) hρ (.slice updR_self hcap2 (fun k hk => by cases hk) (fun s hs _ => by cases hs; simp only [Nat.zero_add]; exact Nat.le_of_eq hsz2.symm) (.inr rfl)) rfl hP.1 (by simp) hP.2 rfl rfl rfl
        exact .mk (fun dst ty' pos after g => hex1 ty' dst pos after g (hrun ty')) hN.val (hst.trans (hN.step_add hst.st hρ (by rw [hnx]; exact hid)) (fun _ e => e) (fun _ e => e))
      cases c with
      | ex k =>
        have hk := hck k rfl
        simp only at he
        split at he
        · rename_i hle
          split at he
          · rename_i l hgl
            split at he
            · rename_i hcnd
              simp only [Option.some.injEq, Prod.mk.injEq] at he
              obtain ⟨rfl, rfl⟩ := he
              obtain ⟨hz0, cs, et, fz, hh, hP, hmm, hfz⟩ := (st.rel bb _ _ hgl hρb).rw_inv
              simp only at hz0; subst hz0
              have had := had.resolve_left (by omega)
              have hle5 : o + n * i.size + nc.2.length ≤ cs.size := by
                rw [hcl]; have h4 := hcnd.1; rw [Nat.add_mul] at h4; have := hP.1; omega
              have hlen2 : o + n * i.size + vs.length ≤ cs.size := by
                have h3 : vs.length = nc.1 * i.size := by simpa using hvl
                have h4 := hcnd.1
                rw [Nat.add_mul] at h4
                have := hP.1; omega
              obtain ⟨w', r1, r2, r3, r4, r5, r6, r7⟩ := run_storeBlock (P := P) b' (o + n * i.size) et fz vs 0 cs w hh hfz (by omega) (hvs.oneCell hcnd.2)
              rw [Nat.add_zero] at r2
              refine .mk (v' := .slice (some ad) (n + nc.1) cap) (w' := w') (ρ' := ρ) (fun dst ty' pos after g => hex1 ty' dst pos after g (append_room (us := us') hd hdu hnz hi hlen (by omega) hfirst (w2 := w') ?_ ty'))
                (.slice hρb (by omega) (fun k' hk' => by cases hk'; exact hk) (fun s hs _ => by cases hs) (.inr had))
                (.update st hgl rfl rfl hρb (.rw_mk rfl r2 (PRel.setAt _ _ _ _ _ hP hvs hle5) (by rw [setArr_size]; exact hmm) (fun i hi => hfz i (by rwa [setArr_size] at hi))) r3 r4 r5 r6 r7)
              simp only [had, add_at, Nat.zero_add]
              exact r1
            · cases he
          · cases he
        · rename_i hle
          split at he
          · rename_i hcnd
            simp only [Option.bind_eq_some_iff] at he
            obtain ⟨l, hl, he⟩ := he
            split at he
            · simp only [Option.some.injEq, Prod.mk.injEq] at he
              obtain ⟨rfl, rfl⟩ := he
              exact grow hl (.refl st) rfl (by omega) hcnd.1
            · cases he
          · cases he
      | op sz =>
        simp only at he
        split at he
        · rename_i l hgl
          split at he
          · rename_i hcnd
            obtain ⟨rfl, rfl, hll, hbyt, _, hone, hlone⟩ := hcnd
            simp only [Option.some.injEq, Prod.mk.injEq] at he
            obtain ⟨rfl, rfl⟩ := he
            obtain ⟨hz0, cs, et, fz, hh, hP, hmm, hfz⟩ := (st.rel bb _ _ hgl hρb).rw_inv
            simp only at hz0; subst hz0
            have hcells : σ.cells bb 0 (n * i.size) = some (l.take (n * i.size)) := by
              simp only [Mem.cells, hgl, Option.bind_some, Blk.cellsR, Nat.zero_add, hll, if_true, List.drop_zero]
            have hPt : PRel ρ (l.take (n * i.size)) cs := hP.take _
            have hltk : (l.take (n * i.size)).length = n * i.size := by rw [List.length_take]; omega
            by_cases hin : n + nc.1 ≤ cap
            · have had := had.resolve_left (by omega)
              have hroom : (n + nc.1) * i.size ≤ cs.size := by
                have h3 := hop i.size rfl (fun h => hcond (.inl h))
                have h4 : (n + nc.1) * i.size ≤ cap * i.size := Nat.mul_le_mul_right _ hin
                simp only at hmm; omega
              rw [Nat.add_mul] at hroom
              have hvlen : vs.length = nc.1 * i.size := by simpa using hvl
              obtain ⟨w', r1, r2, r3, r4, r5, r6, r7⟩ := run_storeBlock (P := P) b' (n * i.size) et fz vs 0 cs w hh hfz (by omega) (hvs.oneCell hone)
              rw [Nat.add_zero] at r2
              refine .mk (v' := .slice (some ad) (n + nc.1) cap) (w' := w') (ρ' := updR ρ id (b', 0, m)) (fun dst ty' pos after g => hex1 ty' dst pos after g (append_room (us := us') hd hdu hnz hi hlen hin hfirst (w2 := w') ?_ ty'))
                (.slice updR_self ⟨hin, hncap.2⟩ (fun k' hk' => by cases hk') (fun s hs h0 => by cases hs; have := hop i.size rfl h0; omega) (.inr (by rw [had])))
                (.recycle st hgl rfl rfl hρb hρ hid (.rw_mk rfl r2 (PRel.extend hPt hvs hltk (by rw [hcl]; omega)) (by rw [setArr_size]; exact hmm) (fun i hi => hfz i (by rwa [setArr_size] at hi))) r3 r4 r5 r6 r7)
              simp only [had, add_at, Nat.zero_add]
              exact r1
            · exact grow hcells (.erase st hρb) rfl (by omega) hbyt
          · cases he
        · cases he
end
end Go.Vit
end

section
namespace Go.Vit
section
variable {P : Program} {w : World} {ρ : Ren} {σ σ' : Mem} {t : Tmps} {η : Operand → Value} {id : Nat} {v : AV} {op : AOp}

theorem first_run {size n : Nat} {xa : AV} {l : List AV} (h : (match xa with
      | .nils => some []
      | .slice b' o' _ _ => σ.cells b' o' (n * size)
      | .str s => some ((bytesOf s).take n)
      | _ => none) = some l) (hs : ∀ s, xa = .str s → size = 1 ∧ n ≤ s.size) (hn : xa = .nils → n = 0) (hle : ∀ b o k c, xa = .slice b o k c → n ≤ k) {u : Value} (hx : VRel ρ xa u) (st : St ρ σ w) :
    l.length = n * size ∧ ∃ vs : List Value, (Builtin.firstCells size n u).run P w = .ok vs.toArray w ∧ LRel ρ l vs.toArray := by
  cases xa <;> simp only [reduceCtorEq, Option.some.injEq] at h
  case nils =>
    subst h; rw [hx.nils_inv]
    exact ⟨by rw [hn rfl]; simp, [], by simp [Builtin.firstCells], LRel.nil ρ⟩
  case slice b o k c =>
    obtain ⟨b', o', _, cap, ad, hρb, e1, hncap, _, _, had⟩ := hx.slice_inv
    obtain ⟨hlen, cs, hcl, hcell, hrel⟩ := st.cells h hρb
    rw [e1]
    refine ⟨hlen, cs, ?_, .of_list (by rw [hlen, hcl]) hrel⟩
    rcases Nat.eq_zero_or_pos n with h0 | h0
    · subst h0
      rw [Nat.zero_mul] at hcl
      have : cs = [] := List.eq_nil_of_length_eq_zero hcl
      subst this; simp [Builtin.firstCells, loadCells, loadCellsFrom]
    · have := hle b o k c rfl
      have hcap : ad = ⟨b', o' + o, none⟩ := had.resolve_left (by omega)
      exact run_firstCells_some (P := P) w size n ad k cap cs hcl (fun j v hj => by rw [hcap, add_at]; exact hcell j v hj)
  case str s =>
    obtain ⟨h1, h2⟩ := hs s rfl
    subst h1; subst h
    rw [hx.str_inv]
    have h3 : s.data.size = s.size := rfl
    refine ⟨by simp [bytesOf, h3]; omega, (s.data.toList.take n).map (fun b => .int .u8 b.toNat), ?_, .of_list (by simp [bytesOf]) (fun i a v ha hv => ?_)⟩
    · simp only [Builtin.firstCells, Sem.run_pure]
      congr 1
      apply Array.ext'; simp [ByteArray.data_extract, List.map_take]
    · simp only [bytesOf, ← List.map_take, List.getElem?_map, Option.map_eq_some_iff] at ha hv
      obtain ⟨c, hc, rfl⟩ := ha
      obtain ⟨c', hc', rfl⟩ := hv
      rw [hc] at hc'; cases hc'; exact .int _ _

theorem eop_copy {ats : Array TypeId} {args : Array Operand} (hc : compCall P { callee := .builtin .copy, args := args, argTypes := ats } = some op) (he : eop id op t σ = some (v, σ')) (hE : HE η ρ t op.opds) (st : St ρ σ w) :
    ERun P η (.call { callee := .builtin .copy, args := args, argTypes := ats }) w ρ σ id v σ' := by
  simp only [compCall] at hc
  split at hc
  all_goals (try (rename_i heq _ _; cases heq; done))
  all_goals (try (rename_i heq _; cases heq; done))
  all_goals (try (cases hc; done))
  rename_i d s ty us _ hargs hats
  have ea := two_args hargs
  obtain ⟨us', et⟩ : ∃ us', ats = (ty :: us').toArray := ⟨us, by rw [← hats]⟩
  subst ea; subst et
  simp only [Option.bind_eq_some_iff] at hc
  obtain ⟨dd, hd, a, ha, b, hb, hc⟩ := hc
  cases dd <;> simp only [reduceCtorEq, Option.bind_eq_some_iff, Option.some.injEq] at hc
  rename_i e
  obtain ⟨i, hi, rfl⟩ := hc
  simp only [eop, Option.bind_eq_some_iff] at he
  obtain ⟨dv, hdv, sv, hsv, sn, hsn, he⟩ := he
  have h1 := hE d a dv ha (by simp [AOp.opds]) hdv
  have h2 := hE s b sv hb (by simp [AOp.opds]) hsv
  have hlen : ∀ w', (Builtin.lenOf (η s)).run P w' = .ok sn w' := by
    intro w'
    cases sv <;> simp only [reduceCtorEq, Option.some.injEq] at hsn
    case nils => subst hsn; rw [h2.nils_inv]; simp [Builtin.lenOf]
    case slice => subst hsn; obtain ⟨_, _, _, _, _, _, e1, _⟩ := h2.slice_inv; rw [e1]; simp [Builtin.lenOf]
    case str =>
      split at hsn
      · cases hsn; rw [h2.str_inv]; simp [Builtin.lenOf]
      · cases hsn
  have hstr : ∀ s', sv = .str s' → i.size = 1 ∧ sn = s'.size := by
    intro s' e; subst e
    simp only at hsn
    split at hsn
    · rename_i h; cases hsn; exact ⟨h, rfl⟩
    · cases hsn
  have hnil : sv = .nils → sn = 0 := by intro e; subst e; simp at hsn; exact hsn.symm
  have hsl : ∀ b o k c, sv = .slice b o k c → sn = k := by intro b o k c e; subst e; simp at hsn; exact hsn.symm
  have hex : ∀ (ty' : TypeId) (dst : Option Tmp) (pos : String) (after : Array Edge) (g : Option (Nat × Bool)) {r : Value} {w2 : World}, (Builtin.copy_ (ty :: us').toArray ty' #[η d, η s]).run P w = .ok r w2 →
      (execOp η ⟨dst, .call { callee := .builtin .copy, args := #[d, s], argTypes := (ty :: us').toArray }, ty', pos, after, g⟩).run P w = .ok (.value r) w2 := by
    intro ty' dst pos after g r w2 h
    rw [exec_builtin]
    have : (#[d, s] : Array Operand).map η = #[η d, η s] := by simp
    rw [this]
    simp only [builtin, Sem.run_bind, h, Result.andThen_ok, Sem.run_pure]
  have e0 : (ty :: us').toArray[0]? = some ty := rfl
  have a0 : ∀ x y : Value, (#[x, y] : Array Value)[0]? = some x := fun _ _ => rfl
  have a1 : ∀ x y : Value, (#[x, y] : Array Value)[1]? = some y := fun _ _ => rfl
  cases dv <;> simp only [reduceCtorEq] at he
  case nils =>
    simp only [Option.some.injEq, Prod.mk.injEq] at he
    obtain ⟨rfl, rfl⟩ := he
    have hf : (Builtin.firstCells i.size 0 (η s)).run P w = .ok #[] w := by
      cases sv <;> simp only [reduceCtorEq] at hsn
      case nils => rw [h2.nils_inv]; simp [Builtin.firstCells]
      case slice => obtain ⟨_, _, _, _, _, _, e1, _⟩ := h2.slice_inv; rw [e1]; simp [Builtin.firstCells, loadCells, loadCellsFrom]
      case str => rw [h2.str_inv]; simp [Builtin.firstCells, ByteArray.data_extract]
    refine .mk (v' := goInt 0) (w' := w) (ρ' := ρ) (fun dst ty' pos after g => hex ty' dst pos after g ?_) (.int _ _) (.refl st)
    have hm : Nat.min sn 0 = 0 := Nat.min_zero sn
    simp only [Builtin.copy_, e0, a0, a1, h1.nils_inv, Sem.run_bind, run_underlying hd, hlen, Result.andThen_ok, sizeOf, typeInfo, run_program, hi, Sem.run_pure, hm, hf]
    rfl
  case slice bb o n c =>
    simp only [Option.bind_eq_some_iff] at he
    obtain ⟨l, hl, he⟩ := he
    obtain ⟨b', o', m, cap, ad, hρb, e1, hncap, _, _, had⟩ := h1.slice_inv
    have hmin1 : Nat.min sn n ≤ sn := Nat.min_le_left _ _
    have hmin2 : Nat.min sn n ≤ n := Nat.min_le_right _ _
    obtain ⟨hll, vs, hf, hvs⟩ := first_run (P := P) (size := i.size) (n := Nat.min sn n) hl (fun s' e => ⟨(hstr s' e).1, by rw [← (hstr s' e).2]; exact hmin1⟩) (fun e => by have := hnil e; omega)
      (fun b o k c e => by rw [← hsl b o k c e]; exact hmin1) h2 st
    have hrun : ∀ {w2 : World} (ty' : TypeId), (storeCells ad vs).run P w = .ok () w2 → (Builtin.copy_ (ty :: us').toArray ty' #[η d, η s]).run P w = .ok (goInt (Nat.min sn n)) w2 := by
      intro w2 ty' h
      simp only [Builtin.copy_, e0, a0, a1, e1, Sem.run_bind, run_underlying hd, hlen, Result.andThen_ok, sizeOf, typeInfo, run_program, hi, Sem.run_pure, hf, h]
    split at he
    · rename_i h0
      simp only [Option.some.injEq, Prod.mk.injEq] at he
      obtain ⟨rfl, rfl⟩ := he
      have hv0 : vs = [] := List.eq_nil_of_length_eq_zero (by have := hvs.1; rw [hll, h0, Nat.zero_mul] at this; simpa using this.symm)
      subst hv0
      refine .mk (v' := goInt (Nat.min sn n)) (w' := w) (ρ' := ρ) (fun dst ty' pos after g => hex ty' dst pos after g (hrun ty' rfl)) (by rw [h0]; exact .int _ _) (.refl st)
    · rename_i h0
      split at he
      · rename_i cc hget
        split at he
        · rename_i hcnd
          simp only [Option.some.injEq, Prod.mk.injEq] at he
          obtain ⟨rfl, rfl⟩ := he
          obtain ⟨hz0, cs, et, fz, hh, hP, hmm, hfz⟩ := (st.rel bb _ _ hget hρb).rw_inv
          simp only at hz0; subst hz0
          have had := had.resolve_left (by omega)
          have hvl : vs.length = l.length := by have := hvs.1; simpa using this.symm
          have := hP.1
          obtain ⟨w', r1, r2, r3, r4, r5, r6, r7⟩ := run_storeBlock (P := P) b' o et fz vs 0 cs w hh hfz (by omega) (hvs.oneCell hcnd.2)
          rw [Nat.add_zero] at r2
          refine .mk (v' := goInt (Nat.min sn n)) (w' := w') (ρ' := ρ) (fun dst ty' pos after g => hex ty' dst pos after g (hrun ty' ?_)) (.int _ _)
            (.update st hget rfl rfl hρb (.rw_mk rfl r2 (PRel.setAt _ _ _ _ _ hP hvs (by omega)) (by rw [setArr_size]; exact hmm) (fun i hi => hfz i (by rwa [setArr_size] at hi))) r3 r4 r5 r6 r7)
          rw [had, Nat.zero_add]; exact r1
        · cases he
      · cases he

theorem run_setMap {r : Nat} {xs ys : Array MapEntry} {c c' : Nat} (h : w.heap[r]? = some (.map xs c)) : (setObj r (.map ys c')).run P w = .ok () { w with heap := w.heap.setIfInBounds r (.map ys c') } := by
  simp [setObj, Sem.run, h]

theorem map_update (st : St ρ σ w) {b b' o' m : Nat} {es es' : List (AV × AV × Nat)} {c c' : Nat} (hget : σ.get b = some (.map es c)) (hρb : ρ b = some (b', o', m)) {xs : Array MapEntry} (hER : ERel ρ es' xs.toList) :
    Step (· = id) ρ σ w ρ (σ.put b (some (.map es' c'))) { w with heap := w.heap.setIfInBounds b' (.map xs c') } := by
  obtain ⟨h0, ys, hh, _⟩ := (st.rel b _ _ hget hρb).map_inv
  have hlt : b' < w.heap.size := (Array.getElem?_eq_some_iff.1 hh).1
  refine .update st hget rfl rfl hρb (.map_mk h0 ?_ hER) (fun c hc => ?_) ?_ rfl rfl rfl
  · show (w.heap.setIfInBounds b' _)[b']? = _
    simp [hlt]
  · show (w.heap.setIfInBounds b' _)[c]? = _
    exact Array.getElem?_setIfInBounds_ne (fun e => hc e.symm)
  · show (w.heap.setIfInBounds b' _).size = _
    simp

theorem ERel.push {es : List (AV × AV × Nat)} {xs : Array MapEntry} (h : ERel ρ es xs.toList) {e : AV × AV × Nat} {x : MapEntry} (h1 : VRel ρ e.1 x.key) (h2 : VRel ρ e.2.1 x.val) (h3 : x.born = e.2.2) : ERel ρ (es ++ [e]) (xs.push x).toList := by
  refine ⟨by simp [h.1], fun i e' x' he hx => ?_⟩
  rw [Array.toList_push] at hx
  have hl := h.1
  by_cases hi : i < es.length
  · rw [List.getElem?_append_left hi] at he
    rw [List.getElem?_append_left (by omega)] at hx
    exact h.2 i e' x' he hx
  · have : i = es.length := by have := (List.getElem?_eq_some_iff.1 he).1; simp at this; omega
    subst this
    simp at he; subst he
    rw [← hl] at hx; simp at hx; subst hx
    exact ⟨h1, h2, h3⟩
theorem ERel.modify {es : List (AV × AV × Nat)} {xs : Array MapEntry} (h : ERel ρ es xs.toList) (i : Nat) (f : AV × AV × Nat → AV × AV × Nat) (g : MapEntry → MapEntry)
    (hf : ∀ e x, es[i]? = some e → xs[i]? = some x → VRel ρ (f e).1 (g x).key ∧ VRel ρ (f e).2.1 (g x).val ∧ (g x).born = (f e).2.2) : ERel ρ (es.modify i f) (xs.modify i g).toList := by
  refine ⟨by simp [h.1], fun j e' x' he hx => ?_⟩
  rw [Array.toList_modify] at hx
  rw [List.getElem?_modify] at he hx
  by_cases hij : i = j
  · subst hij
    simp only [if_true] at he hx
    cases e : es[i]? with
    | none => rw [e] at he; cases he
    | some e0 =>
      cases x : xs.toList[i]? with
      | none => rw [x] at hx; cases hx
      | some x0 =>
        rw [e] at he; rw [x] at hx
        cases he; cases hx
        exact hf e0 x0 e (by rw [← Array.getElem?_toList]; exact x)
  · simp only [hij, if_false] at he hx
    have he' : es[j]? = some e' := by simpa using he
    have hx' : xs.toList[j]? = some x' := by simpa using hx
    exact h.2 j e' x' he' hx'
end
end Go.Vit
end

section
namespace Go.Vit
section
variable {P : Program} {w : World} {ρ : Ren} {σ σ' : Mem} {t : Tmps} {η : Operand → Value} {id : Nat} {v : AV} {op : AOp}

theorem sameBits_stays {old new : Value} (h : ∀ n, Instr.sameBits n old new = true) : (Instr.keyThatStays old new).run P w = .ok new w := by
  have h1 : Instr.sameBits 10000 old new = true := h 10000
  unfold Instr.keyThatStays
  rw [if_pos h1]; rfl

theorem eop_mapUpd {o : Op} {ty : TypeId} {m k x : Operand} (ho : o = .mapUpdate ty m k x ∨ o = .insert ty m k x) (hc : compOp P o = some op) (he : eop id op t σ = some (v, σ')) (hE : HE η ρ t op.opds) (st : St ρ σ w) : ERun P η o w ρ σ id v σ' := by
  have hc' : (P.underlying ty).bind (fun d => (opd m).bind fun a => (opd k).bind fun b => (opd x).bind fun c => match d with
    | .map kt _ => (keyT P kt).map fun kk => AOp.mapUpd kk a b c
    | _ => none) = some op := by rcases ho with rfl | rfl <;> exact hc
  simp only [Option.bind_eq_some_iff] at hc'
  obtain ⟨d, hd, a, ha, b, hb, c, hcc, hc'⟩ := hc'
  cases d <;> simp only [reduceCtorEq, Option.map_eq_some_iff] at hc'
  rename_i kt e
  obtain ⟨kk, hkk, rfl⟩ := hc'
  obtain ⟨kd, hkd, hkt⟩ := keyT_spec hkk
  simp only [eop, Option.bind_eq_some_iff] at he
  obtain ⟨mv, hmv, kv, hkv, xv, hxv, he⟩ := he
  have h1 := hE m a mv ha (by simp [AOp.opds]) hmv
  have h2 := hE k b kv hb (by simp [AOp.opds]) hkv
  have h3 := hE x c xv hcc (by simp [AOp.opds]) hxv
  split at he
  · cases he
  · rename_i hkey
    have hkey : isKey kk kv = true := by simpa using hkey
    cases mv <;> simp only [reduceCtorEq] at he
    rename_i bb
    split at he
    · rename_i es clock hget
      simp only [Option.bind_eq_some_iff] at he
      obtain ⟨r, hr, he⟩ := he
      obtain ⟨b', o', mm, hρb, e1⟩ := h1.map_inv
      obtain ⟨_, xs, hh, hER⟩ := (st.rel bb _ _ hget hρb).map_inv
      have hck := checkKey_run (P := P) (w := w) hkd hkt hkey h2 false 9999
      have hfk := findKey_run (P := P) (w := w) hkd hkt hkey h2 hr hER
      have hexec : ∀ {w2 : World}, (Instr.mapUpdate ty (η m) (η k) (η x)).run P w = .ok () w2 → ∀ dst ty' pos after g, (execOp η ⟨dst, o, ty', pos, after, g⟩).run P w = .ok .skip w2 := by
        intro w2 h dst ty' pos after g
        rcases ho with rfl | rfl <;> simp only [execOp, Sem.run_bind, h, Result.andThen_ok, Sem.run_pure]
      cases r with
      | some i =>
        simp only [Option.some.injEq, Prod.mk.injEq] at he
        obtain ⟨rfl, rfl⟩ := he
        obtain ⟨y, hy, hf, hs⟩ := hfk.2 i rfl
        have hy' : xs[i]? = some y := by rw [Array.getElem?_toList] at hy; exact hy
        refine .unit (w' := { w with heap := w.heap.setIfInBounds b' (.map (xs.modify i fun e => { e with key := η k, val := η x }) clock) }) (hexec ?_) (map_update st hget hρb ?_)
        · simp only [Instr.mapUpdate, e1, Sem.run_bind, run_underlying hd, Result.andThen_ok, run_getMap hh, hck, hf, hy', Option.map_some, Option.getD_some, sameBits_stays hs, run_setMap hh]
        · exact hER.modify i _ _ (fun e x he hx => ⟨h2, h3, (hER.2 i e x he (by rw [Array.getElem?_toList]; exact hx)).2.2⟩)
      | none =>
        simp only [Option.some.injEq, Prod.mk.injEq] at he
        obtain ⟨rfl, rfl⟩ := he
        have hf := hfk.1 rfl
        refine .unit (w' := { w with heap := w.heap.setIfInBounds b' (.map (xs.push { key := η k, val := η x, born := clock }) (clock + 1)) }) (hexec ?_) (map_update st hget hρb ?_)
        · simp only [Instr.mapUpdate, e1, Sem.run_bind, run_underlying hd, Result.andThen_ok, run_getMap hh, hck, hf, run_setMap hh]
        · exact hER.push h2 h3 rfl
    · cases he

theorem eop_mapEnt {ty : TypeId} {m k : Operand} (hc : compOp P (.mapEntry ty m k) = some op) (he : eop id op t σ = some (v, σ')) (hE : HE η ρ t op.opds) (st : St ρ σ w) : ERun P η (.mapEntry ty m k) w ρ σ id v σ' := by
  simp only [compOp, Option.bind_eq_some_iff] at hc
  obtain ⟨d, hd, a, ha, b, hb, hc'⟩ := hc
  cases d <;> simp only [reduceCtorEq, Option.bind_eq_some_iff, Option.map_eq_some_iff] at hc'
  rename_i kt e
  obtain ⟨kk, hkk, ei, hei, zv, hzv, z, hz, rfl⟩ := hc'
  obtain ⟨kd, hkd, hkt⟩ := keyT_spec hkk
  simp only [eop, Option.bind_eq_some_iff] at he
  obtain ⟨mv, hmv, kv, hkv, he⟩ := he
  have h1 := hE m a mv ha (by simp [AOp.opds]) hmv
  have h2 := hE k b kv hb (by simp [AOp.opds]) hkv
  split at he
  · cases he
  · rename_i hkey
    have hkey : isKey kk kv = true := by simpa using hkey
    cases mv <;> simp only [reduceCtorEq] at he
    rename_i bb
    split at he
    · rename_i es clock hget
      simp only [Option.bind_eq_some_iff] at he
      obtain ⟨r, hr, he⟩ := he
      obtain ⟨b', o', mm, hρb, e1⟩ := h1.map_inv
      obtain ⟨_, xs, hh, hER⟩ := (st.rel bb _ _ hget hρb).map_inv
      have hck := checkKey_run (P := P) (w := w) hkd hkt hkey h2 false 9999
      have hfk := findKey_run (P := P) (w := w) hkd hkt hkey h2 hr hER
      have htup : ∀ {x : AV} {y : Value} {n : Nat}, VRel ρ x y → VRel ρ (.tup [x, .int .i64 n]) (.tuple #[y, goInt n]) := fun h => .tup rfl (fun i a v ha hv => by
        match i with
        | 0 => simp at ha hv; subst ha; subst hv; exact h
        | 1 => simp at ha hv; subst ha; subst hv; exact .int _ _
        | i + 2 => simp at ha)
      cases r with
      | some i =>
        simp only [Option.bind_eq_some_iff, Option.some.injEq, Prod.mk.injEq] at he
        obtain ⟨e', he', rfl, rfl⟩ := he
        obtain ⟨y, hy, hf, hs⟩ := hfk.2 i rfl
        have hrel := hER.2 i e' y he' hy
        rw [Array.getElem?_toList] at hy
        refine .mk (v' := .tuple #[y.val, goInt y.born]) (w' := { w with heap := w.heap.setIfInBounds b' (.map (xs.modify i fun e => { e with key := η k }) clock) }) (ρ' := ρ) (fun _ _ _ _ _ => ?_) (by rw [hrel.2.2]; exact htup hrel.2.1) (map_update st hget hρb ?_)
        · simp only [execOp, Instr.mapEntry, e1, Sem.run_bind, run_underlying hd, Result.andThen_ok, run_getMap hh, hck, hf, hy, Option.map_some, Option.getD_some, sameBits_stays hs, run_setMap hh, Sem.run_pure]
        · exact hER.modify i _ _ (fun e x he hx => by
            have := hER.2 i e x he (by rw [Array.getElem?_toList]; exact hx)
            exact ⟨h2, this.2.1, this.2.2⟩)
      | none =>
        simp only [Option.some.injEq, Prod.mk.injEq] at he
        obtain ⟨rfl, rfl⟩ := he
        have hf := hfk.1 rfl
        have hzr := ofV_rel hz ρ
        refine .mk (v' := .tuple #[zv, goInt clock]) (w' := { w with heap := w.heap.setIfInBounds b' (.map (xs.push { key := η k, val := zv, born := clock }) (clock + 1)) }) (ρ' := ρ) (fun _ _ _ _ _ => ?_) (htup hzr) (map_update st hget hρb ?_)
        · simp only [execOp, Instr.mapEntry, e1, Sem.run_bind, run_underlying hd, Result.andThen_ok, run_getMap hh, hck, hf, run_setMap hh, zeroValue, typeInfo, run_program, hei, hzv, Sem.run_pure]
        · exact hER.push h2 hzr rfl
    · cases he

theorem findIdx_rel {es : List (AV × AV × Nat)} {xs : List MapEntry} (h : ERel ρ es xs) (j : Int) : xs.findIdx? (fun e => (e.born : Int) == j) = es.findIdx? (fun e => (e.2.2 : Int) == j) := by
  have key : ∀ (es : List (AV × AV × Nat)) (xs : List MapEntry), xs.length = es.length → (∀ (i : Nat) e x, es[i]? = some e → xs[i]? = some x → x.born = e.2.2) → xs.findIdx? (fun e => (e.born : Int) == j) = es.findIdx? (fun e => (e.2.2 : Int) == j) := by
    intro es
    induction es with
    | nil => intro xs hl _; have : xs = [] := List.eq_nil_of_length_eq_zero hl; subst this; rfl
    | cons e es ih =>
      intro xs hl hb
      match xs, hl with
      | x :: xs, hl =>
        have h0 := hb 0 e x rfl rfl
        rw [List.findIdx?_cons, List.findIdx?_cons, h0, ih xs (by simpa using hl) (fun i e x he hx => hb (i + 1) e x (by simpa using he) (by simpa using hx))]
  exact key es xs h.1 (fun i e x he hx => (h.2 i e x he hx).2.2)

theorem eop_entSt {ty : TypeId} {m s x : Operand} (hc : compOp P (.entryStore ty m s x) = some op) (he : eop id op t σ = some (v, σ')) (hE : HE η ρ t op.opds) (st : St ρ σ w) : ERun P η (.entryStore ty m s x) w ρ σ id v σ' := by
  simp only [compOp, Option.bind_eq_some_iff, Option.map_eq_some_iff] at hc
  obtain ⟨a, ha, b, hb, c, hcc, rfl⟩ := hc
  simp only [eop, Option.bind_eq_some_iff] at he
  obtain ⟨mv, hmv, sv, hsv, xv, hxv, j, hj, he⟩ := he
  have h1 := hE m a mv ha (by simp [AOp.opds]) hmv
  obtain ⟨kk, e2⟩ := (hE s b sv hb (by simp [AOp.opds]) hsv).asI hj
  have h3 := hE x c xv hcc (by simp [AOp.opds]) hxv
  cases mv <;> simp only [reduceCtorEq] at he
  rename_i bb
  split at he
  · rename_i es clock hget
    simp only [Option.bind_eq_some_iff, Option.some.injEq, Prod.mk.injEq] at he
    obtain ⟨i, hi, rfl, rfl⟩ := he
    obtain ⟨b', o', mm, hρb, e1⟩ := h1.map_inv
    obtain ⟨_, xs, hh, hER⟩ := (st.rel bb _ _ hget hρb).map_inv
    have hidx : xs.findIdx? (fun e => (e.born : Int) == j) = some i := by
      have h7 := findIdx_rel hER j
      rw [hi] at h7
      rw [← h7]
      cases xs; simp
    refine .unit (w' := { w with heap := w.heap.setIfInBounds b' (.map (xs.modify i fun e => { e with val := η x }) clock) }) (fun _ _ _ _ _ => ?_) (map_update st hget hρb ?_)
    · simp only [execOp, Instr.entryStore, e1, e2, asInt, asIntOf, Sem.run_bind, run_getMap hh, Result.andThen_ok, Sem.run_pure, hidx, run_setMap hh]
    · exact hER.modify i _ _ (fun e x he hx => by
        have := hER.2 i e x he (by rw [Array.getElem?_toList]; exact hx)
        exact ⟨this.1, h3, this.2.2⟩)
  · cases he

theorem eop_del {ats : Array TypeId} {args : Array Operand} (hc : compCall P { callee := .builtin .delete, args := args, argTypes := ats } = some op) (he : eop id op t σ = some (v, σ')) (hE : HE η ρ t op.opds) (st : St ρ σ w) :
    ERun P η (.call { callee := .builtin .delete, args := args, argTypes := ats }) w ρ σ id v σ' := by
  simp only [compCall] at hc
  split at hc
  all_goals (try (rename_i heq _ _; cases heq; done))
  all_goals (try (rename_i heq _; cases heq; done))
  all_goals (try (cases hc; done))
  rename_i m k ty us _ hargs hats
  have ea := two_args hargs
  obtain ⟨us', et⟩ : ∃ us', ats = (ty :: us').toArray := ⟨us, by rw [← hats]⟩
  subst ea; subst et
  simp only [Option.bind_eq_some_iff] at hc
  obtain ⟨dd, hd, a, ha, b, hb, hc⟩ := hc
  cases dd <;> simp only [reduceCtorEq, Option.map_eq_some_iff] at hc
  rename_i kt e
  obtain ⟨kk, hkk, rfl⟩ := hc
  obtain ⟨kd, hkd, hkt⟩ := keyT_spec hkk
  simp only [eop, Option.bind_eq_some_iff] at he
  obtain ⟨mv, hmv, kv, hkv, he⟩ := he
  have h1 := hE m a mv ha (by simp [AOp.opds]) hmv
  have h2 := hE k b kv hb (by simp [AOp.opds]) hkv
  have hex : ∀ (ty' : TypeId) (dst : Option Tmp) (pos : String) (after : Array Edge) (g : Option (Nat × Bool)) {r : Value} {w2 : World}, (Builtin.delete_ (ty :: us').toArray ty' #[η m, η k]).run P w = .ok r w2 →
      (execOp η ⟨dst, .call { callee := .builtin .delete, args := #[m, k], argTypes := (ty :: us').toArray }, ty', pos, after, g⟩).run P w = .ok (.value r) w2 := by
    intro ty' dst pos after g r w2 h
    rw [exec_builtin]
    have : (#[m, k] : Array Operand).map η = #[η m, η k] := by simp
    rw [this]
    simp only [builtin, Sem.run_bind, h, Result.andThen_ok, Sem.run_pure]
  have e0 : (ty :: us').toArray[0]? = some ty := rfl
  have a0 : ∀ x y : Value, (#[x, y] : Array Value)[0]? = some x := fun _ _ => rfl
  have a1 : ∀ x y : Value, (#[x, y] : Array Value)[1]? = some y := fun _ _ => rfl
  split at he
  · cases he
  · rename_i hkey
    have hkey : isKey kk kv = true := by simpa using hkey
    have hck := fun e => checkKey_run (P := P) (w := w) hkd hkt hkey h2 e 9999
    cases mv <;> simp only [reduceCtorEq] at he
    case nilm =>
      simp only [Option.some.injEq, Prod.mk.injEq] at he
      obtain ⟨rfl, rfl⟩ := he
      refine .mk (v' := .tuple #[]) (w' := w) (ρ' := ρ) (fun dst ty' pos after g => hex ty' dst pos after g ?_) undef_rel (.refl st)
      simp only [Builtin.delete_, e0, a0, a1, h1.nilm_inv, Sem.run_bind, run_underlying hd, Result.andThen_ok, hck, Sem.run_pure]
    case map bb =>
      split at he
      · rename_i es clock hget
        simp only [Option.bind_eq_some_iff] at he
        obtain ⟨r, hr, he⟩ := he
        obtain ⟨b', o', mm, hρb, e1⟩ := h1.map_inv
        obtain ⟨_, xs, hh, hER⟩ := (st.rel bb _ _ hget hρb).map_inv
        have hfk := findKey_run (P := P) (w := w) hkd hkt hkey h2 hr hER
        cases r with
        | some i =>
          simp only [Option.some.injEq, Prod.mk.injEq] at he
          obtain ⟨rfl, rfl⟩ := he
          obtain ⟨y, hy, hf, hs⟩ := hfk.2 i rfl
          have hi : i < xs.size := by rw [Array.getElem?_toList] at hy; exact (Array.getElem?_eq_some_iff.1 hy).1
          refine .mk (v' := .tuple #[]) (w' := { w with heap := w.heap.setIfInBounds b' (.map (xs.eraseIdxIfInBounds i) clock) }) (ρ' := ρ) (fun dst ty' pos after g => hex ty' dst pos after g ?_) undef_rel (map_update st hget hρb ?_)
          · simp only [Builtin.delete_, e0, a0, a1, e1, Sem.run_bind, run_underlying hd, run_getMap hh, Result.andThen_ok, hck, hf, run_setMap hh, Sem.run_pure]
          · have h5 : (xs.eraseIdxIfInBounds i).toList = xs.toList.eraseIdx i := by simp [Array.eraseIdxIfInBounds, hi]
            rw [h5]
            refine ⟨?_, fun j e' x' he hx => ?_⟩
            · have := hER.1
              rw [List.length_eraseIdx, List.length_eraseIdx, this]
            · rw [List.getElem?_eraseIdx] at he hx
              split at he
              · rename_i hlt; rw [if_pos hlt] at hx; exact hER.2 j e' x' he hx
              · rename_i hlt; rw [if_neg hlt] at hx; exact hER.2 _ e' x' he hx
        | none =>
          simp only [Option.some.injEq, Prod.mk.injEq] at he
          obtain ⟨rfl, rfl⟩ := he
          have hf := hfk.1 rfl
          have hlt : b' < w.heap.size := (Array.getElem?_eq_some_iff.1 hh).1
          have hsame : ({ w with heap := w.heap.setIfInBounds b' (.map xs clock) } : World).heap = w.heap := by
            show w.heap.setIfInBounds b' (.map xs clock) = w.heap
            apply Array.ext_getElem?
            intro j
            by_cases hj : b' = j
            · subst hj; rw [Array.getElem?_setIfInBounds_self, if_pos hlt]; exact hh.symm
            · exact Array.getElem?_setIfInBounds_ne hj
          refine .mk (v' := .tuple #[]) (w' := { w with heap := w.heap.setIfInBounds b' (.map xs clock) }) (ρ' := ρ) (fun dst ty' pos after g => hex ty' dst pos after g ?_) undef_rel ?_
          · simp only [Builtin.delete_, e0, a0, a1, e1, Sem.run_bind, run_underlying hd, run_getMap hh, Result.andThen_ok, hck, hf, run_setMap hh, Sem.run_pure]
          · exact ⟨st.congr hsame, Nat.le_refl _, fun _ _ e => e, fun b p e e' => by rw [e] at e'; (cases e'), fun b k hk _ => ⟨k, hk, rfl⟩, fun _ _ _ => rfl, fun c _ _ => by rw [hsame], by rw [hsame]; exact Nat.le_refl _, rfl, rfl, rfl⟩
      · cases he

def opQuiet : Op → Bool
  | .store .. | .mapUpdate .. | .insert .. | .mapEntry .. | .entryStore .. | .next .. | .call _ => false
  | _ => true
def Quiets (x : Option AOp) : Prop := ∀ op, x = some op → op.eff = false
theorem Quiets.none : Quiets none := fun op h => by cases h
theorem Quiets.some {op : AOp} (h : op.eff = false) : Quiets (some op) := fun o e => by cases e; exact h
theorem Quiets.bind {α : Type} {x : Option α} {f : α → Option AOp} (h : ∀ a, Quiets (f a)) : Quiets (x.bind f) := by
  cases x with
  | none => exact .none
  | some a => exact h a
theorem Quiets.map {α : Type} {x : Option α} {f : α → AOp} (h : ∀ a, (f a).eff = false) : Quiets (x.map f) := by
  cases x with
  | none => exact .none
  | some a => exact .some (h a)
theorem bldZ_quiet (P : Program) (e : TypeId) (z : List AV) : (bldZ P e z).eff = false := by
  unfold bldZ
  split
  · split <;> rfl
  · rfl
theorem comp_quiet : ∀ (o : Op), opQuiet o = true → Quiets (compOp P o) := by
  intro o h
  cases o <;> simp [opQuiet] at h <;> unfold compOp
  all_goals
    try exact Quiets.none
  all_goals
    repeat' first
      | contradiction
      | exact Quiets.none
      | exact Quiets.some rfl
      | (refine Quiets.map (fun _ => ?_); rfl)
      | exact Quiets.map (fun z => bldZ_quiet _ _ z)
      | refine Quiets.bind (fun _ => ?_)
      | split
theorem comp_call_eff {b : Builtin} {args : Array Operand} {ats : Array TypeId} (hc : compOp P (.call { callee := .builtin b, args := args, argTypes := ats }) = some op) (he : eop id op t σ = some (v, σ')) : b = .append ∨ b = .copy ∨ b = .delete := by
  simp only [compOp, compCall] at hc
  split at hc
  · simp only [Option.bind_eq_some_iff] at hc
    obtain ⟨d, hd, a, ha, hc⟩ := hc
    cases d <;> simp only [reduceCtorEq, Option.some.injEq] at hc <;> subst hc <;> simp [eop] at he
  · simp only [Option.bind_eq_some_iff] at hc
    obtain ⟨d, hd, a, ha, hc⟩ := hc
    cases d <;> simp only [reduceCtorEq, Option.some.injEq] at hc <;> subst hc <;> simp [eop] at he
  · exact .inl rfl
  · exact .inr (.inl rfl)
  · simp only [Option.bind_eq_some_iff, Option.some.injEq] at hc
    obtain ⟨a, ha, l, hl, rfl⟩ := hc; simp [eop] at he
  · simp only [Option.bind_eq_some_iff, Option.some.injEq] at hc
    obtain ⟨a, ha, l, hl, rfl⟩ := hc; simp [eop] at he
  · exact .inr (.inr rfl)
  · cases hc

theorem eop_run {o : Op} (hc : compOp P o = some op) (he : eop id op t σ = some (v, σ')) (hE : HE η ρ t op.opds) (st : St ρ σ w) (hρ : ρ id = none) (hid : id < σ.next) (hget : σ.get id = none) : ERun P η o w ρ σ id v σ' := by
  cases o with
  | store ty a x => exact eop_store hc he hE st
  | mapUpdate ty m k x => exact eop_mapUpd (.inl rfl) hc he hE st
  | insert ty m k x => exact eop_mapUpd (.inr rfl) hc he hE st
  | mapEntry ty m k => exact eop_mapEnt hc he hE st
  | entryStore ty m s x => exact eop_entSt hc he hE st
  | next it s =>
    exfalso
    simp only [compOp] at hc
    split at hc
    · cases hc
    · simp only [Option.map_eq_some_iff] at hc
      obtain ⟨a, _, rfl⟩ := hc; simp [eop] at he
  | call c =>
    obtain ⟨callee, args, ats⟩ := c
    cases callee with
    | builtin b =>
      cases b with
      | append => exact eop_append (s := .tmp 0) (x := .tmp 0) hc he hE st hρ hid hget
      | copy => exact eop_copy hc he hE st
      | delete => exact eop_del hc he hE st
      | _ =>
        exfalso
        have := comp_call_eff hc he
        simp at this
    | invoke r m => simp [compOp, compCall] at hc
    | value f =>
      exfalso
      cases f <;> simp only [compOp, compCall, Option.bind_eq_some_iff, Option.map_eq_some_iff] at hc
      case func f =>
        obtain ⟨fn, _, hc⟩ := hc
        split at hc
        · simp only [Option.map_eq_some_iff] at hc
          obtain ⟨l, _, rfl⟩ := hc; simp [eop] at he
        · cases hc
      all_goals
        obtain ⟨a, _, l, _, rfl⟩ := hc; simp [eop] at he
  | _ =>
    exfalso
    have h : op.eff = false := by
      refine comp_quiet (P := P) _ ?_ op hc
      rfl
    cases op <;> first
      | (simp only [eop, reduceCtorEq] at he; done)
      | (simp [AOp.eff] at h; done)
end
end Go.Vit
end
