/- The library. -/
import Derived.Test.YtgdaiahnceaieaaVm2
import Derived.Test.YtgdaiahnceaieaaVm1
import Derived.Shelf.Strings.Builder1
import Derived.Lib.FrozenHead
import Derived.Test.YtgdaiahnceaieaaVitU
set_option linter.unusedVariables false
set_option linter.unusedSimpArgs false

section
namespace Go.Vit
class Key (α : Type) [DecidableEq α] where
  enc : α → AV
  eq : ∀ a b, keyEq (enc a) (enc b) = some (decide (a = b))
instance : Key ByteArray := ⟨.str, fun a b => by
  show some (a.data.toList == b.data.toList) = _
  congr 1
  rcases a with ⟨a⟩
  rcases b with ⟨b⟩
  by_cases h : a = b
  · subst h; simp
  · have h1 : ByteArray.mk a ≠ ByteArray.mk b := fun e => h (by injection e)
    have h2 : a.toList ≠ b.toList := fun e => h (Array.toList_inj.1 e)
    rw [decide_eq_false h1]
    exact beq_false_of_ne h2⟩
instance : Key Int := ⟨.int .i64, fun a b => by
  show (if IntKind.i64 = IntKind.i64 then some (a == b) else none) = _
  rw [if_pos rfl]
  by_cases h : a = b
  · subst h; simp
  · simp [h]⟩
section
variable {α : Type} [DecidableEq α]
def look : List (α × AV × Nat) → α → Option AV
  | [], _ => none
  | e :: l, a => if e.1 = a then some e.2.1 else look l a
def idx : List (α × AV × Nat) → α → Option Nat
  | [], _ => none
  | e :: l, a => if e.1 = a then some 0 else (idx l a).map (· + 1)
theorem idx_none {a : α} : ∀ {l : List (α × AV × Nat)}, idx l a = none → look l a = none
  | [], _ => rfl
  | e :: l, h => by
    by_cases he : e.1 = a
    · rw [idx, if_pos he] at h; exact nomatch h
    · rw [idx, if_neg he, Option.map_eq_none_iff] at h
      rw [look, if_neg he, idx_none h]
theorem idx_some {a : α} : ∀ {l : List (α × AV × Nat)} {i : Nat}, idx l a = some i → ∃ e, l[i]? = some e ∧ e.1 = a ∧ look l a = some e.2.1
  | [], _, h => nomatch h
  | e :: l, i, h => by
    by_cases he : e.1 = a
    · rw [idx, if_pos he] at h
      obtain rfl := Option.some.inj h
      exact ⟨e, rfl, he, by rw [look, if_pos he]⟩
    · rw [idx, if_neg he, Option.map_eq_some_iff] at h
      obtain ⟨j, hj, rfl⟩ := h
      obtain ⟨e', h1, h2, h3⟩ := idx_some hj
      exact ⟨e', by simpa using h1, h2, by rw [look, if_neg he, h3]⟩
end
section
variable {α : Type} [DecidableEq α] [Key α]
def encE (l : List (α × AV × Nat)) : List (AV × AV × Nat) := l.map fun e => (Key.enc e.1, e.2)
theorem findK_enc (a : α) : ∀ l : List (α × AV × Nat), findK (Key.enc a) (encE l) = some (idx l a)
  | [] => rfl
  | e :: l => by
    show (keyEq (Key.enc a) (Key.enc e.1)).bind _ = _
    rw [Key.eq, Option.bind_some]
    by_cases h : e.1 = a
    · rw [if_pos (decide_eq_true h.symm), idx, if_pos h]
    · rw [if_neg (by simpa using fun e => h e.symm), idx, if_neg h]
      show Option.map _ (findK (Key.enc a) (encE l)) = _
      rw [findK_enc a l]; rfl
theorem encE_get {l : List (α × AV × Nat)} {i : Nat} {e : α × AV × Nat} (h : l[i]? = some e) : (encE l)[i]? = some (Key.enc e.1, e.2) := by
  unfold encE; rw [List.getElem?_map, h]; rfl
theorem look_step {σ : Mem} {m c : Nat} {l : List (α × AV × Nat)} {a : α} {z : AV} {K : AV → Prop} (h : σ.get m = some (.map (encE l) c)) (hk : K ((look l a).getD z)) : lookW σ z false (.map m) (Key.enc a) K := by
  refine opt h ?_
  refine opt (findK_enc a l) ?_
  cases hi : idx l a with
  | none => rw [idx_none hi] at hk; exact hk
  | some i =>
    obtain ⟨e, h1, h2, h3⟩ := idx_some hi
    rw [h3] at hk
    exact opt (encE_get h1) hk
theorem look_ok {σ : Mem} {m c : Nat} {l : List (α × AV × Nat)} {a : α} {z : AV} {K : AV → Prop} (h : σ.get m = some (.map (encE l) c)) (h1 : ∀ v, look l a = some v → K (.tup [v, .bool true])) (h2 : look l a = none → K (.tup [z, .bool false])) : lookW σ z true (.map m) (Key.enc a) K := by
  refine opt h ?_
  refine opt (findK_enc a l) ?_
  cases hi : idx l a with
  | none => exact h2 (idx_none hi)
  | some i =>
    obtain ⟨e, h3, h4, h5⟩ := idx_some hi
    exact opt (encE_get h3) (h1 _ h5)
end
end Go.Vit
end

section
namespace Go.Vit
theorem OwnS.sl {k n : Nat} {σ : Mem} {v : AV} {cs : List AV} (h : OwnS k σ v cs n) (hn : 0 < n) : ∃ b, v = .slice b 0 n (.op k) ∧ σ.get b = some (.rw cs) ∧ cs.length = n * k := by
  rcases h with ⟨_, h, _⟩ | h
  · omega
  · exact h
abbrev Tok := Int × Int × Int
def agr (s : ByteArray) (i d n : Nat) : Prop := i + n < s.size ∧ byteAt s (i + n) = byteAt s (i + n - d)
instance (s : ByteArray) (i d n : Nat) : Decidable (agr s i d n) := inferInstanceAs (Decidable (_ ∧ _))
def mlF (s : ByteArray) (i d : Nat) : Nat → Nat → Nat
  | 0, n => n
  | f + 1, n => if agr s i d n then mlF s i d f (n + 1) else n
def ml (s : ByteArray) (i d : Nat) : Nat := mlF s i d 258 0
def rb (s : ByteArray) (i : Nat) : Nat → Nat × Nat
  | 0 => (0, 0)
  | d + 1 => if (rb s i d).1 < ml s i (d + 1) then (ml s i (d + 1), d + 1) else rb s i d
def best (s : ByteArray) (i : Nat) : Nat × Nat := rb s i (min 512 i)
def tk (s : ByteArray) (i : Nat) : Tok × Nat :=
  if 3 ≤ (best s i).1 then ((0, (best s i).1, (best s i).2), i + (best s i).1) else (((byteAt s i : Nat), 0, 0), i + 1)
def pos (s : ByteArray) : Nat → Nat
  | 0 => 0
  | k + 1 => (tk s (pos s k)).2
end Go.Vit
end

section
namespace Go.Vit
def right (t : Tok) : Prop := if t.2.1 = 0 then t.2.2 = 0 ∧ 0 ≤ t.1 ∧ t.1 ≤ 255 else t.1 = 0 ∧ 3 ≤ t.2.1 ∧ t.2.1 ≤ 258 ∧ 1 ≤ t.2.2 ∧ t.2.2 ≤ 32768
instance (t : Tok) : Decidable (right t) := by unfold right; infer_instance
/-! ### What the tokens of bytes say -/
end Go.Vit
end

section
namespace Go.Vit
def ic (l : List Int) : List AV := l.map fun n => .int .i64 n
theorem ic_len (l : List Int) : (ic l).length = l.length := by simp [ic]
theorem ic_get {l : List Int} {i : Nat} (h : i < l.length) : (ic l)[i]? = some (.int .i64 l[i]) := by simp [ic, List.getElem?_eq_getElem h]
theorem ic_one (l : List Int) : (ic l).all AV.one = true := by
  rw [List.all_eq_true]
  intro x hx
  simp only [ic, List.mem_map] at hx
  obtain ⟨b, _, rfl⟩ := hx
  rfl
theorem ic_set (l : List Int) (i : Nat) (n : Int) : (ic l).set i (.int .i64 n) = ic (l.set i n) := by unfold ic; rw [List.map_set]
theorem ic_append (l m : List Int) : ic (l ++ m) = ic l ++ ic m := by simp [ic]
def arr (f : Nat → Int) (n : Nat) : List Int := (List.range n).map f
/-! ### How many codes there are of each length -/
def cN (L : List Int) (n : Nat) : Nat := L.countP fun (x : Int) => decide (0 < x ∧ x = (n : Int))
def many (L : List Int) : Nat := L.countP fun x => decide (0 < x)
def room (L : List Int) : Nat := (L.map fun x => if 0 < x then 2 ^ (15 - x).toNat else 0).sum
def lens (L : List Int) : Prop := L.length ≤ 288 ∧ ∀ x ∈ L, 0 ≤ x ∧ x ≤ 15
instance (L : List Int) : Decidable (lens L) := by unfold lens; infer_instance
def msum (c : Nat → Nat) : Nat → Nat
  | 0 => 0
  | k + 1 => msum c k + c k
def most (L : List Int) : Int := L.foldl (fun m x => if 0 < x then max m x else m) 0
end Go.Vit
end

section
namespace Go.Vit
def Own (k : Nat) (σ σ' : Mem) (v : AV) (cs : List AV) (n : Nat) : Prop := OwnS k σ' v cs n ∧ ∀ b ∈ blkOf v, σ.next ≤ b ∧ b < σ'.next
theorem Own.same {k n : Nat} {σ σ1 σ2 : Mem} {v : AV} {cs : List AV} (h : Own k σ σ1 v cs n) (s : σ1.Same σ2) : Own k σ σ2 v cs n :=
  ⟨h.1.keep fun b hb => s.get b (h.2 b hb).2, fun b hb => ⟨(h.2 b hb).1, Nat.lt_of_lt_of_le (h.2 b hb).2 s.next⟩⟩
theorem Own.only {k n : Nat} {σ σ1 σ2 : Mem} {v : AV} {cs : List AV} {l : List Nat} (h : Own k σ σ1 v cs n) (s : Mem.Only l σ1 σ2) (hl : ∀ b ∈ blkOf v, b ∉ l) : Own k σ σ2 v cs n :=
  ⟨h.1.keep fun b hb => s.get b (h.2 b hb).2 (hl b hb), fun b hb => ⟨(h.2 b hb).1, Nat.lt_of_lt_of_le (h.2 b hb).2 s.next⟩⟩
theorem Own.nil (k : Nat) (σ σ' : Mem) : Own k σ σ' .nils [] 0 := ⟨.nil k σ', fun b hb => by simp [blkOf] at hb⟩
theorem Own.push {k bytes id nb n m j : Nat} {σ σ1 : Mem} {v : AV} {cs c : List AV} {K : AV → Mem → Prop} (h : Own k σ σ1 v cs n) (s : σ.Same σ1) {σ2 : Mem} (hσ2 : σ2 = (σ1.bump j).put nb (some (.rw c))) (hnb : σ1.next ≤ nb) (hid : nb < id) (hm : m ≠ 0) (hc : c.length = m * k)
    (h1 : c.all AV.one = true) (h2 : cs.all AV.one = true) (hr : (n + m) * bytes ≤ 140737488355328 ∧ n + m ≤ 9223372036854775806) {c' : Cap}
    (hk : ∀ v' σ', Own k σ σ' v' (cs ++ c) (n + m) → σ.Same σ' → id < σ'.next → Mem.Only (blkOf v) σ1 σ' → (∀ b ∈ blkOf v', b ∈ blkOf v ∨ b = id) → K v' σ')(hlt : id < σ2.next) : apW k bytes id σ2 v (.slice nb 0 m c') K := by
  subst hσ2
  refine OwnS.append (n := n) (m := m) (cs := cs) (c := c) (h.1.keep fun b hb => by rw [Mem.get_put_ne _ (by have := (h.2 b hb).2; omega)]; rfl) (fun K hK => src_new (Mem.get_put_self _ _ _) hc rfl K hK) (fun h => absurd h hm) hc h1 h2 hr (fun hb => by have := (h.2 _ hb).2; omega) ?_
  intro v' σ3 own3 hn3 hg3 hb3
  rw [Mem.next_put, Mem.next_bump] at hn3 hlt
  have o : Mem.Only (blkOf v) σ1 σ3 := ⟨by omega, fun b hb hn => by rw [hg3 b hn (by omega), Mem.get_put_ne _ (by omega)]; rfl⟩
  refine hk v' σ3 ⟨own3, fun b hb => ?_⟩ ⟨Nat.le_trans s.next o.next, fun b hb => ?_⟩ (by omega) o hb3
  · rcases hb3 b hb with h' | rfl
    · have := h.2 b h'; omega
    · have := s.next; omega
  · rw [o.get b (Nat.lt_of_lt_of_le hb s.next) fun h' => by have := h.2 b h'; omega]
    exact s.get b hb
def RdS (k : Nat) (σ : Mem) (v : AV) (cs : List AV) (n : Nat) : Prop :=
  (v = .nils ∧ n = 0 ∧ cs = []) ∨ ∃ b c, v = .slice b 0 n c ∧ (∃ q, σ.get b = some q ∧ q.cellsR = some cs) ∧ cs.length = n * k
theorem OwnS.rd {k n : Nat} {σ : Mem} {v : AV} {cs : List AV} (h : OwnS k σ v cs n) : RdS k σ v cs n := by
  rcases h with h | ⟨b, h1, h2, h3⟩
  · exact .inl h
  · exact .inr ⟨b, _, h1, ⟨_, h2, rfl⟩, h3⟩
theorem RdS.len {k n : Nat} {σ : Mem} {v : AV} {cs : List AV} (h : RdS k σ v cs n) {K : Int → Prop} (hk : K (n : Nat)) : slenW v K := by
  rcases h with ⟨rfl, rfl, rfl⟩ | ⟨b, c, rfl, _⟩ <;> exact hk
theorem RdS.pos {k n : Nat} {σ : Mem} {v : AV} {cs : List AV} (h : RdS k σ v cs n) (hn : 0 < n) : ∃ b c, v = .slice b 0 n c ∧ (∃ q, σ.get b = some q ∧ q.cellsR = some cs) ∧ cs.length = n * k := by
  rcases h with ⟨_, h, _⟩ | h
  · omega
  · exact h
theorem RdS.keep {k n : Nat} {σ σ' : Mem} {v : AV} {cs : List AV} (h : RdS k σ v cs n) (hb : ∀ b ∈ blkOf v, σ'.get b = σ.get b) : RdS k σ' v cs n := by
  rcases h with h | ⟨b, c, rfl, ⟨q, h1, h2⟩, h3⟩
  · exact .inl h
  · exact .inr ⟨b, c, rfl, ⟨q, (hb b (by simp [blkOf])).trans h1, h2⟩, h3⟩
theorem RdS.lt {k n : Nat} {σ : Mem} {v : AV} {cs : List AV} (h : RdS k σ v cs n) (live : σ.Live) : ∀ b ∈ blkOf v, b < σ.next := by
  rcases h with ⟨rfl, _⟩ | ⟨b, c, rfl, ⟨q, h1, h2⟩, h3⟩
  · intro b hb; simp [blkOf] at hb
  · intro c hc; simp [blkOf] at hc; subst hc; exact live.lt h1
theorem Grow.same {o o' : List Nat} {σ σ1 σ2 : Mem} (h : Grow o o' σ1 σ2) (s : σ.Same σ1) (ho : ∀ b ∈ o, σ.next ≤ b) : σ.Same σ2 ∧ ∀ b ∈ o', σ.next ≤ b := by
  refine ⟨⟨Nat.le_trans s.next h.only.next, fun b hb => ?_⟩, fun b hb => ?_⟩
  · refine (h.only.get b (Nat.lt_of_lt_of_le hb s.next) fun hm => ?_).trans (s.get b hb)
    have := ho b hm; omega
  · rcases h.new b hb with h1 | h1
    · exact ho b h1
    · exact Nat.le_trans s.next h1
/-! ### Arguments -/
section
variable {P : Program} {σ : Mem}
end
end Go.Vit
end

section
namespace Go.Vit
def fc (L : List Int) : Nat → Nat
  | 0 => 0
  | n + 1 => (fc L n + cN L n) * 2
def cd (L : List Int) (i : Nat) : Nat := if 0 < L.getD i 0 then fc L (L.getD i 0).toNat + cN (L.take i) (L.getD i 0).toNat else 0
def codes (L : List Int) : List Int := arr (fun i => (cd L i : Nat)) L.length
theorem getD_of {L : List Int} {i : Nat} (h : i < L.length) : L.getD i 0 = L[i] := by simp [List.getD, List.getElem?_eq_getElem h]
end Go.Vit
end

section
namespace Go.Vit
section
variable {α : Type} (key : α → Int)
def Stb (l l' : List α) : Prop := l'.length = l.length ∧ ∀ v : Int, l'.filter (fun x => decide (key x = v)) = l.filter (fun x => decide (key x = v))
def Srt (l : List α) : Prop := l.Pairwise fun x y => key x ≤ key y
variable {key}
theorem Stb.refl (l : List α) : Stb key l l := ⟨rfl, fun _ => rfl⟩
theorem Stb.trans {a b c : List α} (h : Stb key a b) (g : Stb key b c) : Stb key a c := ⟨g.1.trans h.1, fun v => (g.2 v).trans (h.2 v)⟩
theorem Stb.append {a a' b b' : List α} (h : Stb key a a') (g : Stb key b b') : Stb key (a ++ b) (a' ++ b') :=
  ⟨by rw [List.length_append, List.length_append, h.1, g.1], fun v => by rw [List.filter_append, List.filter_append, h.2 v, g.2 v]⟩
theorem Stb.mem {a b : List α} (h : Stb key a b) (x : α) : x ∈ b ↔ x ∈ a := by
  have e := h.2 (key x)
  have h1 : x ∈ b.filter (fun y => decide (key y = key x)) ↔ x ∈ b := by rw [List.mem_filter]; simp
  have h2 : x ∈ a.filter (fun y => decide (key y = key x)) ↔ x ∈ a := by rw [List.mem_filter]; simp
  rw [← h1, ← h2, e]
theorem Srt.append {a b : List α} (ha : Srt key a) (hb : Srt key b) (h : ∀ x ∈ a, ∀ y ∈ b, key x ≤ key y) : Srt key (a ++ b) := List.pairwise_append.2 ⟨ha, hb, h⟩
theorem Srt.left {a b : List α} (h : Srt key (a ++ b)) : Srt key a := (List.pairwise_append.1 h).1
theorem Srt.right {a b : List α} (h : Srt key (a ++ b)) : Srt key b := (List.pairwise_append.1 h).2.1
theorem Srt.rel {a b : List α} (h : Srt key (a ++ b)) : ∀ x ∈ a, ∀ y ∈ b, key x ≤ key y := (List.pairwise_append.1 h).2.2
theorem Srt.lt_succ {l : List α} (h : Srt key l) (n : Int) : l.filter (fun x => decide (key x < n + 1)) = l.filter (fun x => decide (key x < n)) ++ l.filter (fun x => decide (key x = n)) := by
  induction l with
  | nil => rfl
  | cons x l ih =>
    have hx : ∀ y ∈ l, key x ≤ key y := (List.pairwise_cons.1 h).1
    have ih := ih (List.pairwise_cons.1 h).2
    rcases Int.lt_trichotomy (key x) n with hlt | heq | hgt
    · rw [List.filter_cons_of_pos (by simp; omega), List.filter_cons_of_pos (by simp; omega), List.filter_cons_of_neg (by simp; omega), ih]; rfl
    · have e : (x :: l).filter (fun x => decide (key x < n)) = [] := by
        rw [List.filter_eq_nil_iff]
        intro y hy
        rcases List.mem_cons.1 hy with rfl | hy
        · simp; omega
        · have := hx y hy; simp; omega
      have e' : l.filter (fun x => decide (key x < n)) = [] := by
        rw [List.filter_eq_nil_iff]
        intro y hy
        have := hx y hy; simp; omega
      rw [e, List.filter_cons_of_pos (by simp; omega), List.filter_cons_of_pos (by simp; omega), ih, e']; rfl
    · have e1 : ∀ p : α → Bool, (∀ y, p y = true → key y ≤ n) → (x :: l).filter p = [] := by
        intro p hp
        rw [List.filter_eq_nil_iff]
        intro y hy h'
        have h2 := hp y h'
        rcases List.mem_cons.1 hy with rfl | hy
        · omega
        · have := hx y hy; omega
      rw [e1 _ fun y h => by have := of_decide_eq_true h; omega, e1 _ fun y h => by have := of_decide_eq_true h; omega, e1 _ fun y h => by have := of_decide_eq_true h; omega]; rfl
theorem Srt.at {l : List α} (h : Srt key l) {n : Int} {k : Nat} {x : α} (hk : (l.filter (fun x => decide (key x = n)))[k]? = some x) : l[(l.filter (fun x => decide (key x < n))).length + k]? = some x := by
  have e : l = l.filter (fun x => decide (key x < n + 1)) ++ l.filter (fun x => !decide (key x < n + 1)) := by
    clear hk
    induction l with
    | nil => rfl
    | cons y l ih =>
      have hx : ∀ z ∈ l, key y ≤ key z := (List.pairwise_cons.1 h).1
      have ih := ih (List.pairwise_cons.1 h).2
      by_cases hy : key y < n + 1
      · rw [List.filter_cons_of_pos (by simp; omega), List.filter_cons_of_neg (by simp; omega), List.cons_append, ← ih]
      · have e' : l.filter (fun x => decide (key x < n + 1)) = [] := by
          rw [List.filter_eq_nil_iff]
          intro z hz
          have := hx z hz; simp; omega
        rw [e', List.nil_append] at ih
        rw [List.filter_cons_of_neg (by simp; omega), List.filter_cons_of_pos (by simp; omega), e', List.nil_append, ← ih]
  rw [h.lt_succ] at e
  have hlt := (List.getElem?_eq_some_iff.1 hk).1
  generalize l.filter (fun x => decide (key x < n)) = a at e ⊢
  generalize l.filter (fun x => decide (key x = n)) = b at e hk hlt
  generalize l.filter (fun x => !decide (key x < n + 1)) = c at e
  rw [e]
  rw [List.append_assoc, List.getElem?_append_right (Nat.le_add_right _ _), Nat.add_sub_cancel_left, List.getElem?_append_left hlt]
  exact hk
/-! ### Exchanging -/
end
end Go.Vit
end

section
namespace Go.Vit
end Go.Vit
end

section
namespace Go.Vit
def fnd (L : List Int) (n c : Nat) : Option Nat := (List.range L.length).find? fun i => decide (L.getD i 0 = n ∧ cd L i = c)
def dec (L : List Int) (s : ByteArray) : Nat → Nat → Nat → Nat → Int × Int × Nat
  | 0, _, _, at' => (0, 12, at')
  | k + 1, n, c, at' => if 8 * s.size ≤ at' then (0, 3, at') else match fnd L n (2 * c + bitAt s at') with
    | some i => ((i : Nat), 0, at' + 1)
    | none => dec L s k (n + 1) (2 * c + bitAt s at') (at' + 1)
end Go.Vit
end

section
namespace Go.Vit
end Go.Vit
end

section
namespace Go.Vit
def RdO (k : Nat) (σ : Mem) (v : AV) (cs : List AV) (n : Nat) : Prop :=
  (v = .nils ∧ n = 0 ∧ cs = []) ∨ ∃ b z c, v = .slice b z n c ∧ cs.length = n * k ∧ ∃ q cells, σ.get b = some q ∧ q.cellsR = some cells ∧ (cells.drop z).take (n * k) = cs ∧ z + n * k ≤ cells.length
theorem RdO.mk {k n b : Nat} {c : Cap} {σ : Mem} {v : AV} {cs : List AV} (hv : v = .slice b 0 n c) (hg : ∃ q, σ.get b = some q ∧ q.cellsR = some cs) (hl : cs.length = n * k) : RdO k σ v cs n := by
  obtain ⟨q, h1, h2⟩ := hg
  exact .inr ⟨b, 0, c, hv, hl, q, cs, h1, h2, by rw [List.drop_zero, ← hl, List.take_length], by omega⟩
theorem RdS.o {k n : Nat} {σ : Mem} {v : AV} {cs : List AV} (h : RdS k σ v cs n) : RdO k σ v cs n := by
  rcases h with h | ⟨b, c, h1, h2, h3⟩
  · exact .inl h
  · exact .mk h1 h2 h3
theorem RdO.len {k n : Nat} {σ : Mem} {v : AV} {cs : List AV} (h : RdO k σ v cs n) {K : Int → Prop} (hk : K (n : Nat)) : slenW v K := by
  rcases h with ⟨rfl, rfl, rfl⟩ | ⟨b, z, c, rfl, _⟩ <;> exact hk
theorem RdO.keep {k n : Nat} {σ σ' : Mem} {v : AV} {cs : List AV} (h : RdO k σ v cs n) (hb : ∀ b ∈ blkOf v, σ'.get b = σ.get b) : RdO k σ' v cs n := by
  rcases h with h | ⟨b, z, c, rfl, h3, q, cells, h1, h2⟩
  · exact .inl h
  · exact .inr ⟨b, z, c, rfl, h3, q, cells, (hb b (by simp [blkOf])).trans h1, h2⟩
theorem RdO.lt {k n : Nat} {σ : Mem} {v : AV} {cs : List AV} (h : RdO k σ v cs n) (live : σ.Live) : ∀ b ∈ blkOf v, b < σ.next := by
  rcases h with ⟨rfl, _⟩ | ⟨b, z, c, rfl, h3, q, cells, h1, _⟩
  · intro b hb; simp [blkOf] at hb
  · intro c hc; simp [blkOf] at hc; subst hc; exact live.lt h1
theorem RdO.iat {σ : Mem} {v : AV} {L : List Int} {n : Nat} (h : RdO 1 σ v (ic L) n) {i : Nat} {x : Int} (hx : L[i]? = some x) (hn : i < n) (_ : i < L.length) : ∃ b z c, v = .slice b z n c ∧ ∀ {K : AV → Prop} (m : Nat), K (.int .i64 x) → ldW (σ.bump m) (.ptr b (z + i)) K := by
  rcases h with ⟨_, rfl, _⟩ | ⟨b, z, c, rfl, h3, q, cells, h1, h2, h4, h5⟩
  · omega
  · refine ⟨b, z, c, rfl, fun m hk => ldq (σ := σ.bump m) h1 ?_ hk⟩
    rw [h2]
    show cells[z + i]? = _
    have e : (ic L)[i]? = some (.int .i64 x) := by
      have hi := (List.getElem?_eq_some_iff.1 hx).1
      rw [ic_get hi]
      rw [List.getElem?_eq_getElem hi] at hx
      injection hx with hx
      rw [hx]
    rw [← h4, List.getElem?_take_of_lt (by omega), List.getElem?_drop] at e
    exact e
theorem RdO.at {σ : Mem} {v : AV} {L : List Int} (h : RdO 1 σ v (ic L) L.length) {i : Nat} (hi : i < L.length) : ∃ b z c, v = .slice b z L.length c ∧ ∀ {K : AV → Prop} (n : Nat), K (.int .i64 L[i]) → ldW (σ.bump n) (.ptr b (z + i)) K :=
  h.iat (List.getElem?_eq_getElem hi) hi hi
theorem RdO.take {σ : Mem} {b n k : Nat} {c c' : Cap} {L : List Int} (h : RdO 1 σ (.slice b 0 n c) (ic L) n) (hk : k ≤ n) : RdO 1 σ (.slice b 0 k c') (ic (L.take k)) k := by
  rcases h with ⟨h, _⟩ | ⟨b', z, c', e, h3, q, cells, h1, h2, h4, h5⟩
  · exact absurd h (by simp)
  · injection e with e1 e2
    subst e1 e2
    rw [List.drop_zero] at h4
    have hl : (ic (L.take k)) = (ic L).take k := by unfold ic; rw [List.map_take]
    refine .inr ⟨b, 0, _, rfl, ?_, q, cells, h1, h2, ?_, by omega⟩
    · rw [hl, List.length_take, h3]; omega
    · rw [hl, ← h4, List.drop_zero, List.take_take, Nat.min_eq_left (by omega)]
      congr 1; omega
theorem RdO.drop {σ : Mem} {b n k : Nat} {c c' : Cap} {L : List Int} (h : RdO 1 σ (.slice b 0 n c) (ic L) n) (hk : k ≤ n) : RdO 1 σ (.slice b k (n - k) c') (ic (L.drop k)) (n - k) := by
  rcases h with ⟨h, _⟩ | ⟨b', z, c', e, h3, q, cells, h1, h2, h4, h5⟩
  · exact absurd h (by simp)
  · injection e with e1 e2
    subst e1 e2
    rw [List.drop_zero] at h4
    have hl : (ic (L.drop k)) = (ic L).drop k := by unfold ic; rw [List.map_drop]
    refine .inr ⟨b, k, _, rfl, ?_, q, cells, h1, h2, ?_, by omega⟩
    · rw [hl, List.length_drop, h3]; omega
    · rw [hl, ← h4, List.drop_take]
      congr 1; omega
end Go.Vit
end

section
namespace Go.Vit
variable {P : Program} {σ : Mem}
end Go.Vit
end

section
namespace Go.Vit
inductive Pm where
  | coin (n : Int) (s : Nat)
  | pair (a b : Pm)
def Pm.wt : Pm → Int
  | .coin n _ => n
  | .pair a b => a.wt + b.wt
def Pm.cnt (i : Nat) : Pm → Nat
  | .coin _ s => if s = i then 1 else 0
  | .pair a b => a.cnt i + b.cnt i
def Pm.sz : Pm → Nat
  | .coin _ _ => 1
  | .pair a b => a.sz + b.sz
def pks : List Pm → List Pm
  | a :: b :: r => .pair a b :: pks r
  | _ => []
/-! ### What is sorted -/
section
variable {α : Type} {key : α → Int}
end
section
variable {α β : Type} {key : α → Int} {key' : β → Int} {f : α → β}
theorem filter_map_key {l : List α} (h : ∀ x ∈ l, key' (f x) = key x) (v : Int) : (l.map f).filter (fun x => decide (key' x = v)) = (l.filter fun x => decide (key x = v)).map f := by
  induction l with
  | nil => rfl
  | cons a l ih =>
    have ha := h a (by simp)
    have ih := ih fun x hx => h x (by simp [hx])
    rw [List.map_cons]
    by_cases hk : key a = v
    · rw [List.filter_cons_of_pos (by simp [ha, hk]), List.filter_cons_of_pos (by simp [hk]), List.map_cons, ih]
    · rw [List.filter_cons_of_neg (by simp [ha, hk]), List.filter_cons_of_neg (by simp [hk]), ih]
theorem Stb.map {X C : List α} (h : Stb key X C) (hk : ∀ x ∈ X, key' (f x) = key x) : Stb key' (X.map f) (C.map f) := by
  refine ⟨by rw [List.length_map, List.length_map, h.1], fun v => ?_⟩
  rw [filter_map_key hk, filter_map_key fun x hx => hk x ((h.mem x).1 hx), h.2 v]
theorem Srt.map {C : List α} (h : Srt key C) (hk : ∀ x ∈ C, key' (f x) = key x) : Srt key' (C.map f) := by
  unfold Srt at h ⊢
  rw [List.pairwise_map]
  exact h.imp_of_mem fun {a b} ha hb hab => by rw [hk a ha, hk b hb]; exact hab
end
def insA (x : Pm) : List Pm → List Pm
  | [] => [x]
  | y :: l => if y.wt ≤ x.wt then y :: insA x l else x :: y :: l
def isort (X : List Pm) : List Pm := X.foldl (fun acc x => insA x acc) []
/-! ### Rows -/
def rows (C : List Pm) : Nat → List Pm
  | 0 => C
  | k + 1 => isort (C ++ pks (rows C k))
def coinsTo (L : List Int) (i : Nat) : List Pm := ((List.range i).filter fun j => decide (0 < L.getD j 0)).map fun j => Pm.coin (L.getD j 0) j
def coinsOf (L : List Int) : List Pm := coinsTo L L.length
def sumC (i : Nat) (l : List Pm) : Nat := (l.map (Pm.cnt i)).sum
def limit (most : Nat) (L : List Int) : List Int :=
  if (coinsOf L).length = 1 then arr (fun i => sumC i (coinsOf L)) L.length
  else arr (fun i => sumC i ((rows (isort (coinsOf L)) (most - 1)).take (2 * (coinsOf L).length - 2))) L.length
end Go.Vit
end

section
namespace Go.Vit
/-! ### Rows are merged -/
/-! ### Pairs of what is sorted are sorted -/
end Go.Vit
end

section
namespace Go.Vit
def ln (cs : List Nat) (q : Nat) : Nat := cs.countP fun c => decide (q < c)
end Go.Vit
end

section
namespace Go.Vit
def Pm.sym : Pm → Nat
  | .coin _ s => s
  | .pair _ _ => 0
def srtC (L : List Int) : List Pm := isort (coinsOf L)
structure Lim (most : Nat) (L : List Int) (l : List Int) (cs : List Nat) : Prop where
  len : cs.length = most
  dec : cs.Pairwise fun a b => b ≤ a
  le : ∀ c ∈ cs, c ≤ (coinsOf L).length
  at' : ∀ q (h : q < (srtC L).length), l.getD ((srtC L)[q]).sym 0 = ln cs q
  no : ∀ i, ¬ 0 < L.getD i 0 → l.getD i 0 = 0
  sum : msum (fun q => 2 ^ (most - ln cs q)) (coinsOf L).length = 2 ^ most
  pos : ∀ q < (coinsOf L).length, 1 ≤ ln cs q
/-! ### The room that codes take -/
end Go.Vit
end

section
namespace Go.Vit
/-! ### A greater row is lighter, thing by thing -/
/-! ### What a list of things weighs -/
end Go.Vit
end

section
namespace Go.Vit
end Go.Vit
end

section
set_option linter.unusedSimpArgs false
namespace Go.Vit
theorem RdO.rd {σ σ' : Mem} {v : AV} {L : List Int} (h : RdO 1 σ v (ic L) L.length) (hb : ∀ b ∈ blkOf v, σ'.get b = σ.get b) {i : Nat} (hi : i < L.length) {x : Int} (hx : x = (i : Nat)) {K : Int → Prop} (hk : K (L.getD i 0)) : idxW 1 v x fun p => ldI σ' p K := by
  obtain ⟨b, z, c, rfl, hg⟩ := (h.keep hb).at hi
  subst hx
  refine And.intro (show (0 : Int) ≤ (i : Nat) ∧ ((i : Nat) : Int) < (L.length : Nat) by omega) ?_
  rw [Int.toNat_natCast, Nat.mul_one]
  rw [getD_of hi] at hk
  exact hg (K := fun a => castI .i64 a K) 0 hk
theorem tpI_of {l : List AV} {i : Nat} {x : Int} {K : Int → Prop} (h : l[i]? = some (.int .i64 x)) (hk : K x) : tpI (.tup l) i K := by
  show optW l[i]? _
  rw [h]
  exact hk
theorem tupW_of {l : List AV} {i : Nat} {x : AV} {K : AV → Prop} (h : l[i]? = some x) (hk : K x) : tupW (.tup l) i K := by
  show optW l[i]? _
  rw [h]
  exact hk
end Go.Vit
end

section
namespace Go.Vit
theorem rangeM_step {σ : Mem} {m clock : Nat} {es : List (AV × AV × Nat)} {B : Blk → Prop} (h : σ.get m = some (.map es clock)) (hk : B (.iter (some m) clock [] clock)) : rangeMW σ (.map m) B := opt h hk
theorem nextM_step {σ : Mem} {it m since last clock : Nat} {seen : List Nat} {es : List (AV × AV × Nat)} {k : AV → Mem → Prop} (hi : σ.get it = some (.iter (some m) since seen last)) (hm : σ.get m = some (.map es clock)) (h1 : ∀ e ∈ es, e.2.2 < since) (h2 : since ≤ last)
    (h3 : (∀ e ∈ es, e.2.2 ∈ seen) → k (.tup [.bool false]) σ) (h4 : ∀ e ∈ es, e.2.2 ∉ seen → k (.tup [.bool true, e.1, e.2.1]) (σ.put it (some (.iter (some m) since (seen ++ [e.2.2]) clock)))) : nextMW σ (.ptr it 0) k := by
  show (match σ.get it with
    | some (.iter none _ _ _) => k (.tup [.bool false]) σ
    | some (.iter (some m) since seen last) => (match σ.get m with
      | some (.map es clock) => (∀ e ∈ es, e.2.2 < since) ∧ since ≤ last ∧
          ((∀ e ∈ es, e.2.2 ∈ seen) → k (.tup [.bool false]) σ) ∧
          ∀ e ∈ es, e.2.2 ∉ seen → k (.tup [.bool true, e.1, e.2.1]) (σ.put it (some (.iter (some m) since (seen ++ [e.2.2]) clock)))
      | _ => False)
    | _ => False)
  rw [hi]
  dsimp only
  rw [hm]
  exact ⟨h1, h2, h3, h4⟩
theorem find_nodup {es : List (AV × AV × Nat)} {e : AV × AV × Nat} (he : e ∈ es) (hnd : (es.map (·.2.2)).Nodup) : es.find? (fun x => x.2.2 == e.2.2) = some e := by
  induction es with
  | nil => simp at he
  | cons x l ih =>
    rw [List.map_cons, List.nodup_cons] at hnd
    rw [List.find?_cons]
    rcases List.mem_cons.1 he with rfl | he
    · simp
    · have hne : (x.2.2 == e.2.2) = false := by
        rw [beq_eq_false_iff_ne]
        intro h
        exact hnd.1 (by rw [h]; exact List.mem_map_of_mem he)
      rw [hne]
      exact ih he hnd.2
theorem entM_step {σ : Mem} {it m since c : Nat} {seen : List Nat} {es : List (AV × AV × Nat)} {e : AV × AV × Nat} {K : AV → Prop} (hi : σ.get it = some (.iter (some m) since (seen ++ [e.2.2]) c)) (hm : σ.get m = some (.map es c)) (he : e ∈ es) (hnd : (es.map (·.2.2)).Nodup) (hk : K (.tup [e.1, e.2.1])) : entMW σ (.ptr it 0) K := by
  refine opt hi ?_
  refine opt hm ?_
  refine opt (a := (seen ++ [e.2.2]).getLast?) (v := e.2.2) (by simp) ?_
  exact ⟨rfl, opt (find_nodup he hnd) hk⟩
theorem inj_nodup {α : Type} {f : α → Nat} : ∀ {l : List α}, (l.map f).Nodup → ∀ {x y : α}, x ∈ l → y ∈ l → f x = f y → x = y
  | [], _, _, _, hx, _, _ => by simp at hx
  | a :: l, h, x, y, hx, hy, e => by
    rw [List.map_cons, List.nodup_cons] at h
    rcases List.mem_cons.1 hx with hx1 | hx1
    · rcases List.mem_cons.1 hy with hy1 | hy1
      · rw [hx1, hy1]
      · exact absurd (by rw [← hx1, e]; exact List.mem_map_of_mem hy1) h.1
    · rcases List.mem_cons.1 hy with hy1 | hy1
      · exact absurd (by rw [← hy1, ← e]; exact List.mem_map_of_mem hx1) h.1
      · exact inj_nodup h.2 hx1 hy1 e
theorem all_seen {α : Type} {f : α → Nat} {T fs : List α} (hT : ∀ x ∈ T, x ∈ fs) (hTn : (T.map f).Nodup) (hn : (fs.map f).Nodup) (h : ∀ x ∈ fs, f x ∈ T.map f) : T.Perm fs := by
  have nd : ∀ {l : List α}, (l.map f).Nodup → l.Nodup := fun h => List.Pairwise.of_map f (fun a b h e => h (by rw [e])) h
  refine (List.perm_ext_iff_of_nodup (nd hTn) (nd hn)).2 fun x => ⟨hT x, fun hx => ?_⟩
  obtain ⟨y, hy, he⟩ := List.mem_map.1 (h x hx)
  have : y = x := inj_nodup hn (hT y hy) hx he
  rw [← this]; exact hy
end Go.Vit
end

section
namespace Go.Vit
def RdX (σ : Mem) (v : AV) (L : List Int) : Prop := ∃ b, v = .slice b 0 L.length (.ex L.length) ∧ σ.get b = some (.rw (ic L))
def CapOk (c : Cap) (n : Nat) : Prop := c = .op 1 ∨ ∃ k, n ≤ k ∧ c = .ex k
def RdC (σ : Mem) (v : AV) (L : List Int) : Prop := (v = .nils ∧ L = []) ∨ ∃ b c M, v = .slice b 0 L.length c ∧ CapOk c L.length ∧ σ.get b = some (.rw (ic M)) ∧ L.length ≤ M.length ∧ M.take L.length = L
theorem RdX.c {σ : Mem} {v : AV} {L : List Int} (h : RdX σ v L) : RdC σ v L := by
  obtain ⟨b, h1, h2⟩ := h
  exact .inr ⟨b, _, L, h1, .inr ⟨_, Nat.le_refl _, rfl⟩, h2, Nat.le_refl _, List.take_length⟩
theorem RdX.s {σ : Mem} {v : AV} {L : List Int} (h : RdX σ v L) : RdS 1 σ v (ic L) L.length := by
  obtain ⟨b, h1, h2⟩ := h
  exact .inr ⟨b, _, h1, ⟨_, h2, rfl⟩, by rw [ic_len, Nat.mul_one]⟩
theorem OwnS.c {σ : Mem} {v : AV} {L : List Int} {n : Nat} (h : OwnS 1 σ v (ic L) n) : RdC σ v L := by
  rcases h with ⟨h1, h2, h3⟩ | ⟨b, h1, h2, h3⟩
  · refine .inl ⟨h1, ?_⟩
    cases L with
    | nil => rfl
    | cons a L => simp [ic] at h3
  · rw [ic_len, Nat.mul_one] at h3
    subst h3
    exact .inr ⟨b, _, L, h1, .inl rfl, h2, Nat.le_refl _, List.take_length⟩
theorem RdC.o {σ : Mem} {v : AV} {L : List Int} (h : RdC σ v L) : RdO 1 σ v (ic L) L.length := by
  rcases h with ⟨h1, h2⟩ | ⟨b, c, M, h1, _, h2, h3, h4⟩
  · subst h2; exact .inl ⟨h1, rfl, rfl⟩
  · refine .inr ⟨b, 0, c, h1, by rw [ic_len, Nat.mul_one], _, ic M, h2, rfl, ?_, by rw [ic_len]; omega⟩
    rw [List.drop_zero, Nat.mul_one]
    unfold ic
    rw [← List.map_take, h4]
theorem RdC.keep {σ σ' : Mem} {v : AV} {L : List Int} (h : RdC σ v L) (hb : ∀ b ∈ blkOf v, σ'.get b = σ.get b) : RdC σ' v L := by
  rcases h with h | ⟨b, c, M, rfl, h1, h2, h3⟩
  · exact .inl h
  · exact .inr ⟨b, c, M, rfl, h1, (hb b (by simp [blkOf])).trans h2, h3⟩
theorem RdX.keep {σ σ' : Mem} {v : AV} {L : List Int} (h : RdX σ v L) (hb : ∀ b ∈ blkOf v, σ'.get b = σ.get b) : RdX σ' v L := by
  obtain ⟨b, rfl, h2⟩ := h
  exact ⟨b, rfl, (hb b (by simp [blkOf])).trans h2⟩
theorem RdC.one {σ : Mem} {v : AV} {L : List Int} (h : RdC σ v L) : v.one = true := by
  rcases h with ⟨rfl, _⟩ | ⟨b, c, M, rfl, _⟩ <;> rfl
theorem RdC.cut {σ : Mem} {v : AV} {L : List Int} {m : Nat} {x : Int} (h : RdC σ v L) (hm : m ≤ L.length) (hx : x = (m : Nat)) {K : AV → Prop} (hk : ∀ w, RdC σ w (L.take m) → blkOf w = blkOf v → K w) : slcW 1 v none (some x) K := by
  subst hx
  rcases h with ⟨rfl, rfl⟩ | ⟨b, c, M, rfl, hc, hg, h3, h4⟩
  · obtain rfl : m = 0 := by simpa using hm
    refine And.intro (show (0 : Int) ≤ 0 ∧ (0 : Int) ≤ ((0 : Nat) : Int) ∧ ((0 : Nat) : Int) ≤ ((0 : Nat) : Int) by decide) ?_
    exact hk _ (.inl ⟨rfl, rfl⟩) rfl
  · have hle : L.length ≤ c.least L.length := by
      rcases hc with rfl | ⟨k, hk', rfl⟩
      · exact Nat.le_refl _
      · exact hk'
    refine And.intro ⟨by rcases hc with rfl | ⟨k, _, rfl⟩ <;> rfl, Int.le_refl _, show (0 : Int) ≤ ((m : Nat) : Int) by omega, show ((m : Nat) : Int) ≤ ((c.least L.length : Nat) : Int) by omega⟩ ?_
    show K (.slice b (0 + (0 : Int).toNat * 1) (((m : Nat) : Int).toNat - (0 : Int).toNat) (c.cut false (0 : Int).toNat (c.least L.length)))
    rw [Int.toNat_natCast, Int.toNat_zero, Nat.zero_mul, Nat.sub_zero]
    refine hk _ (.inr ⟨b, _, M, by rw [List.length_take, Nat.min_eq_left hm], ?_, hg, by rw [List.length_take]; omega, ?_⟩) rfl
    · rw [List.length_take]
      rcases hc with rfl | ⟨k, hk', rfl⟩
      · exact .inl rfl
      · exact .inr ⟨k, by omega, rfl⟩
    · rw [List.length_take, ← h4, List.take_take]
      congr 1
      rw [h4, Nat.min_eq_left hm]
def told (least : Nat) (L : List Int) : Nat → List Int
  | 0 => L.take 0
  | n + 1 => if least < n + 1 ∧ L.getD n 0 = 0 then told least L n else L.take (n + 1)
end Go.Vit
end

section
set_option linter.unusedVariables false
namespace Go.Vit
open Go.Proofs Go.Shelf Go.RowKit
variable {P : Program} {r : Go.Shelf.Ren}
set_option maxHeartbeats 1000000 in
set_option maxRecDepth 100000 in
theorem bcc_fresh (L : Lays.n240 P r) (X : Builder.X72 P r) {T : TypeId} (hT : liesAt P P.depth T (2 / P.cellsOf T) 0 (r.t 72) 1 = true) (b : Nat) (w : World) (h0 : w.cell? ⟨b, 0, none⟩ = some (.pointer none)) (hsh : w.shape? b = some (T, 2)) (hfz : w.frozen? ⟨b, 0, none⟩ = false) :
    Calls P (r.f 240) #[.pointer (some ⟨b, 0, none⟩)] w fun e w' => e = .returned (.tuple #[]) ∧ w' = w.setCell ⟨b, 0, none⟩ (.pointer (some ⟨b, 0, none⟩)) := by
  obtain ⟨j, hj, hjs⟩ := Option.map_eq_some_iff.1 X.sizeBuilder
  have mixed := L.mixed
  have t72 := L.t72; have a72 := L.a72; have z72 := L.z72; have v72 := L.v72; have u72 := run_underlying L.t72
  have t70 := L.t70; have a70 := L.a70; have z70 := L.z70; have v70 := L.v70; have u70 := run_underlying L.t70
  have t9 := L.t9; have a9 := L.a9; have z9 := L.z9; have v9 := L.v9; have u9 := run_underlying L.t9
  have t4 := L.t4; have a4 := L.a4; have z4 := L.z4; have v4 := L.v4; have u4 := run_underlying L.t4
  have t164 := L.t164; have a164 := L.a164; have z164 := L.z164; have v164 := L.v164; have u164 := run_underlying L.t164
  go_enter L.f240, Body.n240_ntmps r
  go_wp2
  rw [Lib.run_to_unsafe w ⟨b, 0, none⟩ L.t70 L.t164 hj (by rw [hjs]; decide) hsh (Nat.zero_lt_succ 1)]
  simp only [Result.andThen]
  rw [Oper.upon_value]
  go_wp2
  rw [run_callFunc_extern L.f276 (by kernel_rfl) (by kernel_rfl) (by kernel_rfl) (e := Extern.AbiNoEscape.same) (by kernel_rfl)]
  rw [Lib.run_noEscape]
  simp only [Result.andThen]
  rw [Oper.upon_value]
  go_wp2
  rw [Lib.run_from_unsafe w ⟨b, 0, none⟩ L.t164 L.t70 hj hsh hT]
  simp only [Result.andThen]
  rw [Oper.upon_value]
  go_wp2
  go_end0
  exact ⟨rfl, rfl⟩
theorem bcc_used (L : Lays.n240 P r) (X : Builder.X72 P r) (b : Nat) (w : World) (h0 : w.cell? ⟨b, 0, none⟩ = some (.pointer (some ⟨b, 0, none⟩))) :
    Calls P (r.f 240) #[.pointer (some ⟨b, 0, none⟩)] w fun e w' => e = .returned (.tuple #[]) ∧ w' = w := Any.Builder_copyCheck_used L X b w h0
def BufAt (E : TypeId) (v : Value) (bs : List Value) (w : World) : Prop :=
  (v = .slice none 0 0 ∧ bs = []) ∨ ∃ g cap cur fz, v = .slice (some ⟨g, 0, none⟩) bs.length cap ∧ w.heap[g]? = some (.cells cur E fz) ∧ fz.2 ≤ bs.length ∧ bs.length ≤ cap ∧ cap ≤ maxLen ∧ cur.size = cap ∧ cur.toList.take bs.length = bs
theorem BufAt.lt {E : TypeId} {v : Value} {bs : List Value} {w : World} (h : BufAt E v bs w) {k : Nat} (hk : v.ownBlock = some k) : k < w.heap.size := by
  rcases h with ⟨rfl, _⟩ | ⟨g, cap, cur, fz, rfl, hg, _⟩
  · cases hk
  · cases hk
    exact (Array.getElem?_eq_some_iff.1 hg).1
theorem BufAt.kept {E : TypeId} {v : Value} {bs : List Value} {w w' : World} (h : BufAt E v bs w) (hk : ∀ k, v.ownBlock = some k → w'.heap[k]? = w.heap[k]?) : BufAt E v bs w' := by
  rcases h with h | ⟨g, cap, cur, fz, rfl, hg, h⟩
  · exact .inl h
  · exact .inr ⟨g, cap, cur, fz, rfl, (hk g rfl).trans hg, h⟩
theorem buf_append {t u ty E : TypeId} {i : TypeInfo} (ht : P.underlying t = some (.slice E)) (hu : P.underlying u = some .string) (hi : P.info? E = some i) (hz : i.zero = some (.int .u8 0)) (hsize : i.size = 1) (hby : i.bytes = 1)
    {w : World} {v : Value} {bs : List Value} (h : BufAt E v bs w) (s : ByteArray) (hl : bs.length + s.size ≤ 140737488355328) :
    ∃ v' w', (Builtin.append_ #[t, u] ty #[v, .string s]).run P w = .ok v' w' ∧ BufAt E v' (bs ++ Lib.strCells s) w' ∧ w.grownBy w' v.ownBlock ∧ (v' = .slice none 0 0 ↔ v = .slice none 0 0 ∧ s.size = 0) ∧
      ∀ k, v'.ownBlock = some k → v.ownBlock = some k ∨ w.heap.size ≤ k := by
  have hsl := Lib.strCells_length s
  have hz1 : (Value.int IntKind.u8 0).cells.size = 1 := rfl
  rcases h with ⟨rfl, rfl⟩ | ⟨g, cap, cur, fz, rfl, hg, hfz, hnc, hcm, hcs, htake⟩
  · by_cases hm : s.size = 0
    · have hn : Lib.strCells s = [] := List.eq_nil_of_length_eq_zero (by rw [hsl]; exact hm)
      refine ⟨.slice none 0 0, w, ?_, .inl ⟨rfl, by rw [hn]; rfl⟩, ⟨rfl, rfl, rfl, Nat.le_refl _, fun _ _ _ => rfl⟩, by simp [hm], fun k hk => by cases hk⟩
      have hf := Lib.run_firstCells_string (P := P) w 1 s
      rw [hm] at hf
      simp [Builtin.append_, run_underlying ht, run_underlying hu, sizeOf, typeInfo, hi, hsize, Builtin.lenOf, hm, hf]
    · rw [List.length_nil, Nat.zero_add] at hl
      have hr := run_append_nil_string (P := P) w t u ty E i (.int .u8 0) ht hu hi hz s (by omega) (by omega) (by rw [hby]; omega)
      have hge := grownCap_ge w s.size 0 E
      have hcm := grownCap_le_maxLen w s.size 0 E (by unfold maxLen; omega)
      refine ⟨_, _, hr, .inr ⟨w.heap.size, _, _, (0, 0), by rw [List.nil_append, hsl], heap_alloc_new w.drew _, Nat.zero_le _, by rw [List.nil_append, hsl]; exact hge, hcm, ?_, ?_⟩, ⟨rfl, rfl, rfl, by simp, fun k hk _ => heap_alloc_old w.drew _ hk⟩, by simp [hm], fun k hk => .inr (by cases hk; exact Nat.le_refl _)⟩
      · simp only [Array.size_append, size_zeroCells, hz1, Array.size_map]
        have : s.data.size = s.size := rfl
        omega
      · rw [List.nil_append, Array.toList_append, Array.toList_map]
        exact List.take_left
  · by_cases hroom : bs.length + s.size ≤ cap
    · have hr := Lib.run_append_room_stringF (P := P) w t u ty E i ht hu hi hsize g bs.length cap cur fz hg hfz s hroom (by omega)
      refine ⟨_, _, hr, .inr ⟨g, cap, _, fz, by rw [List.length_append, hsl], setRow_heap w g cur _ E _ hg, by rw [List.length_append]; omega, by rw [List.length_append, hsl]; exact hroom, hcm, ?_, ?_⟩, ⟨rfl, rfl, rfl, by simp [World.setRow], fun k _ hk => setRow_other w g k _ (fun e => hk (by simp [Value.ownBlock, e]))⟩, by simp, fun k hk => .inl hk⟩
      · simp only [List.size_toArray, List.length_append, List.length_take, List.length_drop, Array.length_toList, hsl]
        omega
      · rw [htake]
        exact List.take_left
    · have holds : ∀ j u, bs[j]? = some u → w.cell? ((⟨g, 0, none⟩ : Addr).add j) = some u := by
        intro j u hu'
        have hadd : (⟨g, 0, none⟩ : Addr).add j = ⟨g, j, none⟩ := by unfold Addr.add; split <;> simp_all
        rw [hadd]
        rw [← htake, List.getElem?_take] at hu'
        split at hu'
        · simpa [World.cell?, hg] using hu'
        · cases hu'
      have hr := Lib.run_append_grow_string (P := P) w t u ty E i (.int .u8 0) ht hu hi hz ⟨g, 0, none⟩ bs.length cap bs (by rw [hsize, Nat.mul_one]) holds s (by omega) (by omega) (by rw [hby]; exact growslice_fits (by omega) (by omega))
      have hge := grownCap_ge w (bs.length + s.size) cap E
      have hcm' := grownCap_le_maxLen w (bs.length + s.size) cap E (by unfold maxLen; omega)
      refine ⟨_, _, hr, .inr ⟨w.heap.size, _, _, (0, 0), by rw [List.length_append, hsl], heap_alloc_new w.drew _, Nat.zero_le _, by rw [List.length_append, hsl]; exact hge, hcm', ?_, ?_⟩, ⟨rfl, rfl, rfl, by simp, fun k hk _ => heap_alloc_old w.drew _ hk⟩, by simp, fun k hk => .inr (by cases hk; exact Nat.le_refl _)⟩
      · simp only [Array.size_append, List.size_toArray, size_zeroCells, hz1, hsl]
        omega
      · rw [Array.toList_append, Array.toList_append]
        exact List.take_left
theorem wp_buf_append {ops : Array Oper} {rest : List Oper} {o : Oper} {a : Act} {Q : Exit → Act → World → Prop} (hgd : o.guard = none) (sl x : Operand) (t u : TypeId)
    (ho : o.op = .call { callee := .builtin .append, args := #[sl, x], argTypes := #[t, u] })
    {E : TypeId} {i : TypeInfo} (ht : P.underlying t = some (.slice E)) (hu : P.underlying u = some .string) (hi : P.info? E = some i) (hz : i.zero = some (.int .u8 0)) (hsize : i.size = 1) (hby : i.bytes = 1)
    {w : World} {v : Value} {bs : List Value} (hs : a.eval sl = v) (hown : BufAt E v bs w) (s : ByteArray) (hx : a.eval x = .string s) (hl : bs.length + s.size ≤ 140737488355328)
    (h : ∀ v' w', BufAt E v' (bs ++ Lib.strCells s) w' → w.grownBy w' v.ownBlock → (v' = .slice none 0 0 ↔ v = .slice none 0 0 ∧ s.size = 0) → (∀ k, v'.ownBlock = some k → v.ownBlock = some k ∨ w.heap.size ≤ k) → wpList P ops Q rest (a.put o.dst v') w') : wpList P ops Q (o :: rest) a w := by
  refine wpList_plain hgd fun K hK => ?_
  obtain ⟨v', w', hr, h2, h3, h4, h5⟩ := buf_append (P := P) (t := t) (u := u) (ty := o.type) ht hu hi hz hsize hby hown s hl
  unfold Oper.wp execOp
  simp only [ho, resolve, invoke, builtin, Sem.run_bind, Sem.run_pure, Result.andThen_ok, List.map_toArray, List.map_cons, List.map_nil, hs, hx, hr]
  exact hK _ _ (h v' w' h2 h3 h4 h5)
def BAt (T E : TypeId) (b : Nat) (pv v : Value) (bs : List Value) (w : World) : Prop :=
  w.heap[b]? = some (.cells #[pv, v] T (0, 0)) ∧ (pv = .pointer none ∨ pv = .pointer (some ⟨b, 0, none⟩)) ∧ BufAt E v bs w ∧ v.ownBlock ≠ some b
theorem bcc_any (L : Lays.n240 P r) (X : Builder.X72 P r) {T E : TypeId} (hT : liesAt P P.depth T (2 / P.cellsOf T) 0 (r.t 72) 1 = true) {b : Nat} {pv v : Value} {bs : List Value} {w : World} (h : BAt T E b pv v bs w) :
    Calls P (r.f 240) #[.pointer (some ⟨b, 0, none⟩)] w fun e w' => e = .returned (.tuple #[]) ∧ BAt T E b (.pointer (some ⟨b, 0, none⟩)) v bs w' ∧ w.grownBy w' (some b) ∧ w'.heap.size = w.heap.size := by
  obtain ⟨hb, hp, hbuf, hne⟩ := h
  have c0 : w.cell? ⟨b, 0, none⟩ = some pv := by rw [Lib.cell_of_heap hb]; rfl
  rcases hp with rfl | rfl
  · refine (bcc_fresh L X hT b w c0 (by simp [World.shape?, hb]) (Lib.frozen_of_heap hb 0)).mono ?_
    rintro e w' ⟨rfl, rfl⟩
    have hk : ∀ k, k ≠ b → (w.setCell ⟨b, 0, none⟩ (.pointer (some ⟨b, 0, none⟩))).heap[k]? = w.heap[k]? := fun k hk => Below.heap_setCell _ _ _ _ hk
    refine ⟨rfl, ⟨?_, .inr rfl, hbuf.kept fun k e => hk k (fun e' => hne (by rw [← e']; exact e)), hne⟩, ⟨rfl, rfl, rfl, by simp [World.setCell], fun k _ h => hk k (fun e => h (by rw [e]))⟩, by simp [World.setCell]⟩
    simp [World.setCell, Array.getElem?_modify, hb]
  · refine (bcc_used L X b w c0).mono ?_
    rintro e w' ⟨rfl, rfl⟩
    exact ⟨rfl, ⟨hb, .inr rfl, hbuf, hne⟩, ⟨rfl, rfl, rfl, Nat.le_refl _, fun _ _ _ => rfl⟩, rfl⟩
set_option maxHeartbeats 2000000 in
set_option maxRecDepth 100000 in
theorem bld_WriteString (L : Lays.n166 P r) (X : Builder.Extra P r) {T : TypeId} (hT : liesAt P P.depth T (2 / P.cellsOf T) 0 (r.t 72) 1 = true) {b : Nat} {pv v : Value} {bs : List Value} {w : World} (h : BAt T (r.t 5) b pv v bs w) (hTe : T ≠ r.t 5) (s : ByteArray) (hl : bs.length + s.size ≤ 140737488355328) :
    Calls P (r.f 166) #[.pointer (some ⟨b, 0, none⟩), .string s] w fun e w' => e = .returned (.tuple #[.int .i64 s.size, .nilIface]) ∧ ∃ v', BAt T (r.t 5) b (.pointer (some ⟨b, 0, none⟩)) v' (bs ++ Lib.strCells s) w' ∧
      w'.os = w.os ∧ w'.tape = w.tape ∧ w'.output = w.output ∧ w.heap.size ≤ w'.heap.size ∧ (∀ k, k < w.heap.size → k ≠ b → v.ownBlock ≠ some k → w'.heap[k]? = w.heap[k]?) ∧
      (v' = .slice none 0 0 ↔ v = .slice none 0 0 ∧ s.size = 0) ∧ ∀ k, v'.ownBlock = some k → v.ownBlock = some k ∨ w.heap.size ≤ k := by
  obtain ⟨i0, hi, hz0, hz1, hz2⟩ := info_parts X.infoByte
  have mixed := L.mixed
  have t72 := L.t72; have a72 := L.a72; have z72 := L.z72; have v72 := L.v72; have u72 := run_underlying L.t72
  have t70 := L.t70; have a70 := L.a70; have z70 := L.z70; have v70 := L.v70; have u70 := run_underlying L.t70
  have t37 := L.t37; have a37 := L.a37; have z37 := L.z37; have v37 := L.v37; have u37 := run_underlying L.t37
  have t3 := L.t3; have a3 := L.a3; have z3 := L.z3; have v3 := L.v3; have u3 := run_underlying L.t3
  have t9 := L.t9; have a9 := L.a9; have z9 := L.z9; have v9 := L.v9; have u9 := run_underlying L.t9
  have t4 := L.t4; have a4 := L.a4; have z4 := L.z4; have v4 := L.v4; have u4 := run_underlying L.t4
  have t164 := L.t164; have a164 := L.a164; have z164 := L.z164; have v164 := L.v164; have u164 := run_underlying L.t164
  have t5 := X.t5; have a5 := X.a5; have z5 := X.z5; have v5 := X.v5; have u5 := run_underlying X.t5
  have e240 : ∀ args w, (callFunc (r.f 240) args).run P w = .ok (.enter (r.f 240) args) w := enters_of L.f240 (by kernel_rfl) rfl
  go_enter L.f166, Body.n166_ntmps r
  go_wp2_with (go_at_fn (r.f 240); refine (bcc_any { L with } X.toX72 hT h).mono ?_)
  rintro e w1 ⟨rfl, ⟨hbk, _, hown, hne⟩, hg1, hsz1⟩
  have c0 : w1.cell? ⟨b, 0, none⟩ = some (.pointer (some ⟨b, 0, none⟩)) := by rw [Lib.cell_of_heap hbk]; rfl
  have c1 : w1.cell? ⟨b, 1, none⟩ = some v := by rw [Lib.cell_of_heap hbk]; rfl
  go_wp2_with (at_builtin; refine wp_buf_append (v := v) (bs := bs) rfl _ _ (r.t 37) (r.t 9) rfl L.t37 L.t9 hi hz0 hz1 hz2 rfl hown s rfl hl ?_)
  intro v' w2 hown' hgrow hnil hblk
  have hlt : b < w1.heap.size := (Array.getElem?_eq_some_iff.1 hbk).1
  have hb2 : w2.heap[b]? = some (.cells #[.pointer (some ⟨b, 0, none⟩), v] T (0, 0)) := by
    rw [hgrow.block b hlt (fun e => hne e.symm)]
    exact hbk
  have d0 : w2.cell? ⟨b, 0, none⟩ = some (.pointer (some ⟨b, 0, none⟩)) := by rw [Lib.cell_of_heap hb2]; rfl
  have d1 : w2.cell? ⟨b, 1, none⟩ = some v := by rw [Lib.cell_of_heap hb2]; rfl
  have f1 : w2.frozen? ⟨b, 1, none⟩ = false := Lib.frozen_of_heap hb2 1
  obtain ⟨ao, n', cap, rfl⟩ : ∃ ao n' cap, v' = .slice ao n' cap := by
    rcases hown' with ⟨hv, _⟩ | ⟨g, cap, cur, fz, hv, _⟩
    · exact ⟨_, _, _, hv⟩
    · exact ⟨_, _, _, hv⟩
  go_wp2
  go_ret2
  have hne' : (Value.slice ao n' cap).ownBlock ≠ some b := by
    intro e
    rcases hblk b e with h1 | h1
    · exact hne h1
    · omega
  have hset : ∀ k, k ≠ b → (w2.setCell ⟨b, 1, none⟩ (.slice ao n' cap)).heap[k]? = w2.heap[k]? := fun k hk => Below.heap_setCell _ _ _ _ hk
  refine ⟨rfl, _, ⟨?_, .inr rfl, hown'.kept fun k e => hset k (fun e' => hne' (by rw [← e']; exact e)), hne'⟩, hgrow.os.trans hg1.os, hgrow.tape.trans hg1.tape, hgrow.output.trans hg1.output, ?_, ?_, by rw [hnil, ← ByteArray.size_eq_zero_iff], ?_⟩
  · simp [World.setCell, Array.getElem?_modify, hb2]
  · have h1 := hgrow.size
    have h2 := hg1.size
    simp [World.setCell]; omega
  · intro k hk hkb hkv
    rw [hset k hkb, hgrow.block k (by rw [hsz1]; exact hk) (fun e => hkv e.symm), hg1.block k hk (fun e => hkb (by simpa using e))]
  · intro k hk
    rcases hblk k hk with h1 | h1
    · exact .inl h1
    · exact .inr (by omega)
set_option maxHeartbeats 2000000 in
set_option maxRecDepth 100000 in
theorem bld_String (L : Lays.n169 P r) (X : Builder.Extra P r) {T : TypeId} {b : Nat} {pv v : Value} {l : List UInt8} {w : World} (h : BAt T (r.t 5) b pv v (Lib.byteCells l) w) (h0 : l ≠ []) :
    Calls P (r.f 169) #[.pointer (some ⟨b, 0, none⟩)] w fun e w' => e = .returned (.string ⟨l.toArray⟩) ∧ ∃ g, v.ownBlock = some g ∧ ∃ d : World, (d = w ∨ d = w.drew) ∧ w' = d.freeze ⟨g, 0, none⟩ l.length := by
  obtain ⟨hbk, hp, hown, hne⟩ := h
  have hl0 : l.length ≠ 0 := by simpa using h0
  obtain ⟨g, cap, cur, fz, rfl, hg, hfz, hnc, hcm, hcs, htake⟩ : ∃ g cap cur fz, v = .slice (some ⟨g, 0, none⟩) l.length cap ∧ w.heap[g]? = some (.cells cur (r.t 5) fz) ∧ fz.2 ≤ l.length ∧ l.length ≤ cap ∧ cap ≤ maxLen ∧ cur.size = cap ∧ cur.toList.take l.length = Lib.byteCells l := by
    rcases hown with ⟨_, hz⟩ | ⟨g, cap, cur, fz, hv, hr⟩
    · exact absurd (by rw [← Lib.byteCells_length l, hz]; rfl) hl0
    · rw [Lib.byteCells_length] at hv hr
      exact ⟨g, cap, cur, fz, hv, hr⟩
  have c1 : w.drew.cell? ⟨b, 1, none⟩ = some (.slice (some ⟨g, 0, none⟩) l.length cap) := by
    have : w.drew.heap[b]? = some (.cells #[pv, .slice (some ⟨g, 0, none⟩) l.length cap] T (0, 0)) := hbk
    rw [Lib.cell_of_heap this]; rfl
  have hSD : (Builtin.unsafeSliceData_ #[(r.t 37)] (r.t 127) #[.slice (some ⟨g, 0, none⟩) l.length cap]).run P w.drew = .ok (.pointer (some ⟨g, 0, none⟩)) w.drew :=
    Lib.run_unsafeSliceData_row _ _ _ _ _ _ (by omega)
  have hUS : (Builtin.unsafeString_ #[(r.t 127), (r.t 3)] (r.t 9) #[.pointer (some ⟨g, 0, none⟩), .int .i64 l.length]).run P w.drew = .ok (.string ⟨l.toArray⟩) (w.drew.freeze ⟨g, 0, none⟩ l.length) := by
    refine Lib.run_unsafeString_row w.drew (r.t 127) (r.t 3) (r.t 9) (r.t 5) L.t127 X.cellsByte g cur.size (by have hg' : w.drew.heap[g]? = some (.cells cur (r.t 5) fz) := hg; simp [World.shape?, hg']) l h0 (by omega) (by unfold maxLen at hcm; omega) ?_
    intro j x hx
    have hg' : w.drew.heap[g]? = some (.cells cur (r.t 5) fz) := hg
    have h1 : (Lib.byteCells l)[j]? = some (.int .u8 x.toNat) := by simp [Lib.byteCells, hx]
    have hadd : (⟨g, 0, none⟩ : Addr).add j = ⟨g, j, none⟩ := by unfold Addr.add; split <;> simp_all
    rw [← htake, List.getElem?_take] at h1
    split at h1
    · first
        | (rw [hadd]; simpa [World.cell?, hg'] using h1)
        | simpa [World.cell?, hg'] using h1
    · cases h1
  have mixed := L.mixed
  have t72 := L.t72; have a72 := L.a72; have z72 := L.z72; have v72 := L.v72; have u72 := run_underlying L.t72
  have t70 := L.t70; have a70 := L.a70; have z70 := L.z70; have v70 := L.v70; have u70 := run_underlying L.t70
  have t37 := L.t37; have a37 := L.a37; have z37 := L.z37; have v37 := L.v37; have u37 := run_underlying L.t37
  have t127 := L.t127; have a127 := L.a127; have z127 := L.z127; have v127 := L.v127; have u127 := run_underlying L.t127
  have t3 := L.t3; have a3 := L.a3; have z3 := L.z3; have v3 := L.v3; have u3 := run_underlying L.t3
  have t9 := L.t9; have a9 := L.a9; have z9 := L.z9; have v9 := L.v9; have u9 := run_underlying L.t9
  have t5 := X.t5; have a5 := X.a5; have z5 := X.z5; have v5 := X.v5; have u5 := run_underlying X.t5
  go_enter L.f169, Body.n169_ntmps r
  go_wp2
  go_region_o
  all_goals (go_wp2; go_ret; exact ⟨rfl, g, rfl, _, .inr rfl, rfl⟩)
set_option maxHeartbeats 2000000 in
set_option maxRecDepth 100000 in
theorem bld_String_nil (L : Lays.n169 P r) (X : Builder.Extra P r) {T : TypeId} {b : Nat} {pv : Value} {w : World} (hbk : w.heap[b]? = some (.cells #[pv, .slice none 0 0] T (0, 0))) :
    Calls P (r.f 169) #[.pointer (some ⟨b, 0, none⟩)] w fun e w' => e = .returned (.string ⟨#[]⟩) ∧ (w' = w ∨ w' = w.drew) := by
  have hUS := Any.unsafeString_none L X
  have c1 : w.drew.cell? ⟨b, 1, none⟩ = some (.slice none 0 0) := by
    have : w.drew.heap[b]? = some (.cells #[pv, .slice none 0 0] T (0, 0)) := hbk
    rw [Lib.cell_of_heap this]; rfl
  have hSD : (Builtin.unsafeSliceData_ #[(r.t 37)] (r.t 127) #[.slice none 0 0]).run P w.drew = .ok (.pointer none) w.drew := rfl
  have mixed := L.mixed
  have t72 := L.t72; have a72 := L.a72; have z72 := L.z72; have v72 := L.v72; have u72 := run_underlying L.t72
  have t70 := L.t70; have a70 := L.a70; have z70 := L.z70; have v70 := L.v70; have u70 := run_underlying L.t70
  have t37 := L.t37; have a37 := L.a37; have z37 := L.z37; have v37 := L.v37; have u37 := run_underlying L.t37
  have t127 := L.t127; have a127 := L.a127; have z127 := L.z127; have v127 := L.v127; have u127 := run_underlying L.t127
  have t3 := L.t3; have a3 := L.a3; have z3 := L.z3; have v3 := L.v3; have u3 := run_underlying L.t3
  have t9 := L.t9; have a9 := L.a9; have z9 := L.z9; have v9 := L.v9; have u9 := run_underlying L.t9
  have t5 := X.t5; have a5 := X.a5; have z5 := X.z5; have v5 := X.v5; have u5 := run_underlying X.t5
  go_enter L.f169, Body.n169_ntmps r
  go_wp2
  go_region_o
  all_goals (go_wp2; go_ret; exact ⟨rfl, .inr rfl⟩)
end Go.Vit
end

section
set_option linter.unusedVariables false
namespace Go.Vit
open Go.Proofs Go.Shelf
variable {P : Program} {r : Go.Shelf.Ren}
def BldS (σ : Mem) (b T E : Nat) (buf : Option (Nat × Nat)) (bs : List UInt8) : Prop :=
  σ.get b = some (.bld T buf) ∧ ((buf = none ∧ bs = []) ∨ ∃ g, buf = some (g, bs.length) ∧ σ.get g = some (.row E (bl bs)))
theorem bl_len (l : List UInt8) : (bl l).length = l.length := by unfold bl; simp
theorem cells_of_rel {ρ : Ren} {l : List UInt8} {cs : Array Value} (hl : l.length ≤ cs.size) (h : ∀ (i : Nat) (a : AV), (bl l)[i]? = some a → ∃ v, cs[i]? = some v ∧ VRel ρ a v) : cs.toList.take l.length = Lib.byteCells l := by
  refine List.ext_getElem? fun i => ?_
  rw [List.getElem?_take]
  split
  · rename_i hi
    have ha : (bl l)[i]? = some (.int .u8 l[i].toNat) := by unfold bl; rw [List.getElem?_map, List.getElem?_eq_getElem hi]; rfl
    obtain ⟨v, hv, hr⟩ := h i _ ha
    cases hr
    rw [Array.getElem?_toList, hv]
    unfold Lib.byteCells
    rw [List.getElem?_map, List.getElem?_eq_getElem hi]; rfl
  · rename_i hi
    unfold Lib.byteCells
    rw [List.getElem?_map, List.getElem?_eq_none (by omega)]; rfl
theorem rel_of_cells {ρ : Ren} {l : List UInt8} {cs : Array Value} (h : cs.toList.take l.length = Lib.byteCells l) : ∀ (i : Nat) (a : AV), (bl l)[i]? = some a → ∃ v, cs[i]? = some v ∧ VRel ρ a v := by
  intro i a ha
  unfold bl at ha
  rw [List.getElem?_map, Option.map_eq_some_iff] at ha
  obtain ⟨x, hx, rfl⟩ := ha
  have hi : i < l.length := (List.getElem?_eq_some_iff.1 hx).1
  have h1 : (cs.toList.take l.length)[i]? = some (.int .u8 x.toNat) := by
    rw [h]; unfold Lib.byteCells; rw [List.getElem?_map, hx]; rfl
  rw [List.getElem?_take, if_pos hi, Array.getElem?_toList] at h1
  exact ⟨_, h1, .int _ _⟩
theorem BldS.at {ρ : Ren} {σ : Mem} {w : World} (st : St ρ σ w) {b T E : Nat} {buf : Option (Nat × Nat)} {bs : List UInt8} (h : BldS σ b T E buf bs) {b' o' m : Nat} (hb : ρ b = some (b', o', m)) :
    o' = 0 ∧ ∃ pv v, BAt T E b' pv v (Lib.byteCells bs) w ∧ (buf = none → v = .slice none 0 0) ∧ ∀ g n, buf = some (g, n) → ∃ l cap, ρ g = some (l, 0, cap) ∧ v = .slice (some ⟨l, 0, none⟩) n cap := by
  obtain ⟨hgb, hbuf⟩ := h
  obtain ⟨h0, pv, v, h1, h2, h3, h4⟩ := st.rel b _ _ hgb hb
  dsimp only at h0 h1 h2
  refine ⟨h0, pv, v, ⟨h1, h2, ?_, ?_⟩, h3, h4⟩
  · rcases hbuf with ⟨e, rfl⟩ | ⟨g, e, hg⟩
    · exact .inl ⟨h3 e, rfl⟩
    · obtain ⟨l, cap, e1, e2⟩ := h4 _ _ e
      obtain ⟨_, hm, cs, fz, k1, k2, k3, k4⟩ := st.rel g _ _ hg e1
      dsimp only at hm k1 k3
      rw [bl_len] at k2 k3
      refine .inr ⟨l, cap, cs, fz, by rw [Lib.byteCells_length]; exact e2, k1, by rw [Lib.byteCells_length]; exact k2, by rw [Lib.byteCells_length]; omega, by unfold maxLen; omega, k3.2, ?_⟩
      rw [Lib.byteCells_length]
      exact cells_of_rel k3.1 k4
  · rcases hbuf with ⟨e, rfl⟩ | ⟨g, e, hg⟩
    · rw [h3 e]; simp [Value.ownBlock]
    · obtain ⟨l, cap, e1, e2⟩ := h4 _ _ e
      rw [e2]
      simp only [Value.ownBlock, ne_eq, Option.some.injEq]
      have hne : g ≠ b := fun x => by subst x; rw [hg] at hgb; cases hgb
      exact st.inj g b _ _ _ _ hg hgb e1 hb rfl rfl hne
def wrMem (σ : Mem) (b T E : Nat) (buf : Option (Nat × Nat)) (bs : List UInt8) (s : ByteArray) : Mem :=
  match buf, s.data.toList with
  | none, [] => σ.bump 1
  | none, l => ((σ.put b (some (.bld T (some (σ.next, l.length))))).put σ.next (some (.row E (bl l)))).bump 1
  | some (g, _), l => (((σ.put g none).put b (some (.bld T (some (σ.next, (bs ++ l).length))))).put σ.next (some (.row E (bl (bs ++ l))))).bump 1
theorem strCells_eq (s : ByteArray) : Lib.strCells s = Lib.byteCells s.data.toList := rfl
theorem byteCells_append (a b : List UInt8) : Lib.byteCells (a ++ b) = Lib.byteCells a ++ Lib.byteCells b := by unfold Lib.byteCells; rw [List.map_append]
theorem BRel.bldSame {ρ ρ' : Ren} {p : Loc} {w w' : World} (he : ∀ b p, ρ b = some p → ρ' b = some p) {k : Blk} (h : BRel ρ p w k) (hs : k.solid = true → w'.heap[p.1]? = w.heap[p.1]?) : BRel ρ' p w' k := (h.move hs).mono he
theorem bld_step {ρ : Ren} {σ : Mem} {w w' : World} (st : St ρ σ w) {b T E b' m : Nat} {buf : Option (Nat × Nat)} {bs : List UInt8} {s : ByteArray} (h : BldS σ b T E buf bs) (hb : ρ b = some (b', 0, m)) {v v' : Value}
    (hv : (buf = none → v = .slice none 0 0) ∧ ∀ g n, buf = some (g, n) → ∃ l cap, ρ g = some (l, 0, cap) ∧ v = .slice (some ⟨l, 0, none⟩) n cap)
    (hw : BAt T E b' (.pointer (some ⟨b', 0, none⟩)) v' (Lib.byteCells bs ++ Lib.strCells s) w') (os : w'.os = w.os) (tape : w'.tape = w.tape) (out : w'.output = w.output) (size : w.heap.size ≤ w'.heap.size)
    (hk : ∀ k, k < w.heap.size → k ≠ b' → v.ownBlock ≠ some k → w'.heap[k]? = w.heap[k]?) (hn : v' = .slice none 0 0 ↔ v = .slice none 0 0 ∧ s.size = 0) (ho : ∀ k, v'.ownBlock = some k → v.ownBlock = some k ∨ w.heap.size ≤ k) :
    ∃ ρ', Step (fun b => σ.next ≤ b) ρ σ w ρ' (wrMem σ b T E buf bs s) w' := by
  classical
  obtain ⟨hgb, hbuf⟩ := h
  obtain ⟨hw1, hw2, hw3, hw4⟩ := hw
  rw [strCells_eq, ← byteCells_append] at hw3
  have hbl : b < σ.next := st.live b _ hgb
  have hb'lt : b' < w.heap.size := (st.rel b _ _ hgb hb).lt rfl
  have hid : ρ σ.next = none := by
    cases e : ρ σ.next with
    | none => rfl
    | some p => exact absurd (st.dom _ _ e) (Nat.lt_irrefl _)
  have hss : s.data.toList.length = s.size := rfl
  -- where other blocks lie
  have other : ∀ c k p, σ.get c = some k → ρ c = some p → k.solid = true → c ≠ b → (∀ g n, buf = some (g, n) → c ≠ g) → p.1 < w.heap.size ∧ p.1 ≠ b' ∧ v.ownBlock ≠ some p.1 := by
    intro c k p hc hp hsol hcb hcg
    refine ⟨(st.rel c k p hc hp).lt hsol, fun e => st.inj b c _ _ _ _ hgb hc hb hp rfl hsol (fun x => hcb x.symm) e.symm, fun e => ?_⟩
    rcases hbuf with ⟨e1, _⟩ | ⟨g, e1, hg⟩
    · rw [hv.1 e1] at e; cases e
    · obtain ⟨l, cap, e2, e3⟩ := hv.2 _ _ e1
      rw [e3] at e
      simp only [Value.ownBlock, Option.some.injEq] at e
      exact st.inj g c _ _ _ _ hg hc e2 hp rfl hsol (fun x => hcg _ _ e1 x.symm) e
  have frame : ∀ c, c < w.heap.size → (∀ b k q, σ.get b = some k → k.mut = true → ρ b = some q → q.1 ≠ c) → w'.heap[c]? = w.heap[c]? := by
    intro c hc hno
    refine hk c hc (fun e => hno b _ _ hgb rfl hb e.symm) (fun e => ?_)
    rcases hbuf with ⟨e1, _⟩ | ⟨g, e1, hg⟩
    · rw [hv.1 e1] at e; cases e
    · obtain ⟨l, cap, e2, e3⟩ := hv.2 _ _ e1
      rw [e3] at e
      simp only [Value.ownBlock, Option.some.injEq] at e
      exact hno g _ _ hg rfl e2 e
  by_cases hnil : v' = .slice none 0 0
  · -- nothing was laid
    obtain ⟨hv0, hs0⟩ := hn.1 hnil
    have hb0 : buf = none := by
      rcases hbuf with ⟨e1, _⟩ | ⟨g, e1, hg⟩
      · exact e1
      · obtain ⟨l, cap, e2, e3⟩ := hv.2 _ _ e1
        rw [e3] at hv0; cases hv0
    have hd : s.data.toList = [] := List.eq_nil_of_length_eq_zero (by rw [hss]; exact hs0)
    subst hb0
    refine ⟨ρ, ?_⟩
    have e : wrMem σ b T E none bs s = σ.bump 1 := by unfold wrMem; rw [hd]
    rw [e]
    refine ⟨⟨fun c p hp => ?_, fun c k hc => ?_, fun c k p hc hp => ?_, st.inj⟩, by rw [Mem.next_bump]; omega, fun _ _ e => e, fun c p e e' => (by rw [e] at e'; cases e'), fun c k hc _ => ⟨k, hc, rfl⟩, fun _ _ _ => rfl, frame, size, os, tape, out⟩
    · have := st.dom c p hp; rw [Mem.next_bump]; omega
    · have := st.live c k hc; rw [Mem.next_bump]; omega
    · have hc : σ.get c = some k := hc
      by_cases hcb : c = b
      · subst hcb
        rw [hgb] at hc; cases hc
        rw [hb] at hp; cases hp
        exact ⟨rfl, _, _, hw1, hw2, fun _ => hnil, fun g n e => by cases e⟩
      · refine (st.rel c k p hc hp).move fun hsol => ?_
        obtain ⟨h1, h2, h3⟩ := other c k p hc hp hsol hcb (fun g n e => by cases e)
        exact hk _ h1 h2 h3
  · obtain ⟨g', cap', cur, fz, rfl, hg', hfz, hnc, hcm, hcs, htake⟩ : ∃ g cap cur fz, v' = .slice (some ⟨g, 0, none⟩) (bs ++ s.data.toList).length cap ∧ w'.heap[g]? = some (.cells cur E fz) ∧ fz.2 ≤ (bs ++ s.data.toList).length ∧ (bs ++ s.data.toList).length ≤ cap ∧ cap ≤ maxLen ∧ cur.size = cap ∧ cur.toList.take (bs ++ s.data.toList).length = Lib.byteCells (bs ++ s.data.toList) := by
      rcases hw3 with ⟨h1, _⟩ | ⟨g, cap, cur, fz, h1, h2⟩
      · exact absurd h1 hnil
      · rw [Lib.byteCells_length] at h1 h2
        exact ⟨g, cap, cur, fz, h1, h2⟩
    have hg'b : g' ≠ b' := fun e => hw4 (by rw [e]; rfl)
    -- the memory
    obtain ⟨τ, hτ⟩ : ∃ τ, wrMem σ b T E buf bs s = τ := ⟨_, rfl⟩
    have hget : ∀ c, τ.get c = if c = σ.next then some (.row E (bl (bs ++ s.data.toList))) else if c = b then some (.bld T (some (σ.next, (bs ++ s.data.toList).length))) else if (∃ n, buf = some (c, n)) then none else σ.get c := by
      intro c
      rw [← hτ]
      unfold wrMem
      rcases hbuf with ⟨rfl, rfl⟩ | ⟨g, rfl, hg⟩
      · have hne : s.data.toList ≠ [] := fun e => hnil (hn.2 ⟨hv.1 rfl, by rw [← hss, e]; rfl⟩)
        cases hd : s.data.toList with
        | nil => exact absurd hd hne
        | cons x l =>
          dsimp only
          rw [Mem.get_bump, Mem.get_put, Mem.get_put, List.nil_append]
          split
          · rfl
          · split
            · rfl
            · rw [if_neg (by rintro ⟨n, e⟩; cases e)]
      · dsimp only
        rw [Mem.get_bump, Mem.get_put, Mem.get_put, Mem.get_put]
        split
        · rfl
        · split
          · rfl
          · by_cases hc : c = g
            · subst hc; rw [if_pos rfl, if_pos ⟨_, rfl⟩]
            · rw [if_neg hc, if_neg (by rintro ⟨n, e⟩; cases e; exact hc rfl)]
    have hnext : τ.next = σ.next + 1 := by
      rw [← hτ]; unfold wrMem
      split <;> rfl
    rw [hτ]
    have loc : ∀ c k p, σ.get c = some k → ρ c = some p → k.solid = true → c ≠ b → (¬ ∃ n, buf = some (c, n)) → p.1 ≠ g' := by
      intro c k p hc hp hsol hcb hcg e
      obtain ⟨h1, h2, h3⟩ := other c k p hc hp hsol hcb (fun g n e x => hcg ⟨n, by rw [x]; exact e⟩)
      rcases ho g' rfl with h4 | h4
      · exact h3 (by rw [e]; exact h4)
      · omega
    refine ⟨updR ρ σ.next (g', 0, cap'), ⟨⟨?_, ?_, ?_, ?_⟩, by omega, updR_ext hid, ?_, ?_, ?_, frame, size, os, tape, out⟩⟩
    · intro c p hp
      unfold updR at hp
      split at hp
      · omega
      · have := st.dom c p hp; omega
    · intro c k hc
      rw [hget] at hc
      split at hc
      · omega
      · split at hc
        · omega
        · split at hc
          · cases hc
          · have := st.live c k hc; omega
    · intro c k p hc hp
      rw [hget] at hc
      split at hc
      · rename_i hcn
        cases hc
        unfold updR at hp
        rw [if_pos hcn] at hp
        cases hp
        refine ⟨rfl, by unfold maxLen at hcm; omega, cur, fz, hg', by rw [bl_len]; exact hfz, ⟨by rw [bl_len]; omega, hcs⟩, rel_of_cells htake⟩
      · rename_i hcn
        unfold updR at hp
        rw [if_neg hcn] at hp
        split at hc
        · rename_i hcb
          subst hcb
          cases hc
          rw [hb] at hp; cases hp
          exact ⟨rfl, _, _, hw1, hw2, (fun e => by cases e), (fun g n e => by cases e; exact ⟨g', cap', updR_self, rfl⟩)⟩
        · rename_i hcb
          split at hc
          · cases hc
          · rename_i hcg
            refine BRel.bldSame (updR_ext hid) (st.rel c k p hc hp) fun hsol => ?_
            obtain ⟨h1, h2, h3⟩ := other c k p hc hp hsol hcb (fun g n e x => hcg ⟨n, by rw [x]; exact e⟩)
            exact hk _ h1 h2 h3
    · intro c d k k' p p' hc hd hp hp' hmut hsol hcd
      rw [hget] at hc hd
      unfold updR at hp hp'
      by_cases c1 : c = σ.next
      · rw [if_pos c1] at hp
        cases hp
        have d1 : d ≠ σ.next := fun e => hcd (c1.trans e.symm)
        rw [if_neg d1] at hd hp'
        by_cases d2 : d = b
        · subst d2
          rw [hb] at hp'; cases hp'
          exact hg'b
        · rw [if_neg d2] at hd
          split at hd
          · cases hd
          · rename_i hdg
            exact (loc d k' p' hd hp' hsol d2 hdg).symm
      · rw [if_neg c1] at hc hp
        by_cases d1 : d = σ.next
        · rw [if_pos d1] at hd hp'
          cases hp'
          by_cases c2 : c = b
          · subst c2
            rw [hb] at hp; cases hp
            exact hg'b.symm
          · rw [if_neg c2] at hc
            split at hc
            · cases hc
            · rename_i hcg
              have hks : k.solid = true := by cases k <;> first | rfl | exact Bool.noConfusion hmut
              exact loc c k p hc hp hks c2 hcg
        · rw [if_neg d1] at hd hp'
          have old : ∀ x k, (if x = b then some (Blk.bld T (some (σ.next, (bs ++ s.data.toList).length))) else if (∃ n, buf = some (x, n)) then none else σ.get x) = some k → ∃ k0, σ.get x = some k0 ∧ k0.mut = k.mut ∧ k0.solid = k.solid := by
            intro x k hx
            split at hx
            · rename_i hxb
              subst hxb
              cases hx
              exact ⟨_, hgb, rfl, rfl⟩
            · split at hx
              · cases hx
              · exact ⟨_, hx, rfl, rfl⟩
          obtain ⟨k0, e1, e2, _⟩ := old c k hc
          obtain ⟨k1, e3, _, e4⟩ := old d k' hd
          exact st.inj c d k0 k1 p p' e1 e3 hp hp' (e2.trans hmut) (e4.trans hsol) hcd
    · intro c p hp hp0
      unfold updR at hp
      split at hp
      · rename_i hcn
        cases hp
        refine ⟨Nat.le_of_eq hcn.symm, ?_⟩
        rcases ho g' rfl with h4 | h4
        · rcases hbuf with ⟨e1, _⟩ | ⟨g, e1, hg⟩
          · rw [hv.1 e1] at h4; cases h4
          · obtain ⟨l, cap, e2, e3⟩ := hv.2 _ _ e1
            rw [e3] at h4
            simp only [Value.ownBlock, Option.some.injEq] at h4
            exact .inr ⟨g, _, _, hg, rfl, e2, h4⟩
        · exact .inl h4
      · rw [hp] at hp0; cases hp0
    · intro c k hc hρ
      rw [hget] at hc
      split at hc
      · rename_i hcn; subst hcn; exact absurd hid hρ
      · split at hc
        · rename_i hcb
          subst hcb
          cases hc
          exact ⟨_, hgb, rfl⟩
        · split at hc
          · cases hc
          · exact ⟨k, hc, rfl⟩
    · intro c hc hρ
      have hc : c < σ.next := by omega
      rw [hget, if_neg (by omega), if_neg (fun e => by subst e; rw [hb] at hρ; cases hρ), if_neg]
      rintro ⟨n, e⟩
      obtain ⟨l, cap, e2, _⟩ := hv.2 _ _ e
      rw [hρ] at e2; cases e2
theorem bld_Write_ok (L : Lays.n166 P r) (X : Builder.Extra P r) (hf : FnOk P (r.f 166)) {T : Nat} (hT : liesAt P P.depth T (2 / P.cellsOf T) 0 (r.t 72) 1 = true) (hTe : T ≠ r.t 5) {σ : Mem} {b : Nat} {buf : Option (Nat × Nat)} {bs : List UInt8} (h : BldS σ b T (r.t 5) buf bs) (s : ByteArray) (hl : bs.length + s.size ≤ 140737488355328) :
    ACalls P (r.f 166) [.ptr b 0, .str s] σ fun v σ' => v = .tup [.int .i64 s.size, .nili] ∧ σ' = wrMem σ b T (r.t 5) buf bs s := by
  refine ⟨hf, fun ρ w args' st hl' => ?_⟩
  obtain ⟨x0, h0, r0⟩ := hl'.get (i := 0) (a := .ptr b 0) rfl
  obtain ⟨x1, h1, r1⟩ := hl'.get (i := 1) (a := .str s) rfl
  have hsz := hl'.1
  cases r1
  cases r0
  rename_i b' o' m hb
  obtain ⟨rfl, pv, v, hat, hv1, hv2⟩ := h.at st hb
  have hargs : args' = #[.pointer (some ⟨b', 0, none⟩), .string s] := by
    refine Array.ext' ?_
    have hl2 : args'.toList.length = 2 := hsz.symm
    rw [← Array.getElem?_toList] at h0 h1
    match hx : args'.toList, hl2 with
    | [a, c], _ =>
      rw [hx] at h0 h1
      cases h0; cases h1; rfl
  rw [hargs]
  refine (bld_WriteString L X hT hat hTe s (by rw [Lib.byteCells_length]; exact hl)).mono ?_
  rintro e w' ⟨rfl, v', hw, os, tape, out, size, hk, hn, ho⟩
  obtain ⟨ρ', hs⟩ := bld_step st h hb ⟨hv1, hv2⟩ hw os tape out size hk hn ho
  exact ⟨_, _, _, ρ', rfl, ⟨rfl, rfl⟩, .tup rfl (fun i a v ha hv => by
    match i, ha, hv with
    | 0, ha, hv => simp at ha hv; subst ha; subst hv; exact .int _ _
    | 1, ha, hv => simp at ha hv; subst ha; subst hv; exact .nili), hs⟩
theorem step_still {ρ : Ren} {σ : Mem} {w w' : World} {N : Nat → Prop} (st : St ρ σ w) (hh : w'.heap = w.heap) (os : w'.os = w.os) (tape : w'.tape = w.tape) (out : w'.output = w.output) : Step N ρ σ w ρ σ w' :=
  ⟨⟨st.dom, st.live, fun c k p hc hp => (st.rel c k p hc hp).move fun _ => by rw [hh], st.inj⟩, Nat.le_refl _, fun _ _ e => e, fun c p e e' => (by rw [e] at e'; cases e'), fun c k hc _ => ⟨k, hc, rfl⟩, fun _ _ _ => rfl, fun c _ _ => by rw [hh], by rw [hh]; exact Nat.le_refl _, os, tape, out⟩
theorem freeze_heap {w : World} {g n : Nat} {cs : Array Value} {E : TypeId} {fz : Nat × Nat} (hg : w.heap[g]? = some (.cells cs E fz)) (hn : n ≠ 0) (hfz : fz.2 ≤ n) :
    (∃ fz', (w.freeze ⟨g, 0, none⟩ n).heap[g]? = some (.cells cs E fz') ∧ fz'.2 ≤ n) ∧ (∀ k, k ≠ g → (w.freeze ⟨g, 0, none⟩ n).heap[k]? = w.heap[k]?) ∧ (w.freeze ⟨g, 0, none⟩ n).heap.size = w.heap.size ∧
    (w.freeze ⟨g, 0, none⟩ n).os = w.os ∧ (w.freeze ⟨g, 0, none⟩ n).tape = w.tape ∧ (w.freeze ⟨g, 0, none⟩ n).output = w.output := by
  unfold World.freeze
  rw [if_neg hn]
  refine ⟨?_, fun k hk => ?_, by simp, rfl, rfl, rfl⟩
  · obtain ⟨lo, hi⟩ := fz
    dsimp only
    refine ⟨if lo == hi then (0, 0 + n) else (min lo 0, max hi (0 + n)), ?_, ?_⟩
    · simp [Array.getElem?_modify, hg]
    · dsimp only at hfz
      split
      · show 0 + n ≤ n; omega
      · show max hi (0 + n) ≤ n; omega
  · simp [Array.getElem?_modify, Ne.symm hk]
theorem bld_String_ok (L : Lays.n169 P r) (X : Builder.Extra P r) (hf : FnOk P (r.f 169)) {T : Nat} {σ : Mem} {b : Nat} {buf : Option (Nat × Nat)} {bs : List UInt8} (h : BldS σ b T (r.t 5) buf bs) (hne : buf = none ∨ bs ≠ []) :
    ACalls P (r.f 169) [.ptr b 0] σ fun v σ' => v = .str ⟨bs.toArray⟩ ∧ σ' = σ := by
  refine ⟨hf, fun ρ w args' st hl' => ?_⟩
  obtain ⟨x0, h0, r0⟩ := hl'.get (i := 0) (a := .ptr b 0) rfl
  have hsz := hl'.1
  cases r0
  rename_i b' o' m hb
  obtain ⟨rfl, pv, v, hat, hv1, hv2⟩ := h.at st hb
  have hargs : args' = #[.pointer (some ⟨b', 0, none⟩)] := by
    refine Array.ext' ?_
    have hl2 : args'.toList.length = 1 := hsz.symm
    rw [← Array.getElem?_toList] at h0
    match hx : args'.toList, hl2 with
    | [a], _ =>
      rw [hx] at h0
      cases h0; rfl
  rw [hargs]
  obtain ⟨hgb, hbuf⟩ := h
  rcases hbuf with ⟨rfl, rfl⟩ | ⟨g, rfl, hg⟩
  · have hv := hv1 rfl
    subst hv
    refine (bld_String_nil L X hat.1).mono ?_
    rintro e w' ⟨rfl, hw⟩
    refine ⟨_, _, σ, ρ, rfl, ⟨rfl, rfl⟩, .str _, ?_⟩
    rcases hw with rfl | rfl
    · exact step_still st rfl rfl rfl rfl
    · exact step_still st rfl rfl rfl rfl
  · have hb0 : bs ≠ [] := by
      rcases hne with h | h
      · cases h
      · exact h
    obtain ⟨l, cap, e1, e2⟩ := hv2 _ _ rfl
    subst e2
    refine (bld_String L X hat hb0).mono ?_
    rintro e w' ⟨rfl, g', hg', d, hd, rfl⟩
    cases hg'
    have hdh : d.heap = w.heap ∧ d.os = w.os ∧ d.tape = w.tape ∧ d.output = w.output := by rcases hd with rfl | rfl <;> exact ⟨rfl, rfl, rfl, rfl⟩
    obtain ⟨_, hm, cs, fz, k1, k2, k3, k4⟩ := st.rel g _ _ hg e1
    dsimp only at k1 k3
    rw [bl_len] at k2 k3
    have hn0 : bs.length ≠ 0 := by simpa using hb0
    obtain ⟨⟨fz', f1, f2⟩, f3, f4, f5, f6, f7⟩ := freeze_heap (w := d) (g := l) (n := bs.length) (cs := cs) (E := r.t 5) (fz := fz) (by rw [hdh.1]; exact k1) hn0 k2
    refine ⟨_, _, σ, ρ, rfl, ⟨rfl, rfl⟩, .str _, ⟨⟨st.dom, st.live, fun c k p hc hp => ?_, st.inj⟩, Nat.le_refl _, fun _ _ e => e, fun c p e e' => (by rw [e] at e'; cases e'), fun c k hc _ => ⟨k, hc, rfl⟩, fun _ _ _ => rfl, fun c hc hno => ?_, ?_, f5.trans hdh.2.1, f6.trans hdh.2.2.1, f7.trans hdh.2.2.2⟩⟩
    · by_cases hcg : c = g
      · subst hcg
        rw [hg] at hc; cases hc
        rw [e1] at hp; cases hp
        exact ⟨rfl, hm, cs, fz', f1, by rw [bl_len]; exact f2, by rw [bl_len]; exact k3, k4⟩
      · refine (st.rel c k p hc hp).move fun hsol => ?_
        rw [f3 _ (fun e => st.inj g c _ _ _ _ hg hc e1 hp rfl hsol (fun x => hcg x.symm) e.symm), hdh.1]
    · rw [f3 c (fun e => hno g _ _ hg rfl e1 e.symm), hdh.1]
    · rw [f4, hdh.1]; exact Nat.le_refl _
end Go.Vit
end

section
namespace Go.Vit
def goL {α β : Type} (f : α → Option (List β)) : List α → Option (List β)
  | [] => some []
  | a :: l => match f a with
    | none => none
    | some m => match goL f l with
      | none => none
      | some k => some (m ++ k)
def bindL {α β : Type} (o : Option (List α)) (f : α → Option (List β)) : Option (List β) := match o with
  | none => none
  | some l => goL f l
theorem goL_mem {α β : Type} {f : α → Option (List β)} : ∀ {l : List α} {L : List β}, goL f l = some L → ∀ a ∈ l, ∃ m, f a = some m ∧ ∀ x ∈ m, x ∈ L
  | [], _, _, a, h => by cases h
  | b :: l, L, h, a, ha => by
    simp only [goL] at h
    split at h
    · cases h
    · rename_i m hm
      split at h
      · cases h
      · rename_i k hk
        cases h
        rcases List.mem_cons.1 ha with rfl | ha
        · exact ⟨m, hm, fun _ h => List.mem_append_left _ h⟩
        · obtain ⟨m', h1, h2⟩ := goL_mem hk a ha
          exact ⟨m', h1, fun x hx => List.mem_append_right _ (h2 x hx)⟩
theorem bindL_mem {α β : Type} {o : Option (List α)} {f : α → Option (List β)} {L : List β} (h : bindL o f = some L) : ∃ l, o = some l ∧ ∀ a ∈ l, ∃ m, f a = some m ∧ ∀ x ∈ m, x ∈ L := by
  unfold bindL at h
  split at h
  · cases h
  · rename_i l
    exact ⟨l, rfl, goL_mem h⟩
abbrev CallL := Nat → List AV → Mem → Option (List (AV × Mem))
def noCallL : CallL := fun _ _ _ => none
abbrev RngL := AOpd → List Nat → ACode → ACode → Tmps → Mem → Option (List Mem)
def noRngL : RngL := fun _ _ _ _ _ _ => none
def leftE (seen : List Nat) : List (AV × AV × Nat) → List (AV × AV × Nat)
  | [] => []
  | e :: es => match seen.any (fun n => Nat.beq n e.2.2) with
    | true => leftE seen es
    | false => e :: leftE seen es
theorem leftE_mem {seen : List Nat} : ∀ {es : List (AV × AV × Nat)} {e : AV × AV × Nat}, e ∈ leftE seen es ↔ e ∈ es ∧ e.2.2 ∉ seen
  | [], e => by simp [leftE]
  | d :: es, e => by
    have ih := leftE_mem (seen := seen) (es := es) (e := e)
    have hd : (seen.any fun n => Nat.beq n d.2.2) = true ↔ d.2.2 ∈ seen := by
      rw [List.any_eq_true]
      exact ⟨fun ⟨n, h1, h2⟩ => by rw [← Nat.eq_of_beq_eq_true h2]; exact h1, fun h => ⟨_, h, by simp⟩⟩
    unfold leftE
    split
    · rename_i h
      rw [ih]
      exact ⟨fun ⟨h1, h2⟩ => ⟨List.mem_cons_of_mem _ h1, h2⟩, fun ⟨h1, h2⟩ => ⟨(List.mem_cons.1 h1).resolve_left (fun e1 => h2 (by rw [e1]; exact hd.1 h)), h2⟩⟩
    · rename_i h
      rw [List.mem_cons, ih, List.mem_cons]
      constructor
      · rintro (rfl | ⟨h1, h2⟩)
        · exact ⟨.inl rfl, fun hm => by rw [hd.2 hm] at h; cases h⟩
        · exact ⟨.inr h1, h2⟩
      · rintro ⟨rfl | h1, h2⟩
        · exact .inl rfl
        · exact .inr ⟨h1, h2⟩
def evStepL (call yf : CallL) (id : Nat) (op : AOp) (t : Tmps) (σ : Mem) : Option (List (AV × Mem)) :=
  match op with
  | .call f xs => (evs t xs).bind fun l => call f l σ
  | .callv x xs => match x.ev t with
    | some (.func f c) => (evs t xs).bind fun l => call f (l ++ c) σ
    | some (.yld b) => (evs t xs).bind fun l => yf b l σ
    | _ => none
  | .nextM x => match x.ev t with
    | some (.ptr b 0) => (match σ.get b with
      | some (.iter none _ _ _) => some [(.tup [.bool false], σ)]
      | some (.iter (some m) since seen last) => (match σ.get m with
        | some (.map es clock) => (match es.all (fun e => Nat.blt e.2.2 since) && Nat.ble since last with
          | true => (match leftE seen es with
            | [] => some [(.tup [.bool false], σ)]
            | e :: r => some ((e :: r).map fun e => (.tup [.bool true, e.1, e.2.1], σ.put b (some (.iter (some m) since (seen ++ [e.2.2]) clock)))))
          | false => none)
        | _ => none)
      | _ => none)
    | _ => none
  | op => match op.eff with
    | true => match eop id op t σ with
      | some r => some [r]
      | none => none
    | false => match nop id op t σ with
      | some r => some [(r.1, σ.add id r.2)]
      | none => none
def evOpsL (call yf : CallL) (base : Nat) : List RegE → Tmps → Mem → Option (List (Tmps × Mem))
  | [], t, σ => some [(t, σ)]
  | p :: rest, t, σ => match gval t p.o.g with
    | some true => bindL (evStepL call yf (base + p.i) p.o.op t σ) fun r => match floatsB base t σ r.2 p.fl with
        | true => evOpsL call yf base rest (Tmps.set t p.o.d r.1) r.2
        | false => none
    | some false => evOpsL call yf base rest (Tmps.set t p.o.d (.tup [])) σ
    | none => none
abbrev EndL := Exit × Tmps × Mem
def evCodeL (call : CallL) (rng : RngL) (yf : CallL) : Nat → ACode → Tmps → Mem → Option (List EndL)
  | 0, _, _, _ => none
  | n + 1, c, t, σ => match c with
    | .skip => some [(.normal, t, σ)]
    | .region k ops => bindL (evOpsL call yf σ.next ops t (σ.bump k)) fun r => some [(.normal, r.1, r.2)]
    | .seq x y => bindL (evCodeL call rng yf n x t σ) fun r => match r with
      | (.normal, t', σ') => evCodeL call rng yf n y t' σ'
      | r => some [r]
    | .cond c x y => match c.ev t with
      | some (.bool true) => evCodeL call rng yf n x t σ
      | some (.bool false) => evCodeL call rng yf n y t σ
      | _ => none
    | .block id x => bindL (evCodeL call rng yf n x t σ) fun r => match r with
      | (.exit id', t', σ') => match Nat.beq id' id with
        | true => some [(.normal, t', σ')]
        | false => some [(.exit id', t', σ')]
      | r => some [r]
    | .loop x => bindL (evCodeL call rng yf n x t σ) fun r => match r with
      | (.normal, t', σ') => evCodeL call rng yf n (.loop x) t' σ'
      | r => some [r]
    | .exit id => some [(.exit id, t, σ)]
    | .ret => some [(.ret, t, σ)]
    | .scope x => evCodeL call rng yf n x t σ
    | .forget ks => some [(.normal, Tmps.keep t ks, σ)]
    | .range g ps a b => bindL (rng g ps a b t σ) fun σ' => some [(.normal, t, σ')]
    | .regionX k ops p q fq fp => bindL (evOpsL call yf σ.next ops t (σ.bump k)) fun r => match apartB r.1 p q with
        | true => match evOps noCall noCall σ.next [p, q] r.1 r.2 with
          | some a => match evOps noCall noCall σ.next [⟨q.i, q.o, fq⟩, ⟨p.i, p.o, fp⟩] r.1 r.2 with
            | some _ => some [(.normal, a.1, a.2)]
            | none => none
          | none => none
        | false => none
    | .stuck => none
def evYieldL (call : CallL) (N : Nat) (b : Nat) (ps : List Nat) (x y : ACode) (t : Tmps) : CallL := fun b' args σ =>
  match Nat.beq b' b && Nat.beq args.length ps.length with
  | true => bindL (evCodeL call noRngL noCallL N x (Tmps.fill t ps args) σ) fun r => match r with
    | (.normal, t1, σ1) => bindL (evCodeL call noRngL noCallL N y t1 σ1) fun r => match r with
      | (.normal, _, σ2) => some [(.bool true, σ2)]
      | _ => none
    | _ => none
  | false => none
def evRngL (callY : CallL → CallL) (N : Nat) : RngL := fun g ps x y t σ =>
  match g.ev t with
  | some (.func f c) => bindL (callY (evYieldL (callY noCallL) N σ.next ps x y t) f (.yld σ.next :: c) (σ.bump 1)) fun r => some [r.2]
  | _ => none
def evCallYL (tbl : Nat → Option AFunc) (orc : CallL) (N : Nat) : Nat → CallL → CallL
  | 0, _, _, _, _ => none
  | d + 1, yf, f, args, σ => match tbl f with
    | some af => match Nat.ble args.length af.N with
      | true => bindL (evCodeL (evCallYL tbl orc N d noCallL) (evRngL (evCallYL tbl orc N d) N) yf N af.body (argT args 0 .leaf) σ) fun r => match r with
        | (.normal, t', σ') => match evr t' σ' af.res with
          | some l => some [(packA l, σ')]
          | none => none
        | (.ret, t', σ') => match evr t' σ' af.res with
          | some l => some [(packA l, σ')]
          | none => none
        | _ => none
      | false => none
    | none => orc f args σ
def evCallL (tbl : Nat → Option AFunc) (orc : CallL) (N : Nat) (D : Nat) : CallL := evCallYL tbl orc N D noCallL
section
variable {P : Program} {Y : YEnv} {call yf : CallL} {rng : RngL} {t t' : Tmps} {σ σ' : Mem}
def CallOkL (P : Program) (call : CallL) : Prop := ∀ f args σ L, call f args σ = some L → ACalls P f args σ fun u τ => (u, τ) ∈ L
def YFOkL (yf : CallL) (Y : YEnv) : Prop := ∀ b args σ L, yf b args σ = some L → ∃ T, Y b = some T ∧ T args σ fun u τ => (u, τ) ∈ L
def RngOkL (P : Program) (rng : RngL) : Prop := ∀ g ps x y t σ L, rng g ps x y t σ = some L → ∀ (Y : YEnv) (Q : APost), (∀ σ' ∈ L, Q .normal t σ') → AW P Y (.range g ps x y) Q t σ
theorem YFOkL.no : YFOkL noCallL noY := fun b args σ L h => by cases h
theorem evStepL_ok (hc : CallOkL P call) (hy : YFOkL yf Y) {id : Nat} {op : AOp} {L : List (AV × Mem)} {k : AV → Mem → Prop} (h : evStepL call yf id op t σ = some L) (hk : ∀ r ∈ L, k r.1 r.2) : AStep P Y id op t σ k := by
  cases op
  case nextM x =>
    simp only [evStepL] at h
    simp only [AStep]
    split at h
    · rename_i b hx
      simp only [hx]
      split at h
      · rename_i hb
        rw [hb]
        cases h
        exact hk _ (List.mem_singleton.2 rfl)
      · rename_i m since seen last hb
        rw [hb]
        dsimp only
        split at h
        · rename_i es clock hm
          rw [hm]
          dsimp only
          split at h
          · rename_i hall
            rw [Bool.and_eq_true, List.all_eq_true] at hall
            refine ⟨fun e he => ?_, Nat.le_of_ble_eq_true hall.2, ?_, ?_⟩
            · have := hall.1 e he
              rw [Nat.blt_eq] at this
              exact this
            · intro hs
              have : leftE seen es = [] := by
                rw [List.eq_nil_iff_forall_not_mem]
                intro e he
                rw [leftE_mem] at he
                exact he.2 (hs e he.1)
              rw [this] at h
              cases h
              exact hk _ (List.mem_singleton.2 rfl)
            · intro e he hn
              have hm := leftE_mem.2 ⟨he, hn⟩
              split at h
              · rename_i h0
                rw [h0] at hm; cases hm
              · rename_i d r h0
                cases h
                rw [← h0] at hk
                exact hk _ (List.mem_map.2 ⟨e, hm, rfl⟩)
          · cases h
        · cases h
      · cases h
    · cases h
  case call f xs =>
    simp only [evStepL, Option.bind_eq_some_iff] at h
    obtain ⟨l, hl, h⟩ := h
    simp only [AStep, hl]
    exact (hc _ _ _ _ h).mono fun u τ hu => hk _ hu
  case callv x xs =>
    simp only [evStepL] at h
    split at h
    · rename_i f c hx
      simp only [Option.bind_eq_some_iff] at h
      obtain ⟨l, hl, h⟩ := h
      simp only [AStep, hx, hl]
      exact (hc _ _ _ _ h).mono fun u τ hu => hk _ hu
    · rename_i b hx
      simp only [Option.bind_eq_some_iff] at h
      obtain ⟨l, hl, h⟩ := h
      obtain ⟨T, hT, h⟩ := hy _ _ _ _ h
      simp only [AStep, hx, hl, hT]
      exact ⟨_, h, fun u τ hu => hk _ hu⟩
    · cases h
  all_goals
    simp only [evStepL] at h
    simp only [AStep]
    split at h
    · rename_i he
      rw [if_pos he]
      split at h
      · rename_i r hr
        rw [hr]
        cases h
        exact hk _ (List.mem_singleton.2 rfl)
      · cases h
    · rename_i he
      rw [if_neg (by simp [he])]
      split at h
      · rename_i r hr
        rw [hr]
        cases h
        exact hk _ (List.mem_singleton.2 rfl)
      · cases h
theorem evOpsL_ok (hc : CallOkL P call) (hy : YFOkL yf Y) {base : Nat} {K : Tmps → Mem → Prop} : ∀ {l : List RegE} {t : Tmps} {σ : Mem} {L : List (Tmps × Mem)}, evOpsL call yf base l t σ = some L → (∀ r ∈ L, K r.1 r.2) → AOps P Y base K l t σ
  | [], t, σ, L, h, hK => by
    simp only [evOpsL, Option.some.injEq] at h
    subst h
    exact hK _ (List.mem_singleton.2 rfl)
  | p :: l, t, σ, L, h, hK => by
    simp only [evOpsL] at h
    simp only [AOps]
    split at h
    · rename_i hg
      rw [hg]
      obtain ⟨l1, h1, h2⟩ := bindL_mem h
      refine evStepL_ok hc hy h1 fun r hr => ?_
      obtain ⟨m, h3, h4⟩ := h2 r hr
      split at h3
      · rename_i hf
        exact ⟨floatsB_ok hf, evOpsL_ok hc hy h3 fun x hx => hK x (h4 x hx)⟩
      · cases h3
    · rename_i hg
      rw [hg]
      exact evOpsL_ok hc hy h hK
    · cases h
theorem evCodeL_ok (hc : CallOkL P call) (hrng : RngOkL P rng) (hy : YFOkL yf Y) : ∀ {n : Nat} {k : Nat}, k ≤ n → ∀ {c : ACode} {t : Tmps} {σ : Mem} {L : List EndL} {Q : APost}, evCodeL call rng yf k c t σ = some L → (∀ r ∈ L, Q r.1 r.2.1 r.2.2) → AW P Y c Q t σ := by
  intro n
  induction n with
  | zero =>
    intro k hk c t σ L Q h
    obtain rfl : k = 0 := by omega
    simp [evCodeL] at h
  | succ n ih =>
    intro k hk
    cases k with
    | zero => intro c t σ L Q h; simp [evCodeL] at h
    | succ k =>
    have hkn : k ≤ n := by omega
    intro c
    cases c with
    | skip =>
      intro t σ L Q h hQ
      simp only [evCodeL, Option.some.injEq] at h
      subst h
      exact hQ _ (List.mem_singleton.2 rfl)
    | region m ops =>
      intro t σ L Q h hQ
      simp only [evCodeL] at h
      obtain ⟨l, h1, h2⟩ := bindL_mem h
      refine evOpsL_ok hc hy h1 fun r hr => ?_
      obtain ⟨m, h3, h4⟩ := h2 r hr
      cases h3
      exact hQ _ (h4 _ (List.mem_singleton.2 rfl))
    | seq x y =>
      intro t σ L Q h hQ
      simp only [evCodeL] at h
      simp only [AW]
      obtain ⟨l, h1, h2⟩ := bindL_mem h
      refine ih hkn h1 fun r hr => ?_
      obtain ⟨m, h3, h4⟩ := h2 r hr
      obtain ⟨e, t1, σ1⟩ := r
      cases e with
      | normal => exact ih hkn h3 fun x hx => hQ x (h4 x hx)
      | _ =>
        cases h3
        exact hQ _ (h4 _ (List.mem_singleton.2 rfl))
    | cond c x y =>
      intro t σ L Q h hQ
      simp only [evCodeL] at h
      simp only [AW]
      split at h
      · rename_i hcv
        rw [hcv]
        exact ⟨fun _ => ih hkn h hQ, fun e => by cases e⟩
      · rename_i hcv
        rw [hcv]
        exact ⟨fun e => (by cases e), fun _ => ih hkn h hQ⟩
      · cases h
    | block id x =>
      intro t σ L Q h hQ
      simp only [evCodeL] at h
      simp only [AW]
      obtain ⟨l, h1, h2⟩ := bindL_mem h
      refine ih hkn h1 fun r hr => ?_
      obtain ⟨m, h3, h4⟩ := h2 r hr
      obtain ⟨e, t1, σ1⟩ := r
      cases e with
      | exit id' =>
        simp only at h3
        simp only [APost.inBlock]
        split at h3
        · rename_i hb
          cases h3
          rw [if_pos (Nat.eq_of_beq_eq_true hb)]
          exact hQ _ (h4 _ (List.mem_singleton.2 rfl))
        · rename_i hb
          cases h3
          rw [if_neg (fun e => by subst e; simp at hb)]
          exact hQ _ (h4 _ (List.mem_singleton.2 rfl))
      | _ =>
        cases h3
        exact hQ _ (h4 _ (List.mem_singleton.2 rfl))
    | loop x =>
      intro t σ L Q h hQ
      let I : Tmps → Mem → Prop := fun t σ => ∃ m, ∃ L, evCodeL call rng yf m (.loop x) t σ = some L ∧ (∀ r ∈ L, Q r.1 r.2.1 r.2.2) ∧ m ≤ n + 1
      let W : Tmps → Mem → Nat → Prop := fun t σ m => ∃ L, evCodeL call rng yf m (.loop x) t σ = some L ∧ (∀ r ∈ L, Q r.1 r.2.1 r.2.2) ∧ m ≤ n + 1
      have hI : ∀ t σ, I t σ → ∃ m, W t σ m ∧ ∀ k, W t σ k → m ≤ k := fun t σ h => least h
      let μ : Tmps → Mem → Nat := fun t σ => @dite Nat (I t σ) (Classical.propDecidable _) (fun h => Classical.choose (hI t σ h)) (fun _ => 0)
      refine ⟨I, μ, ⟨k + 1, L, h, hQ, hk⟩, fun t1 σ1 hi => ?_⟩
      have hm := Classical.choose_spec (hI t1 σ1 hi)
      have hμ : μ t1 σ1 = Classical.choose (hI t1 σ1 hi) := dif_pos hi
      rw [← hμ] at hm
      obtain ⟨⟨L1, hev, hQ1, hle⟩, hmin⟩ := hm
      generalize hμ1 : μ t1 σ1 = m at hev hle hmin
      cases m with
      | zero => simp [evCodeL] at hev
      | succ j =>
        simp only [evCodeL] at hev
        obtain ⟨l, h1, h2⟩ := bindL_mem hev
        refine ih (by omega) h1 fun r hr => ?_
        obtain ⟨m, h3, h4⟩ := h2 r hr
        obtain ⟨e, t2, σ2⟩ := r
        cases e with
        | normal =>
          have hw : W t2 σ2 j := ⟨m, h3, fun x hx => hQ1 x (h4 x hx), by omega⟩
          have hi2 : I t2 σ2 := ⟨j, hw⟩
          refine ⟨hi2, ?_⟩
          have h5 := (Classical.choose_spec (hI t2 σ2 hi2)).2 j hw
          have hμ2 : μ t2 σ2 = Classical.choose (hI t2 σ2 hi2) := dif_pos hi2
          show μ t2 σ2 < _
          rw [hμ2]
          omega
        | _ =>
          cases h3
          exact hQ1 _ (h4 _ (List.mem_singleton.2 rfl))
    | exit id =>
      intro t σ L Q h hQ
      simp only [evCodeL, Option.some.injEq] at h
      subst h
      exact hQ _ (List.mem_singleton.2 rfl)
    | ret =>
      intro t σ L Q h hQ
      simp only [evCodeL, Option.some.injEq] at h
      subst h
      exact hQ _ (List.mem_singleton.2 rfl)
    | scope x =>
      intro t σ L Q h hQ
      simp only [evCodeL] at h
      simp only [AW]
      exact ih hkn h hQ
    | forget ks =>
      intro t σ L Q h hQ
      simp only [evCodeL, Option.some.injEq] at h
      subst h
      exact hQ _ (List.mem_singleton.2 rfl)
    | range g ps x y =>
      intro t σ L Q h hQ
      simp only [evCodeL] at h
      obtain ⟨l, h1, h2⟩ := bindL_mem h
      refine hrng _ _ _ _ _ _ _ h1 Y Q fun r hr => ?_
      obtain ⟨m, h3, h4⟩ := h2 r hr
      cases h3
      exact hQ _ (h4 _ (List.mem_singleton.2 rfl))
    | regionX m ops p q fq fp =>
      intro t σ L Q h hQ
      simp only [evCodeL] at h
      obtain ⟨l, h1, h2⟩ := bindL_mem h
      refine evOpsL_ok hc hy h1 fun r hr => ?_
      obtain ⟨m, h3, h4⟩ := h2 r hr
      split at h3
      · rename_i hap
        split at h3
        · rename_i r1 e1
          split at h3
          · rename_i r2 e2
            cases h3
            have hsame := apart_same hap e1 e2
            subst hsame
            have hQ2 := hQ _ (h4 _ (List.mem_singleton.2 rfl))
            have hno : ∀ (Y : YEnv), YFOk noCall Y := fun Y b args σ v σ' h => by cases h
            exact ⟨evOps_ok noCall_ok (hno Y) e1 hQ2, evOps_ok noCall_ok (hno Y) e2 hQ2⟩
          · cases h3
        · cases h3
      · cases h3
    | stuck => intro t σ L Q h; simp [evCodeL] at h
theorem noRngL_ok : RngOkL P noRngL := fun _ _ _ _ _ _ _ h => by cases h
theorem evYieldL_ok (hc : CallOkL P call) {N b : Nat} {ps : List Nat} {x y : ACode} {t : Tmps} :
    YFOkL (evYieldL call N b ps x y t) (oneY b fun args σ' K => args.length = ps.length ∧ AW P noY x (APost.then (fun t1 σ1 => AW P noY y (fun e _ σ2 => match e with
      | .normal => K (.bool true) σ2
      | _ => False) t1 σ1) (fun _ _ _ => False)) (Tmps.fill t ps args) σ') := by
  intro b' args σ L h
  simp only [evYieldL] at h
  split at h
  · rename_i hb
    rw [Bool.and_eq_true] at hb
    obtain rfl := Nat.eq_of_beq_eq_true hb.1
    refine ⟨_, if_pos rfl, Nat.eq_of_beq_eq_true hb.2, ?_⟩
    obtain ⟨l, h1, h2⟩ := bindL_mem h
    refine evCodeL_ok hc noRngL_ok .no (Nat.le_refl _) h1 fun r hr => ?_
    obtain ⟨m, h3, h4⟩ := h2 r hr
    obtain ⟨e, t1, σ1⟩ := r
    cases e with
    | normal =>
      obtain ⟨l', h5, h6⟩ := bindL_mem h3
      refine evCodeL_ok hc noRngL_ok .no (Nat.le_refl _) h5 fun r hr => ?_
      obtain ⟨m', h7, h8⟩ := h6 r hr
      obtain ⟨e, t2, σ2⟩ := r
      cases e with
      | normal =>
        cases h7
        exact h4 _ (h8 _ (List.mem_singleton.2 rfl))
      | _ => cases h7
    | _ => cases h3
  · cases h
theorem evRngL_ok {callY : CallL → CallL} (hc : ∀ yf Y, YFOkL yf Y → ∀ f args σ L, callY yf f args σ = some L → ACallsY P Y f args σ fun u τ => (u, τ) ∈ L) {N : Nat} : RngOkL P (evRngL callY N) := by
  intro g ps x y t σ L h Y Q hQ
  simp only [evRngL] at h
  simp only [AW]
  split at h
  · rename_i f c hg
    rw [hg]
    obtain ⟨l, h1, h2⟩ := bindL_mem h
    refine (hc _ _ (evYieldL_ok (P := P) (fun f args σ L h => (hc _ _ .no f args σ L h).plain)) _ _ _ _ h1).mono ?_
    intro u τ hu
    obtain ⟨m, h3, h4⟩ := h2 _ hu
    cases h3
    exact hQ _ (h4 _ (List.mem_singleton.2 rfl))
  · cases h
theorem evCallYL_ok {tbl : Nat → Option AFunc} {orc : CallL} (hm : P.follows .mixedOrders = true) (ht : ∀ f af, tbl f = some af → compFunc P f = some af) (ho : CallOkL P orc) {N : Nat} :
    ∀ {D : Nat} (yf : CallL) (Y : YEnv), YFOkL yf Y → ∀ f args σ L, evCallYL tbl orc N D yf f args σ = some L → ACallsY P Y f args σ fun u τ => (u, τ) ∈ L := by
  intro D
  induction D with
  | zero => intro yf Y hy f args σ L h; simp [evCallYL] at h
  | succ D ih =>
    intro yf Y hy f args σ L h
    have hcall : CallOkL P (evCallYL tbl orc N D noCallL) := fun f args σ L h => (ih _ _ .no f args σ L h).plain
    simp only [evCallYL] at h
    split at h
    · rename_i af hf
      have hcf := ht _ _ hf
      split at h
      · rename_i hlen
        refine .of_func hm hcf (Nat.le_of_ble_eq_true hlen) ?_
        obtain ⟨l, h1, h2⟩ := bindL_mem h
        refine evCodeL_ok hcall (evRngL_ok ih) hy (Nat.le_refl _) h1 fun r hr => ?_
        obtain ⟨m, h3, h4⟩ := h2 r hr
        obtain ⟨e, t1, σ1⟩ := r
        cases e with
        | normal =>
          simp only at h3
          split at h3
          · rename_i l hl
            cases h3
            simp only [retPost, hl]
            exact h4 _ (List.mem_singleton.2 rfl)
          · cases h3
        | ret =>
          simp only at h3
          split at h3
          · rename_i l hl
            cases h3
            simp only [retPost, hl]
            exact h4 _ (List.mem_singleton.2 rfl)
          · cases h3
        | _ => cases h3
      · cases h
    · exact (ho _ _ _ _ h).any
end
end Go.Vit
end

section
namespace Go.Vit
section
variable {P : Program}
end
end Go.Vit
end

section
namespace Go.Vit
def unb1 : AV → Option UInt8
  | .int .u8 n => match decide (0 ≤ n ∧ n < 256) with
    | true => some (UInt8.ofNat n.toNat)
    | false => none
  | _ => none
def unbl : List AV → Option (List UInt8)
  | [] => some []
  | a :: l => match unb1 a with
    | some x => (match unbl l with
      | some m => some (x :: m)
      | none => none)
    | none => none
theorem unbl_eq : ∀ {c : List AV} {l : List UInt8}, unbl c = some l → c = bl l
  | [], l, h => by cases h; rfl
  | a :: c, l, h => by
    simp only [unbl] at h
    split at h
    · rename_i x hx
      split at h
      · rename_i m hm
        cases h
        have ih := unbl_eq hm
        have : a = .int .u8 x.toNat := by
          unfold unb1 at hx
          split at hx
          · rename_i n
            split at hx
            · rename_i hd
              rw [decide_eq_true_eq] at hd
              cases hx
              congr 1
              rw [UInt8.toNat_ofNat']
              omega
            · cases hx
          · cases hx
        rw [this, ih]; rfl
      · cases h
    · cases h
def bufOf (σ : Mem) (E : Nat) : Option (Nat × Nat) → Option (List UInt8)
  | none => some []
  | some (g, n) => match σ.get g with
    | some (.row E' c) => (match unbl c with
      | some bs => (match Nat.beq E' E && Nat.beq bs.length n with
        | true => some bs
        | false => none)
      | none => none)
    | _ => none
theorem bufOf_ok {σ : Mem} {b T E : Nat} {buf : Option (Nat × Nat)} {bs : List UInt8} (hb : σ.get b = some (.bld T buf)) (h : bufOf σ E buf = some bs) : BldS σ b T E buf bs := by
  refine ⟨hb, ?_⟩
  unfold bufOf at h
  split at h
  · cases h; exact .inl ⟨rfl, rfl⟩
  · rename_i g n
    split at h
    · rename_i E' c hg
      split at h
      · rename_i bs' hbs
        split at h
        · rename_i hc
          cases h
          rw [Bool.and_eq_true] at hc
          have e1 := Nat.eq_of_beq_eq_true hc.1
          have e2 := Nat.eq_of_beq_eq_true hc.2
          subst e1; subst e2
          refine .inr ⟨g, rfl, ?_⟩
          rw [hg, unbl_eq hbs]
        · cases h
      · cases h
    · cases h
def orcB (W S E : Nat) (Ts : List Nat) : CallL := fun f args σ =>
  match Nat.beq f W with
  | true => (match args with
    | [.ptr b 0, .str s] => (match σ.get b with
      | some (.bld T buf) => (match bufOf σ E buf with
        | some bs => (match Ts.any (fun t => Nat.beq t T) && Nat.ble (bs.length + s.size) 140737488355328 with
          | true => some [(.tup [.int .i64 s.size, .nili], wrMem σ b T E buf bs s)]
          | false => none)
        | none => none)
      | _ => none)
    | _ => none)
  | false => (match Nat.beq f S with
    | true => (match args with
      | [.ptr b 0] => (match σ.get b with
        | some (.bld T buf) => (match bufOf σ E buf with
          | some bs => (match Ts.any (fun t => Nat.beq t T) && (buf.isNone || !bs.isEmpty) with
            | true => some [(.str ⟨bs.toArray⟩, σ)]
            | false => none)
          | none => none)
        | _ => none)
      | _ => none)
    | false => none)
section
variable {P : Program}
theorem any_beq {Ts : List Nat} {T : Nat} (h : (Ts.any fun t => Nat.beq t T) = true) : T ∈ Ts := by
  obtain ⟨t, h1, h2⟩ := List.any_eq_true.1 h
  rw [← Nat.eq_of_beq_eq_true h2]; exact h1
theorem orcB_ok {W S E : Nat} {Ts : List Nat}
    (hW : ∀ T ∈ Ts, ∀ (σ : Mem) (b : Nat) (buf : Option (Nat × Nat)) (bs : List UInt8) (s : ByteArray), BldS σ b T E buf bs → bs.length + s.size ≤ 140737488355328 → ACalls P W [.ptr b 0, .str s] σ fun v σ' => v = .tup [.int .i64 s.size, .nili] ∧ σ' = wrMem σ b T E buf bs s)
    (hS : ∀ T ∈ Ts, ∀ (σ : Mem) (b : Nat) (buf : Option (Nat × Nat)) (bs : List UInt8), BldS σ b T E buf bs → (buf = none ∨ bs ≠ []) → ACalls P S [.ptr b 0] σ fun v σ' => v = .str ⟨bs.toArray⟩ ∧ σ' = σ) : CallOkL P (orcB W S E Ts) := by
  intro f args σ L hf
  unfold orcB at hf
  split at hf
  · rename_i hb
    obtain rfl := Nat.eq_of_beq_eq_true hb
    split at hf
    · split at hf
      · rename_i b s _ T buf hg
        split at hf
        · rename_i bs hbs
          split at hf
          · rename_i hc
            cases hf
            rw [Bool.and_eq_true] at hc
            exact (hW T (any_beq hc.1) σ b buf bs s (bufOf_ok hg hbs) (Nat.le_of_ble_eq_true hc.2)).mono fun u τ ⟨e1, e2⟩ => by subst e1; subst e2; exact List.mem_singleton.2 rfl
          · cases hf
        · cases hf
      · cases hf
    · cases hf
  · split at hf
    · rename_i hb
      obtain rfl := Nat.eq_of_beq_eq_true hb
      split at hf
      · split at hf
        · rename_i b _ T buf hg
          split at hf
          · rename_i bs hbs
            split at hf
            · rename_i hc
              cases hf
              rw [Bool.and_eq_true, Bool.or_eq_true] at hc
              refine (hS T (any_beq hc.1) σ b buf bs (bufOf_ok hg hbs) ?_).mono fun u τ ⟨e1, e2⟩ => by subst e1; subst e2; exact List.mem_singleton.2 rfl
              rcases hc.2 with h | h
              · left; simpa using h
              · right; intro e; subst e; cases h
            · cases hf
          · cases hf
        · cases hf
      · cases hf
    · cases hf
def tblX (P : Program) (xs : List Nat) (f : Nat) : Option AFunc := match xs.any fun x => Nat.beq x f with
  | true => none
  | false => compFunc P f
theorem tblX_ok {xs : List Nat} {f : Nat} {af : AFunc} (h : tblX P xs f = some af) : compFunc P f = some af := by
  unfold tblX at h
  split at h
  · cases h
  · exact h
def runsOrc (P : Program) (xs : List Nat) (orc : CallL) (N D f : Nat) (args : List AV) (c : AV) : Bool :=
  match evCallL (tblX P xs) orc N D f args ⟨.leaf, 0⟩ with
  | some l => l.all fun r => AV.eqb r.1 c
  | none => false
theorem ACalls.runsOrc {xs : List Nat} {orc : CallL} {f : Nat} {args : List AV} {c : AV} (hm : P.follows .mixedOrders = true) (ho : CallOkL P orc)
    (N D : Nat) (h : runsOrc P xs orc N D f args c = true) (ha : args.all AV.scal = true) (hc : c.scal = true) (σ : Mem) :
    ACalls P f args σ fun v σ' => v = c ∧ σ' = σ := by
  unfold Go.Vit.runsOrc at h
  split at h
  · rename_i l he
    refine ACalls.closed (((evCallYL_ok hm (fun f af hf => tblX_ok hf) ho _ _ .no _ _ _ _ he).plain).mono fun u τ hu => ?_) ha hc σ
    exact AV.eqb_eq _ _ (List.all_eq_true.1 h _ hu)
  · cases h
end
end Go.Vit
end
