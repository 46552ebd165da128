/- The library. -/
import Derived.Test.YtojgemdgadfncaaVm2
set_option linter.unusedVariables false
set_option linter.unusedSimpArgs false

section
namespace Go.Vit
class Key (α : Type) [DecidableEq α] where
  enc : α → AV
  eq : ∀ a b, keyEq (enc a) (enc b) = some (decide (a = b))
instance : Key ByteArray := ⟨.str, fun a b => by
  show some (a.data.toList == b.data.toList) = _
  congr 1
  rcases a with ⟨a⟩
  rcases b with ⟨b⟩
  by_cases h : a = b
  · subst h; simp
  · have h1 : ByteArray.mk a ≠ ByteArray.mk b := fun e => h (by injection e)
    have h2 : a.toList ≠ b.toList := fun e => h (Array.toList_inj.1 e)
    rw [decide_eq_false h1]
    exact beq_false_of_ne h2⟩
instance : Key Int := ⟨.int .i64, fun a b => by
  show (if IntKind.i64 = IntKind.i64 then some (a == b) else none) = _
  rw [if_pos rfl]
  by_cases h : a = b
  · subst h; simp
  · simp [h]⟩
section
variable {α : Type} [DecidableEq α]
def look : List (α × AV × Nat) → α → Option AV
  | [], _ => none
  | e :: l, a => if e.1 = a then some e.2.1 else look l a
def idx : List (α × AV × Nat) → α → Option Nat
  | [], _ => none
  | e :: l, a => if e.1 = a then some 0 else (idx l a).map (· + 1)
theorem idx_none {a : α} : ∀ {l : List (α × AV × Nat)}, idx l a = none → look l a = none
  | [], _ => rfl
  | e :: l, h => by
    by_cases he : e.1 = a
    · rw [idx, if_pos he] at h; exact nomatch h
    · rw [idx, if_neg he, Option.map_eq_none_iff] at h
      rw [look, if_neg he, idx_none h]
theorem idx_some {a : α} : ∀ {l : List (α × AV × Nat)} {i : Nat}, idx l a = some i → ∃ e, l[i]? = some e ∧ e.1 = a ∧ look l a = some e.2.1
  | [], _, h => nomatch h
  | e :: l, i, h => by
    by_cases he : e.1 = a
    · rw [idx, if_pos he] at h
      obtain rfl := Option.some.inj h
      exact ⟨e, rfl, he, by rw [look, if_pos he]⟩
    · rw [idx, if_neg he, Option.map_eq_some_iff] at h
      obtain ⟨j, hj, rfl⟩ := h
      obtain ⟨e', h1, h2, h3⟩ := idx_some hj
      exact ⟨e', by simpa using h1, h2, by rw [look, if_neg he, h3]⟩
end
section
variable {α : Type} [DecidableEq α] [Key α]
def encE (l : List (α × AV × Nat)) : List (AV × AV × Nat) := l.map fun e => (Key.enc e.1, e.2)
theorem findK_enc (a : α) : ∀ l : List (α × AV × Nat), findK (Key.enc a) (encE l) = some (idx l a)
  | [] => rfl
  | e :: l => by
    show (keyEq (Key.enc a) (Key.enc e.1)).bind _ = _
    rw [Key.eq, Option.bind_some]
    by_cases h : e.1 = a
    · rw [if_pos (decide_eq_true h.symm), idx, if_pos h]
    · rw [if_neg (by simpa using fun e => h e.symm), idx, if_neg h]
      show Option.map _ (findK (Key.enc a) (encE l)) = _
      rw [findK_enc a l]; rfl
theorem encE_get {l : List (α × AV × Nat)} {i : Nat} {e : α × AV × Nat} (h : l[i]? = some e) : (encE l)[i]? = some (Key.enc e.1, e.2) := by
  unfold encE; rw [List.getElem?_map, h]; rfl
theorem look_step {σ : Mem} {m c : Nat} {l : List (α × AV × Nat)} {a : α} {z : AV} {K : AV → Prop} (h : σ.get m = some (.map (encE l) c)) (hk : K ((look l a).getD z)) : lookW σ z false (.map m) (Key.enc a) K := by
  refine opt h ?_
  refine opt (findK_enc a l) ?_
  cases hi : idx l a with
  | none => rw [idx_none hi] at hk; exact hk
  | some i =>
    obtain ⟨e, h1, h2, h3⟩ := idx_some hi
    rw [h3] at hk
    exact opt (encE_get h1) hk
theorem look_ok {σ : Mem} {m c : Nat} {l : List (α × AV × Nat)} {a : α} {z : AV} {K : AV → Prop} (h : σ.get m = some (.map (encE l) c)) (h1 : ∀ v, look l a = some v → K (.tup [v, .bool true])) (h2 : look l a = none → K (.tup [z, .bool false])) : lookW σ z true (.map m) (Key.enc a) K := by
  refine opt h ?_
  refine opt (findK_enc a l) ?_
  cases hi : idx l a with
  | none => exact h2 (idx_none hi)
  | some i =>
    obtain ⟨e, h3, h4, h5⟩ := idx_some hi
    exact opt (encE_get h3) (h1 _ h5)
end
end Go.Vit
end

section
namespace Go.Vit
theorem OwnS.sl {k n : Nat} {σ : Mem} {v : AV} {cs : List AV} (h : OwnS k σ v cs n) (hn : 0 < n) : ∃ b, v = .slice b 0 n (.op k) ∧ σ.get b = some (.rw cs) ∧ cs.length = n * k := by
  rcases h with ⟨_, h, _⟩ | h
  · omega
  · exact h
abbrev Tok := Int × Int × Int
def agr (s : ByteArray) (i d n : Nat) : Prop := i + n < s.size ∧ byteAt s (i + n) = byteAt s (i + n - d)
instance (s : ByteArray) (i d n : Nat) : Decidable (agr s i d n) := inferInstanceAs (Decidable (_ ∧ _))
def mlF (s : ByteArray) (i d : Nat) : Nat → Nat → Nat
  | 0, n => n
  | f + 1, n => if agr s i d n then mlF s i d f (n + 1) else n
def ml (s : ByteArray) (i d : Nat) : Nat := mlF s i d 258 0
def rb (s : ByteArray) (i : Nat) : Nat → Nat × Nat
  | 0 => (0, 0)
  | d + 1 => if (rb s i d).1 < ml s i (d + 1) then (ml s i (d + 1), d + 1) else rb s i d
def best (s : ByteArray) (i : Nat) : Nat × Nat := rb s i (min 512 i)
def tk (s : ByteArray) (i : Nat) : Tok × Nat :=
  if 3 ≤ (best s i).1 then ((0, (best s i).1, (best s i).2), i + (best s i).1) else (((byteAt s i : Nat), 0, 0), i + 1)
def pos (s : ByteArray) : Nat → Nat
  | 0 => 0
  | k + 1 => (tk s (pos s k)).2
end Go.Vit
end

section
namespace Go.Vit
def right (t : Tok) : Prop := if t.2.1 = 0 then t.2.2 = 0 ∧ 0 ≤ t.1 ∧ t.1 ≤ 255 else t.1 = 0 ∧ 3 ≤ t.2.1 ∧ t.2.1 ≤ 258 ∧ 1 ≤ t.2.2 ∧ t.2.2 ≤ 32768
instance (t : Tok) : Decidable (right t) := by unfold right; infer_instance
/-! ### What the tokens of bytes say -/
end Go.Vit
end

section
namespace Go.Vit
def ic (l : List Int) : List AV := l.map fun n => .int .i64 n
theorem ic_len (l : List Int) : (ic l).length = l.length := by simp [ic]
theorem ic_get {l : List Int} {i : Nat} (h : i < l.length) : (ic l)[i]? = some (.int .i64 l[i]) := by simp [ic, List.getElem?_eq_getElem h]
theorem ic_one (l : List Int) : (ic l).all AV.one = true := by
  rw [List.all_eq_true]
  intro x hx
  simp only [ic, List.mem_map] at hx
  obtain ⟨b, _, rfl⟩ := hx
  rfl
theorem ic_append (l m : List Int) : ic (l ++ m) = ic l ++ ic m := by simp [ic]
def arr (f : Nat → Int) (n : Nat) : List Int := (List.range n).map f
/-! ### How many codes there are of each length -/
def cN (L : List Int) (n : Nat) : Nat := L.countP fun (x : Int) => decide (0 < x ∧ x = (n : Int))
def many (L : List Int) : Nat := L.countP fun x => decide (0 < x)
def room (L : List Int) : Nat := (L.map fun x => if 0 < x then 2 ^ (15 - x).toNat else 0).sum
def lens (L : List Int) : Prop := L.length ≤ 288 ∧ ∀ x ∈ L, 0 ≤ x ∧ x ≤ 15
instance (L : List Int) : Decidable (lens L) := by unfold lens; infer_instance
def msum (c : Nat → Nat) : Nat → Nat
  | 0 => 0
  | k + 1 => msum c k + c k
def most (L : List Int) : Int := L.foldl (fun m x => if 0 < x then max m x else m) 0
end Go.Vit
end

section
namespace Go.Vit
def Own (k : Nat) (σ σ' : Mem) (v : AV) (cs : List AV) (n : Nat) : Prop := OwnS k σ' v cs n ∧ ∀ b ∈ blkOf v, σ.next ≤ b ∧ b < σ'.next
theorem Own.same {k n : Nat} {σ σ1 σ2 : Mem} {v : AV} {cs : List AV} (h : Own k σ σ1 v cs n) (s : σ1.Same σ2) : Own k σ σ2 v cs n :=
  ⟨h.1.keep fun b hb => s.get b (h.2 b hb).2, fun b hb => ⟨(h.2 b hb).1, Nat.lt_of_lt_of_le (h.2 b hb).2 s.next⟩⟩
theorem Own.only {k n : Nat} {σ σ1 σ2 : Mem} {v : AV} {cs : List AV} {l : List Nat} (h : Own k σ σ1 v cs n) (s : Mem.Only l σ1 σ2) (hl : ∀ b ∈ blkOf v, b ∉ l) : Own k σ σ2 v cs n :=
  ⟨h.1.keep fun b hb => s.get b (h.2 b hb).2 (hl b hb), fun b hb => ⟨(h.2 b hb).1, Nat.lt_of_lt_of_le (h.2 b hb).2 s.next⟩⟩
theorem Own.nil (k : Nat) (σ σ' : Mem) : Own k σ σ' .nils [] 0 := ⟨.nil k σ', fun b hb => by simp [blkOf] at hb⟩
theorem Own.push {k bytes id nb n m j : Nat} {σ σ1 : Mem} {v : AV} {cs c : List AV} {K : AV → Mem → Prop} (h : Own k σ σ1 v cs n) (s : σ.Same σ1) {σ2 : Mem} (hσ2 : σ2 = (σ1.bump j).put nb (some (.rw c))) (hnb : σ1.next ≤ nb) (hid : nb < id) (hm : m ≠ 0) (hc : c.length = m * k)
    (h1 : c.all AV.one = true) (h2 : cs.all AV.one = true) (hr : (n + m) * bytes ≤ 140737488355328 ∧ n + m ≤ 9223372036854775806) {c' : Cap}
    (hk : ∀ v' σ', Own k σ σ' v' (cs ++ c) (n + m) → σ.Same σ' → id < σ'.next → Mem.Only (blkOf v) σ1 σ' → (∀ b ∈ blkOf v', b ∈ blkOf v ∨ b = id) → K v' σ')(hlt : id < σ2.next) : apW k bytes id σ2 v (.slice nb 0 m c') K := by
  subst hσ2
  refine OwnS.append (n := n) (m := m) (cs := cs) (c := c) (h.1.keep fun b hb => by rw [Mem.get_put_ne _ (by have := (h.2 b hb).2; omega)]; rfl) (fun K hK => src_new (Mem.get_put_self _ _ _) hc rfl K hK) (fun h => absurd h hm) hc h1 h2 hr (fun hb => by have := (h.2 _ hb).2; omega) ?_
  intro v' σ3 own3 hn3 hg3 hb3
  rw [Mem.next_put, Mem.next_bump] at hn3 hlt
  have o : Mem.Only (blkOf v) σ1 σ3 := ⟨by omega, fun b hb hn => by rw [hg3 b hn (by omega), Mem.get_put_ne _ (by omega)]; rfl⟩
  refine hk v' σ3 ⟨own3, fun b hb => ?_⟩ ⟨Nat.le_trans s.next o.next, fun b hb => ?_⟩ (by omega) o hb3
  · rcases hb3 b hb with h' | rfl
    · have := h.2 b h'; omega
    · have := s.next; omega
  · rw [o.get b (Nat.lt_of_lt_of_le hb s.next) fun h' => by have := h.2 b h'; omega]
    exact s.get b hb
def RdS (k : Nat) (σ : Mem) (v : AV) (cs : List AV) (n : Nat) : Prop :=
  (v = .nils ∧ n = 0 ∧ cs = []) ∨ ∃ b c, v = .slice b 0 n c ∧ (∃ q, σ.get b = some q ∧ q.cellsR = some cs) ∧ cs.length = n * k
theorem OwnS.rd {k n : Nat} {σ : Mem} {v : AV} {cs : List AV} (h : OwnS k σ v cs n) : RdS k σ v cs n := by
  rcases h with h | ⟨b, h1, h2, h3⟩
  · exact .inl h
  · exact .inr ⟨b, _, h1, ⟨_, h2, rfl⟩, h3⟩
theorem RdS.len {k n : Nat} {σ : Mem} {v : AV} {cs : List AV} (h : RdS k σ v cs n) {K : Int → Prop} (hk : K (n : Nat)) : slenW v K := by
  rcases h with ⟨rfl, rfl, rfl⟩ | ⟨b, c, rfl, _⟩ <;> exact hk
theorem RdS.pos {k n : Nat} {σ : Mem} {v : AV} {cs : List AV} (h : RdS k σ v cs n) (hn : 0 < n) : ∃ b c, v = .slice b 0 n c ∧ (∃ q, σ.get b = some q ∧ q.cellsR = some cs) ∧ cs.length = n * k := by
  rcases h with ⟨_, h, _⟩ | h
  · omega
  · exact h
theorem RdS.keep {k n : Nat} {σ σ' : Mem} {v : AV} {cs : List AV} (h : RdS k σ v cs n) (hb : ∀ b ∈ blkOf v, σ'.get b = σ.get b) : RdS k σ' v cs n := by
  rcases h with h | ⟨b, c, rfl, ⟨q, h1, h2⟩, h3⟩
  · exact .inl h
  · exact .inr ⟨b, c, rfl, ⟨q, (hb b (by simp [blkOf])).trans h1, h2⟩, h3⟩
theorem RdS.lt {k n : Nat} {σ : Mem} {v : AV} {cs : List AV} (h : RdS k σ v cs n) (live : σ.Live) : ∀ b ∈ blkOf v, b < σ.next := by
  rcases h with ⟨rfl, _⟩ | ⟨b, c, rfl, ⟨q, h1, h2⟩, h3⟩
  · intro b hb; simp [blkOf] at hb
  · intro c hc; simp [blkOf] at hc; subst hc; exact live.lt h1
theorem Grow.same {o o' : List Nat} {σ σ1 σ2 : Mem} (h : Grow o o' σ1 σ2) (s : σ.Same σ1) (ho : ∀ b ∈ o, σ.next ≤ b) : σ.Same σ2 ∧ ∀ b ∈ o', σ.next ≤ b := by
  refine ⟨⟨Nat.le_trans s.next h.only.next, fun b hb => ?_⟩, fun b hb => ?_⟩
  · refine (h.only.get b (Nat.lt_of_lt_of_le hb s.next) fun hm => ?_).trans (s.get b hb)
    have := ho b hm; omega
  · rcases h.new b hb with h1 | h1
    · exact ho b h1
    · exact Nat.le_trans s.next h1
/-! ### Arguments -/
section
variable {P : Program} {σ : Mem}
theorem wt_int {t : TypeId} {c : List AV} (hu : P.underlying t = some (.int .i64)) (h : Wt P σ t c) : ∃ n : Int, c = [.int .i64 n] ∧ -9223372036854775808 ≤ n ∧ n ≤ 9223372036854775807 := by
  obtain ⟨n, hc, hn⟩ := h.int_inv hu
  exact ⟨n, hc, wf_i64 hn⟩
theorem Wts.ints {t e : TypeId} {ts : List TypeId} {l : List AV} (hu : P.underlying t = some (.slice e)) (he : P.underlying e = some (.int .i64)) (hc : P.cellsOf e = 1) (hb : P.bytesOf e = 8) (h : Wts P σ (t :: ts) l) :
    ∃ a r L, l = a :: r ∧ Wts P σ ts r ∧ RdS 1 σ a (ic L) L.length ∧ L.length ≤ 2 ^ 44 ∧ ∀ x ∈ L, -9223372036854775808 ≤ x ∧ x ≤ 9223372036854775807 := by
  obtain ⟨a, r, rfl, hs, h⟩ := h.slice hu
  rcases h with rfl | ⟨b, n, l, rfl, hg, hn, hl, hw⟩
  · exact ⟨_, r, [], rfl, hs, .inl ⟨rfl, rfl, rfl⟩, by simp, fun x h => by simp at h⟩
  · rw [hc] at hl hw
    obtain ⟨L, h1, h2, h3⟩ := slice_decode (enc := fun n : Int => [AV.int .i64 n]) (good := fun x => -9223372036854775808 ≤ x ∧ x ≤ 9223372036854775807) (fun c hc => wt_int he hc) hl hw
    have h4 : l = ic L := by rw [h2]; unfold ic; rw [List.map_eq_flatMap]
    exact ⟨_, r, L, rfl, hs, .inr ⟨b, _, by rw [h1], ⟨_, hg, by rw [← h4]; rfl⟩, by rw [ic_len, Nat.mul_one]⟩, by rw [hb, reach_eq] at hn; omega, h3⟩
end
end Go.Vit
end

section
namespace Go.Vit
def fc (L : List Int) : Nat → Nat
  | 0 => 0
  | n + 1 => (fc L n + cN L n) * 2
def cd (L : List Int) (i : Nat) : Nat := if 0 < L.getD i 0 then fc L (L.getD i 0).toNat + cN (L.take i) (L.getD i 0).toNat else 0
def codes (L : List Int) : List Int := arr (fun i => (cd L i : Nat)) L.length
theorem getD_of {L : List Int} {i : Nat} (h : i < L.length) : L.getD i 0 = L[i] := by simp [List.getD, List.getElem?_eq_getElem h]
end Go.Vit
end

section
namespace Go.Vit
section
variable {α : Type} (key : α → Int)
def Stb (l l' : List α) : Prop := l'.length = l.length ∧ ∀ v : Int, l'.filter (fun x => decide (key x = v)) = l.filter (fun x => decide (key x = v))
def Srt (l : List α) : Prop := l.Pairwise fun x y => key x ≤ key y
variable {key}
theorem Stb.refl (l : List α) : Stb key l l := ⟨rfl, fun _ => rfl⟩
theorem Stb.trans {a b c : List α} (h : Stb key a b) (g : Stb key b c) : Stb key a c := ⟨g.1.trans h.1, fun v => (g.2 v).trans (h.2 v)⟩
theorem Stb.append {a a' b b' : List α} (h : Stb key a a') (g : Stb key b b') : Stb key (a ++ b) (a' ++ b') :=
  ⟨by rw [List.length_append, List.length_append, h.1, g.1], fun v => by rw [List.filter_append, List.filter_append, h.2 v, g.2 v]⟩
theorem Stb.mem {a b : List α} (h : Stb key a b) (x : α) : x ∈ b ↔ x ∈ a := by
  have e := h.2 (key x)
  have h1 : x ∈ b.filter (fun y => decide (key y = key x)) ↔ x ∈ b := by rw [List.mem_filter]; simp
  have h2 : x ∈ a.filter (fun y => decide (key y = key x)) ↔ x ∈ a := by rw [List.mem_filter]; simp
  rw [← h1, ← h2, e]
theorem Stb.swap {u v : List α} (h : ∀ x ∈ u, ∀ y ∈ v, key y < key x) : Stb key (u ++ v) (v ++ u) := by
  refine ⟨by rw [List.length_append, List.length_append, Nat.add_comm], fun k => ?_⟩
  rw [List.filter_append, List.filter_append]
  by_cases hu : u.filter (fun x => decide (key x = k)) = []
  · rw [hu]; simp
  · by_cases hv : v.filter (fun x => decide (key x = k)) = []
    · rw [hv]; simp
    · obtain ⟨x, hx⟩ := List.exists_mem_of_ne_nil _ hu
      obtain ⟨y, hy⟩ := List.exists_mem_of_ne_nil _ hv
      rw [List.mem_filter] at hx hy
      have h1 := of_decide_eq_true hx.2
      have h2 := of_decide_eq_true hy.2
      have := h x hx.1 y hy.1
      omega
theorem Srt.append {a b : List α} (ha : Srt key a) (hb : Srt key b) (h : ∀ x ∈ a, ∀ y ∈ b, key x ≤ key y) : Srt key (a ++ b) := List.pairwise_append.2 ⟨ha, hb, h⟩
theorem Srt.right {a b : List α} (h : Srt key (a ++ b)) : Srt key b := (List.pairwise_append.1 h).2.1
theorem Srt.rel {a b : List α} (h : Srt key (a ++ b)) : ∀ x ∈ a, ∀ y ∈ b, key x ≤ key y := (List.pairwise_append.1 h).2.2
theorem Srt.lt_succ {l : List α} (h : Srt key l) (n : Int) : l.filter (fun x => decide (key x < n + 1)) = l.filter (fun x => decide (key x < n)) ++ l.filter (fun x => decide (key x = n)) := by
  induction l with
  | nil => rfl
  | cons x l ih =>
    have hx : ∀ y ∈ l, key x ≤ key y := (List.pairwise_cons.1 h).1
    have ih := ih (List.pairwise_cons.1 h).2
    rcases Int.lt_trichotomy (key x) n with hlt | heq | hgt
    · rw [List.filter_cons_of_pos (by simp; omega), List.filter_cons_of_pos (by simp; omega), List.filter_cons_of_neg (by simp; omega), ih]; rfl
    · have e : (x :: l).filter (fun x => decide (key x < n)) = [] := by
        rw [List.filter_eq_nil_iff]
        intro y hy
        rcases List.mem_cons.1 hy with rfl | hy
        · simp; omega
        · have := hx y hy; simp; omega
      have e' : l.filter (fun x => decide (key x < n)) = [] := by
        rw [List.filter_eq_nil_iff]
        intro y hy
        have := hx y hy; simp; omega
      rw [e, List.filter_cons_of_pos (by simp; omega), List.filter_cons_of_pos (by simp; omega), ih, e']; rfl
    · have e1 : ∀ p : α → Bool, (∀ y, p y = true → key y ≤ n) → (x :: l).filter p = [] := by
        intro p hp
        rw [List.filter_eq_nil_iff]
        intro y hy h'
        have h2 := hp y h'
        rcases List.mem_cons.1 hy with rfl | hy
        · omega
        · have := hx y hy; omega
      rw [e1 _ fun y h => by have := of_decide_eq_true h; omega, e1 _ fun y h => by have := of_decide_eq_true h; omega, e1 _ fun y h => by have := of_decide_eq_true h; omega]; rfl
theorem Srt.at {l : List α} (h : Srt key l) {n : Int} {k : Nat} {x : α} (hk : (l.filter (fun x => decide (key x = n)))[k]? = some x) : l[(l.filter (fun x => decide (key x < n))).length + k]? = some x := by
  have e : l = l.filter (fun x => decide (key x < n + 1)) ++ l.filter (fun x => !decide (key x < n + 1)) := by
    clear hk
    induction l with
    | nil => rfl
    | cons y l ih =>
      have hx : ∀ z ∈ l, key y ≤ key z := (List.pairwise_cons.1 h).1
      have ih := ih (List.pairwise_cons.1 h).2
      by_cases hy : key y < n + 1
      · rw [List.filter_cons_of_pos (by simp; omega), List.filter_cons_of_neg (by simp; omega), List.cons_append, ← ih]
      · have e' : l.filter (fun x => decide (key x < n + 1)) = [] := by
          rw [List.filter_eq_nil_iff]
          intro z hz
          have := hx z hz; simp; omega
        rw [e', List.nil_append] at ih
        rw [List.filter_cons_of_neg (by simp; omega), List.filter_cons_of_pos (by simp; omega), e', List.nil_append, ← ih]
  rw [h.lt_succ] at e
  have hlt := (List.getElem?_eq_some_iff.1 hk).1
  generalize l.filter (fun x => decide (key x < n)) = a at e ⊢
  generalize l.filter (fun x => decide (key x = n)) = b at e hk hlt
  generalize l.filter (fun x => !decide (key x < n + 1)) = c at e
  rw [e]
  rw [List.append_assoc, List.getElem?_append_right (Nat.le_add_right _ _), Nat.add_sub_cancel_left, List.getElem?_append_left hlt]
  exact hk
/-! ### Exchanging -/
end
end Go.Vit
end

section
namespace Go.Vit
end Go.Vit
end

section
namespace Go.Vit
def fnd (L : List Int) (n c : Nat) : Option Nat := (List.range L.length).find? fun i => decide (L.getD i 0 = n ∧ cd L i = c)
def dec (L : List Int) (s : ByteArray) : Nat → Nat → Nat → Nat → Int × Int × Nat
  | 0, _, _, at' => (0, 12, at')
  | k + 1, n, c, at' => if 8 * s.size ≤ at' then (0, 3, at') else match fnd L n (2 * c + bitAt s at') with
    | some i => ((i : Nat), 0, at' + 1)
    | none => dec L s k (n + 1) (2 * c + bitAt s at') (at' + 1)
end Go.Vit
end

section
namespace Go.Vit
end Go.Vit
end

section
namespace Go.Vit
def RdO (k : Nat) (σ : Mem) (v : AV) (cs : List AV) (n : Nat) : Prop :=
  (v = .nils ∧ n = 0 ∧ cs = []) ∨ ∃ b z c, v = .slice b z n c ∧ cs.length = n * k ∧ ∃ q cells, σ.get b = some q ∧ q.cellsR = some cells ∧ (cells.drop z).take (n * k) = cs ∧ z + n * k ≤ cells.length
theorem RdO.mk {k n b : Nat} {c : Cap} {σ : Mem} {v : AV} {cs : List AV} (hv : v = .slice b 0 n c) (hg : ∃ q, σ.get b = some q ∧ q.cellsR = some cs) (hl : cs.length = n * k) : RdO k σ v cs n := by
  obtain ⟨q, h1, h2⟩ := hg
  exact .inr ⟨b, 0, c, hv, hl, q, cs, h1, h2, by rw [List.drop_zero, ← hl, List.take_length], by omega⟩
theorem RdS.o {k n : Nat} {σ : Mem} {v : AV} {cs : List AV} (h : RdS k σ v cs n) : RdO k σ v cs n := by
  rcases h with h | ⟨b, c, h1, h2, h3⟩
  · exact .inl h
  · exact .mk h1 h2 h3
theorem RdO.len {k n : Nat} {σ : Mem} {v : AV} {cs : List AV} (h : RdO k σ v cs n) {K : Int → Prop} (hk : K (n : Nat)) : slenW v K := by
  rcases h with ⟨rfl, rfl, rfl⟩ | ⟨b, z, c, rfl, _⟩ <;> exact hk
theorem RdO.keep {k n : Nat} {σ σ' : Mem} {v : AV} {cs : List AV} (h : RdO k σ v cs n) (hb : ∀ b ∈ blkOf v, σ'.get b = σ.get b) : RdO k σ' v cs n := by
  rcases h with h | ⟨b, z, c, rfl, h3, q, cells, h1, h2⟩
  · exact .inl h
  · exact .inr ⟨b, z, c, rfl, h3, q, cells, (hb b (by simp [blkOf])).trans h1, h2⟩
theorem RdO.lt {k n : Nat} {σ : Mem} {v : AV} {cs : List AV} (h : RdO k σ v cs n) (live : σ.Live) : ∀ b ∈ blkOf v, b < σ.next := by
  rcases h with ⟨rfl, _⟩ | ⟨b, z, c, rfl, h3, q, cells, h1, _⟩
  · intro b hb; simp [blkOf] at hb
  · intro c hc; simp [blkOf] at hc; subst hc; exact live.lt h1
theorem RdO.iat {σ : Mem} {v : AV} {L : List Int} {n : Nat} (h : RdO 1 σ v (ic L) n) {i : Nat} {x : Int} (hx : L[i]? = some x) (hn : i < n) (_ : i < L.length) : ∃ b z c, v = .slice b z n c ∧ ∀ {K : AV → Prop} (m : Nat), K (.int .i64 x) → ldW (σ.bump m) (.ptr b (z + i)) K := by
  rcases h with ⟨_, rfl, _⟩ | ⟨b, z, c, rfl, h3, q, cells, h1, h2, h4, h5⟩
  · omega
  · refine ⟨b, z, c, rfl, fun m hk => ldq (σ := σ.bump m) h1 ?_ hk⟩
    rw [h2]
    show cells[z + i]? = _
    have e : (ic L)[i]? = some (.int .i64 x) := by
      have hi := (List.getElem?_eq_some_iff.1 hx).1
      rw [ic_get hi]
      rw [List.getElem?_eq_getElem hi] at hx
      injection hx with hx
      rw [hx]
    rw [← h4, List.getElem?_take_of_lt (by omega), List.getElem?_drop] at e
    exact e
theorem RdO.at {σ : Mem} {v : AV} {L : List Int} (h : RdO 1 σ v (ic L) L.length) {i : Nat} (hi : i < L.length) : ∃ b z c, v = .slice b z L.length c ∧ ∀ {K : AV → Prop} (n : Nat), K (.int .i64 L[i]) → ldW (σ.bump n) (.ptr b (z + i)) K :=
  h.iat (List.getElem?_eq_getElem hi) hi hi
theorem RdO.take {σ : Mem} {b n k : Nat} {c c' : Cap} {L : List Int} (h : RdO 1 σ (.slice b 0 n c) (ic L) n) (hk : k ≤ n) : RdO 1 σ (.slice b 0 k c') (ic (L.take k)) k := by
  rcases h with ⟨h, _⟩ | ⟨b', z, c', e, h3, q, cells, h1, h2, h4, h5⟩
  · exact absurd h (by simp)
  · injection e with e1 e2
    subst e1 e2
    rw [List.drop_zero] at h4
    have hl : (ic (L.take k)) = (ic L).take k := by unfold ic; rw [List.map_take]
    refine .inr ⟨b, 0, _, rfl, ?_, q, cells, h1, h2, ?_, by omega⟩
    · rw [hl, List.length_take, h3]; omega
    · rw [hl, ← h4, List.drop_zero, List.take_take, Nat.min_eq_left (by omega)]
      congr 1; omega
theorem RdO.drop {σ : Mem} {b n k : Nat} {c c' : Cap} {L : List Int} (h : RdO 1 σ (.slice b 0 n c) (ic L) n) (hk : k ≤ n) : RdO 1 σ (.slice b k (n - k) c') (ic (L.drop k)) (n - k) := by
  rcases h with ⟨h, _⟩ | ⟨b', z, c', e, h3, q, cells, h1, h2, h4, h5⟩
  · exact absurd h (by simp)
  · injection e with e1 e2
    subst e1 e2
    rw [List.drop_zero] at h4
    have hl : (ic (L.drop k)) = (ic L).drop k := by unfold ic; rw [List.map_drop]
    refine .inr ⟨b, k, _, rfl, ?_, q, cells, h1, h2, ?_, by omega⟩
    · rw [hl, List.length_drop, h3]; omega
    · rw [hl, ← h4, List.drop_take]
      congr 1; omega
end Go.Vit
end

section
namespace Go.Vit
variable {P : Program} {σ : Mem}
end Go.Vit
end

section
namespace Go.Vit
inductive Pm where
  | coin (n : Int) (s : Nat)
  | pair (a b : Pm)
def Pm.wt : Pm → Int
  | .coin n _ => n
  | .pair a b => a.wt + b.wt
def Pm.cnt (i : Nat) : Pm → Nat
  | .coin _ s => if s = i then 1 else 0
  | .pair a b => a.cnt i + b.cnt i
def Pm.sz : Pm → Nat
  | .coin _ _ => 1
  | .pair a b => a.sz + b.sz
def pks : List Pm → List Pm
  | a :: b :: r => .pair a b :: pks r
  | _ => []
/-! ### What is sorted -/
section
variable {α : Type} {key : α → Int}
end
section
variable {α β : Type} {key : α → Int} {key' : β → Int} {f : α → β}
theorem filter_map_key {l : List α} (h : ∀ x ∈ l, key' (f x) = key x) (v : Int) : (l.map f).filter (fun x => decide (key' x = v)) = (l.filter fun x => decide (key x = v)).map f := by
  induction l with
  | nil => rfl
  | cons a l ih =>
    have ha := h a (by simp)
    have ih := ih fun x hx => h x (by simp [hx])
    rw [List.map_cons]
    by_cases hk : key a = v
    · rw [List.filter_cons_of_pos (by simp [ha, hk]), List.filter_cons_of_pos (by simp [hk]), List.map_cons, ih]
    · rw [List.filter_cons_of_neg (by simp [ha, hk]), List.filter_cons_of_neg (by simp [hk]), ih]
theorem Stb.map {X C : List α} (h : Stb key X C) (hk : ∀ x ∈ X, key' (f x) = key x) : Stb key' (X.map f) (C.map f) := by
  refine ⟨by rw [List.length_map, List.length_map, h.1], fun v => ?_⟩
  rw [filter_map_key hk, filter_map_key fun x hx => hk x ((h.mem x).1 hx), h.2 v]
theorem Srt.map {C : List α} (h : Srt key C) (hk : ∀ x ∈ C, key' (f x) = key x) : Srt key' (C.map f) := by
  unfold Srt at h ⊢
  rw [List.pairwise_map]
  exact h.imp_of_mem fun {a b} ha hb hab => by rw [hk a ha, hk b hb]; exact hab
end
def insA (x : Pm) : List Pm → List Pm
  | [] => [x]
  | y :: l => if y.wt ≤ x.wt then y :: insA x l else x :: y :: l
def isort (X : List Pm) : List Pm := X.foldl (fun acc x => insA x acc) []
/-! ### Rows -/
def rows (C : List Pm) : Nat → List Pm
  | 0 => C
  | k + 1 => isort (C ++ pks (rows C k))
def coinsTo (L : List Int) (i : Nat) : List Pm := ((List.range i).filter fun j => decide (0 < L.getD j 0)).map fun j => Pm.coin (L.getD j 0) j
def coinsOf (L : List Int) : List Pm := coinsTo L L.length
def sumC (i : Nat) (l : List Pm) : Nat := (l.map (Pm.cnt i)).sum
def limit (most : Nat) (L : List Int) : List Int :=
  if (coinsOf L).length = 1 then arr (fun i => sumC i (coinsOf L)) L.length
  else arr (fun i => sumC i ((rows (isort (coinsOf L)) (most - 1)).take (2 * (coinsOf L).length - 2))) L.length
end Go.Vit
end

section
namespace Go.Vit
/-! ### Rows are merged -/
/-! ### Pairs of what is sorted are sorted -/
end Go.Vit
end

section
namespace Go.Vit
def ln (cs : List Nat) (q : Nat) : Nat := cs.countP fun c => decide (q < c)
end Go.Vit
end

section
namespace Go.Vit
def Pm.sym : Pm → Nat
  | .coin _ s => s
  | .pair _ _ => 0
def srtC (L : List Int) : List Pm := isort (coinsOf L)
structure Lim (most : Nat) (L : List Int) (l : List Int) (cs : List Nat) : Prop where
  len : cs.length = most
  dec : cs.Pairwise fun a b => b ≤ a
  le : ∀ c ∈ cs, c ≤ (coinsOf L).length
  at' : ∀ q (h : q < (srtC L).length), l.getD ((srtC L)[q]).sym 0 = ln cs q
  no : ∀ i, ¬ 0 < L.getD i 0 → l.getD i 0 = 0
  sum : msum (fun q => 2 ^ (most - ln cs q)) (coinsOf L).length = 2 ^ most
  pos : ∀ q < (coinsOf L).length, 1 ≤ ln cs q
/-! ### The room that codes take -/
end Go.Vit
end

section
namespace Go.Vit
/-! ### A greater row is lighter, thing by thing -/
/-! ### What a list of things weighs -/
end Go.Vit
end

section
namespace Go.Vit
end Go.Vit
end

section
set_option linter.unusedSimpArgs false
namespace Go.Vit
theorem RdO.rd {σ σ' : Mem} {v : AV} {L : List Int} (h : RdO 1 σ v (ic L) L.length) (hb : ∀ b ∈ blkOf v, σ'.get b = σ.get b) {i : Nat} (hi : i < L.length) {x : Int} (hx : x = (i : Nat)) {K : Int → Prop} (hk : K (L.getD i 0)) : idxW 1 v x fun p => ldI σ' p K := by
  obtain ⟨b, z, c, rfl, hg⟩ := (h.keep hb).at hi
  subst hx
  refine And.intro (show (0 : Int) ≤ (i : Nat) ∧ ((i : Nat) : Int) < (L.length : Nat) by omega) ?_
  rw [Int.toNat_natCast, Nat.mul_one]
  rw [getD_of hi] at hk
  exact hg (K := fun a => castI .i64 a K) 0 hk
theorem tpI_of {l : List AV} {i : Nat} {x : Int} {K : Int → Prop} (h : l[i]? = some (.int .i64 x)) (hk : K x) : tpI (.tup l) i K := by
  show optW l[i]? _
  rw [h]
  exact hk
theorem tupW_of {l : List AV} {i : Nat} {x : AV} {K : AV → Prop} (h : l[i]? = some x) (hk : K x) : tupW (.tup l) i K := by
  show optW l[i]? _
  rw [h]
  exact hk
end Go.Vit
end

section
namespace Go.Vit
theorem rangeM_step {σ : Mem} {m clock : Nat} {es : List (AV × AV × Nat)} {B : Blk → Prop} (h : σ.get m = some (.map es clock)) (hk : B (.iter (some m) clock [] clock)) : rangeMW σ (.map m) B := opt h hk
theorem nextM_step {σ : Mem} {it m since last clock : Nat} {seen : List Nat} {es : List (AV × AV × Nat)} {k : AV → Mem → Prop} (hi : σ.get it = some (.iter (some m) since seen last)) (hm : σ.get m = some (.map es clock)) (h1 : ∀ e ∈ es, e.2.2 < since) (h2 : since ≤ last)
    (h3 : (∀ e ∈ es, e.2.2 ∈ seen) → k (.tup [.bool false]) σ) (h4 : ∀ e ∈ es, e.2.2 ∉ seen → k (.tup [.bool true, e.1, e.2.1]) (σ.put it (some (.iter (some m) since (seen ++ [e.2.2]) clock)))) : nextMW σ (.ptr it 0) k := by
  show (match σ.get it with
    | some (.iter none _ _ _) => k (.tup [.bool false]) σ
    | some (.iter (some m) since seen last) => (match σ.get m with
      | some (.map es clock) => (∀ e ∈ es, e.2.2 < since) ∧ since ≤ last ∧
          ((∀ e ∈ es, e.2.2 ∈ seen) → k (.tup [.bool false]) σ) ∧
          ∀ e ∈ es, e.2.2 ∉ seen → k (.tup [.bool true, e.1, e.2.1]) (σ.put it (some (.iter (some m) since (seen ++ [e.2.2]) clock)))
      | _ => False)
    | _ => False)
  rw [hi]
  dsimp only
  rw [hm]
  exact ⟨h1, h2, h3, h4⟩
theorem find_nodup {es : List (AV × AV × Nat)} {e : AV × AV × Nat} (he : e ∈ es) (hnd : (es.map (·.2.2)).Nodup) : es.find? (fun x => x.2.2 == e.2.2) = some e := by
  induction es with
  | nil => simp at he
  | cons x l ih =>
    rw [List.map_cons, List.nodup_cons] at hnd
    rw [List.find?_cons]
    rcases List.mem_cons.1 he with rfl | he
    · simp
    · have hne : (x.2.2 == e.2.2) = false := by
        rw [beq_eq_false_iff_ne]
        intro h
        exact hnd.1 (by rw [h]; exact List.mem_map_of_mem he)
      rw [hne]
      exact ih he hnd.2
theorem entM_step {σ : Mem} {it m since c : Nat} {seen : List Nat} {es : List (AV × AV × Nat)} {e : AV × AV × Nat} {K : AV → Prop} (hi : σ.get it = some (.iter (some m) since (seen ++ [e.2.2]) c)) (hm : σ.get m = some (.map es c)) (he : e ∈ es) (hnd : (es.map (·.2.2)).Nodup) (hk : K (.tup [e.1, e.2.1])) : entMW σ (.ptr it 0) K := by
  refine opt hi ?_
  refine opt hm ?_
  refine opt (a := (seen ++ [e.2.2]).getLast?) (v := e.2.2) (by simp) ?_
  exact ⟨rfl, opt (find_nodup he hnd) hk⟩
theorem inj_nodup {α : Type} {f : α → Nat} : ∀ {l : List α}, (l.map f).Nodup → ∀ {x y : α}, x ∈ l → y ∈ l → f x = f y → x = y
  | [], _, _, _, hx, _, _ => by simp at hx
  | a :: l, h, x, y, hx, hy, e => by
    rw [List.map_cons, List.nodup_cons] at h
    rcases List.mem_cons.1 hx with hx1 | hx1
    · rcases List.mem_cons.1 hy with hy1 | hy1
      · rw [hx1, hy1]
      · exact absurd (by rw [← hx1, e]; exact List.mem_map_of_mem hy1) h.1
    · rcases List.mem_cons.1 hy with hy1 | hy1
      · exact absurd (by rw [← hy1, ← e]; exact List.mem_map_of_mem hx1) h.1
      · exact inj_nodup h.2 hx1 hy1 e
theorem all_seen {α : Type} {f : α → Nat} {T fs : List α} (hT : ∀ x ∈ T, x ∈ fs) (hTn : (T.map f).Nodup) (hn : (fs.map f).Nodup) (h : ∀ x ∈ fs, f x ∈ T.map f) : T.Perm fs := by
  have nd : ∀ {l : List α}, (l.map f).Nodup → l.Nodup := fun h => List.Pairwise.of_map f (fun a b h e => h (by rw [e])) h
  refine (List.perm_ext_iff_of_nodup (nd hTn) (nd hn)).2 fun x => ⟨hT x, fun hx => ?_⟩
  obtain ⟨y, hy, he⟩ := List.mem_map.1 (h x hx)
  have : y = x := inj_nodup hn (hT y hy) hx he
  rw [← this]; exact hy
end Go.Vit
end

section
namespace Go.Vit
def RdX (σ : Mem) (v : AV) (L : List Int) : Prop := ∃ b, v = .slice b 0 L.length (.ex L.length) ∧ σ.get b = some (.rw (ic L))
def CapOk (c : Cap) (n : Nat) : Prop := c = .op 1 ∨ ∃ k, n ≤ k ∧ c = .ex k
def RdC (σ : Mem) (v : AV) (L : List Int) : Prop := (v = .nils ∧ L = []) ∨ ∃ b c M, v = .slice b 0 L.length c ∧ CapOk c L.length ∧ σ.get b = some (.rw (ic M)) ∧ L.length ≤ M.length ∧ M.take L.length = L
theorem RdX.c {σ : Mem} {v : AV} {L : List Int} (h : RdX σ v L) : RdC σ v L := by
  obtain ⟨b, h1, h2⟩ := h
  exact .inr ⟨b, _, L, h1, .inr ⟨_, Nat.le_refl _, rfl⟩, h2, Nat.le_refl _, List.take_length⟩
theorem RdX.s {σ : Mem} {v : AV} {L : List Int} (h : RdX σ v L) : RdS 1 σ v (ic L) L.length := by
  obtain ⟨b, h1, h2⟩ := h
  exact .inr ⟨b, _, h1, ⟨_, h2, rfl⟩, by rw [ic_len, Nat.mul_one]⟩
theorem OwnS.c {σ : Mem} {v : AV} {L : List Int} {n : Nat} (h : OwnS 1 σ v (ic L) n) : RdC σ v L := by
  rcases h with ⟨h1, h2, h3⟩ | ⟨b, h1, h2, h3⟩
  · refine .inl ⟨h1, ?_⟩
    cases L with
    | nil => rfl
    | cons a L => simp [ic] at h3
  · rw [ic_len, Nat.mul_one] at h3
    subst h3
    exact .inr ⟨b, _, L, h1, .inl rfl, h2, Nat.le_refl _, List.take_length⟩
theorem RdC.o {σ : Mem} {v : AV} {L : List Int} (h : RdC σ v L) : RdO 1 σ v (ic L) L.length := by
  rcases h with ⟨h1, h2⟩ | ⟨b, c, M, h1, _, h2, h3, h4⟩
  · subst h2; exact .inl ⟨h1, rfl, rfl⟩
  · refine .inr ⟨b, 0, c, h1, by rw [ic_len, Nat.mul_one], _, ic M, h2, rfl, ?_, by rw [ic_len]; omega⟩
    rw [List.drop_zero, Nat.mul_one]
    unfold ic
    rw [← List.map_take, h4]
theorem RdC.keep {σ σ' : Mem} {v : AV} {L : List Int} (h : RdC σ v L) (hb : ∀ b ∈ blkOf v, σ'.get b = σ.get b) : RdC σ' v L := by
  rcases h with h | ⟨b, c, M, rfl, h1, h2, h3⟩
  · exact .inl h
  · exact .inr ⟨b, c, M, rfl, h1, (hb b (by simp [blkOf])).trans h2, h3⟩
theorem RdX.keep {σ σ' : Mem} {v : AV} {L : List Int} (h : RdX σ v L) (hb : ∀ b ∈ blkOf v, σ'.get b = σ.get b) : RdX σ' v L := by
  obtain ⟨b, rfl, h2⟩ := h
  exact ⟨b, rfl, (hb b (by simp [blkOf])).trans h2⟩
theorem RdC.one {σ : Mem} {v : AV} {L : List Int} (h : RdC σ v L) : v.one = true := by
  rcases h with ⟨rfl, _⟩ | ⟨b, c, M, rfl, _⟩ <;> rfl
theorem RdC.cut {σ : Mem} {v : AV} {L : List Int} {m : Nat} {x : Int} (h : RdC σ v L) (hm : m ≤ L.length) (hx : x = (m : Nat)) {K : AV → Prop} (hk : ∀ w, RdC σ w (L.take m) → blkOf w = blkOf v → K w) : slcW 1 v none (some x) K := by
  subst hx
  rcases h with ⟨rfl, rfl⟩ | ⟨b, c, M, rfl, hc, hg, h3, h4⟩
  · obtain rfl : m = 0 := by simpa using hm
    refine And.intro (show (0 : Int) ≤ 0 ∧ (0 : Int) ≤ ((0 : Nat) : Int) ∧ ((0 : Nat) : Int) ≤ ((0 : Nat) : Int) by decide) ?_
    exact hk _ (.inl ⟨rfl, rfl⟩) rfl
  · have hle : L.length ≤ c.least L.length := by
      rcases hc with rfl | ⟨k, hk', rfl⟩
      · exact Nat.le_refl _
      · exact hk'
    refine And.intro ⟨by rcases hc with rfl | ⟨k, _, rfl⟩ <;> rfl, Int.le_refl _, show (0 : Int) ≤ ((m : Nat) : Int) by omega, show ((m : Nat) : Int) ≤ ((c.least L.length : Nat) : Int) by omega⟩ ?_
    show K (.slice b (0 + (0 : Int).toNat * 1) (((m : Nat) : Int).toNat - (0 : Int).toNat) (c.cut false (0 : Int).toNat (c.least L.length)))
    rw [Int.toNat_natCast, Int.toNat_zero, Nat.zero_mul, Nat.sub_zero]
    refine hk _ (.inr ⟨b, _, M, by rw [List.length_take, Nat.min_eq_left hm], ?_, hg, by rw [List.length_take]; omega, ?_⟩) rfl
    · rw [List.length_take]
      rcases hc with rfl | ⟨k, hk', rfl⟩
      · exact .inl rfl
      · exact .inr ⟨k, by omega, rfl⟩
    · rw [List.length_take, ← h4, List.take_take]
      congr 1
      rw [h4, Nat.min_eq_left hm]
end Go.Vit
end
