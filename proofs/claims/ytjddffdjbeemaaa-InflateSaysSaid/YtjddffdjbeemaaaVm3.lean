/- The library. -/
import Derived.Test.YtjddffdjbeemaaaVm2
set_option linter.unusedVariables false
set_option linter.unusedSimpArgs false

section
namespace Go.Vit
class Key (α : Type) [DecidableEq α] where
  enc : α → AV
  eq : ∀ a b, keyEq (enc a) (enc b) = some (decide (a = b))
instance : Key ByteArray := ⟨.str, fun a b => by
  show some (a.data.toList == b.data.toList) = _
  congr 1
  rcases a with ⟨a⟩
  rcases b with ⟨b⟩
  by_cases h : a = b
  · subst h; simp
  · have h1 : ByteArray.mk a ≠ ByteArray.mk b := fun e => h (by injection e)
    have h2 : a.toList ≠ b.toList := fun e => h (Array.toList_inj.1 e)
    rw [decide_eq_false h1]
    exact beq_false_of_ne h2⟩
instance : Key Int := ⟨.int .i64, fun a b => by
  show (if IntKind.i64 = IntKind.i64 then some (a == b) else none) = _
  rw [if_pos rfl]
  by_cases h : a = b
  · subst h; simp
  · simp [h]⟩
section
variable {α : Type} [DecidableEq α]
end
section
variable {α : Type} [DecidableEq α] [Key α]
end
end Go.Vit
end

section
namespace Go.Vit
theorem OwnS.sl {k n : Nat} {σ : Mem} {v : AV} {cs : List AV} (h : OwnS k σ v cs n) (hn : 0 < n) : ∃ b, v = .slice b 0 n (.op k) ∧ σ.get b = some (.rw cs) ∧ cs.length = n * k := by
  rcases h with ⟨_, h, _⟩ | h
  · omega
  · exact h
abbrev Tok := Int × Int × Int
def agr (s : ByteArray) (i d n : Nat) : Prop := i + n < s.size ∧ byteAt s (i + n) = byteAt s (i + n - d)
instance (s : ByteArray) (i d n : Nat) : Decidable (agr s i d n) := inferInstanceAs (Decidable (_ ∧ _))
def mlF (s : ByteArray) (i d : Nat) : Nat → Nat → Nat
  | 0, n => n
  | f + 1, n => if agr s i d n then mlF s i d f (n + 1) else n
def ml (s : ByteArray) (i d : Nat) : Nat := mlF s i d 258 0
def rb (s : ByteArray) (i : Nat) : Nat → Nat × Nat
  | 0 => (0, 0)
  | d + 1 => if (rb s i d).1 < ml s i (d + 1) then (ml s i (d + 1), d + 1) else rb s i d
def best (s : ByteArray) (i : Nat) : Nat × Nat := rb s i (min 512 i)
def tk (s : ByteArray) (i : Nat) : Tok × Nat :=
  if 3 ≤ (best s i).1 then ((0, (best s i).1, (best s i).2), i + (best s i).1) else (((byteAt s i : Nat), 0, 0), i + 1)
def pos (s : ByteArray) : Nat → Nat
  | 0 => 0
  | k + 1 => (tk s (pos s k)).2
end Go.Vit
end

section
namespace Go.Vit
def right (t : Tok) : Prop := if t.2.1 = 0 then t.2.2 = 0 ∧ 0 ≤ t.1 ∧ t.1 ≤ 255 else t.1 = 0 ∧ 3 ≤ t.2.1 ∧ t.2.1 ≤ 258 ∧ 1 ≤ t.2.2 ∧ t.2.2 ≤ 32768
instance (t : Tok) : Decidable (right t) := by unfold right; infer_instance
def copyN (out : List UInt8) (d : Nat) : Nat → List UInt8
  | 0 => out
  | n + 1 => copyN out d n ++ [(copyN out d n)[(copyN out d n).length - d]?.getD 0]
theorem copyN_len (out : List UInt8) (d : Nat) : ∀ n, (copyN out d n).length = out.length + n
  | 0 => rfl
  | n + 1 => by rw [copyN, List.length_append, copyN_len out d n]; rfl
/-! ### What the tokens of bytes say -/
end Go.Vit
end

section
namespace Go.Vit
def ic (l : List Int) : List AV := l.map fun n => .int .i64 n
theorem ic_len (l : List Int) : (ic l).length = l.length := by simp [ic]
theorem ic_get {l : List Int} {i : Nat} (h : i < l.length) : (ic l)[i]? = some (.int .i64 l[i]) := by simp [ic, List.getElem?_eq_getElem h]
theorem ic_one (l : List Int) : (ic l).all AV.one = true := by
  rw [List.all_eq_true]
  intro x hx
  simp only [ic, List.mem_map] at hx
  obtain ⟨b, _, rfl⟩ := hx
  rfl
theorem ic_set (l : List Int) (i : Nat) (n : Int) : (ic l).set i (.int .i64 n) = ic (l.set i n) := by unfold ic; rw [List.map_set]
theorem ic_append (l m : List Int) : ic (l ++ m) = ic l ++ ic m := by simp [ic]
def arr (f : Nat → Int) (n : Nat) : List Int := (List.range n).map f
theorem arr_len (f : Nat → Int) (n : Nat) : (arr f n).length = n := by simp [arr]
theorem arr_get {f : Nat → Int} {n i : Nat} (h : i < n) : (ic (arr f n))[i]? = some (.int .i64 (f i)) := by
  rw [ic_get (by rw [arr_len]; exact h)]; simp [arr]
theorem arr_set {f : Nat → Int} {n i : Nat} (v : Int) : (arr f n).set i v = arr (fun j => if j = i then v else f j) n := by
  refine List.ext_getElem (by simp [arr]) fun k h1 h2 => ?_
  rw [List.getElem_set]
  simp only [arr, List.getElem_map, List.getElem_range]
  by_cases h : i = k
  · rw [if_pos h, if_pos h.symm]
  · rw [if_neg h, if_neg fun e => h e.symm]
theorem arr_ext {f g : Nat → Int} {n : Nat} (h : ∀ j < n, f j = g j) : arr f n = arr g n :=
  List.map_congr_left fun j hj => h j (List.mem_range.1 hj)
theorem arr_zero (n : Nat) : List.replicate n (AV.int .i64 0) = ic (arr (fun _ => 0) n) := by
  refine List.ext_getElem (by simp [ic, arr]) fun i h1 h2 => ?_
  simp [ic, arr]
theorem repl_zero (n : Nat) : repl n [.int .i64 0] = ic (arr (fun _ => 0) n) := by
  rw [← arr_zero]; rfl
/-! ### How many codes there are of each length -/
def cN (L : List Int) (n : Nat) : Nat := L.countP fun (x : Int) => decide (0 < x ∧ x = (n : Int))
theorem cN_append (L M : List Int) (n : Nat) : cN (L ++ M) n = cN L n + cN M n := by unfold cN; rw [List.countP_append]
theorem cN_cons (x : Int) (L : List Int) (n : Nat) : cN (x :: L) n = cN L n + if 0 < x ∧ x = n then 1 else 0 := by
  unfold cN; rw [List.countP_cons]; simp
theorem cN_zero (L : List Int) : cN L 0 = 0 := by
  induction L with
  | nil => rfl
  | cons x L ih => rw [cN_cons, ih, if_neg (by omega)]
theorem cN_le (L : List Int) (n : Nat) : cN L n ≤ L.length := List.countP_le_length
theorem cN_take_succ {L : List Int} {i : Nat} (h : i < L.length) (n : Nat) : cN (L.take (i + 1)) n = cN (L.take i) n + if 0 < L[i] ∧ L[i] = n then 1 else 0 := by
  rw [List.take_succ_eq_append_getElem h, cN_append, cN_cons]; simp [cN]
theorem cN_take_le (L : List Int) (i n : Nat) : cN (L.take i) n ≤ cN L n := (List.take_sublist i L).countP_le
def many (L : List Int) : Nat := L.countP fun x => decide (0 < x)
def room (L : List Int) : Nat := (L.map fun x => if 0 < x then 2 ^ (15 - x).toNat else 0).sum
def lens (L : List Int) : Prop := L.length ≤ 288 ∧ ∀ x ∈ L, 0 ≤ x ∧ x ≤ 15
instance (L : List Int) : Decidable (lens L) := by unfold lens; infer_instance
def msum (c : Nat → Nat) : Nat → Nat
  | 0 => 0
  | k + 1 => msum c k + c k
def wsum (c : Nat → Nat) : Nat → Nat
  | 0 => 0
  | k + 1 => wsum c k + c k * 2 ^ (15 - k)
theorem msum_upd {c c' : Nat → Nat} {x : Nat} (h : ∀ n, c' n = c n + if x = n then 1 else 0) : ∀ k, msum c' k = msum c k + if x < k then 1 else 0
  | 0 => by simp [msum]
  | k + 1 => by
    rw [msum, msum, msum_upd h k, h k]
    split <;> split <;> split <;> omega
theorem wsum_upd {c c' : Nat → Nat} {x : Nat} (h : ∀ n, c' n = c n + if x = n then 1 else 0) : ∀ k, wsum c' k = wsum c k + if x < k then 2 ^ (15 - x) else 0
  | 0 => by simp [wsum]
  | k + 1 => by
    rw [wsum, wsum, wsum_upd h k, h k, Nat.add_mul]
    by_cases h1 : x = k
    · subst h1
      rw [if_neg (by omega), if_pos rfl, if_pos (by omega), Nat.one_mul]; omega
    · rw [if_neg h1, Nat.zero_mul]
      by_cases h2 : x < k
      · rw [if_pos h2, if_pos (by omega)]; omega
      · rw [if_neg h2, if_neg (by omega)]; omega
theorem msum_same {c c' : Nat → Nat} (h : ∀ n, c' n = c n) : ∀ k, msum c' k = msum c k
  | 0 => rfl
  | k + 1 => by rw [msum, msum, msum_same h k, h k]
theorem wsum_same {c c' : Nat → Nat} (h : ∀ n, c' n = c n) : ∀ k, wsum c' k = wsum c k
  | 0 => rfl
  | k + 1 => by rw [wsum, wsum, wsum_same h k, h k]
theorem sums {L : List Int} (h : ∀ x ∈ L, 0 ≤ x ∧ x ≤ 15) : msum (cN L) 16 = many L ∧ wsum (cN L) 16 = room L := by
  induction L with
  | nil => exact ⟨rfl, rfl⟩
  | cons x L ih =>
    obtain ⟨h1, h2⟩ := ih fun y hy => h y (List.mem_cons_of_mem _ hy)
    have hx := h x (by simp)
    unfold many room at *
    rw [List.countP_cons, List.map_cons, List.sum_cons]
    by_cases h0 : 0 < x
    · obtain ⟨m, rfl⟩ := int_nat hx.1
      have hu : ∀ n, cN ((m : Int) :: L) n = cN L n + if m = n then 1 else 0 := fun n => by
        rw [cN_cons]
        congr 1
        by_cases e : m = n
        · subst e; rw [if_pos ⟨h0, rfl⟩, if_pos rfl]
        · rw [if_neg fun e' => e (by omega), if_neg e]
      rw [msum_upd hu, wsum_upd hu, h1, h2, if_pos (show m < 16 by omega), if_pos (show m < 16 by omega), if_pos h0, show ((15 : Int) - m).toNat = 15 - m from by omega]
      exact ⟨by rw [if_pos (decide_eq_true h0)], Nat.add_comm _ _⟩
    · have hu : ∀ n, cN (x :: L) n = cN L n := fun n => by rw [cN_cons, if_neg (by omega), Nat.add_zero]
      rw [msum_same hu, wsum_same hu, h1, h2, if_neg h0]
      exact ⟨by simp [h0], by omega⟩
theorem wsum_le {c : Nat → Nat} {k : Nat} : ∀ {m : Nat}, k ≤ m → wsum c k ≤ wsum c m
  | 0, h => by obtain rfl : k = 0 := by omega
               exact Nat.le_refl _
  | m + 1, h => by
    rcases Nat.eq_or_lt_of_le h with rfl | h
    · exact Nat.le_refl _
    · have := wsum_le (c := c) (k := k) (m := m) (by omega)
      rw [wsum]; omega
theorem msum_le {c : Nat → Nat} {k : Nat} : ∀ {m : Nat}, k ≤ m → msum c k ≤ msum c m
  | 0, h => by obtain rfl : k = 0 := by omega
               exact Nat.le_refl _
  | m + 1, h => by
    rcases Nat.eq_or_lt_of_le h with rfl | h
    · exact Nat.le_refl _
    · have := msum_le (c := c) (k := k) (m := m) (by omega)
      rw [msum]; omega
def chk (L : List Int) : Int :=
  if ¬ lens L then 1 else if 32768 < room L then 10 else if room L < 32768 ∧ 0 < many L ∧ ¬ (many L = 1 ∧ cN L 1 ≠ 0) then 11 else 0
theorem many_le (L : List Int) : many L ≤ L.length := List.countP_le_length
theorem room_le (L : List Int) : room L ≤ L.length * 32768 := by
  unfold room
  induction L with
  | nil => simp
  | cons x L ih =>
    rw [List.map_cons, List.sum_cons, List.length_cons, Nat.add_mul]
    have : (if 0 < x then 2 ^ (15 - x).toNat else 0) ≤ 32768 := by
      split
      · exact pow_le (b := 15) (by omega)
      · omega
    omega
theorem room_take_succ {L : List Int} {i : Nat} (h : i < L.length) : room (L.take (i + 1)) = room (L.take i) + if 0 < L[i] then 2 ^ (15 - L[i]).toNat else 0 := by
  unfold room; rw [List.take_succ_eq_append_getElem h, List.map_append, List.sum_append]; simp
theorem many_take_succ {L : List Int} {i : Nat} (h : i < L.length) : many (L.take (i + 1)) = many (L.take i) + if 0 < L[i] then 1 else 0 := by
  unfold many; rw [List.take_succ_eq_append_getElem h, List.countP_append, List.countP_cons]; simp
def most (L : List Int) : Int := L.foldl (fun m x => if 0 < x then max m x else m) 0
theorem most_take_succ {L : List Int} {i : Nat} (h : i < L.length) : most (L.take (i + 1)) = if 0 < L[i] then max (most (L.take i)) L[i] else most (L.take i) := by
  unfold most; rw [List.take_succ_eq_append_getElem h, List.foldl_append]; rfl
theorem most_one {L : List Int} : ∀ {i : Nat}, i ≤ L.length → (many (L.take i) = 0 → most (L.take i) = 0 ∧ cN (L.take i) 1 = 0) ∧ (many (L.take i) = 1 → (most (L.take i) = 1 ↔ cN (L.take i) 1 ≠ 0))
  | 0, _ => by simp [many, most, cN]
  | i + 1, h => by
    obtain ⟨h1, h2⟩ := most_one (L := L) (i := i) (by omega)
    rw [many_take_succ (by omega), most_take_succ (by omega), cN_take_succ (by omega)]
    generalize L[i] = x
    by_cases h0 : 0 < x
    · rw [if_pos h0, if_pos h0]
      refine ⟨fun e => by omega, fun e => ?_⟩
      obtain ⟨h3, h4⟩ := h1 (by omega)
      rw [h3, h4]
      by_cases hx : x = ((1 : Nat) : Int)
      · rw [if_pos ⟨h0, hx⟩]; constructor <;> intro _ <;> omega
      · rw [if_neg fun e => hx e.2]; constructor <;> intro _ <;> omega
    · rw [if_neg h0, if_neg h0, if_neg fun e => h0 e.1]
      exact ⟨h1, h2⟩
end Go.Vit
end

section
namespace Go.Vit
def Own (k : Nat) (σ σ' : Mem) (v : AV) (cs : List AV) (n : Nat) : Prop := OwnS k σ' v cs n ∧ ∀ b ∈ blkOf v, σ.next ≤ b ∧ b < σ'.next
theorem Own.same {k n : Nat} {σ σ1 σ2 : Mem} {v : AV} {cs : List AV} (h : Own k σ σ1 v cs n) (s : σ1.Same σ2) : Own k σ σ2 v cs n :=
  ⟨h.1.keep fun b hb => s.get b (h.2 b hb).2, fun b hb => ⟨(h.2 b hb).1, Nat.lt_of_lt_of_le (h.2 b hb).2 s.next⟩⟩
theorem Own.only {k n : Nat} {σ σ1 σ2 : Mem} {v : AV} {cs : List AV} {l : List Nat} (h : Own k σ σ1 v cs n) (s : Mem.Only l σ1 σ2) (hl : ∀ b ∈ blkOf v, b ∉ l) : Own k σ σ2 v cs n :=
  ⟨h.1.keep fun b hb => s.get b (h.2 b hb).2 (hl b hb), fun b hb => ⟨(h.2 b hb).1, Nat.lt_of_lt_of_le (h.2 b hb).2 s.next⟩⟩
theorem Own.nil (k : Nat) (σ σ' : Mem) : Own k σ σ' .nils [] 0 := ⟨.nil k σ', fun b hb => by simp [blkOf] at hb⟩
theorem Own.push {k bytes id nb n m j : Nat} {σ σ1 : Mem} {v : AV} {cs c : List AV} {K : AV → Mem → Prop} (h : Own k σ σ1 v cs n) (s : σ.Same σ1) {σ2 : Mem} (hσ2 : σ2 = (σ1.bump j).put nb (some (.rw c))) (hnb : σ1.next ≤ nb) (hid : nb < id) (hm : m ≠ 0) (hc : c.length = m * k)
    (h1 : c.all AV.one = true) (h2 : cs.all AV.one = true) (hr : (n + m) * bytes ≤ 140737488355328 ∧ n + m ≤ 9223372036854775806) {c' : Cap}
    (hk : ∀ v' σ', Own k σ σ' v' (cs ++ c) (n + m) → σ.Same σ' → id < σ'.next → Mem.Only (blkOf v) σ1 σ' → (∀ b ∈ blkOf v', b ∈ blkOf v ∨ b = id) → K v' σ')(hlt : id < σ2.next) : apW k bytes id σ2 v (.slice nb 0 m c') K := by
  subst hσ2
  refine OwnS.append (n := n) (m := m) (cs := cs) (c := c) (h.1.keep fun b hb => by rw [Mem.get_put_ne _ (by have := (h.2 b hb).2; omega)]; rfl) (fun K hK => src_new (Mem.get_put_self _ _ _) hc rfl K hK) (fun h => absurd h hm) hc h1 h2 hr (fun hb => by have := (h.2 _ hb).2; omega) ?_
  intro v' σ3 own3 hn3 hg3 hb3
  rw [Mem.next_put, Mem.next_bump] at hn3 hlt
  have o : Mem.Only (blkOf v) σ1 σ3 := ⟨by omega, fun b hb hn => by rw [hg3 b hn (by omega), Mem.get_put_ne _ (by omega)]; rfl⟩
  refine hk v' σ3 ⟨own3, fun b hb => ?_⟩ ⟨Nat.le_trans s.next o.next, fun b hb => ?_⟩ (by omega) o hb3
  · rcases hb3 b hb with h' | rfl
    · have := h.2 b h'; omega
    · have := s.next; omega
  · rw [o.get b (Nat.lt_of_lt_of_le hb s.next) fun h' => by have := h.2 b h'; omega]
    exact s.get b hb
def RdS (k : Nat) (σ : Mem) (v : AV) (cs : List AV) (n : Nat) : Prop :=
  (v = .nils ∧ n = 0 ∧ cs = []) ∨ ∃ b c, v = .slice b 0 n c ∧ (∃ q, σ.get b = some q ∧ q.cellsR = some cs) ∧ cs.length = n * k
theorem RdS.len {k n : Nat} {σ : Mem} {v : AV} {cs : List AV} (h : RdS k σ v cs n) {K : Int → Prop} (hk : K (n : Nat)) : slenW v K := by
  rcases h with ⟨rfl, rfl, rfl⟩ | ⟨b, c, rfl, _⟩ <;> exact hk
theorem RdS.pos {k n : Nat} {σ : Mem} {v : AV} {cs : List AV} (h : RdS k σ v cs n) (hn : 0 < n) : ∃ b c, v = .slice b 0 n c ∧ (∃ q, σ.get b = some q ∧ q.cellsR = some cs) ∧ cs.length = n * k := by
  rcases h with ⟨_, h, _⟩ | h
  · omega
  · exact h
theorem RdS.keep {k n : Nat} {σ σ' : Mem} {v : AV} {cs : List AV} (h : RdS k σ v cs n) (hb : ∀ b ∈ blkOf v, σ'.get b = σ.get b) : RdS k σ' v cs n := by
  rcases h with h | ⟨b, c, rfl, ⟨q, h1, h2⟩, h3⟩
  · exact .inl h
  · exact .inr ⟨b, c, rfl, ⟨q, (hb b (by simp [blkOf])).trans h1, h2⟩, h3⟩
theorem RdS.lt {k n : Nat} {σ : Mem} {v : AV} {cs : List AV} (h : RdS k σ v cs n) (live : σ.Live) : ∀ b ∈ blkOf v, b < σ.next := by
  rcases h with ⟨rfl, _⟩ | ⟨b, c, rfl, ⟨q, h1, h2⟩, h3⟩
  · intro b hb; simp [blkOf] at hb
  · intro c hc; simp [blkOf] at hc; subst hc; exact live.lt h1
theorem Grow.same {o o' : List Nat} {σ σ1 σ2 : Mem} (h : Grow o o' σ1 σ2) (s : σ.Same σ1) (ho : ∀ b ∈ o, σ.next ≤ b) : σ.Same σ2 ∧ ∀ b ∈ o', σ.next ≤ b := by
  refine ⟨⟨Nat.le_trans s.next h.only.next, fun b hb => ?_⟩, fun b hb => ?_⟩
  · refine (h.only.get b (Nat.lt_of_lt_of_le hb s.next) fun hm => ?_).trans (s.get b hb)
    have := ho b hm; omega
  · rcases h.new b hb with h1 | h1
    · exact ho b h1
    · exact Nat.le_trans s.next h1
theorem setAt_all : ∀ (vc pre l : List AV), l.length = vc.length → setAt (pre ++ l) pre.length vc = pre ++ vc
  | [], pre, l, h => by
    obtain rfl := List.length_eq_zero_iff.1 h
    rfl
  | c :: cs, pre, [], h => by simp at h
  | c :: cs, pre, x :: l, h => by
    show setAt ((pre ++ x :: l).set pre.length c) (pre.length + 1) cs = _
    have e : (pre ++ x :: l).set pre.length c = (pre ++ [c]) ++ l := by
      rw [List.set_append_right _ _ (Nat.le_refl _), Nat.sub_self]; simp
    have := setAt_all cs (pre ++ [c]) l (by simpa using h)
    rw [List.length_append] at this
    rw [e]
    rw [show (pre ++ [c]) ++ cs = pre ++ c :: cs from by simp] at this
    exact this
theorem setAt_whole {l vc : List AV} (h : l.length = vc.length) : setAt l 0 vc = vc := setAt_all vc [] l h
/-! ### Arguments -/
section
variable {P : Program} {σ : Mem}
end
end Go.Vit
end

section
namespace Go.Vit
def fc (L : List Int) : Nat → Nat
  | 0 => 0
  | n + 1 => (fc L n + cN L n) * 2
theorem fc_le (L : List Int) : ∀ n, fc L n + 2 * L.length ≤ L.length * 2 ^ (n + 1)
  | 0 => by rw [fc]; omega
  | n + 1 => by
    have h1 := fc_le L n
    have h2 := cN_le L n
    rw [fc, Nat.pow_succ, ← Nat.mul_assoc]
    omega
theorem fc_bound {L : List Int} (hL : L.length ≤ 288) {n : Nat} (hn : n ≤ 15) : fc L n ≤ 288 * 65536 := by
  have h1 := fc_le L n
  have h2 : 2 ^ (n + 1) ≤ 2 ^ 16 := pow_le (by omega)
  have h3 : L.length * 2 ^ (n + 1) ≤ 288 * 2 ^ 16 := Nat.mul_le_mul hL h2
  omega
def cd (L : List Int) (i : Nat) : Nat := if 0 < L.getD i 0 then fc L (L.getD i 0).toNat + cN (L.take i) (L.getD i 0).toNat else 0
def codes (L : List Int) : List Int := arr (fun i => (cd L i : Nat)) L.length
theorem codes_len (L : List Int) : (codes L).length = L.length := arr_len _ _
theorem getD_of {L : List Int} {i : Nat} (h : i < L.length) : L.getD i 0 = L[i] := by simp [List.getD, List.getElem?_eq_getElem h]
theorem cd_at {L : List Int} {i n : Nat} (h : i < L.length) (hn : L[i] = (n : Nat)) (h0 : 0 < n) : cd L i = fc L n + cN (L.take i) n := by
  unfold cd
  rw [getD_of h, hn, if_pos (by omega), Int.toNat_natCast]
theorem cd_none {L : List Int} {i : Nat} (h : i < L.length) (hn : ¬ 0 < L[i]) : cd L i = 0 := by
  unfold cd
  rw [getD_of h, if_neg hn]
end Go.Vit
end

section
namespace Go.Vit
section
variable {α : Type} (key : α → Int)
def Stb (l l' : List α) : Prop := l'.length = l.length ∧ ∀ v : Int, l'.filter (fun x => decide (key x = v)) = l.filter (fun x => decide (key x = v))
def Srt (l : List α) : Prop := l.Pairwise fun x y => key x ≤ key y
variable {key}
theorem Stb.refl (l : List α) : Stb key l l := ⟨rfl, fun _ => rfl⟩
theorem Stb.trans {a b c : List α} (h : Stb key a b) (g : Stb key b c) : Stb key a c := ⟨g.1.trans h.1, fun v => (g.2 v).trans (h.2 v)⟩
theorem Stb.append {a a' b b' : List α} (h : Stb key a a') (g : Stb key b b') : Stb key (a ++ b) (a' ++ b') :=
  ⟨by rw [List.length_append, List.length_append, h.1, g.1], fun v => by rw [List.filter_append, List.filter_append, h.2 v, g.2 v]⟩
theorem Stb.mem {a b : List α} (h : Stb key a b) (x : α) : x ∈ b ↔ x ∈ a := by
  have e := h.2 (key x)
  have h1 : x ∈ b.filter (fun y => decide (key y = key x)) ↔ x ∈ b := by rw [List.mem_filter]; simp
  have h2 : x ∈ a.filter (fun y => decide (key y = key x)) ↔ x ∈ a := by rw [List.mem_filter]; simp
  rw [← h1, ← h2, e]
theorem Stb.swap {u v : List α} (h : ∀ x ∈ u, ∀ y ∈ v, key y < key x) : Stb key (u ++ v) (v ++ u) := by
  refine ⟨by rw [List.length_append, List.length_append, Nat.add_comm], fun k => ?_⟩
  rw [List.filter_append, List.filter_append]
  by_cases hu : u.filter (fun x => decide (key x = k)) = []
  · rw [hu]; simp
  · by_cases hv : v.filter (fun x => decide (key x = k)) = []
    · rw [hv]; simp
    · obtain ⟨x, hx⟩ := List.exists_mem_of_ne_nil _ hu
      obtain ⟨y, hy⟩ := List.exists_mem_of_ne_nil _ hv
      rw [List.mem_filter] at hx hy
      have h1 := of_decide_eq_true hx.2
      have h2 := of_decide_eq_true hy.2
      have := h x hx.1 y hy.1
      omega
theorem Srt.append {a b : List α} (ha : Srt key a) (hb : Srt key b) (h : ∀ x ∈ a, ∀ y ∈ b, key x ≤ key y) : Srt key (a ++ b) := List.pairwise_append.2 ⟨ha, hb, h⟩
theorem Srt.left {a b : List α} (h : Srt key (a ++ b)) : Srt key a := (List.pairwise_append.1 h).1
theorem Srt.right {a b : List α} (h : Srt key (a ++ b)) : Srt key b := (List.pairwise_append.1 h).2.1
theorem Srt.rel {a b : List α} (h : Srt key (a ++ b)) : ∀ x ∈ a, ∀ y ∈ b, key x ≤ key y := (List.pairwise_append.1 h).2.2
theorem merge_halves {A1 A2 B1 B2 L R : List α} (hA : Srt key (A1 ++ A2)) (hB : Srt key (B1 ++ B2)) (h1 : ∀ x ∈ A1, ∀ y ∈ B2, key x ≤ key y) (h2 : ∀ x ∈ A2, ∀ y ∈ B1, key y < key x)
    (sL : Stb key (A1 ++ B1) L) (oL : Srt key L) (sR : Stb key (A2 ++ B2) R) (oR : Srt key R) : Srt key (L ++ R) ∧ Stb key ((A1 ++ A2) ++ (B1 ++ B2)) (L ++ R) := by
  refine ⟨oL.append oR fun x hx y hy => ?_, ?_⟩
  · rw [sL.mem, List.mem_append] at hx
    rw [sR.mem, List.mem_append] at hy
    rcases hx with hx | hx <;> rcases hy with hy | hy
    · exact hA.rel x hx y hy
    · exact h1 x hx y hy
    · exact Int.le_of_lt (h2 y hy x hx)
    · exact hB.rel x hx y hy
  · have s : Stb key (A1 ++ (A2 ++ B1) ++ B2) (A1 ++ (B1 ++ A2) ++ B2) := ((Stb.refl A1).append (Stb.swap h2)).append (Stb.refl B2)
    have t := sL.append sR
    rw [show A1 ++ A2 ++ (B1 ++ B2) = A1 ++ (A2 ++ B1) ++ B2 from by simp]
    rw [show A1 ++ B1 ++ (A2 ++ B2) = A1 ++ (B1 ++ A2) ++ B2 from by simp] at t
    exact s.trans t
theorem Srt.lt_succ {l : List α} (h : Srt key l) (n : Int) : l.filter (fun x => decide (key x < n + 1)) = l.filter (fun x => decide (key x < n)) ++ l.filter (fun x => decide (key x = n)) := by
  induction l with
  | nil => rfl
  | cons x l ih =>
    have hx : ∀ y ∈ l, key x ≤ key y := (List.pairwise_cons.1 h).1
    have ih := ih (List.pairwise_cons.1 h).2
    rcases Int.lt_trichotomy (key x) n with hlt | heq | hgt
    · rw [List.filter_cons_of_pos (by simp; omega), List.filter_cons_of_pos (by simp; omega), List.filter_cons_of_neg (by simp; omega), ih]; rfl
    · have e : (x :: l).filter (fun x => decide (key x < n)) = [] := by
        rw [List.filter_eq_nil_iff]
        intro y hy
        rcases List.mem_cons.1 hy with rfl | hy
        · simp; omega
        · have := hx y hy; simp; omega
      have e' : l.filter (fun x => decide (key x < n)) = [] := by
        rw [List.filter_eq_nil_iff]
        intro y hy
        have := hx y hy; simp; omega
      rw [e, List.filter_cons_of_pos (by simp; omega), List.filter_cons_of_pos (by simp; omega), ih, e']; rfl
    · have e1 : ∀ p : α → Bool, (∀ y, p y = true → key y ≤ n) → (x :: l).filter p = [] := by
        intro p hp
        rw [List.filter_eq_nil_iff]
        intro y hy h'
        have h2 := hp y h'
        rcases List.mem_cons.1 hy with rfl | hy
        · omega
        · have := hx y hy; omega
      rw [e1 _ fun y h => by have := of_decide_eq_true h; omega, e1 _ fun y h => by have := of_decide_eq_true h; omega, e1 _ fun y h => by have := of_decide_eq_true h; omega]; rfl
theorem Srt.at {l : List α} (h : Srt key l) {n : Int} {k : Nat} {x : α} (hk : (l.filter (fun x => decide (key x = n)))[k]? = some x) : l[(l.filter (fun x => decide (key x < n))).length + k]? = some x := by
  have e : l = l.filter (fun x => decide (key x < n + 1)) ++ l.filter (fun x => !decide (key x < n + 1)) := by
    clear hk
    induction l with
    | nil => rfl
    | cons y l ih =>
      have hx : ∀ z ∈ l, key y ≤ key z := (List.pairwise_cons.1 h).1
      have ih := ih (List.pairwise_cons.1 h).2
      by_cases hy : key y < n + 1
      · rw [List.filter_cons_of_pos (by simp; omega), List.filter_cons_of_neg (by simp; omega), List.cons_append, ← ih]
      · have e' : l.filter (fun x => decide (key x < n + 1)) = [] := by
          rw [List.filter_eq_nil_iff]
          intro z hz
          have := hx z hz; simp; omega
        rw [e', List.nil_append] at ih
        rw [List.filter_cons_of_neg (by simp; omega), List.filter_cons_of_pos (by simp; omega), e', List.nil_append, ← ih]
  rw [h.lt_succ] at e
  have hlt := (List.getElem?_eq_some_iff.1 hk).1
  generalize l.filter (fun x => decide (key x < n)) = a at e ⊢
  generalize l.filter (fun x => decide (key x = n)) = b at e hk hlt
  generalize l.filter (fun x => !decide (key x < n + 1)) = c at e
  rw [e]
  rw [List.append_assoc, List.getElem?_append_right (Nat.le_add_right _ _), Nat.add_sub_cancel_left, List.getElem?_append_left hlt]
  exact hk
/-! ### Exchanging -/
theorem mid_get {L R : List α} {x : α} {n : Nat} (h : n = L.length) : (L ++ x :: R)[n]? = some x := by subst h; simp
theorem swap2 {A B C : List α} {x y : α} {i j : Nat} (hi : i = A.length) (hj : j = i + 1 + B.length) : ((A ++ x :: (B ++ y :: C)).set i y).set j x = A ++ y :: (B ++ x :: C) := by
  subst hi
  rw [List.set_append_right _ _ (Nat.le_refl _), Nat.sub_self, List.set_cons_zero, List.set_append_right _ _ (by omega), show j - A.length = B.length + 1 from by omega, List.set_cons_succ, List.set_append_right _ _ (Nat.le_refl _), Nat.sub_self, List.set_cons_zero]
theorem swap2' {A B C : List α} {x y : α} {i j : Nat} (hi : i = A.length) (hj : j = i + 1 + B.length) : ((A ++ x :: (B ++ y :: C)).set j x).set i y = A ++ y :: (B ++ x :: C) := by
  rw [List.set_comm _ _ (by omega), swap2 hi hj]
theorem split_at (l : List α) {k : Nat} (h : k ≤ l.length) : ∃ a b, l = a ++ b ∧ a.length = k := ⟨l.take k, l.drop k, (List.take_append_drop k l).symm, by rw [List.length_take]; omega⟩
theorem split_one (l : List α) (h : l ≠ []) : ∃ x r, l = x :: r := by cases l with
  | nil => exact absurd rfl h
  | cons x r => exact ⟨x, r, rfl⟩
theorem split_last (l : List α) (h : l ≠ []) : ∃ r x, l = r ++ [x] := ⟨l.dropLast, l.getLast h, (List.dropLast_concat_getLast h).symm⟩
end
end Go.Vit
end

section
namespace Go.Vit
theorem Own.pushO {k bytes id nb n m j : Nat} {os : List Nat} {σ σ1 : Mem} {v : AV} {cs c : List AV} {K : AV → Mem → Prop} (h : Own k σ σ1 v cs n) (s : Mem.Only os σ σ1) {σ2 : Mem} (hσ2 : σ2 = (σ1.bump j).put nb (some (.rw c))) (hnb : σ1.next ≤ nb) (hid : nb < id) (hm : m ≠ 0) (hc : c.length = m * k)
    (h1 : c.all AV.one = true) (h2 : cs.all AV.one = true) (hr : (n + m) * bytes ≤ 140737488355328 ∧ n + m ≤ 9223372036854775806) {c' : Cap}
    (hk : ∀ v' σ', Own k σ σ' v' (cs ++ c) (n + m) → Mem.Only os σ σ' → id < σ'.next → Mem.Only (blkOf v) σ1 σ' → (∀ b ∈ blkOf v', b ∈ blkOf v ∨ b = id) → K v' σ')(hlt : id < σ2.next) : apW k bytes id σ2 v (.slice nb 0 m c') K := by
  subst hσ2
  refine OwnS.append (n := n) (m := m) (cs := cs) (c := c) (h.1.keep fun b hb => by rw [Mem.get_put_ne _ (by have := (h.2 b hb).2; omega)]; rfl) (fun K hK => src_new (Mem.get_put_self _ _ _) hc rfl K hK) (fun h => absurd h hm) hc h1 h2 hr (fun hb => by have := (h.2 _ hb).2; omega) ?_
  intro v' σ3 own3 hn3 hg3 hb3
  rw [Mem.next_put, Mem.next_bump] at hn3 hlt
  have o : Mem.Only (blkOf v) σ1 σ3 := ⟨by omega, fun b hb hn => by rw [hg3 b hn (by omega), Mem.get_put_ne _ (by omega)]; rfl⟩
  refine hk v' σ3 ⟨own3, fun b hb => ?_⟩ ⟨Nat.le_trans s.next o.next, fun b hb hn => ?_⟩ (by omega) o hb3
  · rcases hb3 b hb with h' | rfl
    · have := h.2 b h'; omega
    · have := s.next; omega
  · rw [o.get b (Nat.lt_of_lt_of_le hb s.next) fun h' => by have := h.2 b h'; omega]
    exact s.get b hb hn
theorem msum_eq_of {c c' : Nat → Nat} : ∀ {k : Nat}, (∀ n < k, c' n = c n) → msum c' k = msum c k
  | 0, _ => rfl
  | k + 1, h => by rw [msum, msum, msum_eq_of fun n hn => h n (by omega), h k (by omega)]
def syms (L : List Int) (i : Nat) : List Int := ((List.range i).filter fun j => decide (0 < L.getD j 0)).map fun j => ((j : Nat) : Int)
theorem syms_succ (L : List Int) (i : Nat) : syms L (i + 1) = syms L i ++ if 0 < L.getD i 0 then [((i : Nat) : Int)] else [] := by
  unfold syms
  rw [List.range_succ, List.filter_append, List.map_append]
  congr 1
  by_cases h : 0 < L.getD i 0
  · rw [if_pos h, List.filter_cons_of_pos (p := fun j => decide (0 < L.getD j 0)) (decide_eq_true h)]; rfl
  · rw [if_neg h, List.filter_cons_of_neg (p := fun j => decide (0 < L.getD j 0)) (by simpa using h)]; rfl
theorem syms_len {L : List Int} : ∀ {i : Nat}, i ≤ L.length → (syms L i).length = many (L.take i)
  | 0, _ => rfl
  | i + 1, h => by
    rw [syms_succ, List.length_append, syms_len (by omega), many_take_succ (by omega), getD_of (by omega)]
    split <;> rfl
theorem syms_mem {L : List Int} {i : Nat} {x : Int} (h : x ∈ syms L i) : ∃ j : Nat, x = j ∧ j < i ∧ 0 < L.getD j 0 := by
  unfold syms at h
  obtain ⟨j, hj, rfl⟩ := List.mem_map.1 h
  rw [List.mem_filter, List.mem_range] at hj
  exact ⟨j, rfl, hj.1, of_decide_eq_true hj.2⟩
def lkey (L : List Int) (x : Int) : Int := L.getD x.toNat 0
theorem syms_key {L : List Int} (n : Nat) (hn : 0 < n) : ∀ {i : Nat}, i ≤ L.length → ((syms L i).filter fun x => decide (lkey L x = n)).length = cN (L.take i) n ∧ ∀ j : Nat, j < i → L.getD j 0 = n → ((syms L i).filter fun x => decide (lkey L x = n))[cN (L.take j) n]? = some (j : Int)
  | 0, _ => ⟨by simp [syms, cN], fun j h => by omega⟩
  | i + 1, h => by
    obtain ⟨h1, h2⟩ := syms_key (L := L) n hn (i := i) (by omega)
    rw [syms_succ, List.filter_append, cN_take_succ (by omega)]
    have hg := getD_of (L := L) (i := i) (by omega)
    by_cases h0 : 0 < L.getD i 0
    · rw [if_pos h0]
      by_cases hk : L.getD i 0 = n
      · rw [List.filter_cons_of_pos (by simp [lkey]; exact hk), if_pos (by rw [← hg]; exact ⟨h0, hk⟩)]
        refine ⟨by simp [h1], fun j hj he => ?_⟩
        rcases Nat.eq_or_lt_of_le (Nat.le_of_lt_succ hj) with rfl | hj
        · rw [← h1]; simp
        · have := h2 j hj he
          rw [List.getElem?_append_left (List.getElem?_eq_some_iff.1 this).1]; exact this
      · rw [List.filter_cons_of_neg (by simp [lkey]; exact hk), if_neg (by rw [← hg]; exact fun h => hk h.2)]
        refine ⟨by simp [h1], fun j hj he => ?_⟩
        rcases Nat.eq_or_lt_of_le (Nat.le_of_lt_succ hj) with rfl | hj
        · exact absurd he hk
        · rw [List.filter_nil, List.append_nil]; exact h2 j hj he
    · rw [if_neg h0, if_neg (by rw [← hg]; exact fun h => h0 h.1)]
      refine ⟨by simp [h1], fun j hj he => ?_⟩
      rcases Nat.eq_or_lt_of_le (Nat.le_of_lt_succ hj) with rfl | hj
      · omega
      · rw [List.filter_nil, List.append_nil]; exact h2 j hj he
theorem syms_less {L : List Int} (hL : ∀ x ∈ L, 0 ≤ x ∧ x ≤ 15) (T : List Int) (s : Stb (lkey L) (syms L L.length) T) : ∀ n : Nat, (T.filter fun x => decide (lkey L x < (n + 1 : Nat))).length = msum (cN L) (n + 1) := by
  intro n
  have hT : ∀ x ∈ T, 0 < lkey L x := fun x hx => by
    obtain ⟨j, rfl, _, h⟩ := syms_mem ((s.mem x).1 hx)
    exact h
  have key : ∀ (n : Nat) (T : List Int), (∀ x ∈ T, 0 < lkey L x) → (T.filter fun x => decide (lkey L x < (n + 1 : Nat))).length = msum (fun k => (T.filter fun x => decide (lkey L x = (k : Nat))).length) (n + 1) := by
    intro n T hT
    induction n with
    | zero =>
      rw [List.filter_eq_nil_iff.2 fun x hx => by have := hT x hx; simp; omega]
      rw [msum, msum, List.filter_eq_nil_iff.2 fun x hx => by have := hT x hx; simp; omega]; rfl
    | succ n ih =>
      rw [msum, ← ih]
      clear ih hT
      induction T with
      | nil => rfl
      | cons x T ih =>
        rw [List.filter_cons, List.filter_cons, List.filter_cons]
        rcases Int.lt_trichotomy (lkey L x) (n + 1 : Nat) with h | h | h
        · rw [if_pos (by simp; omega), if_pos (by simp; omega), if_neg (by simp; omega), List.length_cons, List.length_cons, ih]; omega
        · rw [if_pos (by simp; omega), if_neg (by simp; omega), if_pos (by simp; omega), List.length_cons, List.length_cons, ih]; omega
        · rw [if_neg (by simp; omega), if_neg (by simp; omega), if_neg (by simp; omega), ih]
  rw [key n T hT]
  refine msum_eq_of fun k hk => ?_
  rw [s.2 k]
  rcases Nat.eq_zero_or_pos k with rfl | h0
  · rw [cN_zero]
    rw [List.filter_eq_nil_iff.2 fun x hx => fun hd => by
      obtain ⟨j, rfl, _, h⟩ := syms_mem hx
      have e : lkey L ((j : Nat) : Int) = L.getD j 0 := rfl
      have := of_decide_eq_true hd
      omega]; rfl
  · rw [(syms_key k h0 (Nat.le_refl _)).1, List.take_length]
end Go.Vit
end

section
namespace Go.Vit
def fnd (L : List Int) (n c : Nat) : Option Nat := (List.range L.length).find? fun i => decide (L.getD i 0 = n ∧ cd L i = c)
theorem fnd_some {L : List Int} {n c i : Nat} (hi : i < L.length) (h : L.getD i 0 = n ∧ cd L i = c) (hn : ∀ j < i, ¬ (L.getD j 0 = n ∧ cd L j = c)) : fnd L n c = some i := by
  unfold fnd
  rw [List.find?_range_eq_some]
  exact ⟨by simpa using h, by simpa using hi, fun j hj => by rw [decide_eq_false (hn j hj)]; rfl⟩
theorem fnd_none {L : List Int} {n c : Nat} (hn : ∀ j < L.length, ¬ (L.getD j 0 = n ∧ cd L j = c)) : fnd L n c = none := by
  unfold fnd
  rw [List.find?_range_eq_none]
  exact fun j hj => by rw [decide_eq_false (hn j hj)]; rfl
theorem nth_of {L : List Int} {n : Nat} (h0 : 0 < n) : ∀ {i : Nat}, i ≤ L.length → ∀ k < cN (L.take i) n, ∃ j < i, L.getD j 0 = n ∧ cN (L.take j) n = k
  | 0, _, k, hk => by simp [cN] at hk
  | i + 1, hi, k, hk => by
    have hil : i < L.length := by omega
    rw [cN_take_succ hil] at hk
    by_cases h : 0 < L[i] ∧ L[i] = n
    · rw [if_pos h] at hk
      rcases Nat.eq_or_lt_of_le (Nat.le_of_lt_succ hk) with rfl | hk
      · exact ⟨i, by omega, by rw [getD_of hil]; exact h.2, rfl⟩
      · obtain ⟨j, h1, h2⟩ := nth_of (L := L) h0 (i := i) (by omega) k hk
        exact ⟨j, by omega, h2⟩
    · rw [if_neg h] at hk
      obtain ⟨j, h1, h2⟩ := nth_of (L := L) h0 (i := i) (by omega) k (by omega)
      exact ⟨j, by omega, h2⟩
theorem cN_take_mono {L : List Int} {n : Nat} {i : Nat} : ∀ {j : Nat}, i ≤ j → j ≤ L.length → cN (L.take i) n ≤ cN (L.take j) n
  | 0, h, _ => by obtain rfl : i = 0 := by omega
                  exact Nat.le_refl _
  | j + 1, h, hj => by
    rcases Nat.eq_or_lt_of_le h with rfl | h
    · exact Nat.le_refl _
    · have := cN_take_mono (L := L) (n := n) (i := i) (j := j) (by omega) (by omega)
      rw [cN_take_succ (by omega)]; omega
theorem cN_take_lt {L : List Int} {n i j : Nat} (h0 : 0 < n) (hij : i < j) (hj : j ≤ L.length) (hi : L.getD i 0 = n) : cN (L.take i) n < cN (L.take j) n := by
  have h := cN_take_mono (L := L) (n := n) (i := i + 1) (j := j) (by omega) hj
  rw [cN_take_succ (by omega), if_pos (by rw [← getD_of (L := L) (by omega)]; omega)] at h
  omega
theorem cd_of {L : List Int} {n i : Nat} (h0 : 0 < n) (h : L.getD i 0 = n) : cd L i = fc L n + cN (L.take i) n := by
  unfold cd
  rw [h, if_pos (by omega), Int.toNat_natCast]
theorem fnd_code {L : List Int} {n c : Nat} (h0 : 0 < n) (h1 : fc L n ≤ c) (h2 : c - fc L n < cN L n) : ∃ i < L.length, L.getD i 0 = n ∧ cN (L.take i) n = c - fc L n ∧ fnd L n c = some i := by
  obtain ⟨i, hi, he, hk⟩ := nth_of (L := L) h0 (i := L.length) (Nat.le_refl _) (c - fc L n) (by rw [List.take_length]; exact h2)
  refine ⟨i, hi, he, hk, fnd_some hi ⟨he, by rw [cd_of h0 he]; omega⟩ ?_⟩
  rintro j hj ⟨e1, e2⟩
  rw [cd_of h0 e1] at e2
  have := cN_take_lt h0 hj (by omega) e1
  omega
theorem fnd_no {L : List Int} {n c : Nat} (h0 : 0 < n) (h : fc L n + cN L n ≤ c) : fnd L n c = none := by
  refine fnd_none ?_
  rintro j hj ⟨e1, e2⟩
  rw [cd_of h0 e1] at e2
  have := cN_take_lt h0 hj (Nat.le_refl _) e1
  rw [List.take_length] at this
  omega
def dec (L : List Int) (s : ByteArray) : Nat → Nat → Nat → Nat → Int × Int × Nat
  | 0, _, _, at' => (0, 12, at')
  | k + 1, n, c, at' => if 8 * s.size ≤ at' then (0, 3, at') else match fnd L n (2 * c + bitAt s at') with
    | some i => ((i : Nat), 0, at' + 1)
    | none => dec L s k (n + 1) (2 * c + bitAt s at') (at' + 1)
def mostN (L : List Int) : Nat := if many L < 2 then many L else 15
theorem dec_le {L : List Int} {s : ByteArray} : ∀ (k n c : Nat) {at' : Nat}, at' ≤ 8 * s.size → (dec L s k n c at').2.2 ≤ 8 * s.size
  | 0, _, _, _, h => h
  | k + 1, n, c, at', h => by
    unfold dec
    split
    · exact h
    · split
      · show at' + 1 ≤ _; omega
      · exact dec_le k _ _ (by omega)
theorem room_many (L : List Int) : room L ≤ many L * 16384 := by
  unfold room many
  induction L with
  | nil => simp
  | cons x L ih =>
    rw [List.map_cons, List.sum_cons, List.countP_cons, Nat.add_mul]
    by_cases h : 0 < x
    · rw [if_pos h, if_pos (decide_eq_true h)]
      have : 2 ^ (15 - x).toNat ≤ 2 ^ 14 := pow_le (by omega)
      omega
    · rw [if_neg h, if_neg (by simpa using h)]; omega
theorem longest_eq {L : List Int} (hc : chk L = 0) : ((if many L = 1 ∧ most L = 1 then 1 else if many L = 0 then 0 else 15 : Nat)) = mostN L := by
  unfold mostN
  by_cases h0 : many L = 0
  · rw [if_neg (by omega), if_pos h0, if_pos (by omega), h0]
  · by_cases h1 : many L = 1
    · have hm : most L = 1 := by
        have h2 := (most_one (L := L) (i := L.length) (Nat.le_refl _)).2
        rw [List.take_length] at h2
        refine (h2 h1).2 fun e => ?_
        have hr := room_many L
        unfold chk at hc
        split at hc
        · exact absurd hc (by decide)
        · split at hc
          · exact absurd hc (by decide)
          · rw [if_pos ⟨by omega, by omega, fun h => h.2 e⟩] at hc
            exact absurd hc (by decide)
      rw [if_pos ⟨h1, hm⟩, if_pos (by omega), h1]
    · rw [if_neg (by omega), if_neg h0, if_neg (by omega)]
end Go.Vit
end

section
namespace Go.Vit
end Go.Vit
end

section
namespace Go.Vit
def RdO (k : Nat) (σ : Mem) (v : AV) (cs : List AV) (n : Nat) : Prop :=
  (v = .nils ∧ n = 0 ∧ cs = []) ∨ ∃ b z c, v = .slice b z n c ∧ cs.length = n * k ∧ ∃ q cells, σ.get b = some q ∧ q.cellsR = some cells ∧ (cells.drop z).take (n * k) = cs ∧ z + n * k ≤ cells.length
theorem RdO.mk {k n b : Nat} {c : Cap} {σ : Mem} {v : AV} {cs : List AV} (hv : v = .slice b 0 n c) (hg : ∃ q, σ.get b = some q ∧ q.cellsR = some cs) (hl : cs.length = n * k) : RdO k σ v cs n := by
  obtain ⟨q, h1, h2⟩ := hg
  exact .inr ⟨b, 0, c, hv, hl, q, cs, h1, h2, by rw [List.drop_zero, ← hl, List.take_length], by omega⟩
theorem OwnS.rdO {k n : Nat} {σ : Mem} {v : AV} {cs : List AV} (h : OwnS k σ v cs n) : RdO k σ v cs n := by
  rcases h with h | ⟨b, h1, h2, h3⟩
  · exact .inl h
  · exact .mk h1 ⟨_, h2, rfl⟩ h3
theorem RdS.o {k n : Nat} {σ : Mem} {v : AV} {cs : List AV} (h : RdS k σ v cs n) : RdO k σ v cs n := by
  rcases h with h | ⟨b, c, h1, h2, h3⟩
  · exact .inl h
  · exact .mk h1 h2 h3
theorem RdO.len {k n : Nat} {σ : Mem} {v : AV} {cs : List AV} (h : RdO k σ v cs n) {K : Int → Prop} (hk : K (n : Nat)) : slenW v K := by
  rcases h with ⟨rfl, rfl, rfl⟩ | ⟨b, z, c, rfl, _⟩ <;> exact hk
theorem RdO.keep {k n : Nat} {σ σ' : Mem} {v : AV} {cs : List AV} (h : RdO k σ v cs n) (hb : ∀ b ∈ blkOf v, σ'.get b = σ.get b) : RdO k σ' v cs n := by
  rcases h with h | ⟨b, z, c, rfl, h3, q, cells, h1, h2⟩
  · exact .inl h
  · exact .inr ⟨b, z, c, rfl, h3, q, cells, (hb b (by simp [blkOf])).trans h1, h2⟩
theorem RdO.lt {k n : Nat} {σ : Mem} {v : AV} {cs : List AV} (h : RdO k σ v cs n) (live : σ.Live) : ∀ b ∈ blkOf v, b < σ.next := by
  rcases h with ⟨rfl, _⟩ | ⟨b, z, c, rfl, h3, q, cells, h1, _⟩
  · intro b hb; simp [blkOf] at hb
  · intro c hc; simp [blkOf] at hc; subst hc; exact live.lt h1
theorem src_rdO {σ : Mem} {k n : Nat} {v : AV} {cs : List AV} (h : RdO k σ v cs n) (K : Nat → List AV → Prop) (hk : K n cs) : srcW σ k v K := by
  rcases h with ⟨rfl, rfl, rfl⟩ | ⟨b, z, c, rfl, h3, q, cells, h1, h2, h4, h5⟩
  · exact hk
  · refine opt (a := σ.cells b z (n * k)) (v := cs) ?_ hk
    unfold Mem.cells
    rw [h1, Option.bind_some, h2, Option.bind_some, if_pos h5, h4]
theorem ap_freshO {k bytes id nb n : Nat} {σ : Mem} {x : AV} {cs : List AV} {K : AV → Mem → Prop} (hb : σ.get nb = some (.rw [])) (hx : RdO k σ x cs n) (h1 : cs.all AV.one = true) (hr : n * bytes ≤ 140737488355328 ∧ n ≤ 9223372036854775806)
    (h0 : n = 0 → K (.slice nb 0 0 (.ex 0)) σ) (hk : n ≠ 0 → K (.slice id 0 n (.op k)) (σ.put id (some (.rw cs)))) : apW k bytes id σ (.slice nb 0 0 (.ex 0)) x K := by
  unfold apW
  refine src_rdO hx _ ⟨h1, h0, fun hn => ⟨fun h => absurd h (by omega), fun _ => ⟨by rw [Nat.zero_add]; exact hr, ?_⟩⟩⟩
  refine opt (v := []) ?_ ⟨rfl, ?_⟩
  · rw [Mem.cells_of hb]; simp
  · rw [Nat.zero_add]; exact hk hn
theorem RdO.iat {σ : Mem} {v : AV} {L : List Int} {n : Nat} (h : RdO 1 σ v (ic L) n) {i : Nat} {x : Int} (hx : L[i]? = some x) (hn : i < n) (_ : i < L.length) : ∃ b z c, v = .slice b z n c ∧ ∀ {K : AV → Prop} (m : Nat), K (.int .i64 x) → ldW (σ.bump m) (.ptr b (z + i)) K := by
  rcases h with ⟨_, rfl, _⟩ | ⟨b, z, c, rfl, h3, q, cells, h1, h2, h4, h5⟩
  · omega
  · refine ⟨b, z, c, rfl, fun m hk => ldq (σ := σ.bump m) h1 ?_ hk⟩
    rw [h2]
    show cells[z + i]? = _
    have e : (ic L)[i]? = some (.int .i64 x) := by
      have hi := (List.getElem?_eq_some_iff.1 hx).1
      rw [ic_get hi]
      rw [List.getElem?_eq_getElem hi] at hx
      injection hx with hx
      rw [hx]
    rw [← h4, List.getElem?_take_of_lt (by omega), List.getElem?_drop] at e
    exact e
theorem RdO.at {σ : Mem} {v : AV} {L : List Int} (h : RdO 1 σ v (ic L) L.length) {i : Nat} (hi : i < L.length) : ∃ b z c, v = .slice b z L.length c ∧ ∀ {K : AV → Prop} (n : Nat), K (.int .i64 L[i]) → ldW (σ.bump n) (.ptr b (z + i)) K :=
  h.iat (List.getElem?_eq_getElem hi) hi hi
theorem RdO.take {σ : Mem} {b n k : Nat} {c c' : Cap} {L : List Int} (h : RdO 1 σ (.slice b 0 n c) (ic L) n) (hk : k ≤ n) : RdO 1 σ (.slice b 0 k c') (ic (L.take k)) k := by
  rcases h with ⟨h, _⟩ | ⟨b', z, c', e, h3, q, cells, h1, h2, h4, h5⟩
  · exact absurd h (by simp)
  · injection e with e1 e2
    subst e1 e2
    rw [List.drop_zero] at h4
    have hl : (ic (L.take k)) = (ic L).take k := by unfold ic; rw [List.map_take]
    refine .inr ⟨b, 0, _, rfl, ?_, q, cells, h1, h2, ?_, by omega⟩
    · rw [hl, List.length_take, h3]; omega
    · rw [hl, ← h4, List.drop_zero, List.take_take, Nat.min_eq_left (by omega)]
      congr 1; omega
theorem RdO.drop {σ : Mem} {b n k : Nat} {c c' : Cap} {L : List Int} (h : RdO 1 σ (.slice b 0 n c) (ic L) n) (hk : k ≤ n) : RdO 1 σ (.slice b k (n - k) c') (ic (L.drop k)) (n - k) := by
  rcases h with ⟨h, _⟩ | ⟨b', z, c', e, h3, q, cells, h1, h2, h4, h5⟩
  · exact absurd h (by simp)
  · injection e with e1 e2
    subst e1 e2
    rw [List.drop_zero] at h4
    have hl : (ic (L.drop k)) = (ic L).drop k := by unfold ic; rw [List.map_drop]
    refine .inr ⟨b, k, _, rfl, ?_, q, cells, h1, h2, ?_, by omega⟩
    · rw [hl, List.length_drop, h3]; omega
    · rw [hl, ← h4, List.drop_take]
      congr 1; omega
end Go.Vit
end

section
namespace Go.Vit
variable {P : Program} {σ : Mem}
end Go.Vit
end
