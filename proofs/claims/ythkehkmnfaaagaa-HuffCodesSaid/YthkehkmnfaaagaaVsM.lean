/- Lengths of codes in plain words. -/
import Derived.Test.YthkehkmnfaaagaaVsL
set_option linter.unusedVariables false
set_option linter.unusedSimpArgs false
namespace Go.Vit
/-- Numbers as cells. -/
def ic (l : List Int) : List AV := l.map fun n => .int .i64 n
theorem ic_len (l : List Int) : (ic l).length = l.length := by simp [ic]
theorem ic_get {l : List Int} {i : Nat} (h : i < l.length) : (ic l)[i]? = some (.int .i64 l[i]) := by simp [ic, List.getElem?_eq_getElem h]
theorem ic_one (l : List Int) : (ic l).all AV.one = true := by
  rw [List.all_eq_true]
  intro x hx
  simp only [ic, List.mem_map] at hx
  obtain ⟨b, _, rfl⟩ := hx
  rfl
theorem ic_set (l : List Int) (i : Nat) (n : Int) : (ic l).set i (.int .i64 n) = ic (l.set i n) := by unfold ic; rw [List.map_set]
theorem ic_append (l m : List Int) : ic (l ++ m) = ic l ++ ic m := by simp [ic]
theorem ic_inj {l m : List Int} (h : ic l = ic m) : l = m := by
  refine List.map_inj_right (fun a b e => ?_) |>.1 h
  injection e
/-- An array that is told by a function. -/
def arr (f : Nat → Int) (n : Nat) : List Int := (List.range n).map f
theorem arr_len (f : Nat → Int) (n : Nat) : (arr f n).length = n := by simp [arr]
theorem arr_get {f : Nat → Int} {n i : Nat} (h : i < n) : (ic (arr f n))[i]? = some (.int .i64 (f i)) := by
  rw [ic_get (by rw [arr_len]; exact h)]; simp [arr]
theorem arr_set {f : Nat → Int} {n i : Nat} (v : Int) : (arr f n).set i v = arr (fun j => if j = i then v else f j) n := by
  refine List.ext_getElem (by simp [arr]) fun k h1 h2 => ?_
  rw [List.getElem_set]
  simp only [arr, List.getElem_map, List.getElem_range]
  by_cases h : i = k
  · rw [if_pos h, if_pos h.symm]
  · rw [if_neg h, if_neg fun e => h e.symm]
theorem arr_ext {f g : Nat → Int} {n : Nat} (h : ∀ j < n, f j = g j) : arr f n = arr g n :=
  List.map_congr_left fun j hj => h j (List.mem_range.1 hj)
theorem arr_zero (n : Nat) : List.replicate n (AV.int .i64 0) = ic (arr (fun _ => 0) n) := by
  refine List.ext_getElem (by simp [ic, arr]) fun i h1 h2 => ?_
  simp [ic, arr]
theorem repl_zero (n : Nat) : repl n [.int .i64 0] = ic (arr (fun _ => 0) n) := by
  rw [← arr_zero]; rfl
/-! ### How many codes there are of each length -/
def cN (L : List Int) (n : Nat) : Nat := L.countP fun (x : Int) => decide (0 < x ∧ x = (n : Int))
theorem cN_append (L M : List Int) (n : Nat) : cN (L ++ M) n = cN L n + cN M n := by unfold cN; rw [List.countP_append]
theorem cN_cons (x : Int) (L : List Int) (n : Nat) : cN (x :: L) n = cN L n + if 0 < x ∧ x = n then 1 else 0 := by
  unfold cN; rw [List.countP_cons]; simp
theorem cN_zero (L : List Int) : cN L 0 = 0 := by
  induction L with
  | nil => rfl
  | cons x L ih => rw [cN_cons, ih, if_neg (by omega)]
theorem cN_le (L : List Int) (n : Nat) : cN L n ≤ L.length := List.countP_le_length
theorem cN_take_succ {L : List Int} {i : Nat} (h : i < L.length) (n : Nat) : cN (L.take (i + 1)) n = cN (L.take i) n + if 0 < L[i] ∧ L[i] = n then 1 else 0 := by
  rw [List.take_succ_eq_append_getElem h, cN_append, cN_cons]; simp [cN]
theorem cN_take_le (L : List Int) (i n : Nat) : cN (L.take i) n ≤ cN L n := (List.take_sublist i L).countP_le
/-- How many there are in all, and what they take of all codes. -/
def many (L : List Int) : Nat := L.countP fun x => decide (0 < x)
def room (L : List Int) : Nat := (L.map fun x => if 0 < x then 2 ^ (15 - x).toNat else 0).sum
def lens (L : List Int) : Prop := L.length ≤ 288 ∧ ∀ x ∈ L, 0 ≤ x ∧ x ≤ 15
instance (L : List Int) : Decidable (lens L) := by unfold lens; infer_instance
def msum (c : Nat → Nat) : Nat → Nat
  | 0 => 0
  | k + 1 => msum c k + c k
def wsum (c : Nat → Nat) : Nat → Nat
  | 0 => 0
  | k + 1 => wsum c k + c k * 2 ^ (15 - k)
theorem msum_upd {c c' : Nat → Nat} {x : Nat} (h : ∀ n, c' n = c n + if x = n then 1 else 0) : ∀ k, msum c' k = msum c k + if x < k then 1 else 0
  | 0 => by simp [msum]
  | k + 1 => by
    rw [msum, msum, msum_upd h k, h k]
    split <;> split <;> split <;> omega
theorem wsum_upd {c c' : Nat → Nat} {x : Nat} (h : ∀ n, c' n = c n + if x = n then 1 else 0) : ∀ k, wsum c' k = wsum c k + if x < k then 2 ^ (15 - x) else 0
  | 0 => by simp [wsum]
  | k + 1 => by
    rw [wsum, wsum, wsum_upd h k, h k, Nat.add_mul]
    by_cases h1 : x = k
    · subst h1
      rw [if_neg (by omega), if_pos rfl, if_pos (by omega), Nat.one_mul]; omega
    · rw [if_neg h1, Nat.zero_mul]
      by_cases h2 : x < k
      · rw [if_pos h2, if_pos (by omega)]; omega
      · rw [if_neg h2, if_neg (by omega)]; omega
theorem msum_same {c c' : Nat → Nat} (h : ∀ n, c' n = c n) : ∀ k, msum c' k = msum c k
  | 0 => rfl
  | k + 1 => by rw [msum, msum, msum_same h k, h k]
theorem wsum_same {c c' : Nat → Nat} (h : ∀ n, c' n = c n) : ∀ k, wsum c' k = wsum c k
  | 0 => rfl
  | k + 1 => by rw [wsum, wsum, wsum_same h k, h k]
theorem sums {L : List Int} (h : ∀ x ∈ L, 0 ≤ x ∧ x ≤ 15) : msum (cN L) 16 = many L ∧ wsum (cN L) 16 = room L := by
  induction L with
  | nil => exact ⟨rfl, rfl⟩
  | cons x L ih =>
    obtain ⟨h1, h2⟩ := ih fun y hy => h y (List.mem_cons_of_mem _ hy)
    have hx := h x (by simp)
    unfold many room at *
    rw [List.countP_cons, List.map_cons, List.sum_cons]
    by_cases h0 : 0 < x
    · obtain ⟨m, rfl⟩ := int_nat hx.1
      have hu : ∀ n, cN ((m : Int) :: L) n = cN L n + if m = n then 1 else 0 := fun n => by
        rw [cN_cons]
        congr 1
        by_cases e : m = n
        · subst e; rw [if_pos ⟨h0, rfl⟩, if_pos rfl]
        · rw [if_neg fun e' => e (by omega), if_neg e]
      rw [msum_upd hu, wsum_upd hu, h1, h2, if_pos (show m < 16 by omega), if_pos (show m < 16 by omega), if_pos h0, show ((15 : Int) - m).toNat = 15 - m from by omega]
      exact ⟨by rw [if_pos (decide_eq_true h0)], Nat.add_comm _ _⟩
    · have hu : ∀ n, cN (x :: L) n = cN L n := fun n => by rw [cN_cons, if_neg (by omega), Nat.add_zero]
      rw [msum_same hu, wsum_same hu, h1, h2, if_neg h0]
      exact ⟨by simp [h0], by omega⟩
theorem wsum_le {c : Nat → Nat} {k : Nat} : ∀ {m : Nat}, k ≤ m → wsum c k ≤ wsum c m
  | 0, h => by obtain rfl : k = 0 := by omega
               exact Nat.le_refl _
  | m + 1, h => by
    rcases Nat.eq_or_lt_of_le h with rfl | h
    · exact Nat.le_refl _
    · have := wsum_le (c := c) (k := k) (m := m) (by omega)
      rw [wsum]; omega
theorem msum_le {c : Nat → Nat} {k : Nat} : ∀ {m : Nat}, k ≤ m → msum c k ≤ msum c m
  | 0, h => by obtain rfl : k = 0 := by omega
               exact Nat.le_refl _
  | m + 1, h => by
    rcases Nat.eq_or_lt_of_le h with rfl | h
    · exact Nat.le_refl _
    · have := msum_le (c := c) (k := k) (m := m) (by omega)
      rw [msum]; omega
/-- Whether lengths are those of a full set of codes. -/
def chk (L : List Int) : Int :=
  if ¬ lens L then 1 else if 32768 < room L then 10 else if room L < 32768 ∧ 0 < many L ∧ ¬ (many L = 1 ∧ cN L 1 ≠ 0) then 11 else 0
theorem many_le (L : List Int) : many L ≤ L.length := List.countP_le_length
theorem room_le (L : List Int) : room L ≤ L.length * 32768 := by
  unfold room
  induction L with
  | nil => simp
  | cons x L ih =>
    rw [List.map_cons, List.sum_cons, List.length_cons, Nat.add_mul]
    have : (if 0 < x then 2 ^ (15 - x).toNat else 0) ≤ 32768 := by
      split
      · exact pow_le (b := 15) (by omega)
      · omega
    omega
theorem room_take_succ {L : List Int} {i : Nat} (h : i < L.length) : room (L.take (i + 1)) = room (L.take i) + if 0 < L[i] then 2 ^ (15 - L[i]).toNat else 0 := by
  unfold room; rw [List.take_succ_eq_append_getElem h, List.map_append, List.sum_append]; simp
theorem many_take_succ {L : List Int} {i : Nat} (h : i < L.length) : many (L.take (i + 1)) = many (L.take i) + if 0 < L[i] then 1 else 0 := by
  unfold many; rw [List.take_succ_eq_append_getElem h, List.countP_append, List.countP_cons]; simp
def most (L : List Int) : Int := L.foldl (fun m x => if 0 < x then max m x else m) 0
theorem most_take_succ {L : List Int} {i : Nat} (h : i < L.length) : most (L.take (i + 1)) = if 0 < L[i] then max (most (L.take i)) L[i] else most (L.take i) := by
  unfold most; rw [List.take_succ_eq_append_getElem h, List.foldl_append]; rfl
/-- Where one symbol has a code: the greatest length is 1 just if one is 1. -/
theorem most_one {L : List Int} : ∀ {i : Nat}, i ≤ L.length → (many (L.take i) = 0 → most (L.take i) = 0 ∧ cN (L.take i) 1 = 0) ∧ (many (L.take i) = 1 → (most (L.take i) = 1 ↔ cN (L.take i) 1 ≠ 0))
  | 0, _ => by simp [many, most, cN]
  | i + 1, h => by
    obtain ⟨h1, h2⟩ := most_one (L := L) (i := i) (by omega)
    rw [many_take_succ (by omega), most_take_succ (by omega), cN_take_succ (by omega)]
    generalize L[i] = x
    by_cases h0 : 0 < x
    · rw [if_pos h0, if_pos h0]
      refine ⟨fun e => by omega, fun e => ?_⟩
      obtain ⟨h3, h4⟩ := h1 (by omega)
      rw [h3, h4]
      by_cases hx : x = ((1 : Nat) : Int)
      · rw [if_pos ⟨h0, hx⟩]; constructor <;> intro _ <;> omega
      · rw [if_neg fun e => hx e.2]; constructor <;> intro _ <;> omega
    · rw [if_neg h0, if_neg h0, if_neg fun e => h0 e.1]
      exact ⟨h1, h2⟩
end Go.Vit
