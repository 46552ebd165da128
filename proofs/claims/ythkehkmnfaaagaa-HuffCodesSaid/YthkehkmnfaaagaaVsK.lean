/- Matches and tokens in plain words: which tokens bytes are, and what tokens say. -/
import Derived.Test.YthkehkmnfaaagaaVsJ
set_option linter.unusedVariables false
set_option linter.unusedSimpArgs false
namespace Go.Vit
theorem OwnS.sl {k n : Nat} {σ : Mem} {v : AV} {cs : List AV} (h : OwnS k σ v cs n) (hn : 0 < n) : ∃ b, v = .slice b 0 n (.op k) ∧ σ.get b = some (.rw cs) ∧ cs.length = n * k := by
  rcases h with ⟨_, h, _⟩ | h
  · omega
  · exact h
abbrev Tok := Int × Int × Int
def tokC (t : Tok) : List AV := [.int .i64 t.1, .int .i64 t.2.1, .int .i64 t.2.2]
theorem tokC_len (t : Tok) : (tokC t).length = 3 := rfl
theorem tokC_one (l : List Tok) : (l.flatMap tokC).all AV.one = true := by
  rw [List.all_eq_true]
  intro x hx
  obtain ⟨t, _, hx⟩ := List.mem_flatMap.1 hx
  simp [tokC] at hx
  rcases hx with rfl | rfl | rfl <;> rfl
/-- How far bytes agree with those some bytes ahead. -/
def agr (s : ByteArray) (i d n : Nat) : Prop := i + n < s.size ∧ byteAt s (i + n) = byteAt s (i + n - d)
instance (s : ByteArray) (i d n : Nat) : Decidable (agr s i d n) := inferInstanceAs (Decidable (_ ∧ _))
def mlF (s : ByteArray) (i d : Nat) : Nat → Nat → Nat
  | 0, n => n
  | f + 1, n => if agr s i d n then mlF s i d f (n + 1) else n
def ml (s : ByteArray) (i d : Nat) : Nat := mlF s i d 258 0
theorem mlF_le {s : ByteArray} {i d : Nat} : ∀ {f n : Nat}, n ≤ mlF s i d f n ∧ mlF s i d f n ≤ n + f
  | 0, n => by simp [mlF]
  | f + 1, n => by
    rw [mlF]
    split
    · have := mlF_le (s := s) (i := i) (d := d) (f := f) (n := n + 1); omega
    · omega
theorem mlF_agr {s : ByteArray} {i d : Nat} : ∀ {f n t : Nat}, n ≤ t → t < mlF s i d f n → agr s i d t
  | 0, n, t, h1, h2 => by rw [mlF] at h2; omega
  | f + 1, n, t, h1, h2 => by
    rw [mlF] at h2
    split at h2
    · rename_i h
      rcases Nat.eq_or_lt_of_le h1 with rfl | h1
      · exact h
      · exact mlF_agr h1 h2
    · omega
theorem mlF_end {s : ByteArray} {i d : Nat} : ∀ {f n : Nat}, mlF s i d f n = n + f ∨ ¬ agr s i d (mlF s i d f n)
  | 0, n => .inl rfl
  | f + 1, n => by
    rw [mlF]
    split
    · rcases mlF_end (s := s) (i := i) (d := d) (f := f) (n := n + 1) with h | h
      · exact .inl (by omega)
      · exact .inr h
    · rename_i h; exact .inr h
theorem mlF_step {s : ByteArray} {i d n : Nat} (hn : n < 258) (h : agr s i d n) : mlF s i d (258 - n) n = mlF s i d (258 - (n + 1)) (n + 1) := by
  rw [show 258 - n = (258 - (n + 1)) + 1 from by omega, mlF, if_pos h]
theorem mlF_stop {s : ByteArray} {i d n : Nat} (h : n < 258 → ¬ agr s i d n) (hn : n ≤ 258) : mlF s i d (258 - n) n = n := by
  rcases Nat.eq_or_lt_of_le hn with rfl | hn
  · rfl
  · rw [show 258 - n = (258 - (n + 1)) + 1 from by omega, mlF, if_neg (h hn)]
theorem ml_le (s : ByteArray) (i d : Nat) : ml s i d ≤ 258 := by have := mlF_le (s := s) (i := i) (d := d) (f := 258) (n := 0); unfold ml; omega
theorem ml_agr {s : ByteArray} {i d t : Nat} (h : t < ml s i d) : agr s i d t := mlF_agr (Nat.zero_le t) h
theorem ml_max {s : ByteArray} {i d n : Nat} (hn : n ≤ 258) (h : ∀ t < n, agr s i d t) : n ≤ ml s i d := by
  rcases mlF_end (s := s) (i := i) (d := d) (f := 258) (n := 0) with h1 | h1
  · unfold ml; omega
  · unfold ml
    rcases Nat.lt_or_ge (mlF s i d 258 0) n with h2 | h2
    · exact absurd (h _ h2) h1
    · exact h2
theorem ml_size {s : ByteArray} {i d : Nat} (hi : i ≤ s.size) : i + ml s i d ≤ s.size := by
  rcases Nat.eq_zero_or_pos (ml s i d) with h | h
  · omega
  · have := (ml_agr (show ml s i d - 1 < ml s i d by omega)).1; omega
theorem ml_from3 {s : ByteArray} {i d : Nat} (h : 3 ≤ ml s i d) : mlF s i d 255 3 = ml s i d := by
  unfold ml
  rw [mlF_step (n := 0) (by decide) (ml_agr (by omega)), mlF_step (n := 0 + 1) (by decide) (ml_agr (by omega)), mlF_step (n := 0 + 1 + 1) (by decide) (ml_agr (by omega))]
/-- Three bytes. -/
def tri (s : ByteArray) (i : Nat) : ByteArray := s.extract i (i + 3)
theorem tri_eq {s : ByteArray} {i j : Nat} (hi : i + 3 ≤ s.size) (hj : j + 3 ≤ s.size) : tri s i = tri s j ↔ ∀ t < 3, byteAt s (i + t) = byteAt s (j + t) := by
  unfold tri
  constructor
  · intro h t ht
    have := congrArg (fun x => byteAt x t) h
    rwa [byteAt_extract _ _ _ _ (by omega), byteAt_extract _ _ _ _ (by omega)] at this
  · intro h
    refine bytes_ext (by rw [size_extract, size_extract]; omega) fun t ht => ?_
    rw [size_extract] at ht
    rw [byteAt_extract _ _ _ _ (by omega), byteAt_extract _ _ _ _ (by omega), h t (by omega)]
theorem ml3 {s : ByteArray} {i d : Nat} (hd : d ≤ i) (hi : i + 3 ≤ s.size) : 3 ≤ ml s i d ↔ tri s (i - d) = tri s i := by
  rw [tri_eq (by omega) hi]
  constructor
  · intro h t ht
    have := (ml_agr (s := s) (i := i) (d := d) (t := t) (by omega)).2
    rw [show i - d + t = i + t - d from by omega, this]
  · intro h
    refine ml_max (by decide) fun t ht => ⟨by omega, ?_⟩
    rw [show i + t - d = i - d + t from by omega, h t ht]
theorem ml_short {s : ByteArray} {i d : Nat} (hi : s.size < i + 3) (h : i ≤ s.size) : ml s i d < 3 := by
  have := ml_size (d := d) h; omega
/-- The best one of the distances up to d. -/
def rb (s : ByteArray) (i : Nat) : Nat → Nat × Nat
  | 0 => (0, 0)
  | d + 1 => if (rb s i d).1 < ml s i (d + 1) then (ml s i (d + 1), d + 1) else rb s i d
theorem rb_le (s : ByteArray) (i : Nat) : ∀ d, (rb s i d).1 ≤ 258 ∧ (rb s i d).2 ≤ d ∧ (1 ≤ (rb s i d).1 → 1 ≤ (rb s i d).2 ∧ ml s i (rb s i d).2 = (rb s i d).1)
  | 0 => by simp [rb]
  | d + 1 => by
    have := rb_le s i d
    have := ml_le s i (d + 1)
    rw [rb]
    split
    · dsimp only; omega
    · omega
theorem rb_max (s : ByteArray) (i : Nat) : ∀ {d e : Nat}, 1 ≤ e → e ≤ d → ml s i e ≤ (rb s i d).1
  | 0, e, h1, h2 => by omega
  | d + 1, e, h1, h2 => by
    rw [rb]
    rcases Nat.eq_or_lt_of_le h2 with rfl | h2
    · split
      · exact Nat.le_refl _
      · omega
    · have := rb_max s i h1 (Nat.le_of_lt_succ h2)
      split
      · dsimp only; omega
      · exact this
/-- Less than three bytes are none. -/
def cut3 (p : Nat × Nat) : Nat × Nat := if 3 ≤ p.1 then p else (0, 0)
theorem cut3_far {s : ByteArray} {i d : Nat} : ∀ {e : Nat}, d ≤ e → (∀ x, d < x → x ≤ e → ml s i x < 3) → cut3 (rb s i e) = cut3 (rb s i d)
  | 0, h, _ => by obtain rfl : d = 0 := by omega
                  rfl
  | e + 1, h, hx => by
    rcases Nat.eq_or_lt_of_le h with rfl | h
    · rfl
    · have ih := cut3_far (s := s) (i := i) (Nat.le_of_lt_succ h) fun x h1 h2 => hx x h1 (by omega)
      have := hx (e + 1) h (Nat.le_refl _)
      rw [← ih, rb]
      split
      · unfold cut3; dsimp only; rw [if_neg (by omega), if_neg (by omega)]
      · rfl
theorem cut3_near {s : ByteArray} {i d : Nat} (h : 3 ≤ ml s i (d + 1)) : cut3 (rb s i (d + 1)) = if (cut3 (rb s i d)).1 < ml s i (d + 1) then (ml s i (d + 1), d + 1) else cut3 (rb s i d) := by
  rw [rb]
  by_cases h1 : 3 ≤ (rb s i d).1
  · have e : cut3 (rb s i d) = rb s i d := if_pos h1
    rw [e]
    by_cases h2 : (rb s i d).1 < ml s i (d + 1)
    · rw [if_pos h2]; exact if_pos h
    · rw [if_neg h2, e]
  · have e : cut3 (rb s i d) = (0, 0) := if_neg h1
    rw [e, if_pos (by omega), if_pos (by show 0 < _; omega)]; exact if_pos h
theorem rb_full {s : ByteArray} {i d : Nat} (h : (rb s i d).1 = 258) : ∀ {e : Nat}, d ≤ e → rb s i e = rb s i d
  | 0, hd => by obtain rfl : d = 0 := by omega
                rfl
  | e + 1, hd => by
    rcases Nat.eq_or_lt_of_le hd with rfl | hd
    · rfl
    · have ih := rb_full h (Nat.le_of_lt_succ hd)
      have := ml_le s i (e + 1)
      rw [rb, ih, if_neg (by omega)]
def best (s : ByteArray) (i : Nat) : Nat × Nat := rb s i (min 512 i)
/-- The token at a place, and the place behind it. -/
def tk (s : ByteArray) (i : Nat) : Tok × Nat :=
  if 3 ≤ (best s i).1 then ((0, (best s i).1, (best s i).2), i + (best s i).1) else (((byteAt s i : Nat), 0, 0), i + 1)
def pos (s : ByteArray) : Nat → Nat
  | 0 => 0
  | k + 1 => (tk s (pos s k)).2
def tkAt (s : ByteArray) (k : Nat) : Tok := (tk s (pos s k)).1
def toks (s : ByteArray) (k : Nat) : List Tok := (List.range k).map (tkAt s)
theorem toks_succ (s : ByteArray) (k : Nat) : toks s (k + 1) = toks s k ++ [tkAt s k] := by simp [toks, List.range_succ]
theorem toks_len (s : ByteArray) (k : Nat) : (toks s k).length = k := by simp [toks]
theorem toks_get {s : ByteArray} {k i : Nat} (h : i < (toks s k).length) : (toks s k)[i] = tkAt s i := by simp [toks]
/-- All bytes are told. -/
def Done (s : ByteArray) (k : Nat) : Prop := pos s k = s.size ∧ ∀ j < k, pos s j < s.size
theorem best_size {s : ByteArray} {i : Nat} (hi : i ≤ s.size) : i + (best s i).1 ≤ s.size := by
  unfold best
  have h := rb_le s i (min 512 i)
  generalize min 512 i = d at *
  rcases Nat.eq_zero_or_pos (rb s i d).1 with h0 | h0
  · omega
  · have := ml_size (s := s) (i := i) (d := (rb s i d).2) hi
    rw [(h.2.2 h0).2] at this
    exact this
theorem tk_le {s : ByteArray} {i : Nat} (hi : i < s.size) : i < (tk s i).2 ∧ (tk s i).2 ≤ s.size := by
  unfold tk
  have := best_size (Nat.le_of_lt hi)
  split <;> dsimp only <;> omega
theorem pos_le {s : ByteArray} : ∀ {k : Nat}, (∀ j < k, pos s j < s.size) → pos s k ≤ s.size
  | 0, _ => Nat.zero_le _
  | k + 1, h => (tk_le (h k (by omega))).2
theorem pos_ge {s : ByteArray} : ∀ {k : Nat}, (∀ j < k, pos s j < s.size) → k ≤ pos s k
  | 0, _ => Nat.zero_le _
  | k + 1, h => by
    have h1 := pos_ge (s := s) (k := k) fun j hj => h j (by omega)
    have h2 := (tk_le (h k (by omega))).1
    show k + 1 ≤ (tk s (pos s k)).2
    omega
theorem done_unique {s : ByteArray} {k k' : Nat} (h : Done s k) (h' : Done s k') : k = k' := by
  rcases Nat.lt_trichotomy k k' with h1 | h1 | h1
  · have := h'.2 k h1; have := h.1; omega
  · exact h1
  · have := h.2 k' h1; have := h'.1; omega
theorem done_len {s : ByteArray} {k : Nat} (h : Done s k) : k ≤ s.size := by have := pos_ge h.2; have := h.1; omega
end Go.Vit
