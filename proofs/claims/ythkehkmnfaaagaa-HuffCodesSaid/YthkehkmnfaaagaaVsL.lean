/- What tokens say, in plain words. -/
import Derived.Test.YthkehkmnfaaagaaVsK
set_option linter.unusedVariables false
set_option linter.unusedSimpArgs false
namespace Go.Vit
def right (t : Tok) : Prop := if t.2.1 = 0 then t.2.2 = 0 ∧ 0 ≤ t.1 ∧ t.1 ≤ 255 else t.1 = 0 ∧ 3 ≤ t.2.1 ∧ t.2.1 ≤ 258 ∧ 1 ≤ t.2.2 ∧ t.2.2 ≤ 32768
instance (t : Tok) : Decidable (right t) := by unfold right; infer_instance
def copyN (out : List UInt8) (d : Nat) : Nat → List UInt8
  | 0 => out
  | n + 1 => copyN out d n ++ [(copyN out d n)[(copyN out d n).length - d]?.getD 0]
theorem copyN_len (out : List UInt8) (d : Nat) : ∀ n, (copyN out d n).length = out.length + n
  | 0 => rfl
  | n + 1 => by rw [copyN, List.length_append, copyN_len out d n]; rfl
/-- What tokens say, behind what was said; or what is wrong. -/
def exp : List UInt8 → List Tok → ByteArray × Int
  | out, [] => (⟨out.toArray⟩, 0)
  | out, t :: l => if right t then (if t.2.1 = 0 then exp (out ++ [UInt8.ofNat t.1.toNat]) l else if (out.length : Int) < t.2.2 then (⟨#[]⟩, 15) else exp (copyN out t.2.2.toNat t.2.1.toNat) l) else (⟨#[]⟩, 1)
theorem exp_drop {out : List UInt8} {l : List Tok} {i : Nat} (h : i < l.length) : exp out (l.drop i) = if right l[i] then (if l[i].2.1 = 0 then exp (out ++ [UInt8.ofNat l[i].1.toNat]) (l.drop (i + 1)) else if (out.length : Int) < l[i].2.2 then (⟨#[]⟩, 15) else exp (copyN out l[i].2.2.toNat l[i].2.1.toNat) (l.drop (i + 1))) else (⟨#[]⟩, 1) := by
  rw [List.drop_eq_getElem_cons h]; rfl
theorem exp_end {out : List UInt8} {l : List Tok} {i : Nat} (h : l.length ≤ i) : exp out (l.drop i) = (⟨out.toArray⟩, 0) := by
  rw [List.drop_of_length_le h]; rfl
/-! ### What the tokens of bytes say -/
theorem byteAt_opt {s : ByteArray} {i : Nat} (h : i < s.size) : (bytesL s)[i]? = some (UInt8.ofNat (byteAt s i)) := byteAt_get h
theorem copyN_agr {s : ByteArray} {i d : Nat} (h1 : 1 ≤ d) (h2 : d ≤ i) : ∀ {n : Nat}, (∀ t < n, agr s i d t) → i ≤ s.size → copyN ((bytesL s).take i) d n = (bytesL s).take (i + n)
  | 0, _, _ => rfl
  | n + 1, h, hi => by
    have ih := copyN_agr h1 h2 (n := n) (fun t ht => h t (by omega)) hi
    obtain ⟨h3, h4⟩ := h n (by omega)
    have hl : ((bytesL s).take (i + n)).length = i + n := by rw [List.length_take, bytesL_length]; omega
    rw [copyN, ih, hl, List.getElem?_take_of_lt (by omega), byteAt_opt (by omega), Option.getD_some, ← h4, ← Nat.add_assoc, List.take_add_one, byteAt_opt h3]
    rfl
theorem tk_right {s : ByteArray} {i : Nat} (hi : i < s.size) : right (tk s i).1 ∧ (tk s i).1.2.2 ≤ 512 ∧ (max (tk s i).1.2.1 1).toNat = (tk s i).2 - i := by
  have hb := rb_le s i (min 512 i)
  have hs := byteAt_lt s i
  rw [show rb s i (min 512 i) = best s i from rfl] at hb
  unfold tk
  split
  · rename_i h
    have := hb.2.2 (by omega)
    unfold right
    dsimp only
    refine ⟨?_, by omega, by omega⟩
    rw [if_neg (by omega)]
    omega
  · unfold right
    dsimp only
    refine ⟨?_, by omega, by omega⟩
    rw [if_pos rfl]
    omega
theorem tk_says {s : ByteArray} {i : Nat} (hi : i < s.size) (l : List Tok) : exp ((bytesL s).take i) ((tk s i).1 :: l) = exp ((bytesL s).take (tk s i).2) l := by
  have hr := (tk_right hi).1
  rw [exp, if_pos hr]
  have hb := rb_le s i (min 512 i)
  rw [show rb s i (min 512 i) = best s i from rfl] at hb
  have hl : ((bytesL s).take i).length = i := by rw [List.length_take, bytesL_length]; omega
  have hbs := best_size (Nat.le_of_lt hi)
  unfold tk
  split
  · rename_i h
    obtain ⟨h1, h2⟩ := hb.2.2 (by omega)
    dsimp only
    rw [if_neg (by omega), if_neg (by rw [hl]; omega), Int.toNat_natCast, Int.toNat_natCast, copyN_agr h1 (by omega) (fun t ht => ml_agr (by rw [h2]; exact ht)) (Nat.le_of_lt hi)]
  · dsimp only
    rw [if_pos rfl, Int.toNat_natCast, List.take_add_one, byteAt_opt hi]
    rfl
theorem toks_drop {s : ByteArray} {k j : Nat} (h : j < k) : (toks s k).drop j = tkAt s j :: (toks s k).drop (j + 1) := by
  rw [List.drop_eq_getElem_cons (by rw [toks_len]; exact h), toks_get]
theorem exp_toks {s : ByteArray} {k : Nat} (h : Done s k) : exp [] (toks s k) = (s, 0) := by
  have : ∀ j, j ≤ k → exp [] (toks s k) = exp ((bytesL s).take (pos s j)) ((toks s k).drop j) := by
    intro j
    induction j with
    | zero => intro _; simp [pos]
    | succ j ih =>
      intro hj
      rw [ih (by omega), toks_drop (by omega)]
      exact tk_says (h.2 j (by omega)) _
  rw [this k (Nat.le_refl _), h.1, List.take_of_length_le (by rw [bytesL_length]; omega), List.drop_of_length_le (by rw [toks_len]; omega), exp, mk_bytesL]
end Go.Vit
