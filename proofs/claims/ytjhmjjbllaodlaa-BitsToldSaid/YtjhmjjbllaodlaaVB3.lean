/- The cyclic sum tells one byte that is changed: the law BitsTold over abstract memory. -/
import Derived.Test.YtjhmjjbllaodlaaVB2
import Derived.Test.YtjhmjjbllaodlaaVsE
set_option linter.unusedSimpArgs false
namespace Go.Vit
open Go.Proofs
theorem xor_cancel {a b c : Nat} (h : a ^^^ c = b ^^^ c) : a = b := by
  have := congrArg (· ^^^ c) h
  simpa [Nat.xor_assoc] using this
theorem xor_cancel' {a b c : Nat} (h : c ^^^ a = c ^^^ b) : a = b := xor_cancel (c := c) (by rw [Nat.xor_comm a, Nat.xor_comm b, h])
theorem crcBit_inj {a b : Nat} (ha : a < 2 ^ 32) (hb : b < 2 ^ 32) (h : crcBit a = crcBit b) : a = b := by
  have bit : ∀ c, c < 2 ^ 32 → (crcBit c).testBit 31 = decide (c % 2 = 1) := by
    intro c hc
    unfold crcBit
    rw [Nat.testBit_xor, Nat.testBit_lt_two_pow (by omega : c / 2 < 2 ^ 31)]
    rcases Nat.mod_two_eq_zero_or_one c with h | h
    · rw [h]; simp
    · rw [h]; decide
  have hp : a % 2 = b % 2 := by
    have h1 := bit a ha
    have h2 := bit b hb
    rw [h] at h1
    rw [h1] at h2
    have := Bool.eq_iff_iff.1 h2
    simp at this
    omega
  have hd : a / 2 = b / 2 := by
    unfold crcBit at h
    rw [hp] at h
    exact xor_cancel h
  omega
theorem iter_inj {a b : Nat} (ha : a < 2 ^ 32) (hb : b < 2 ^ 32) : ∀ n, iter n a = iter n b → a = b
  | 0, h => h
  | n + 1, h => iter_inj ha hb n (crcBit_inj (iter_lt ha n) (iter_lt hb n) h)
theorem xor_byte_lt (s : ByteArray) (i : Nat) : crcTo s i ^^^ byteAt s i < 2 ^ 32 := Nat.xor_lt_two_pow (crcTo_lt s i) (Nat.lt_trans (byteAt_lt s i) (by decide))
/-- One byte differs: the sums differ. -/
theorem crc_told {s s' : ByteArray} {n : Nat} (hn : byteAt s' n ≠ byteAt s n) (ho : ∀ j, j ≠ n → byteAt s' j = byteAt s j) : ∀ i, (i ≤ n → crcTo s' i = crcTo s i) ∧ (n < i → crcTo s' i ≠ crcTo s i)
  | 0 => ⟨fun _ => rfl, fun h => by omega⟩
  | i + 1 => by
    obtain ⟨h1, h2⟩ := crc_told hn ho i
    refine ⟨fun h => ?_, fun h => ?_⟩
    · show iter 8 (crcTo s' i ^^^ byteAt s' i) = iter 8 (crcTo s i ^^^ byteAt s i)
      rw [h1 (by omega), ho i (by omega)]
    · intro e
      have e := iter_inj (xor_byte_lt s' i) (xor_byte_lt s i) 8 e
      rcases Nat.lt_or_ge n i with hi | hi
      · rw [ho i (by omega)] at e
        exact h2 hi (xor_cancel e)
      · have : i = n := by omega
        subst this
        rw [h1 (Nat.le_refl _)] at e
        exact hn (xor_cancel' e)
theorem crcOf_told {s s' : ByteArray} {n : Nat} (hsz : s'.size = s.size) (hlt : n < s.size) (hn : byteAt s' n ≠ byteAt s n) (ho : ∀ j, j ≠ n → byteAt s' j = byteAt s j) : crcOf s' ≠ crcOf s := by
  intro h
  unfold crcOf at h
  rw [hsz] at h
  exact (crc_told hn ho s.size).2 hlt (xor_cancel h)


theorem law01_BitsTold (σ : Mem) (l : List AV) (_ : σ.Ro) (hw : Wts PG σ Try.f12.params.toList l) : ACalls PG n_law01_BitsTold l σ fun v _ => isTrue v := by
  rw [show Try.f12.params.toList = [9, 3, 5] from by rw [Try.params12]] at hw
  obtain ⟨s, r, rfl, hs, hw⟩ := hw.str (by kernel_rfl)
  obtain ⟨at', r, rfl, ha, hw⟩ := hw.int (k := .i64) (by kernel_rfl)
  obtain ⟨by', r, rfl, hb, hw⟩ := hw.int (k := .u8) (by kernel_rfl)
  obtain rfl := hw.nil_inv
  have ha := wf_i64 ha
  unfold inI64 at ha
  have hb := wf_u8 hb
  have hr := hs
  rw [reach_eq] at hr
  refine ok_law01_BitsTold fun _ => ?_
  unfold F_law01_BitsTold
  refine ifD (fun h0 => ?_) (fun h0 => ?_)
  · refine callW_of (law01_awake _) ?_
    rintro v σ3 ⟨rfl, h3⟩
    repeat (first | refine To.go ?_ | with_reducible refine And.intro (by omega) ?_ | with_reducible refine opt (by with_unfolding_all rfl) ?_ | with_reducible refine ldq (by (first | assumption | (simp (disch := omega) only [go_sem, *]; try rfl))) (by with_unfolding_all rfl) ?_ | with_reducible refine st1 (by (first | assumption | (simp (disch := omega) only [go_sem, *]; try rfl))) (by simp) (by with_unfolding_all rfl) ?_ | with_reducible refine ifT (by omega) ?_ | with_reducible refine ifF (by omega) ?_)
    exact rfl
  refine ifD (fun hb0 => ?_) (fun hb0 => ?_)
  · refine callW_of (law01_awake _) ?_
    rintro v σ3 ⟨rfl, h3⟩
    repeat (first | refine To.go ?_ | with_reducible refine And.intro (by omega) ?_ | with_reducible refine opt (by with_unfolding_all rfl) ?_ | with_reducible refine ldq (by (first | assumption | (simp (disch := omega) only [go_sem, *]; try rfl))) (by with_unfolding_all rfl) ?_ | with_reducible refine st1 (by (first | assumption | (simp (disch := omega) only [go_sem, *]; try rfl))) (by simp) (by with_unfolding_all rfl) ?_ | with_reducible refine ifT (by omega) ?_ | with_reducible refine ifF (by omega) ?_)
    exact rfl
  refine rem_any (by omega) fun r1 h1 h2 _ => ?_
  repeat (first | refine To.go ?_ | with_reducible refine And.intro (by omega) ?_ | with_reducible refine opt (by with_unfolding_all rfl) ?_ | with_reducible refine ldq (by (first | assumption | (simp (disch := omega) only [go_sem, *]; try rfl))) (by with_unfolding_all rfl) ?_ | with_reducible refine st1 (by (first | assumption | (simp (disch := omega) only [go_sem, *]; try rfl))) (by simp) (by with_unfolding_all rfl) ?_ | with_reducible refine ifT (by omega) ?_ | with_reducible refine ifF (by omega) ?_)
  generalize hn : (r1 + (s.size : Int)) % (s.size : Int) = m
  have hm0 : 0 ≤ m := by rw [← hn]; exact Int.emod_nonneg _ (by omega)
  have hm1 : m < s.size := by rw [← hn]; exact Int.emod_lt_of_pos _ (by omega)
  obtain ⟨n, rfl⟩ := int_nat hm0
  clear hn
  have hlen := bytesL_length s
  rw [bytesOf_bl]
  have hbn : n < (bytesL s).length := by omega
  repeat (first | refine To.go ?_ | with_reducible refine And.intro (by omega) ?_ | with_reducible refine opt (by with_unfolding_all rfl) ?_ | with_reducible refine ldq (by (first | assumption | (simp (disch := omega) only [go_sem, *]; try rfl))) (by with_unfolding_all rfl) ?_ | with_reducible refine st1 (by (first | assumption | (simp (disch := omega) only [go_sem, *]; try rfl))) (by simp) (by with_unfolding_all rfl) ?_ | with_reducible refine ifT (by omega) ?_ | with_reducible refine ifF (by omega) ?_)
  simp only [Int.toNat_natCast, Nat.mul_one, Nat.zero_add, Nat.add_zero]
  refine ldq (by (first | assumption | (simp (disch := omega) only [go_sem, *]; try rfl))) (by rw [show Blk.cellsR (.rw (bl (bytesL s))) = some (bl (bytesL s)) from rfl, Option.bind_some, bl_get hbn]) ?_
  repeat (first | refine To.go ?_ | with_reducible refine And.intro (by omega) ?_ | with_reducible refine opt (by with_unfolding_all rfl) ?_ | with_reducible refine ldq (by (first | assumption | (simp (disch := omega) only [go_sem, *]; try rfl))) (by with_unfolding_all rfl) ?_ | with_reducible refine st1 (by (first | assumption | (simp (disch := omega) only [go_sem, *]; try rfl))) (by simp) (by with_unfolding_all rfl) ?_ | with_reducible refine ifT (by omega) ?_ | with_reducible refine ifF (by omega) ?_)
  refine st1 (by (first | assumption | (simp (disch := omega) only [go_sem, *]; try rfl))) (by rw [bl_length]; exact hbn) rfl ?_
  obtain ⟨c, rfl⟩ := int_nat hb.1
  have hc : ((bytesL s)[n]).toNat < 256 := UInt8.toNat_lt _
  obtain ⟨x, hx, hx2⟩ : ∃ x, (bytesL s)[n].toNat ^^^ c = x ∧ x < 256 := ⟨_, rfl, Nat.xor_lt_two_pow (n := 8) hc (by omega)⟩
  rw [bitsX8 hc (by omega), hx, show x = (UInt8.ofNat x).toNat from by rw [UInt8.toNat_ofNat']; omega, bl_set]
  refine bstr_bl (by (first | assumption | (simp (disch := omega) only [go_sem, *]; try rfl))) (by simp [hlen]) ?_
  generalize hs' : (⟨((bytesL s).set n (UInt8.ofNat x)).toArray⟩ : ByteArray) = s'
  have hsz : s'.size = s.size := by rw [← hs', size_mk, List.length_set, hlen]
  have hat : ∀ j, byteAt s' j = if j = n then x else byteAt s j := by
    intro j
    rw [← hs', byteAt_mk, List.getElem?_set]
    by_cases hj : j = n
    · subst hj; rw [if_pos rfl, if_pos rfl, if_pos hbn]; simp; omega
    · rw [if_neg (fun e => hj e.symm), if_neg hj]; rfl
  have hne : crcOf s' ≠ crcOf s := by
    refine crcOf_told hsz (n := n) (by omega) ?_ fun j hj => by rw [hat, if_neg hj]
    rw [hat, if_pos rfl, byteAt_lt_of hbn, ← hx]
    intro e
    have := xor_cancel' (c := (bytesL s)[n].toNat) (a := c) (b := 0) (by rw [e]; simp)
    omega
  refine callW_of (bits_Crc s' (by omega) _) ?_
  rintro v σ1 ⟨rfl, h1⟩
  repeat (first | refine To.go ?_ | with_reducible refine And.intro (by omega) ?_ | with_reducible refine opt (by with_unfolding_all rfl) ?_ | with_reducible refine ldq (by (first | assumption | (simp (disch := omega) only [go_sem, *]; try rfl))) (by with_unfolding_all rfl) ?_ | with_reducible refine st1 (by (first | assumption | (simp (disch := omega) only [go_sem, *]; try rfl))) (by simp) (by with_unfolding_all rfl) ?_ | with_reducible refine ifT (by omega) ?_ | with_reducible refine ifF (by omega) ?_)
  refine callW_of (bits_Crc s hs _) ?_
  rintro v σ1 ⟨rfl, h1⟩
  repeat (first | refine To.go ?_ | with_reducible refine And.intro (by omega) ?_ | with_reducible refine opt (by with_unfolding_all rfl) ?_ | with_reducible refine ldq (by (first | assumption | (simp (disch := omega) only [go_sem, *]; try rfl))) (by with_unfolding_all rfl) ?_ | with_reducible refine st1 (by (first | assumption | (simp (disch := omega) only [go_sem, *]; try rfl))) (by simp) (by with_unfolding_all rfl) ?_ | with_reducible refine ifT (by omega) ?_ | with_reducible refine ifF (by omega) ?_)
  refine callW_of (law01_awake _) ?_
  rintro v σ3 ⟨rfl, h3⟩
  repeat (first | refine To.go ?_ | with_reducible refine And.intro (by omega) ?_ | with_reducible refine opt (by with_unfolding_all rfl) ?_ | with_reducible refine ldq (by (first | assumption | (simp (disch := omega) only [go_sem, *]; try rfl))) (by with_unfolding_all rfl) ?_ | with_reducible refine st1 (by (first | assumption | (simp (disch := omega) only [go_sem, *]; try rfl))) (by simp) (by with_unfolding_all rfl) ?_ | with_reducible refine ifT (by omega) ?_ | with_reducible refine ifF (by omega) ?_)
  exact rfl
end Go.Vit
