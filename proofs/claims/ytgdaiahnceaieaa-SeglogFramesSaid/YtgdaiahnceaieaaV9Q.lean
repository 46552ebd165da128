/- The cyclic sum; big, number, next. -/
import Derived.Test.YtgdaiahnceaieaaV9X
import Derived.Test.YtgdaiahnceaieaaVm4
import Derived.Test.YtgdaiahnceaieaaV9W
import Derived.Test.YtgdaiahnceaieaaV9Fp
set_option linter.unusedVariables false
set_option linter.unusedSimpArgs false
set_option linter.unusedSimpArgs false
set_option maxRecDepth 20000
namespace Go.Vit
open Go.Proofs
theorem reach_eqR : reachBytes = 140737488351232 := by decide
def crcBit (c : Nat) : Nat := (c / 2) ^^^ (3988292384 * (c % 2))
def iter (n : Nat) (c : Nat) : Nat := match n with | 0 => c | n + 1 => crcBit (iter n c)
def crcTo (s : ByteArray) (i : Nat) : Nat := match i with | 0 => 4294967295 | i + 1 => iter 8 (crcTo s i ^^^ byteAt s i)
def crcOf (s : ByteArray) : Nat := crcTo s s.size ^^^ 4294967295
theorem crcBit_lt {c : Nat} (h : c < 2 ^ 32) : crcBit c < 2 ^ 32 := by
  unfold crcBit
  refine Nat.xor_lt_two_pow ?_ ?_
  · omega
  · omega
theorem iter_lt {c : Nat} (h : c < 2 ^ 32) : ∀ n, iter n c < 2 ^ 32
  | 0 => by unfold iter; exact h
  | n + 1 => by unfold iter; exact crcBit_lt (iter_lt h n)
theorem crcTo_lt (s : ByteArray) : ∀ i, crcTo s i < 2 ^ 32
  | 0 => by simp [crcTo]
  | i + 1 => by unfold crcTo; exact iter_lt (Nat.xor_lt_two_pow (crcTo_lt s i) (Nat.lt_trans (byteAt_lt s i) (by decide))) 8
theorem bits_Crc (s : ByteArray) (hs : s.size ≤ reachBytes) (σ : Mem) : ACalls PG n_bits_Crc [.str s] σ fun v σ' => v = .int .i64 (crcOf s) ∧ σ.Same σ' := by
  rw [reach_eqR] at hs
  refine ok_bits_Crc fun _ => ?_
  unfold F_bits_Crc
  refine loop2 (fun (i : Nat) (c k : Int) σ' => c = crcTo s i ∧ k = i ∧ i ≤ s.size ∧ σ.Same σ') (fun i => s.size - i) 0 ⟨by simp [crcTo], rfl, by omega, (Mem.Same.refl σ).bump _⟩ ?_
  rintro i c k σ1 ⟨rfl, rfl, hi, h1⟩
  have hc := crcTo_lt s i
  have hb := byteAt_lt s i
  unfold F_bits_Crc_l1
  refine ifD (fun hlt => ?_) (fun hge => ?_)
  · repeat (first | refine To.go ?_ | with_reducible refine And.intro (by first | omega | exact ⟨rfl, rfl⟩) ?_ | ((with_reducible apply opt); (· (first | with_reducible assumption | rfl))) | ((with_reducible apply ldrw); (· (first | with_reducible assumption | (simp (disch := omega) only [go_sem, *]; try rfl))); (· (first | with_reducible assumption | rfl))) | ((with_reducible apply ldro); (· (first | with_reducible assumption | (simp (disch := omega) only [go_sem, *]; try rfl))); (· (first | with_reducible assumption | rfl))) | ((with_reducible apply st1); (· (first | with_reducible assumption | (simp (disch := omega) only [go_sem, *]; try rfl))); (· simp); (· rfl)) | with_reducible refine ifT rfl ?_ | with_reducible refine ifF (not_not_intro rfl) ?_ | with_reducible refine ifT (by omega) ?_ | with_reducible refine ifF (by omega) ?_)
    rw [bitsX (by omega) (by omega)]
    obtain ⟨x, hx, hx2⟩ : ∃ x, x = crcTo s i ^^^ byteAt s i ∧ x < 2 ^ 32 := ⟨_, rfl, Nat.xor_lt_two_pow hc (Nat.lt_trans hb (by decide))⟩
    refine loop2 (fun (n : Nat) (c k : Int) σ' => c = iter n x ∧ k = n ∧ n ≤ 8 ∧ σ.Same σ') (fun n => 8 - n) 0 ⟨by rw [hx, iter]; rfl, rfl, by omega, h1.bump _⟩ ?_
    rintro n c k σ2 ⟨rfl, rfl, hn, h2⟩
    have hy := iter_lt hx2 n
    unfold F_bits_Crc_l2
    refine ifD (fun hlt8 => ?_) (fun hge8 => ?_)
    · repeat (first | refine To.go ?_ | with_reducible refine And.intro (by first | omega | exact ⟨rfl, rfl⟩) ?_ | ((with_reducible apply opt); (· (first | with_reducible assumption | rfl))) | ((with_reducible apply ldrw); (· (first | with_reducible assumption | (simp (disch := omega) only [go_sem, *]; try rfl))); (· (first | with_reducible assumption | rfl))) | ((with_reducible apply ldro); (· (first | with_reducible assumption | (simp (disch := omega) only [go_sem, *]; try rfl))); (· (first | with_reducible assumption | rfl))) | ((with_reducible apply st1); (· (first | with_reducible assumption | (simp (disch := omega) only [go_sem, *]; try rfl))); (· simp); (· rfl)) | with_reducible refine ifT rfl ?_ | with_reducible refine ifF (not_not_intro rfl) ?_ | with_reducible refine ifT (by omega) ?_ | with_reducible refine ifF (by omega) ?_)
      rw [bitsA (by omega) (by omega)]
      obtain ⟨y, hyx⟩ : ∃ y, y = iter n x := ⟨_, rfl⟩
      rw [← hyx] at hy ⊢
      have h1' : y &&& 1 = y % 2 := Nat.and_one_is_mod y
      rw [show ((y : Int).toNat &&& Int.toNat 1) = y % 2 from h1']
      repeat (first | refine To.go ?_ | with_reducible refine And.intro (by first | omega | exact ⟨rfl, rfl⟩) ?_ | ((with_reducible apply opt); (· (first | with_reducible assumption | rfl))) | ((with_reducible apply ldrw); (· (first | with_reducible assumption | (simp (disch := omega) only [go_sem, *]; try rfl))); (· (first | with_reducible assumption | rfl))) | ((with_reducible apply ldro); (· (first | with_reducible assumption | (simp (disch := omega) only [go_sem, *]; try rfl))); (· (first | with_reducible assumption | rfl))) | ((with_reducible apply st1); (· (first | with_reducible assumption | (simp (disch := omega) only [go_sem, *]; try rfl))); (· simp); (· rfl)) | with_reducible refine ifT rfl ?_ | with_reducible refine ifF (not_not_intro rfl) ?_ | with_reducible refine ifT (by omega) ?_ | with_reducible refine ifF (by omega) ?_)
      rw [bitsX (by omega) (by omega)]
      repeat (first | refine To.go ?_ | with_reducible refine And.intro (by first | omega | exact ⟨rfl, rfl⟩) ?_ | ((with_reducible apply opt); (· (first | with_reducible assumption | rfl))) | ((with_reducible apply ldrw); (· (first | with_reducible assumption | (simp (disch := omega) only [go_sem, *]; try rfl))); (· (first | with_reducible assumption | rfl))) | ((with_reducible apply ldro); (· (first | with_reducible assumption | (simp (disch := omega) only [go_sem, *]; try rfl))); (· (first | with_reducible assumption | rfl))) | ((with_reducible apply st1); (· (first | with_reducible assumption | (simp (disch := omega) only [go_sem, *]; try rfl))); (· simp); (· rfl)) | with_reducible refine ifT rfl ?_ | with_reducible refine ifF (not_not_intro rfl) ?_ | with_reducible refine ifT (by omega) ?_ | with_reducible refine ifF (by omega) ?_)
      refine again ⟨n + 1, ⟨?_, by omega, by omega, h2.bump _⟩, by omega⟩
      rw [iter, ← hyx, crcBit, show (↑y / 2 : Int).toNat = y / 2 from by omega, show (3988292384 * ((y % 2 : Nat) : Int)).toNat = 3988292384 * (y % 2) from by omega]
    · obtain rfl : n = 8 := by omega
      repeat (first | refine To.go ?_ | with_reducible refine And.intro (by first | omega | exact ⟨rfl, rfl⟩) ?_ | ((with_reducible apply opt); (· (first | with_reducible assumption | rfl))) | ((with_reducible apply ldrw); (· (first | with_reducible assumption | (simp (disch := omega) only [go_sem, *]; try rfl))); (· (first | with_reducible assumption | rfl))) | ((with_reducible apply ldro); (· (first | with_reducible assumption | (simp (disch := omega) only [go_sem, *]; try rfl))); (· (first | with_reducible assumption | rfl))) | ((with_reducible apply st1); (· (first | with_reducible assumption | (simp (disch := omega) only [go_sem, *]; try rfl))); (· simp); (· rfl)) | with_reducible refine ifT rfl ?_ | with_reducible refine ifF (not_not_intro rfl) ?_ | with_reducible refine ifT (by omega) ?_ | with_reducible refine ifF (by omega) ?_)
      exact again ⟨i + 1, ⟨by rw [hx, crcTo], by omega, by omega, h2.bump _⟩, by omega⟩
  · obtain rfl : i = s.size := by omega
    repeat (first | refine To.go ?_ | with_reducible refine And.intro (by first | omega | exact ⟨rfl, rfl⟩) ?_ | ((with_reducible apply opt); (· (first | with_reducible assumption | rfl))) | ((with_reducible apply ldrw); (· (first | with_reducible assumption | (simp (disch := omega) only [go_sem, *]; try rfl))); (· (first | with_reducible assumption | rfl))) | ((with_reducible apply ldro); (· (first | with_reducible assumption | (simp (disch := omega) only [go_sem, *]; try rfl))); (· (first | with_reducible assumption | rfl))) | ((with_reducible apply st1); (· (first | with_reducible assumption | (simp (disch := omega) only [go_sem, *]; try rfl))); (· simp); (· rfl)) | with_reducible refine ifT rfl ?_ | with_reducible refine ifF (not_not_intro rfl) ?_ | with_reducible refine ifT (by omega) ?_ | with_reducible refine ifF (by omega) ?_)
    rw [bitsX (by omega) (by omega)]
    exact ⟨by rw [crcOf]; rfl, h1.bump _⟩
theorem wrap8 (n : Nat) : IntKind.u8.wrap ((n : Nat) : Int) = ((n % 256 : Nat) : Int) := by
  rw [IntKind.wrap_u8]; omega
theorem crc_lt (s : ByteArray) : crcOf s < 4294967296 := by
  unfold crcOf
  exact Nat.xor_lt_two_pow (n := 32) (crcTo_lt s _) (by decide)
theorem seglog_big {n : Nat} {σ : Mem} : ACalls PG n_seglog_big [.int .i64 (n : Nat)] σ fun v σ' => v = .str (be4 n) ∧ σ.Same σ' := by
  refine ok_seglog_big fun live => ?_
  unfold F_seglog_big
  unfold be4
  dsimp only [letW, wrW]
  rw [show ((n : Nat) : Int) / 16777216 = ((n / 16777216 : Nat) : Int) from by omega, show ((n : Nat) : Int) / 65536 = ((n / 65536 : Nat) : Int) from by omega, show ((n : Nat) : Int) / 256 = ((n / 256 : Nat) : Int) from by omega, wrap8, wrap8, wrap8, wrap8]
  refine To.go ?_
  refine bstr_bl (l := [UInt8.ofNat (n / 16777216), UInt8.ofNat (n / 65536), UInt8.ofNat (n / 256), UInt8.ofNat n]) ?_ rfl ?_
  · rw [gS']
    unfold bl
    simp only [List.map_cons, List.map_nil, UInt8.toNat_ofNat', Nat.reducePow]
  · exact ⟨rfl, Mem.Same.put ((Mem.Same.refl σ).bump _) (by omega) _⟩
theorem or_up {a b : Nat} (k : Nat) (h : b < 2 ^ k) : (a * 2 ^ k) ||| b = a * 2 ^ k + b := by
  rw [Nat.mul_comm, Nat.two_pow_add_eq_or_of_lt h]
theorem sidx_of {s : ByteArray} {i : Nat} {j : Int} {K : Int → Prop} (hj : j = (i : Nat)) (h : i < s.size) (hk : K (byteAt s i : Nat)) : sidxW s j K := by
  subst hj
  exact ⟨⟨by omega, by omega⟩, by rw [Int.toNat_natCast]; exact hk⟩
theorem seglog_number {s : ByteArray} (hs : 4 ≤ s.size) {σ : Mem} : ACalls PG n_seglog_number [.str s] σ fun v σ' => v = .int .i64 (num4 s : Nat) ∧ σ.Same σ' := by
  refine ok_seglog_number fun live => ?_
  unfold F_seglog_number
  have h0 := byteAt_lt s 0; have h1 := byteAt_lt s 1; have h2 := byteAt_lt s 2; have h3 := byteAt_lt s 3
  unfold num4
  refine sidx_of (i := 0) rfl (by omega) ?_
  obtain ⟨a, ha⟩ : ∃ a, byteAt s 0 = a := ⟨_, rfl⟩
  obtain ⟨b, hb⟩ : ∃ a, byteAt s 1 = a := ⟨_, rfl⟩
  obtain ⟨c, hc⟩ : ∃ a, byteAt s 2 = a := ⟨_, rfl⟩
  obtain ⟨d, hd⟩ : ∃ a, byteAt s 3 = a := ⟨_, rfl⟩
  rw [ha] at h0 ⊢; rw [hb] at h1 ⊢; rw [hc] at h2 ⊢; rw [hd] at h3 ⊢
  refine iW_of (by omega) ?_
  refine iW_of (by omega) ?_
  refine sidx_of (i := 1) rfl (by omega) ?_
  rw [hb]
  refine iW_of (by omega) ?_
  refine iW_of (by omega) ?_
  dsimp only [letW]
  refine sidx_of (i := 2) rfl (by omega) ?_
  rw [hc]
  refine iW_of (by omega) ?_
  refine iW_of (by omega) ?_
  refine sidx_of (i := 3) rfl (by omega) ?_
  rw [hd]
  refine iW_of (by omega) ?_
  have e1 : (a * 16777216) ||| (b * 65536) = a * 16777216 + b * 65536 := or_up (a := a) (b := b * 65536) 24 (by omega)
  have e2 : (a * 16777216 + b * 65536) ||| (c * 256) = a * 16777216 + b * 65536 + c * 256 := by
    have := or_up (a := a * 256 + b) (b := c * 256) 16 (by omega)
    rw [show (a * 256 + b) * 2 ^ 16 = a * 16777216 + b * 65536 from by omega] at this
    exact this
  have e3 : (a * 16777216 + b * 65536 + c * 256) ||| d = a * 16777216 + b * 65536 + c * 256 + d := by
    have := or_up (a := a * 65536 + b * 256 + c) (b := d) 8 (by omega)
    rw [show (a * 65536 + b * 256 + c) * 2 ^ 8 = a * 16777216 + b * 65536 + c * 256 from by omega] at this
    exact this
  rw [show (a : Int) * 16777216 = ((a * 16777216 : Nat) : Int) from (Int.natCast_mul a 16777216).symm, show (b : Int) * 65536 = ((b * 65536 : Nat) : Int) from (Int.natCast_mul b 65536).symm, show (c : Int) * 256 = ((c * 256 : Nat) : Int) from (Int.natCast_mul c 256).symm,
    bits_or (by omega) (by omega), e1, bits_or (by omega) (by omega), e2, bits_or (by omega) (by omega), e3, show a * 16777216 + b * 65536 + c * 256 + d = 16777216 * a + 65536 * b + 256 * c + d from by omega]
  exact ⟨rfl, (Mem.Same.refl σ).bump _⟩
theorem nxt_no {s : ByteArray} (h : ¬ (8 ≤ s.size ∧ num4 s ≠ 0 ∧ num4 s ≤ 1000000 ∧ num4 s + 8 ≤ s.size)) : nxtB crcOf s = false := by
  unfold nxtB; rw [decide_eq_false h, Bool.false_and]
theorem nxt_is {s : ByteArray} (h : 8 ≤ s.size ∧ num4 s ≠ 0 ∧ num4 s ≤ 1000000 ∧ num4 s + 8 ≤ s.size) : nxtB crcOf s = decide (num4 (s.extract 4 s.size) = crcOf (s.extract 8 (8 + num4 s))) := by
  unfold nxtB; rw [decide_eq_true h, Bool.true_and]
theorem seglog_next {s : ByteArray} (hs : s.size ≤ 2 ^ 40) {σ : Mem} : ACalls PG n_seglog_next [.str s] σ fun v σ' => (∃ r, v = .tup [.str r, .bool (nxtB crcOf s)] ∧ (nxtB crcOf s = true → r = nxtR s)) ∧ σ.Same σ' := by
  refine ok_seglog_next fun live => ?_
  unfold F_seglog_next
  refine ifD (fun h8 => ?_) (fun h8 => ?_)
  · rw [nxt_no (by omega)]
    exact ⟨⟨_, rfl, fun h => by cases h⟩, (Mem.Same.refl σ).bump _⟩
  refine callW_of (seglog_number (s := s) (by omega)) ?_
  rintro _ σ1 ⟨rfl, s1⟩
  have s01 := s1.ob
  refine To.go ?_
  refine ifD (fun h0 => ?_) (fun h0 => ?_)
  · rw [nxt_no (by omega)]
    exact ⟨⟨_, rfl, fun h => by cases h⟩, s01.bump _⟩
  refine ifD (fun hm => ?_) (fun hm => ?_)
  · rw [nxt_no (by omega)]
    exact ⟨⟨_, rfl, fun h => by cases h⟩, s01.bump _⟩
  refine iW_of (by omega) ?_
  refine ifD (fun hl => ?_) (fun hl => ?_)
  · rw [nxt_no (by omega)]
    exact ⟨⟨_, rfl, fun h => by cases h⟩, s01.bump _⟩
  rw [nxt_is (by omega)]
  obtain ⟨n, hn⟩ : ∃ n, num4 s = n := ⟨_, rfl⟩
  rw [hn] at h0 hm hl ⊢
  refine iW_of (by omega) ?_
  refine ⟨by omega, ?_⟩
  refine ⟨by omega, ?_⟩
  rw [show (8 + (n : Int)).toNat = 8 + n from by omega, show Int.toNat 8 = 8 from rfl, show Int.toNat 4 = 4 from rfl, Int.toNat_natCast]
  refine callW_of (seglog_number (s := s.extract 4 s.size) (by rw [ByteArray.size_extract]; omega)) ?_
  rintro _ σ2 ⟨rfl, s2⟩
  have s02 := s01.trans s2.ob
  refine To.go ?_
  refine callW_of (bits_Crc (s.extract 8 (8 + n)) (by rw [ByteArray.size_extract, reach_eqR]; omega) σ2) ?_
  rintro _ σ3 ⟨rfl, s3⟩
  refine To.go ?_
  refine ⟨⟨_, ?_, fun _ => by unfold nxtR; rw [hn]⟩, s02.trans s3⟩
  rw [decide_eq_decide.2 (Int.natCast_inj (m := num4 (s.extract 4 s.size)) (n := crcOf (s.extract 8 (8 + n))))]
end Go.Vit
