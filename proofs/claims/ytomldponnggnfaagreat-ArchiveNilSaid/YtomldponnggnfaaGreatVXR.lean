/- The cyclic sum. -/
import Derived.Test.YtomldponnggnfaaGreatVXH
import Derived.Test.YtomldponnggnfaaGreatVm4
set_option linter.unusedVariables false
set_option linter.unusedSimpArgs false
set_option linter.unusedSimpArgs false
set_option maxRecDepth 20000
namespace Go.Vit
open Go.Proofs
theorem reach_eqR : reachBytes = 140737488351232 := by decide
def crcBit (c : Nat) : Nat := (c / 2) ^^^ (3988292384 * (c % 2))
def iter (n : Nat) (c : Nat) : Nat := match n with | 0 => c | n + 1 => crcBit (iter n c)
def crcTo (s : ByteArray) (i : Nat) : Nat := match i with | 0 => 4294967295 | i + 1 => iter 8 (crcTo s i ^^^ byteAt s i)
def crcOf (s : ByteArray) : Nat := crcTo s s.size ^^^ 4294967295
theorem crcBit_lt {c : Nat} (h : c < 2 ^ 32) : crcBit c < 2 ^ 32 := by
  unfold crcBit
  refine Nat.xor_lt_two_pow ?_ ?_
  · omega
  · omega
theorem iter_lt {c : Nat} (h : c < 2 ^ 32) : ∀ n, iter n c < 2 ^ 32
  | 0 => by unfold iter; exact h
  | n + 1 => by unfold iter; exact crcBit_lt (iter_lt h n)
theorem crcTo_lt (s : ByteArray) : ∀ i, crcTo s i < 2 ^ 32
  | 0 => by simp [crcTo]
  | i + 1 => by unfold crcTo; exact iter_lt (Nat.xor_lt_two_pow (crcTo_lt s i) (Nat.lt_trans (byteAt_lt s i) (by decide))) 8
theorem bits_Crc (s : ByteArray) (hs : s.size ≤ reachBytes) (σ : Mem) : ACalls PG n_bits_Crc [.str s] σ fun v σ' => v = .int .i64 (crcOf s) ∧ σ.Same σ' := by
  rw [reach_eqR] at hs
  refine ok_bits_Crc fun _ => ?_
  unfold F_bits_Crc
  refine loop2 (fun (i : Nat) (c k : Int) σ' => c = crcTo s i ∧ k = i ∧ i ≤ s.size ∧ σ.Same σ') (fun i => s.size - i) 0 ⟨by simp [crcTo], rfl, by omega, (Mem.Same.refl σ).bump _⟩ ?_
  rintro i c k σ1 ⟨rfl, rfl, hi, h1⟩
  have hc := crcTo_lt s i
  have hb := byteAt_lt s i
  unfold F_bits_Crc_l1
  refine ifD (fun hlt => ?_) (fun hge => ?_)
  · repeat (first | refine To.go ?_ | with_reducible refine And.intro (by first | omega | exact ⟨rfl, rfl⟩) ?_ | ((with_reducible apply opt); (· (first | with_reducible assumption | rfl))) | ((with_reducible apply ldrw); (· (first | with_reducible assumption | (simp (disch := omega) only [go_sem, *]; try rfl))); (· (first | with_reducible assumption | rfl))) | ((with_reducible apply ldro); (· (first | with_reducible assumption | (simp (disch := omega) only [go_sem, *]; try rfl))); (· (first | with_reducible assumption | rfl))) | ((with_reducible apply st1); (· (first | with_reducible assumption | (simp (disch := omega) only [go_sem, *]; try rfl))); (· simp); (· rfl)) | with_reducible refine ifT rfl ?_ | with_reducible refine ifF (not_not_intro rfl) ?_ | with_reducible refine ifT (by omega) ?_ | with_reducible refine ifF (by omega) ?_)
    rw [bitsX (by omega) (by omega)]
    obtain ⟨x, hx, hx2⟩ : ∃ x, x = crcTo s i ^^^ byteAt s i ∧ x < 2 ^ 32 := ⟨_, rfl, Nat.xor_lt_two_pow hc (Nat.lt_trans hb (by decide))⟩
    refine loop2 (fun (n : Nat) (c k : Int) σ' => c = iter n x ∧ k = n ∧ n ≤ 8 ∧ σ.Same σ') (fun n => 8 - n) 0 ⟨by rw [hx, iter]; rfl, rfl, by omega, h1.bump _⟩ ?_
    rintro n c k σ2 ⟨rfl, rfl, hn, h2⟩
    have hy := iter_lt hx2 n
    unfold F_bits_Crc_l2
    refine ifD (fun hlt8 => ?_) (fun hge8 => ?_)
    · repeat (first | refine To.go ?_ | with_reducible refine And.intro (by first | omega | exact ⟨rfl, rfl⟩) ?_ | ((with_reducible apply opt); (· (first | with_reducible assumption | rfl))) | ((with_reducible apply ldrw); (· (first | with_reducible assumption | (simp (disch := omega) only [go_sem, *]; try rfl))); (· (first | with_reducible assumption | rfl))) | ((with_reducible apply ldro); (· (first | with_reducible assumption | (simp (disch := omega) only [go_sem, *]; try rfl))); (· (first | with_reducible assumption | rfl))) | ((with_reducible apply st1); (· (first | with_reducible assumption | (simp (disch := omega) only [go_sem, *]; try rfl))); (· simp); (· rfl)) | with_reducible refine ifT rfl ?_ | with_reducible refine ifF (not_not_intro rfl) ?_ | with_reducible refine ifT (by omega) ?_ | with_reducible refine ifF (by omega) ?_)
      rw [bitsA (by omega) (by omega)]
      obtain ⟨y, hyx⟩ : ∃ y, y = iter n x := ⟨_, rfl⟩
      rw [← hyx] at hy ⊢
      have h1' : y &&& 1 = y % 2 := Nat.and_one_is_mod y
      rw [show ((y : Int).toNat &&& Int.toNat 1) = y % 2 from h1']
      repeat (first | refine To.go ?_ | with_reducible refine And.intro (by first | omega | exact ⟨rfl, rfl⟩) ?_ | ((with_reducible apply opt); (· (first | with_reducible assumption | rfl))) | ((with_reducible apply ldrw); (· (first | with_reducible assumption | (simp (disch := omega) only [go_sem, *]; try rfl))); (· (first | with_reducible assumption | rfl))) | ((with_reducible apply ldro); (· (first | with_reducible assumption | (simp (disch := omega) only [go_sem, *]; try rfl))); (· (first | with_reducible assumption | rfl))) | ((with_reducible apply st1); (· (first | with_reducible assumption | (simp (disch := omega) only [go_sem, *]; try rfl))); (· simp); (· rfl)) | with_reducible refine ifT rfl ?_ | with_reducible refine ifF (not_not_intro rfl) ?_ | with_reducible refine ifT (by omega) ?_ | with_reducible refine ifF (by omega) ?_)
      rw [bitsX (by omega) (by omega)]
      repeat (first | refine To.go ?_ | with_reducible refine And.intro (by first | omega | exact ⟨rfl, rfl⟩) ?_ | ((with_reducible apply opt); (· (first | with_reducible assumption | rfl))) | ((with_reducible apply ldrw); (· (first | with_reducible assumption | (simp (disch := omega) only [go_sem, *]; try rfl))); (· (first | with_reducible assumption | rfl))) | ((with_reducible apply ldro); (· (first | with_reducible assumption | (simp (disch := omega) only [go_sem, *]; try rfl))); (· (first | with_reducible assumption | rfl))) | ((with_reducible apply st1); (· (first | with_reducible assumption | (simp (disch := omega) only [go_sem, *]; try rfl))); (· simp); (· rfl)) | with_reducible refine ifT rfl ?_ | with_reducible refine ifF (not_not_intro rfl) ?_ | with_reducible refine ifT (by omega) ?_ | with_reducible refine ifF (by omega) ?_)
      refine again ⟨n + 1, ⟨?_, by omega, by omega, h2.bump _⟩, by omega⟩
      rw [iter, ← hyx, crcBit, show (↑y / 2 : Int).toNat = y / 2 from by omega, show (3988292384 * ((y % 2 : Nat) : Int)).toNat = 3988292384 * (y % 2) from by omega]
    · obtain rfl : n = 8 := by omega
      repeat (first | refine To.go ?_ | with_reducible refine And.intro (by first | omega | exact ⟨rfl, rfl⟩) ?_ | ((with_reducible apply opt); (· (first | with_reducible assumption | rfl))) | ((with_reducible apply ldrw); (· (first | with_reducible assumption | (simp (disch := omega) only [go_sem, *]; try rfl))); (· (first | with_reducible assumption | rfl))) | ((with_reducible apply ldro); (· (first | with_reducible assumption | (simp (disch := omega) only [go_sem, *]; try rfl))); (· (first | with_reducible assumption | rfl))) | ((with_reducible apply st1); (· (first | with_reducible assumption | (simp (disch := omega) only [go_sem, *]; try rfl))); (· simp); (· rfl)) | with_reducible refine ifT rfl ?_ | with_reducible refine ifF (not_not_intro rfl) ?_ | with_reducible refine ifT (by omega) ?_ | with_reducible refine ifF (by omega) ?_)
      exact again ⟨i + 1, ⟨by rw [hx, crcTo], by omega, by omega, h2.bump _⟩, by omega⟩
  · obtain rfl : i = s.size := by omega
    repeat (first | refine To.go ?_ | with_reducible refine And.intro (by first | omega | exact ⟨rfl, rfl⟩) ?_ | ((with_reducible apply opt); (· (first | with_reducible assumption | rfl))) | ((with_reducible apply ldrw); (· (first | with_reducible assumption | (simp (disch := omega) only [go_sem, *]; try rfl))); (· (first | with_reducible assumption | rfl))) | ((with_reducible apply ldro); (· (first | with_reducible assumption | (simp (disch := omega) only [go_sem, *]; try rfl))); (· (first | with_reducible assumption | rfl))) | ((with_reducible apply st1); (· (first | with_reducible assumption | (simp (disch := omega) only [go_sem, *]; try rfl))); (· simp); (· rfl)) | with_reducible refine ifT rfl ?_ | with_reducible refine ifF (not_not_intro rfl) ?_ | with_reducible refine ifT (by omega) ?_ | with_reducible refine ifF (by omega) ?_)
    rw [bitsX (by omega) (by omega)]
    exact ⟨by rw [crcOf]; rfl, h1.bump _⟩
end Go.Vit
