/- The other sum; the laws of both sums. -/
import Derived.Test.YtjhmjjbllaodlaaVB1
set_option linter.unusedVariables false
set_option linter.unusedSimpArgs false
set_option linter.unusedSimpArgs false
set_option maxRecDepth 20000
namespace Go.Vit
open Go.Proofs
def adlTo (s : ByteArray) (i : Nat) : Nat × Nat :=
  match i with
  | 0 => (1, 0)
  | i + 1 => (((adlTo s i).1 + byteAt s i) % 65521, ((adlTo s i).2 + ((adlTo s i).1 + byteAt s i) % 65521) % 65521)
def adlOf (s : ByteArray) : Nat := 65536 * (adlTo s s.size).2 + (adlTo s s.size).1
theorem adlTo_lt (s : ByteArray) : ∀ i, (adlTo s i).1 < 65521 ∧ (adlTo s i).2 < 65521
  | 0 => by simp [adlTo]
  | i + 1 => by simp only [adlTo]; omega
theorem or_add {a b : Nat} (h : a < 65536) : (b * 65536) ||| a = 65536 * b + a := by
  have := Nat.shiftLeft_add_eq_or_of_lt (i := 16) (by simpa using h) b
  rw [Nat.shiftLeft_eq, show (2 : Nat) ^ 16 = 65536 from rfl] at this
  omega
theorem bits_Adler (s : ByteArray) (hs : s.size ≤ reachBytes) (σ : Mem) : ACalls PG n_bits_Adler [.str s] σ fun v σ' => v = .int .i64 (adlOf s) ∧ σ.Same σ' := by
  rw [reach_eq] at hs
  refine ok_bits_Adler fun _ => ?_
  unfold F_bits_Adler
  refine loop3 (fun (i : Nat) (a b k : Int) σ' => a = (adlTo s i).1 ∧ b = (adlTo s i).2 ∧ k = i ∧ i ≤ s.size ∧ σ.Same σ') (fun i => s.size - i) 0 ⟨by simp [adlTo], by simp [adlTo], rfl, by omega, (Mem.Same.refl σ).bump _⟩ ?_
  rintro i a b k σ1 ⟨rfl, rfl, rfl, hi, h1⟩
  have hb := byteAt_lt s i
  obtain ⟨ha, hb2⟩ := adlTo_lt s i
  unfold F_bits_Adler_l1
  refine ifD (fun hlt => ?_) (fun hge => ?_)
  · repeat (first | refine To.go ?_ | with_reducible refine And.intro (by first | omega | exact ⟨rfl, rfl⟩) ?_ | ((with_reducible apply opt); (· (first | with_reducible assumption | rfl))) | ((with_reducible apply ldrw); (· (first | with_reducible assumption | (simp (disch := omega) only [go_sem, *]; try rfl))); (· (first | with_reducible assumption | rfl))) | ((with_reducible apply ldro); (· (first | with_reducible assumption | (simp (disch := omega) only [go_sem, *]; try rfl))); (· (first | with_reducible assumption | rfl))) | ((with_reducible apply st1); (· (first | with_reducible assumption | (simp (disch := omega) only [go_sem, *]; try rfl))); (· simp); (· rfl)) | with_reducible refine ifT rfl ?_ | with_reducible refine ifF (not_not_intro rfl) ?_ | with_reducible refine ifT (by omega) ?_ | with_reducible refine ifF (by omega) ?_)
    refine again ⟨i + 1, ⟨?_, ?_, by omega, by omega, h1.bump _⟩, by omega⟩
    · simp only [adlTo]; omega
    · simp only [adlTo]; omega
  · obtain rfl : i = s.size := by omega
    repeat (first | refine To.go ?_ | with_reducible refine And.intro (by first | omega | exact ⟨rfl, rfl⟩) ?_ | ((with_reducible apply opt); (· (first | with_reducible assumption | rfl))) | ((with_reducible apply ldrw); (· (first | with_reducible assumption | (simp (disch := omega) only [go_sem, *]; try rfl))); (· (first | with_reducible assumption | rfl))) | ((with_reducible apply ldro); (· (first | with_reducible assumption | (simp (disch := omega) only [go_sem, *]; try rfl))); (· (first | with_reducible assumption | rfl))) | ((with_reducible apply st1); (· (first | with_reducible assumption | (simp (disch := omega) only [go_sem, *]; try rfl))); (· simp); (· rfl)) | with_reducible refine ifT rfl ?_ | with_reducible refine ifF (not_not_intro rfl) ?_ | with_reducible refine ifT (by omega) ?_ | with_reducible refine ifF (by omega) ?_)
    rw [bitsO (by omega) (by omega)]
    refine ⟨?_, h1.bump _⟩
    rw [show (((adlTo s s.size).2 : Int) * 65536).toNat = (adlTo s s.size).2 * 65536 from by omega, Int.toNat_natCast, or_add (by omega)]
    rfl
theorem ref01_Adler (s : ByteArray) (hs : s.size ≤ reachBytes) (σ : Mem) : ACalls PG n_ref01_Adler [.str s] σ fun v σ' => v = .int .i64 (adlOf s) ∧ σ.Same σ' := by
  rw [reach_eq] at hs
  refine ok_ref01_Adler fun _ => ?_
  unfold F_ref01_Adler
  refine loop3 (fun (i : Nat) (a b k : Int) σ' => a = (adlTo s i).1 ∧ b = (adlTo s i).2 ∧ k = i ∧ i ≤ s.size ∧ σ.Same σ') (fun i => s.size - i) 0 ⟨by simp [adlTo], by simp [adlTo], rfl, by omega, (Mem.Same.refl σ).bump _⟩ ?_
  rintro i a b k σ1 ⟨rfl, rfl, rfl, hi, h1⟩
  have hb := byteAt_lt s i
  obtain ⟨ha, hb2⟩ := adlTo_lt s i
  unfold F_ref01_Adler_l1
  refine ifD (fun hlt => ?_) (fun hge => ?_)
  · repeat (first | refine To.go ?_ | with_reducible refine And.intro (by first | omega | exact ⟨rfl, rfl⟩) ?_ | ((with_reducible apply opt); (· (first | with_reducible assumption | rfl))) | ((with_reducible apply ldrw); (· (first | with_reducible assumption | (simp (disch := omega) only [go_sem, *]; try rfl))); (· (first | with_reducible assumption | rfl))) | ((with_reducible apply ldro); (· (first | with_reducible assumption | (simp (disch := omega) only [go_sem, *]; try rfl))); (· (first | with_reducible assumption | rfl))) | ((with_reducible apply st1); (· (first | with_reducible assumption | (simp (disch := omega) only [go_sem, *]; try rfl))); (· simp); (· rfl)) | with_reducible refine ifT rfl ?_ | with_reducible refine ifF (not_not_intro rfl) ?_ | with_reducible refine ifT (by omega) ?_ | with_reducible refine ifF (by omega) ?_)
    refine again ⟨i + 1, ⟨?_, ?_, by omega, by omega, h1.bump _⟩, by omega⟩
    · simp only [adlTo]; omega
    · simp only [adlTo]; omega
  · obtain rfl : i = s.size := by omega
    repeat (first | refine To.go ?_ | with_reducible refine And.intro (by first | omega | exact ⟨rfl, rfl⟩) ?_ | ((with_reducible apply opt); (· (first | with_reducible assumption | rfl))) | ((with_reducible apply ldrw); (· (first | with_reducible assumption | (simp (disch := omega) only [go_sem, *]; try rfl))); (· (first | with_reducible assumption | rfl))) | ((with_reducible apply ldro); (· (first | with_reducible assumption | (simp (disch := omega) only [go_sem, *]; try rfl))); (· (first | with_reducible assumption | rfl))) | ((with_reducible apply st1); (· (first | with_reducible assumption | (simp (disch := omega) only [go_sem, *]; try rfl))); (· simp); (· rfl)) | with_reducible refine ifT rfl ?_ | with_reducible refine ifF (not_not_intro rfl) ?_ | with_reducible refine ifT (by omega) ?_ | with_reducible refine ifF (by omega) ?_)
    exact ⟨by simp [adlOf], h1.bump _⟩
theorem runs_awake1 : runsTo PG 400 20 n_law01_awake [] (.bool true) = true := by kernel_rfl
theorem law01_awake (σ : Mem) : ACalls PG n_law01_awake [] σ fun v σ' => v = .bool true ∧ σ' = σ := ACalls.runs mixed 400 20 runs_awake1 rfl rfl σ
theorem law01_BitsCrc (σ : Mem) (l : List AV) (_ : σ.Ro) (hw : Wts PG σ Try.f7.params.toList l) : ACalls PG n_law01_BitsCrc l σ fun v _ => isTrue v := by
  rw [show Try.f7.params.toList = [9] from by rw [Try.params7]] at hw
  obtain ⟨s, r, rfl, hs, hw⟩ := hw.str (by kernel_rfl)
  obtain rfl := hw.nil_inv
  refine ok_law01_BitsCrc fun _ => ?_
  unfold F_law01_BitsCrc
  refine callW_of (bits_Crc s hs _) ?_
  rintro v σ1 ⟨rfl, h1⟩
  repeat (first | refine To.go ?_ | with_reducible refine And.intro (by first | omega | exact ⟨rfl, rfl⟩) ?_ | ((with_reducible apply opt); (· (first | with_reducible assumption | rfl))) | ((with_reducible apply ldrw); (· (first | with_reducible assumption | (simp (disch := omega) only [go_sem, *]; try rfl))); (· (first | with_reducible assumption | rfl))) | ((with_reducible apply ldro); (· (first | with_reducible assumption | (simp (disch := omega) only [go_sem, *]; try rfl))); (· (first | with_reducible assumption | rfl))) | ((with_reducible apply st1); (· (first | with_reducible assumption | (simp (disch := omega) only [go_sem, *]; try rfl))); (· simp); (· rfl)) | with_reducible refine ifT rfl ?_ | with_reducible refine ifF (not_not_intro rfl) ?_ | with_reducible refine ifT (by omega) ?_ | with_reducible refine ifF (by omega) ?_)
  refine callW_of (ref01_Crc s hs _) ?_
  rintro v σ2 ⟨rfl, h2⟩
  repeat (first | refine To.go ?_ | with_reducible refine And.intro (by first | omega | exact ⟨rfl, rfl⟩) ?_ | ((with_reducible apply opt); (· (first | with_reducible assumption | rfl))) | ((with_reducible apply ldrw); (· (first | with_reducible assumption | (simp (disch := omega) only [go_sem, *]; try rfl))); (· (first | with_reducible assumption | rfl))) | ((with_reducible apply ldro); (· (first | with_reducible assumption | (simp (disch := omega) only [go_sem, *]; try rfl))); (· (first | with_reducible assumption | rfl))) | ((with_reducible apply st1); (· (first | with_reducible assumption | (simp (disch := omega) only [go_sem, *]; try rfl))); (· simp); (· rfl)) | with_reducible refine ifT rfl ?_ | with_reducible refine ifF (not_not_intro rfl) ?_ | with_reducible refine ifT (by omega) ?_ | with_reducible refine ifF (by omega) ?_)
  refine callW_of (law01_awake _) ?_
  rintro v σ3 ⟨rfl, h3⟩
  repeat (first | refine To.go ?_ | with_reducible refine And.intro (by first | omega | exact ⟨rfl, rfl⟩) ?_ | ((with_reducible apply opt); (· (first | with_reducible assumption | rfl))) | ((with_reducible apply ldrw); (· (first | with_reducible assumption | (simp (disch := omega) only [go_sem, *]; try rfl))); (· (first | with_reducible assumption | rfl))) | ((with_reducible apply ldro); (· (first | with_reducible assumption | (simp (disch := omega) only [go_sem, *]; try rfl))); (· (first | with_reducible assumption | rfl))) | ((with_reducible apply st1); (· (first | with_reducible assumption | (simp (disch := omega) only [go_sem, *]; try rfl))); (· simp); (· rfl)) | with_reducible refine ifT rfl ?_ | with_reducible refine ifF (not_not_intro rfl) ?_ | with_reducible refine ifT (by omega) ?_ | with_reducible refine ifF (by omega) ?_)
  exact rfl
theorem law01_BitsAdler (σ : Mem) (l : List AV) (_ : σ.Ro) (hw : Wts PG σ Try.f8.params.toList l) : ACalls PG n_law01_BitsAdler l σ fun v _ => isTrue v := by
  rw [show Try.f8.params.toList = [9] from by rw [Try.params8]] at hw
  obtain ⟨s, r, rfl, hs, hw⟩ := hw.str (by kernel_rfl)
  obtain rfl := hw.nil_inv
  refine ok_law01_BitsAdler fun _ => ?_
  unfold F_law01_BitsAdler
  refine callW_of (bits_Adler s hs _) ?_
  rintro v σ1 ⟨rfl, h1⟩
  repeat (first | refine To.go ?_ | with_reducible refine And.intro (by first | omega | exact ⟨rfl, rfl⟩) ?_ | ((with_reducible apply opt); (· (first | with_reducible assumption | rfl))) | ((with_reducible apply ldrw); (· (first | with_reducible assumption | (simp (disch := omega) only [go_sem, *]; try rfl))); (· (first | with_reducible assumption | rfl))) | ((with_reducible apply ldro); (· (first | with_reducible assumption | (simp (disch := omega) only [go_sem, *]; try rfl))); (· (first | with_reducible assumption | rfl))) | ((with_reducible apply st1); (· (first | with_reducible assumption | (simp (disch := omega) only [go_sem, *]; try rfl))); (· simp); (· rfl)) | with_reducible refine ifT rfl ?_ | with_reducible refine ifF (not_not_intro rfl) ?_ | with_reducible refine ifT (by omega) ?_ | with_reducible refine ifF (by omega) ?_)
  refine callW_of (ref01_Adler s hs _) ?_
  rintro v σ2 ⟨rfl, h2⟩
  repeat (first | refine To.go ?_ | with_reducible refine And.intro (by first | omega | exact ⟨rfl, rfl⟩) ?_ | ((with_reducible apply opt); (· (first | with_reducible assumption | rfl))) | ((with_reducible apply ldrw); (· (first | with_reducible assumption | (simp (disch := omega) only [go_sem, *]; try rfl))); (· (first | with_reducible assumption | rfl))) | ((with_reducible apply ldro); (· (first | with_reducible assumption | (simp (disch := omega) only [go_sem, *]; try rfl))); (· (first | with_reducible assumption | rfl))) | ((with_reducible apply st1); (· (first | with_reducible assumption | (simp (disch := omega) only [go_sem, *]; try rfl))); (· simp); (· rfl)) | with_reducible refine ifT rfl ?_ | with_reducible refine ifF (not_not_intro rfl) ?_ | with_reducible refine ifT (by omega) ?_ | with_reducible refine ifF (by omega) ?_)
  refine callW_of (law01_awake _) ?_
  rintro v σ3 ⟨rfl, h3⟩
  repeat (first | refine To.go ?_ | with_reducible refine And.intro (by first | omega | exact ⟨rfl, rfl⟩) ?_ | ((with_reducible apply opt); (· (first | with_reducible assumption | rfl))) | ((with_reducible apply ldrw); (· (first | with_reducible assumption | (simp (disch := omega) only [go_sem, *]; try rfl))); (· (first | with_reducible assumption | rfl))) | ((with_reducible apply ldro); (· (first | with_reducible assumption | (simp (disch := omega) only [go_sem, *]; try rfl))); (· (first | with_reducible assumption | rfl))) | ((with_reducible apply st1); (· (first | with_reducible assumption | (simp (disch := omega) only [go_sem, *]; try rfl))); (· simp); (· rfl)) | with_reducible refine ifT rfl ?_ | with_reducible refine ifF (not_not_intro rfl) ?_ | with_reducible refine ifT (by omega) ?_ | with_reducible refine ifF (by omega) ?_)
  exact rfl
end Go.Vit
