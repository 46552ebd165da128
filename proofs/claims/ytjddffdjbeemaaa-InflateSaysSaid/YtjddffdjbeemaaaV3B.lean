/- Readers (as in the first seat) -/
import Derived.Test.YtjddffdjbeemaaaV3C
import Derived.Test.YtjddffdjbeemaaaVm2
import Derived.Test.YtjddffdjbeemaaaVm3
set_option linter.unusedVariables false
set_option linter.unusedSimpArgs false
set_option linter.unusedSimpArgs false
set_option maxRecDepth 20000
namespace Go.Vit
open Go.Proofs

def rdB (s : ByteArray) (at' k n : Nat) : Blk := .rw [.str (s.extract k s.size), .int .i64 (val s at' n : Nat), .int .i64 (n : Nat)]
def rdP (s : ByteArray) (at' : Nat) : Blk := rdB s at' ((at' + 7) / 8) (8 * ((at' + 7) / 8) - at')
def rdR (s : ByteArray) (at' : Nat) : Blk := .rw [.str s, .int .i64 (at' : Nat)]
theorem bits_Reader_Left {s : ByteArray} {at' r : Nat} {σ : Mem} (hs : s.size ≤ reachBytes) (h : σ.get r = some (rdP s at')) (ha : at' ≤ 8 * s.size) :
    ACalls PG n_bits_Reader_Left [.ptr r 0] σ fun v σ' => v = .int .i64 ((8 * s.size - at' : Nat) : Int) ∧ σ.Same σ' := by
  rw [reach_eq] at hs
  refine ok_bits_Reader_Left fun _ => ?_
  unfold F_bits_Reader_Left
  unfold rdP rdB at h
  have hz := size_extract s ((at' + 7) / 8) s.size
  repeat (first | refine To.go ?_ | with_reducible refine And.intro (by first | omega | exact ⟨rfl, rfl⟩) ?_ | ((with_reducible apply opt); (· (first | with_reducible assumption | rfl))) | ((with_reducible apply ldrw); (· (first | with_reducible assumption | (simp (disch := omega) only [go_sem, *]; try rfl))); (· (first | with_reducible assumption | rfl))) | ((with_reducible apply ldro); (· (first | with_reducible assumption | (simp (disch := omega) only [go_sem, *]; try rfl))); (· (first | with_reducible assumption | rfl))) | ((with_reducible apply st1); (· (first | with_reducible assumption | (simp (disch := omega) only [go_sem, *]; try rfl))); (· simp); (· rfl)) | with_reducible refine ifT rfl ?_ | with_reducible refine ifF (not_not_intro rfl) ?_ | with_reducible refine ifT (by omega) ?_ | with_reducible refine ifF (by omega) ?_)
  refine ⟨?_, (Mem.Same.refl σ).bump _⟩
  congr 1; omega
theorem ref01_Reader_Left {s : ByteArray} {at' r : Nat} {σ : Mem} (hs : s.size ≤ reachBytes) (h : σ.get r = some (rdR s at')) (ha : at' ≤ 8 * s.size) :
    ACalls PG n_ref01_Reader_Left [.ptr r 0] σ fun v σ' => v = .int .i64 ((8 * s.size - at' : Nat) : Int) ∧ σ.Same σ' := by
  rw [reach_eq] at hs
  refine ok_ref01_Reader_Left fun _ => ?_
  unfold F_ref01_Reader_Left
  unfold rdR at h
  repeat (first | refine To.go ?_ | with_reducible refine And.intro (by first | omega | exact ⟨rfl, rfl⟩) ?_ | ((with_reducible apply opt); (· (first | with_reducible assumption | rfl))) | ((with_reducible apply ldrw); (· (first | with_reducible assumption | (simp (disch := omega) only [go_sem, *]; try rfl))); (· (first | with_reducible assumption | rfl))) | ((with_reducible apply ldro); (· (first | with_reducible assumption | (simp (disch := omega) only [go_sem, *]; try rfl))); (· (first | with_reducible assumption | rfl))) | ((with_reducible apply st1); (· (first | with_reducible assumption | (simp (disch := omega) only [go_sem, *]; try rfl))); (· simp); (· rfl)) | with_reducible refine ifT rfl ?_ | with_reducible refine ifF (not_not_intro rfl) ?_ | with_reducible refine ifT (by omega) ?_ | with_reducible refine ifF (by omega) ?_)
  refine ⟨?_, (Mem.Same.refl σ).bump _⟩
  congr 1; omega
def rdBits (s : ByteArray) (at' : Nat) (n : Int) : Nat × Int × Nat :=
  if n < 0 ∨ 24 < n then (0, 1, at') else if ((8 * s.size - at' : Nat) : Int) < n then (0, 3, at') else (val s at' n.toNat, 0, at' + n.toNat)
theorem bits_Reader_Bits {s : ByteArray} {at' r : Nat} {n : Int} {σ : Mem} (hs : s.size ≤ reachBytes) (h : σ.get r = some (rdP s at')) (ha : at' ≤ 8 * s.size) :
    ACalls PG n_bits_Reader_Bits [.ptr r 0, .int .i64 n] σ fun v σ' => v = .tup [.int .i64 ((rdBits s at' n).1 : Nat), .int .i64 (rdBits s at' n).2.1] ∧ σ'.get r = some (rdP s (rdBits s at' n).2.2) ∧ Mem.Only [r] σ σ' := by
  refine ok_bits_Reader_Bits fun live => ?_
  unfold F_bits_Reader_Bits
  have hr := live.lt h
  repeat (first | refine To.go ?_ | with_reducible refine And.intro (by first | omega | exact ⟨rfl, rfl⟩) ?_ | ((with_reducible apply opt); (· (first | with_reducible assumption | rfl))) | ((with_reducible apply ldrw); (· (first | with_reducible assumption | (simp (disch := omega) only [go_sem, *]; try rfl))); (· (first | with_reducible assumption | rfl))) | ((with_reducible apply ldro); (· (first | with_reducible assumption | (simp (disch := omega) only [go_sem, *]; try rfl))); (· (first | with_reducible assumption | rfl))) | ((with_reducible apply st1); (· (first | with_reducible assumption | (simp (disch := omega) only [go_sem, *]; try rfl))); (· simp); (· rfl)) | with_reducible refine ifT rfl ?_ | with_reducible refine ifF (not_not_intro rfl) ?_ | with_reducible refine ifT (by omega) ?_ | with_reducible refine ifF (by omega) ?_)
  refine ifD (fun h0 => ?_) (fun h0 => ?_)
  · rw [rdBits, if_pos (.inl h0)]
    exact ⟨rfl, h, (Mem.Only.refl _ σ).bump _⟩
  refine ifD (fun h1 => ?_) (fun h1 => ?_)
  · rw [rdBits, if_pos (.inr h1)]
    exact ⟨rfl, h, (Mem.Only.refl _ σ).bump _⟩
  refine callW_of (bits_Reader_Left hs h ha) ?_
  rintro v σ1 ⟨rfl, s1⟩
  replace s1 := s1.ob
  repeat (first | refine To.go ?_ | with_reducible refine And.intro (by first | omega | exact ⟨rfl, rfl⟩) ?_ | ((with_reducible apply opt); (· (first | with_reducible assumption | rfl))) | ((with_reducible apply ldrw); (· (first | with_reducible assumption | (simp (disch := omega) only [go_sem, *]; try rfl))); (· (first | with_reducible assumption | rfl))) | ((with_reducible apply ldro); (· (first | with_reducible assumption | (simp (disch := omega) only [go_sem, *]; try rfl))); (· (first | with_reducible assumption | rfl))) | ((with_reducible apply st1); (· (first | with_reducible assumption | (simp (disch := omega) only [go_sem, *]; try rfl))); (· simp); (· rfl)) | with_reducible refine ifT rfl ?_ | with_reducible refine ifF (not_not_intro rfl) ?_ | with_reducible refine ifT (by omega) ?_ | with_reducible refine ifF (by omega) ?_)
  have e1 : σ1.get r = some (rdP s at') := s1.keep h hr
  refine ifD (fun h2 => ?_) (fun h2 => ?_)
  · rw [rdBits, if_neg (by omega), if_pos h2]
    exact ⟨rfl, e1, (s1.only _).bump _⟩
  obtain ⟨n, rfl⟩ := int_nat (by omega : 0 ≤ n)
  rw [rdBits, if_neg (by omega), if_neg h2, Int.toNat_natCast]
  rw [reach_eq] at hs
  refine loop0 (fun (k : Nat) σ' => (∃ m, at' + m = 8 * k ∧ k ≤ s.size ∧ m ≤ 31 ∧ (m < n ∨ m < n + 8) ∧ (m < 8 ∨ m < n + 8) ∧ σ'.get r = some (rdB s at' k m)) ∧ Mem.Only [r] σ σ') (fun k => s.size - k) ((at' + 7) / 8) ⟨⟨8 * ((at' + 7) / 8) - at', by omega, by omega, by omega, by omega, by omega, e1⟩, s1.only _⟩ ?_
  rintro k σ2 ⟨⟨m, hm1, hk, hm2, hm3, hm4, e2⟩, o2⟩
  unfold F_bits_Reader_Bits_l1
  unfold rdB at e2
  repeat (first | refine To.go ?_ | with_reducible refine And.intro (by first | omega | exact ⟨rfl, rfl⟩) ?_ | ((with_reducible apply opt); (· (first | with_reducible assumption | rfl))) | ((with_reducible apply ldrw); (· (first | with_reducible assumption | (simp (disch := omega) only [go_sem, *]; try rfl))); (· (first | with_reducible assumption | rfl))) | ((with_reducible apply ldro); (· (first | with_reducible assumption | (simp (disch := omega) only [go_sem, *]; try rfl))); (· (first | with_reducible assumption | rfl))) | ((with_reducible apply st1); (· (first | with_reducible assumption | (simp (disch := omega) only [go_sem, *]; try rfl))); (· simp); (· rfl)) | with_reducible refine ifT rfl ?_ | with_reducible refine ifF (not_not_intro rfl) ?_ | with_reducible refine ifT (by omega) ?_ | with_reducible refine ifF (by omega) ?_)
  refine ifD (fun hlt => ?_) (fun hge => ?_)
  · have hz := size_extract s k s.size
    have hb := byteAt_lt (s.extract k s.size) 0
    have hbe : byteAt (s.extract k s.size) 0 = byteAt s k := byteAt_extract s k s.size 0 (by omega)
    rw [hbe] at hb
    repeat (first | refine To.go ?_ | with_reducible refine And.intro (by first | omega | exact ⟨rfl, rfl⟩) ?_ | ((with_reducible apply opt); (· (first | with_reducible assumption | rfl))) | ((with_reducible apply ldrw); (· (first | with_reducible assumption | (simp (disch := omega) only [go_sem, *]; try rfl))); (· (first | with_reducible assumption | rfl))) | ((with_reducible apply ldro); (· (first | with_reducible assumption | (simp (disch := omega) only [go_sem, *]; try rfl))); (· (first | with_reducible assumption | rfl))) | ((with_reducible apply st1); (· (first | with_reducible assumption | (simp (disch := omega) only [go_sem, *]; try rfl))); (· simp); (· rfl)) | with_reducible refine ifT rfl ?_ | with_reducible refine ifF (not_not_intro rfl) ?_ | with_reducible refine ifT (by omega) ?_ | with_reducible refine ifF (by omega) ?_)
    rw [hbe, Int.toNat_natCast, show ((byteAt s k : Nat) : Int) * 2 ^ m = ((byteAt s k * 2 ^ m : Nat) : Int) from by simp]
    have hw : byteAt s k * 2 ^ m < 2 ^ 39 := mul_pow_lt (a := 8) hb (by omega)
    have hv := val_lt s at' m
    have hv2 : 2 ^ m ≤ 2 ^ 31 := pow_le hm2
    obtain ⟨w, hwe⟩ : ∃ w, byteAt s k * 2 ^ m = w := ⟨_, rfl⟩
    rw [hwe] at hw ⊢
    obtain ⟨u, hu⟩ : ∃ u, val s at' m = u := ⟨_, rfl⟩
    rw [hu] at hv e2 ⊢
    repeat (first | refine To.go ?_ | with_reducible refine And.intro (by first | omega | exact ⟨rfl, rfl⟩) ?_ | ((with_reducible apply opt); (· (first | with_reducible assumption | rfl))) | ((with_reducible apply ldrw); (· (first | with_reducible assumption | (simp (disch := omega) only [go_sem, *]; try rfl))); (· (first | with_reducible assumption | rfl))) | ((with_reducible apply ldro); (· (first | with_reducible assumption | (simp (disch := omega) only [go_sem, *]; try rfl))); (· (first | with_reducible assumption | rfl))) | ((with_reducible apply st1); (· (first | with_reducible assumption | (simp (disch := omega) only [go_sem, *]; try rfl))); (· simp); (· rfl)) | with_reducible refine ifT rfl ?_ | with_reducible refine ifF (not_not_intro rfl) ?_ | with_reducible refine ifT (by omega) ?_ | with_reducible refine ifF (by omega) ?_)
    rw [bitsO (by omega) (by omega), Int.toNat_natCast, Int.toNat_natCast]
    clear hb hbe
    repeat (first | refine To.go ?_ | with_reducible refine And.intro (by first | omega | exact ⟨rfl, rfl⟩) ?_ | ((with_reducible apply opt); (· (first | with_reducible assumption | rfl))) | ((with_reducible apply ldrw); (· (first | with_reducible assumption | (simp (disch := omega) only [go_sem, *]; try rfl))); (· (first | with_reducible assumption | rfl))) | ((with_reducible apply ldro); (· (first | with_reducible assumption | (simp (disch := omega) only [go_sem, *]; try rfl))); (· (first | with_reducible assumption | rfl))) | ((with_reducible apply st1); (· (first | with_reducible assumption | (simp (disch := omega) only [go_sem, *]; try rfl))); (· simp); (· rfl)) | with_reducible refine ifT rfl ?_ | with_reducible refine ifF (not_not_intro rfl) ?_ | with_reducible refine ifT (by omega) ?_ | with_reducible refine ifF (by omega) ?_)
    have hx : (s.extract k s.size).extract (Int.toNat 1) ((((s.extract k s.size).size : Nat) : Int)).toNat = s.extract (k + 1) s.size := by
      rw [Int.toNat_natCast, hz, extract_extract s (by omega), show k + (min s.size s.size - k) = s.size from by omega]; rfl
    have hvn : u ||| w = val s at' (m + 8) := by
      rw [← hwe, or_shift hv, val_add, hm1, val_byte, hu, Nat.mul_comm]
    rw [hx, hvn]
    refine again ⟨k + 1, ⟨⟨m + 8, by omega, by omega, by omega, by omega, by omega, ?_⟩, ?_⟩, by omega⟩
    · rw [gS']; rfl
    · repeat (with_reducible first | assumption | exact Mem.Only.refl _ _ | exact Mem.Same.refl _ | refine Mem.Only.bump ?_ _ | refine Mem.Only.put ?_ (by simp) _ | refine Mem.Only.put ?_ (.inr (by first | omega | (simp only [Mem.next_bump, Mem.next_put]; omega))) _ | refine Mem.Same.bump ?_ _ | refine Mem.Same.put ?_ (by first | omega | (simp only [Mem.next_bump, Mem.next_put]; omega)) _)
  · have hn : 2 ^ n ≤ 2 ^ 24 := pow_le (by omega)
    have hn1 := Nat.pow_pos (n := n) (show 0 < 2 by decide)
    have hv := val_lt s at' m
    have hv2 : 2 ^ m ≤ 2 ^ 31 := pow_le hm2
    repeat (first | refine To.go ?_ | with_reducible refine And.intro (by first | omega | exact ⟨rfl, rfl⟩) ?_ | ((with_reducible apply opt); (· (first | with_reducible assumption | rfl))) | ((with_reducible apply ldrw); (· (first | with_reducible assumption | (simp (disch := omega) only [go_sem, *]; try rfl))); (· (first | with_reducible assumption | rfl))) | ((with_reducible apply ldro); (· (first | with_reducible assumption | (simp (disch := omega) only [go_sem, *]; try rfl))); (· (first | with_reducible assumption | rfl))) | ((with_reducible apply st1); (· (first | with_reducible assumption | (simp (disch := omega) only [go_sem, *]; try rfl))); (· simp); (· rfl)) | with_reducible refine ifT rfl ?_ | with_reducible refine ifF (not_not_intro rfl) ?_ | with_reducible refine ifT (by omega) ?_ | with_reducible refine ifF (by omega) ?_)
    rw [Int.toNat_natCast, show (1 * 2 ^ n : Int) = ((2 ^ n : Nat) : Int) from by simp]
    have hmod := val_mod s at' (m := m) (n := n) (by omega)
    have hdiv := val_div s at' (m := m) (n := n) (by omega)
    have hmask := and_mask (val s at' m) n
    obtain ⟨p, hp⟩ : ∃ p, 2 ^ n = p := ⟨_, rfl⟩
    obtain ⟨u, hu⟩ : ∃ u, val s at' m = u := ⟨_, rfl⟩
    rw [hp] at hn hn1 hmod hmask hdiv ⊢
    rw [hu] at hv e2 hmod hdiv hmask ⊢
    repeat (first | refine To.go ?_ | with_reducible refine And.intro (by first | omega | exact ⟨rfl, rfl⟩) ?_ | ((with_reducible apply opt); (· (first | with_reducible assumption | rfl))) | ((with_reducible apply ldrw); (· (first | with_reducible assumption | (simp (disch := omega) only [go_sem, *]; try rfl))); (· (first | with_reducible assumption | rfl))) | ((with_reducible apply ldro); (· (first | with_reducible assumption | (simp (disch := omega) only [go_sem, *]; try rfl))); (· (first | with_reducible assumption | rfl))) | ((with_reducible apply st1); (· (first | with_reducible assumption | (simp (disch := omega) only [go_sem, *]; try rfl))); (· simp); (· rfl)) | with_reducible refine ifT rfl ?_ | with_reducible refine ifF (not_not_intro rfl) ?_ | with_reducible refine ifT (by omega) ?_ | with_reducible refine ifF (by omega) ?_)
    rw [bitsA (by omega) (by omega), Int.toNat_natCast, show ((p : Int) - 1).toNat = p - 1 from by omega, hmask, hmod]
    clear hmask hmod
    repeat (first | refine To.go ?_ | with_reducible refine And.intro (by first | omega | exact ⟨rfl, rfl⟩) ?_ | ((with_reducible apply opt); (· (first | with_reducible assumption | rfl))) | ((with_reducible apply ldrw); (· (first | with_reducible assumption | (simp (disch := omega) only [go_sem, *]; try rfl))); (· (first | with_reducible assumption | rfl))) | ((with_reducible apply ldro); (· (first | with_reducible assumption | (simp (disch := omega) only [go_sem, *]; try rfl))); (· (first | with_reducible assumption | rfl))) | ((with_reducible apply st1); (· (first | with_reducible assumption | (simp (disch := omega) only [go_sem, *]; try rfl))); (· simp); (· rfl)) | with_reducible refine ifT rfl ?_ | with_reducible refine ifF (not_not_intro rfl) ?_ | with_reducible refine ifT (by omega) ?_ | with_reducible refine ifF (by omega) ?_)
    rw [Int.toNat_natCast, show (2 ^ n : Int) = ((2 ^ n : Nat) : Int) from by simp, hp, show ((u : Int) / (p : Int)) = ((u / p : Nat) : Int) from by simp, hdiv]
    repeat (first | refine To.go ?_ | with_reducible refine And.intro (by first | omega | exact ⟨rfl, rfl⟩) ?_ | ((with_reducible apply opt); (· (first | with_reducible assumption | rfl))) | ((with_reducible apply ldrw); (· (first | with_reducible assumption | (simp (disch := omega) only [go_sem, *]; try rfl))); (· (first | with_reducible assumption | rfl))) | ((with_reducible apply ldro); (· (first | with_reducible assumption | (simp (disch := omega) only [go_sem, *]; try rfl))); (· (first | with_reducible assumption | rfl))) | ((with_reducible apply st1); (· (first | with_reducible assumption | (simp (disch := omega) only [go_sem, *]; try rfl))); (· simp); (· rfl)) | with_reducible refine ifT rfl ?_ | with_reducible refine ifF (not_not_intro rfl) ?_ | with_reducible refine ifT (by omega) ?_ | with_reducible refine ifF (by omega) ?_)
    refine ⟨rfl, ?_, ?_⟩
    · have e : (m : Int) - n = ((m - n : Nat) : Int) := by omega
      rw [e, gB gS', rdP, show (at' + n + 7) / 8 = k from by omega, show 8 * k - (at' + n) = m - n from by omega]
      rfl
    · repeat (with_reducible first | assumption | exact Mem.Only.refl _ _ | exact Mem.Same.refl _ | refine Mem.Only.bump ?_ _ | refine Mem.Only.put ?_ (by simp) _ | refine Mem.Only.put ?_ (.inr (by first | omega | (simp only [Mem.next_bump, Mem.next_put]; omega))) _ | refine Mem.Same.bump ?_ _ | refine Mem.Same.put ?_ (by first | omega | (simp only [Mem.next_bump, Mem.next_put]; omega)) _)

theorem div_pow_lt {a m n : Nat} (h : a < 2 ^ m) : a / 2 ^ n < 2 ^ m := Nat.lt_of_le_of_lt (Nat.div_le_self _ _) h
theorem ref01_Reader_Bits {s : ByteArray} {at' r : Nat} {n : Int} {σ : Mem} (hs : s.size ≤ reachBytes) (h : σ.get r = some (rdR s at')) (ha : at' ≤ 8 * s.size) :
    ACalls PG n_ref01_Reader_Bits [.ptr r 0, .int .i64 n] σ fun v σ' => v = .tup [.int .i64 ((rdBits s at' n).1 : Nat), .int .i64 (rdBits s at' n).2.1] ∧ σ'.get r = some (rdR s (rdBits s at' n).2.2) ∧ Mem.Only [r] σ σ' := by
  refine ok_ref01_Reader_Bits fun live => ?_
  unfold F_ref01_Reader_Bits
  have hr := live.lt h
  refine ifD (fun h0 => ?_) (fun h0 => ?_)
  · rw [rdBits, if_pos (.inl h0)]
    exact ⟨rfl, h, by repeat (with_reducible first | assumption | exact Mem.Only.refl _ _ | exact Mem.Same.refl _ | refine Mem.Only.bump ?_ _ | refine Mem.Only.put ?_ (by simp) _ | refine Mem.Only.put ?_ (.inr (by first | omega | (simp only [Mem.next_bump, Mem.next_put]; omega))) _ | refine Mem.Same.bump ?_ _ | refine Mem.Same.put ?_ (by first | omega | (simp only [Mem.next_bump, Mem.next_put]; omega)) _)⟩
  refine ifD (fun h1 => ?_) (fun h1 => ?_)
  · rw [rdBits, if_pos (.inr h1)]
    exact ⟨rfl, h, by repeat (with_reducible first | assumption | exact Mem.Only.refl _ _ | exact Mem.Same.refl _ | refine Mem.Only.bump ?_ _ | refine Mem.Only.put ?_ (by simp) _ | refine Mem.Only.put ?_ (.inr (by first | omega | (simp only [Mem.next_bump, Mem.next_put]; omega))) _ | refine Mem.Same.bump ?_ _ | refine Mem.Same.put ?_ (by first | omega | (simp only [Mem.next_bump, Mem.next_put]; omega)) _)⟩
  refine callW_of (ref01_Reader_Left hs h ha) ?_
  rintro v σ1 ⟨rfl, s1⟩
  replace s1 := s1.ob
  repeat (first | refine To.go ?_ | with_reducible refine And.intro (by first | omega | exact ⟨rfl, rfl⟩) ?_ | ((with_reducible apply opt); (· (first | with_reducible assumption | rfl))) | ((with_reducible apply ldrw); (· (first | with_reducible assumption | (simp (disch := omega) only [go_sem, *]; try rfl))); (· (first | with_reducible assumption | rfl))) | ((with_reducible apply ldro); (· (first | with_reducible assumption | (simp (disch := omega) only [go_sem, *]; try rfl))); (· (first | with_reducible assumption | rfl))) | ((with_reducible apply st1); (· (first | with_reducible assumption | (simp (disch := omega) only [go_sem, *]; try rfl))); (· simp); (· rfl)) | with_reducible refine ifT rfl ?_ | with_reducible refine ifF (not_not_intro rfl) ?_ | with_reducible refine ifT (by omega) ?_ | with_reducible refine ifF (by omega) ?_)
  have e1 : σ1.get r = some (rdR s at') := s1.keep h hr
  refine ifD (fun h2 => ?_) (fun h2 => ?_)
  · rw [rdBits, if_neg (by omega), if_pos h2]
    exact ⟨rfl, e1, (s1.only _).bump _⟩
  obtain ⟨n, rfl⟩ := int_nat (by omega : 0 ≤ n)
  rw [rdBits, if_neg (by omega), if_neg h2, Int.toNat_natCast]
  rw [reach_eq] at hs
  refine loop2 (fun (i : Nat) (v k : Int) σ' => v = val s at' i ∧ k = i ∧ i ≤ n ∧ σ'.get r = some (rdR s at') ∧ Mem.Only [r] σ σ') (fun i => n - i) 0 ⟨rfl, rfl, by omega, e1, (s1.only _).bump _⟩ ?_
  rintro i v k σ2 ⟨rfl, rfl, hi, e2, o2⟩
  unfold F_ref01_Reader_Bits_l1
  unfold rdR at e2
  refine ifD (fun hlt => ?_) (fun hge => ?_)
  · have hb := byteAt_lt s ((at' + i) / 8)
    repeat (first | refine To.go ?_ | with_reducible refine And.intro (by first | omega | exact ⟨rfl, rfl⟩) ?_ | ((with_reducible apply opt); (· (first | with_reducible assumption | rfl))) | ((with_reducible apply ldrw); (· (first | with_reducible assumption | (simp (disch := omega) only [go_sem, *]; try rfl))); (· (first | with_reducible assumption | rfl))) | ((with_reducible apply ldro); (· (first | with_reducible assumption | (simp (disch := omega) only [go_sem, *]; try rfl))); (· (first | with_reducible assumption | rfl))) | ((with_reducible apply st1); (· (first | with_reducible assumption | (simp (disch := omega) only [go_sem, *]; try rfl))); (· simp); (· rfl)) | with_reducible refine ifT rfl ?_ | with_reducible refine ifF (not_not_intro rfl) ?_ | with_reducible refine ifT (by omega) ?_ | with_reducible refine ifF (by omega) ?_)
    rw [show ((at' : Int) + i) / 8 = (((at' + i) / 8 : Nat) : Int) from by omega]
    repeat (first | refine To.go ?_ | with_reducible refine And.intro (by first | omega | exact ⟨rfl, rfl⟩) ?_ | ((with_reducible apply opt); (· (first | with_reducible assumption | rfl))) | ((with_reducible apply ldrw); (· (first | with_reducible assumption | (simp (disch := omega) only [go_sem, *]; try rfl))); (· (first | with_reducible assumption | rfl))) | ((with_reducible apply ldro); (· (first | with_reducible assumption | (simp (disch := omega) only [go_sem, *]; try rfl))); (· (first | with_reducible assumption | rfl))) | ((with_reducible apply st1); (· (first | with_reducible assumption | (simp (disch := omega) only [go_sem, *]; try rfl))); (· simp); (· rfl)) | with_reducible refine ifT rfl ?_ | with_reducible refine ifF (not_not_intro rfl) ?_ | with_reducible refine ifT (by omega) ?_ | with_reducible refine ifF (by omega) ?_)
    rw [show (((at' : Int) + i) % 8).toNat = (at' + i) % 8 from by omega, Int.toNat_natCast]
    have hd : byteAt s ((at' + i) / 8) / 2 ^ ((at' + i) % 8) < 2 ^ 8 := div_pow_lt hb
    rw [show ((byteAt s ((at' + i) / 8) : Nat) : Int) / 2 ^ ((at' + i) % 8) = ((byteAt s ((at' + i) / 8) / 2 ^ ((at' + i) % 8) : Nat) : Int) from by simp]
    have hbit : (byteAt s ((at' + i) / 8) / 2 ^ ((at' + i) % 8)) &&& 1 = bitAt s (at' + i) := Nat.and_one_is_mod _
    have hbl := bitAt_lt s (at' + i)
    have hA := bitsA8 (x := byteAt s ((at' + i) / 8) / 2 ^ ((at' + i) % 8)) (y := 1) hd (by omega)
    rw [hbit] at hA
    rw [show (bitsOp .and .u8 ((byteAt s ((at' + i) / 8) / 2 ^ ((at' + i) % 8) : Nat) : Int) 1) = ((bitAt s (at' + i) : Nat) : Int) from hA]
    clear hA hbit hd hb
    repeat (first | refine To.go ?_ | with_reducible refine And.intro (by first | omega | exact ⟨rfl, rfl⟩) ?_ | ((with_reducible apply opt); (· (first | with_reducible assumption | rfl))) | ((with_reducible apply ldrw); (· (first | with_reducible assumption | (simp (disch := omega) only [go_sem, *]; try rfl))); (· (first | with_reducible assumption | rfl))) | ((with_reducible apply ldro); (· (first | with_reducible assumption | (simp (disch := omega) only [go_sem, *]; try rfl))); (· (first | with_reducible assumption | rfl))) | ((with_reducible apply st1); (· (first | with_reducible assumption | (simp (disch := omega) only [go_sem, *]; try rfl))); (· simp); (· rfl)) | with_reducible refine ifT rfl ?_ | with_reducible refine ifF (not_not_intro rfl) ?_ | with_reducible refine ifT (by omega) ?_ | with_reducible refine ifF (by omega) ?_)
    rw [Int.toNat_natCast, show ((bitAt s (at' + i) : Nat) : Int) * 2 ^ i = ((bitAt s (at' + i) * 2 ^ i : Nat) : Int) from by simp]
    have hw : bitAt s (at' + i) * 2 ^ i < 2 ^ 39 := mul_pow_lt (a := 1) hbl (by omega)
    have hv := val_lt s at' i
    have hv2 : 2 ^ i ≤ 2 ^ 24 := pow_le (by omega)
    have hor : val s at' i ||| (bitAt s (at' + i) * 2 ^ i) = val s at' (i + 1) := by rw [or_shift hv]; rfl
    obtain ⟨w, hwe⟩ : ∃ w, bitAt s (at' + i) * 2 ^ i = w := ⟨_, rfl⟩
    rw [hwe] at hw hor ⊢
    repeat (first | refine To.go ?_ | with_reducible refine And.intro (by first | omega | exact ⟨rfl, rfl⟩) ?_ | ((with_reducible apply opt); (· (first | with_reducible assumption | rfl))) | ((with_reducible apply ldrw); (· (first | with_reducible assumption | (simp (disch := omega) only [go_sem, *]; try rfl))); (· (first | with_reducible assumption | rfl))) | ((with_reducible apply ldro); (· (first | with_reducible assumption | (simp (disch := omega) only [go_sem, *]; try rfl))); (· (first | with_reducible assumption | rfl))) | ((with_reducible apply st1); (· (first | with_reducible assumption | (simp (disch := omega) only [go_sem, *]; try rfl))); (· simp); (· rfl)) | with_reducible refine ifT rfl ?_ | with_reducible refine ifF (not_not_intro rfl) ?_ | with_reducible refine ifT (by omega) ?_ | with_reducible refine ifF (by omega) ?_)
    rw [bitsO (by omega) (by omega), Int.toNat_natCast, Int.toNat_natCast, hor]
    repeat (first | refine To.go ?_ | with_reducible refine And.intro (by first | omega | exact ⟨rfl, rfl⟩) ?_ | ((with_reducible apply opt); (· (first | with_reducible assumption | rfl))) | ((with_reducible apply ldrw); (· (first | with_reducible assumption | (simp (disch := omega) only [go_sem, *]; try rfl))); (· (first | with_reducible assumption | rfl))) | ((with_reducible apply ldro); (· (first | with_reducible assumption | (simp (disch := omega) only [go_sem, *]; try rfl))); (· (first | with_reducible assumption | rfl))) | ((with_reducible apply st1); (· (first | with_reducible assumption | (simp (disch := omega) only [go_sem, *]; try rfl))); (· simp); (· rfl)) | with_reducible refine ifT rfl ?_ | with_reducible refine ifF (not_not_intro rfl) ?_ | with_reducible refine ifT (by omega) ?_ | with_reducible refine ifF (by omega) ?_)
    exact again ⟨i + 1, ⟨rfl, by omega, by omega, e2, by repeat (with_reducible first | assumption | exact Mem.Only.refl _ _ | exact Mem.Same.refl _ | refine Mem.Only.bump ?_ _ | refine Mem.Only.put ?_ (by simp) _ | refine Mem.Only.put ?_ (.inr (by first | omega | (simp only [Mem.next_bump, Mem.next_put]; omega))) _ | refine Mem.Same.bump ?_ _ | refine Mem.Same.put ?_ (by first | omega | (simp only [Mem.next_bump, Mem.next_put]; omega)) _)⟩, by omega⟩
  · obtain rfl : i = n := by omega
    repeat (first | refine To.go ?_ | with_reducible refine And.intro (by first | omega | exact ⟨rfl, rfl⟩) ?_ | ((with_reducible apply opt); (· (first | with_reducible assumption | rfl))) | ((with_reducible apply ldrw); (· (first | with_reducible assumption | (simp (disch := omega) only [go_sem, *]; try rfl))); (· (first | with_reducible assumption | rfl))) | ((with_reducible apply ldro); (· (first | with_reducible assumption | (simp (disch := omega) only [go_sem, *]; try rfl))); (· (first | with_reducible assumption | rfl))) | ((with_reducible apply st1); (· (first | with_reducible assumption | (simp (disch := omega) only [go_sem, *]; try rfl))); (· simp); (· rfl)) | with_reducible refine ifT rfl ?_ | with_reducible refine ifF (not_not_intro rfl) ?_ | with_reducible refine ifT (by omega) ?_ | with_reducible refine ifF (by omega) ?_)
    refine ⟨rfl, ?_, by repeat (with_reducible first | assumption | exact Mem.Only.refl _ _ | exact Mem.Same.refl _ | refine Mem.Only.bump ?_ _ | refine Mem.Only.put ?_ (by simp) _ | refine Mem.Only.put ?_ (.inr (by first | omega | (simp only [Mem.next_bump, Mem.next_put]; omega))) _ | refine Mem.Same.bump ?_ _ | refine Mem.Same.put ?_ (by first | omega | (simp only [Mem.next_bump, Mem.next_put]; omega)) _)⟩
    rw [gB gS', rdR, show ((at' : Int) + i) = ((at' + i : Nat) : Int) from by omega]
    rfl

def rdBytes (s : ByteArray) (at' : Nat) (n : Int) : ByteArray × Int × Nat :=
  if n < 0 then (ByteArray.empty, 1, at') else if ((s.size - (at' + 7) / 8 : Nat) : Int) < n then (ByteArray.empty, 3, 8 * ((at' + 7) / 8)) else (s.extract ((at' + 7) / 8) ((at' + 7) / 8 + n.toNat), 0, 8 * ((at' + 7) / 8) + 8 * n.toNat)
theorem rdP_byte (s : ByteArray) (k : Nat) : rdP s (8 * k) = .rw [.str (s.extract k s.size), .int .i64 0, .int .i64 0] := by
  unfold rdP rdB
  rw [show (8 * k + 7) / 8 = k from by omega, Nat.sub_self]; rfl
theorem bits_Reader_Bytes {s : ByteArray} {at' r : Nat} {n : Int} {σ : Mem} (hs : s.size ≤ reachBytes) (h : σ.get r = some (rdP s at')) (ha : at' ≤ 8 * s.size) :
    ACalls PG n_bits_Reader_Bytes [.ptr r 0, .int .i64 n] σ fun v σ' => v = .tup [.str (rdBytes s at' n).1, .int .i64 (rdBytes s at' n).2.1] ∧ σ'.get r = some (rdP s (rdBytes s at' n).2.2) ∧ Mem.Only [r] σ σ' := by
  refine ok_bits_Reader_Bytes fun live => ?_
  unfold F_bits_Reader_Bytes
  have hr := live.lt h
  repeat (first | refine To.go ?_ | with_reducible refine And.intro (by first | omega | exact ⟨rfl, rfl⟩) ?_ | ((with_reducible apply opt); (· (first | with_reducible assumption | rfl))) | ((with_reducible apply ldrw); (· (first | with_reducible assumption | (simp (disch := omega) only [go_sem, *]; try rfl))); (· (first | with_reducible assumption | rfl))) | ((with_reducible apply ldro); (· (first | with_reducible assumption | (simp (disch := omega) only [go_sem, *]; try rfl))); (· (first | with_reducible assumption | rfl))) | ((with_reducible apply st1); (· (first | with_reducible assumption | (simp (disch := omega) only [go_sem, *]; try rfl))); (· simp); (· rfl)) | with_reducible refine ifT rfl ?_ | with_reducible refine ifF (not_not_intro rfl) ?_ | with_reducible refine ifT (by omega) ?_ | with_reducible refine ifF (by omega) ?_)
  refine ifD (fun h0 => ?_) (fun h0 => ?_)
  · rw [rdBytes, if_pos h0]
    exact ⟨rfl, h, by repeat (with_reducible first | assumption | exact Mem.Only.refl _ _ | exact Mem.Same.refl _ | refine Mem.Only.bump ?_ _ | refine Mem.Only.put ?_ (by simp) _ | refine Mem.Only.put ?_ (.inr (by first | omega | (simp only [Mem.next_bump, Mem.next_put]; omega))) _ | refine Mem.Same.bump ?_ _ | refine Mem.Same.put ?_ (by first | omega | (simp only [Mem.next_bump, Mem.next_put]; omega)) _)⟩
  rw [reach_eq] at hs
  have hz := size_extract s ((at' + 7) / 8) s.size
  unfold rdP rdB at h
  repeat (first | refine To.go ?_ | with_reducible refine And.intro (by first | omega | exact ⟨rfl, rfl⟩) ?_ | ((with_reducible apply opt); (· (first | with_reducible assumption | rfl))) | ((with_reducible apply ldrw); (· (first | with_reducible assumption | (simp (disch := omega) only [go_sem, *]; try rfl))); (· (first | with_reducible assumption | rfl))) | ((with_reducible apply ldro); (· (first | with_reducible assumption | (simp (disch := omega) only [go_sem, *]; try rfl))); (· (first | with_reducible assumption | rfl))) | ((with_reducible apply st1); (· (first | with_reducible assumption | (simp (disch := omega) only [go_sem, *]; try rfl))); (· simp); (· rfl)) | with_reducible refine ifT rfl ?_ | with_reducible refine ifF (not_not_intro rfl) ?_ | with_reducible refine ifT (by omega) ?_ | with_reducible refine ifF (by omega) ?_)
  refine ifD (fun h2 => ?_) (fun h2 => ?_)
  · rw [rdBytes, if_neg h0, if_pos (by omega), rdP_byte]
    exact ⟨rfl, by rw [gB gS']; rfl, by repeat (with_reducible first | assumption | exact Mem.Only.refl _ _ | exact Mem.Same.refl _ | refine Mem.Only.bump ?_ _ | refine Mem.Only.put ?_ (by simp) _ | refine Mem.Only.put ?_ (.inr (by first | omega | (simp only [Mem.next_bump, Mem.next_put]; omega))) _ | refine Mem.Same.bump ?_ _ | refine Mem.Same.put ?_ (by first | omega | (simp only [Mem.next_bump, Mem.next_put]; omega)) _)⟩
  obtain ⟨n, rfl⟩ := int_nat (by omega : 0 ≤ n)
  repeat (first | refine To.go ?_ | with_reducible refine And.intro (by first | omega | exact ⟨rfl, rfl⟩) ?_ | ((with_reducible apply opt); (· (first | with_reducible assumption | rfl))) | ((with_reducible apply ldrw); (· (first | with_reducible assumption | (simp (disch := omega) only [go_sem, *]; try rfl))); (· (first | with_reducible assumption | rfl))) | ((with_reducible apply ldro); (· (first | with_reducible assumption | (simp (disch := omega) only [go_sem, *]; try rfl))); (· (first | with_reducible assumption | rfl))) | ((with_reducible apply st1); (· (first | with_reducible assumption | (simp (disch := omega) only [go_sem, *]; try rfl))); (· simp); (· rfl)) | with_reducible refine ifT rfl ?_ | with_reducible refine ifF (not_not_intro rfl) ?_ | with_reducible refine ifT (by omega) ?_ | with_reducible refine ifF (by omega) ?_)
  rw [rdBytes, if_neg h0, if_neg (by omega)]
  simp only [Int.toNat_natCast, Int.reduceToNat, Nat.mul_one, Nat.zero_add, Nat.add_zero]
  rw [show 8 * ((at' + 7) / 8) + 8 * n = 8 * ((at' + 7) / 8 + n) from by omega, rdP_byte]
  refine ⟨?_, ?_, by repeat (with_reducible first | assumption | exact Mem.Only.refl _ _ | exact Mem.Same.refl _ | refine Mem.Only.bump ?_ _ | refine Mem.Only.put ?_ (by simp) _ | refine Mem.Only.put ?_ (.inr (by first | omega | (simp only [Mem.next_bump, Mem.next_put]; omega))) _ | refine Mem.Same.bump ?_ _ | refine Mem.Same.put ?_ (by first | omega | (simp only [Mem.next_bump, Mem.next_put]; omega)) _)⟩
  · rw [extract_extract s (by omega)]; rfl
  · rw [gB gS', hz, extract_extract s (by omega), show (at' + 7) / 8 + (min s.size s.size - (at' + 7) / 8) = s.size from by omega]; rfl
theorem ref01_Reader_Bytes {s : ByteArray} {at' r : Nat} {n : Int} {σ : Mem} (hs : s.size ≤ reachBytes) (h : σ.get r = some (rdR s at')) (ha : at' ≤ 8 * s.size) :
    ACalls PG n_ref01_Reader_Bytes [.ptr r 0, .int .i64 n] σ fun v σ' => v = .tup [.str (rdBytes s at' n).1, .int .i64 (rdBytes s at' n).2.1] ∧ σ'.get r = some (rdR s (rdBytes s at' n).2.2) ∧ Mem.Only [r] σ σ' := by
  refine ok_ref01_Reader_Bytes fun live => ?_
  unfold F_ref01_Reader_Bytes
  have hr := live.lt h
  refine ifD (fun h0 => ?_) (fun h0 => ?_)
  · rw [rdBytes, if_pos h0]
    exact ⟨rfl, h, by repeat (with_reducible first | assumption | exact Mem.Only.refl _ _ | exact Mem.Same.refl _ | refine Mem.Only.bump ?_ _ | refine Mem.Only.put ?_ (by simp) _ | refine Mem.Only.put ?_ (.inr (by first | omega | (simp only [Mem.next_bump, Mem.next_put]; omega))) _ | refine Mem.Same.bump ?_ _ | refine Mem.Same.put ?_ (by first | omega | (simp only [Mem.next_bump, Mem.next_put]; omega)) _)⟩
  have hm := reach_eq
  unfold rdR at h
  repeat (first | refine To.go ?_ | with_reducible refine And.intro (by first | omega | exact ⟨rfl, rfl⟩) ?_ | ((with_reducible apply opt); (· (first | with_reducible assumption | rfl))) | ((with_reducible apply ldrw); (· (first | with_reducible assumption | (simp (disch := omega) only [go_sem, *]; try rfl))); (· (first | with_reducible assumption | rfl))) | ((with_reducible apply ldro); (· (first | with_reducible assumption | (simp (disch := omega) only [go_sem, *]; try rfl))); (· (first | with_reducible assumption | rfl))) | ((with_reducible apply st1); (· (first | with_reducible assumption | (simp (disch := omega) only [go_sem, *]; try rfl))); (· simp); (· rfl)) | with_reducible refine ifT rfl ?_ | with_reducible refine ifF (not_not_intro rfl) ?_ | with_reducible refine ifT (by omega) ?_ | with_reducible refine ifF (by omega) ?_)
  have e : ((at' : Int) + 7) / 8 * 8 = ((8 * ((at' + 7) / 8) : Nat) : Int) := by omega
  rw [e]
  have e0 : ((σ.bump 15).put r (some (.rw (List.set [.str s, .int .i64 (at' : Nat)] 1 (.int .i64 ((8 * ((at' + 7) / 8) : Nat) : Int)))))).get r = some (rdR s (8 * ((at' + 7) / 8))) := gS'
  refine callW_of (ref01_Reader_Left hs e0 (by omega)) ?_
  rintro v σ1 ⟨rfl, s1⟩
  have o1 : Mem.Only [r] σ σ1 := Mem.Only.then (by repeat (with_reducible first | assumption | exact Mem.Only.refl _ _ | exact Mem.Same.refl _ | refine Mem.Only.bump ?_ _ | refine Mem.Only.put ?_ (by simp) _ | refine Mem.Only.put ?_ (.inr (by first | omega | (simp only [Mem.next_bump, Mem.next_put]; omega))) _ | refine Mem.Same.bump ?_ _ | refine Mem.Same.put ?_ (by first | omega | (simp only [Mem.next_bump, Mem.next_put]; omega)) _)) s1.ob
  have e1 : σ1.get r = some (rdR s (8 * ((at' + 7) / 8))) := s1.keep e0 (by simp only [Mem.next_bump, Mem.next_put]; omega)
  clear e0
  unfold rdR at e1
  repeat (first | refine To.go ?_ | with_reducible refine And.intro (by first | omega | exact ⟨rfl, rfl⟩) ?_ | ((with_reducible apply opt); (· (first | with_reducible assumption | rfl))) | ((with_reducible apply ldrw); (· (first | with_reducible assumption | (simp (disch := omega) only [go_sem, *]; try rfl))); (· (first | with_reducible assumption | rfl))) | ((with_reducible apply ldro); (· (first | with_reducible assumption | (simp (disch := omega) only [go_sem, *]; try rfl))); (· (first | with_reducible assumption | rfl))) | ((with_reducible apply st1); (· (first | with_reducible assumption | (simp (disch := omega) only [go_sem, *]; try rfl))); (· simp); (· rfl)) | with_reducible refine ifT rfl ?_ | with_reducible refine ifF (not_not_intro rfl) ?_ | with_reducible refine ifT (by omega) ?_ | with_reducible refine ifF (by omega) ?_)
  refine ifD (fun h2 => ?_) (fun h2 => ?_)
  · rw [rdBytes, if_neg h0, if_pos (by omega)]
    exact ⟨rfl, e1, by repeat (with_reducible first | assumption | exact Mem.Only.refl _ _ | exact Mem.Same.refl _ | refine Mem.Only.bump ?_ _ | refine Mem.Only.put ?_ (by simp) _ | refine Mem.Only.put ?_ (.inr (by first | omega | (simp only [Mem.next_bump, Mem.next_put]; omega))) _ | refine Mem.Same.bump ?_ _ | refine Mem.Same.put ?_ (by first | omega | (simp only [Mem.next_bump, Mem.next_put]; omega)) _)⟩
  obtain ⟨n, rfl⟩ := int_nat (by omega : 0 ≤ n)
  repeat (first | refine To.go ?_ | with_reducible refine And.intro (by first | omega | exact ⟨rfl, rfl⟩) ?_ | ((with_reducible apply opt); (· (first | with_reducible assumption | rfl))) | ((with_reducible apply ldrw); (· (first | with_reducible assumption | (simp (disch := omega) only [go_sem, *]; try rfl))); (· (first | with_reducible assumption | rfl))) | ((with_reducible apply ldro); (· (first | with_reducible assumption | (simp (disch := omega) only [go_sem, *]; try rfl))); (· (first | with_reducible assumption | rfl))) | ((with_reducible apply st1); (· (first | with_reducible assumption | (simp (disch := omega) only [go_sem, *]; try rfl))); (· simp); (· rfl)) | with_reducible refine ifT rfl ?_ | with_reducible refine ifF (not_not_intro rfl) ?_ | with_reducible refine ifT (by omega) ?_ | with_reducible refine ifF (by omega) ?_)
  rw [rdBytes, if_neg h0, if_neg (by omega)]
  simp only [Int.toNat_natCast, Int.reduceToNat, Nat.mul_one, Nat.zero_add, Nat.add_zero]
  refine ⟨?_, ?_, by repeat (with_reducible first | assumption | exact Mem.Only.refl _ _ | exact Mem.Same.refl _ | refine Mem.Only.bump ?_ _ | refine Mem.Only.put ?_ (by simp) _ | refine Mem.Only.put ?_ (.inr (by first | omega | (simp only [Mem.next_bump, Mem.next_put]; omega))) _ | refine Mem.Same.bump ?_ _ | refine Mem.Same.put ?_ (by first | omega | (simp only [Mem.next_bump, Mem.next_put]; omega)) _)⟩
  · congr 4
    · omega
    · omega
  · rw [gB gS', rdR, show (((8 * ((at' + 7) / 8) : Nat) : Int) + 8 * (n : Int)) = ((8 * ((at' + 7) / 8) + 8 * n : Nat) : Int) from by omega]; rfl
theorem bits_Read (s : ByteArray) (σ : Mem) : ACalls PG n_bits_Read [.str s] σ fun v σ' => ∃ r, v = .ptr r 0 ∧ σ.next ≤ r ∧ r < σ'.next ∧ σ'.get r = some (rdP s 0) ∧ σ.Same σ' := by
  refine ok_bits_Read fun _ => ?_
  unfold F_bits_Read
  repeat (first | refine To.go ?_ | with_reducible refine And.intro (by first | omega | exact ⟨rfl, rfl⟩) ?_ | ((with_reducible apply opt); (· (first | with_reducible assumption | rfl))) | ((with_reducible apply ldrw); (· (first | with_reducible assumption | (simp (disch := omega) only [go_sem, *]; try rfl))); (· (first | with_reducible assumption | rfl))) | ((with_reducible apply ldro); (· (first | with_reducible assumption | (simp (disch := omega) only [go_sem, *]; try rfl))); (· (first | with_reducible assumption | rfl))) | ((with_reducible apply st1); (· (first | with_reducible assumption | (simp (disch := omega) only [go_sem, *]; try rfl))); (· simp); (· rfl)) | with_reducible refine ifT rfl ?_ | with_reducible refine ifF (not_not_intro rfl) ?_ | with_reducible refine ifT (by omega) ?_ | with_reducible refine ifF (by omega) ?_)
  refine ⟨_, rfl, by omega, by simp only [Mem.next_put, Mem.next_bump]; omega, ?_, by repeat (with_reducible first | assumption | exact Mem.Only.refl _ _ | exact Mem.Same.refl _ | refine Mem.Only.bump ?_ _ | refine Mem.Only.put ?_ (by simp) _ | refine Mem.Only.put ?_ (.inr (by first | omega | (simp only [Mem.next_bump, Mem.next_put]; omega))) _ | refine Mem.Same.bump ?_ _ | refine Mem.Same.put ?_ (by first | omega | (simp only [Mem.next_bump, Mem.next_put]; omega)) _)⟩
  have : rdP s 0 = .rw [.str (s.extract 0 s.size), .int .i64 0, .int .i64 0] := rdP_byte s 0
  rw [gS', this, ByteArray.extract_zero_size]
end Go.Vit
