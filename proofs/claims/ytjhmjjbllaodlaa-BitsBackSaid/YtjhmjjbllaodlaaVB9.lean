/- The document's writer; the text of a call. -/
import Derived.Test.YtjhmjjbllaodlaaVB8
set_option linter.unusedVariables false
set_option linter.unusedSimpArgs false
set_option linter.unusedSimpArgs false
set_option maxRecDepth 20000
namespace Go.Vit
open Go.Proofs
theorem OwnS.pos {k n : Nat} {σ : Mem} {v : AV} {cs : List AV} (h : OwnS k σ v cs n) (hn : 0 < n) : ∃ b, v = .slice b 0 n (.op k) ∧ σ.get b = some (.rw cs) ∧ cs.length = n * k := by
  rcases h with ⟨_, h, _⟩ | h
  · omega
  · exact h
/-- One bit more. -/
theorem mod_bit_more (v : Int) (i : Nat) : (v % 2 ^ (i + 1)).toNat = (v % 2 ^ i).toNat + (v / 2 ^ i % 2).toNat * 2 ^ i := by
  have h : (0 : Int) < 2 ^ i := Int.pow_pos (by decide)
  have hp : ((2 : Int) ^ i) = ((2 ^ i : Nat) : Int) := by simp
  have e : v % 2 ^ (i + 1) = v % 2 ^ i + v / 2 ^ i % 2 * 2 ^ i := by
    have h1 := Int.emod_nonneg v (Int.ne_of_gt h)
    have h2 := Int.emod_lt_of_pos v h
    have hv := Int.mul_ediv_add_emod v (2 ^ i)
    rw [Int.pow_succ]
    generalize (2 : Int) ^ i = p at *
    have hq := Int.mul_ediv_add_emod (v / p) 2
    have hq0 := Int.emod_nonneg (v / p) (show (2 : Int) ≠ 0 by decide)
    have hq1 := Int.emod_lt_of_pos (v / p) (show (0 : Int) < 2 by decide)
    generalize v / p % 2 = b at *
    generalize v % p = r at *
    generalize v / p = q at *
    generalize q / 2 = t at *
    subst hq
    have : v = p * 2 * t + (r + b * p) := by
      rw [← hv, Int.mul_add, Int.mul_assoc, Int.mul_comm b p, Int.add_assoc, Int.add_comm r]
    rw [this, Int.mul_add_emod_self_left]
    refine Int.emod_eq_of_lt ?_ ?_
    · exact Int.add_nonneg h1 (Int.mul_nonneg hq0 (Int.le_of_lt h))
    · rcases (by omega : b = 0 ∨ b = 1) with rfl | rfl <;> omega
  have hb := Int.emod_nonneg (v / 2 ^ i) (show (2 : Int) ≠ 0 by decide)
  have h1 := Int.emod_nonneg v (Int.ne_of_gt h)
  have : (v % 2 ^ (i + 1)).toNat = (v % 2 ^ i + v / 2 ^ i % 2 * 2 ^ i).toNat := by rw [e]
  rw [this, Int.toNat_add h1 (Int.mul_nonneg hb (Int.le_of_lt h)), Int.toNat_mul hb (Int.le_of_lt h), hp, Int.toNat_natCast]
theorem bits_and1 {v : Int} (h1 : -9223372036854775808 ≤ v) (h2 : v ≤ 9223372036854775807) : bitsOp .and .i64 v 1 = (((v % 2).toNat : Nat) : Int) := bits_mask (n := 1) h1 h2 (by decide)
/-- The last byte, with one bit more. -/
theorem wb_bit {Y N b : Nat} (hY : Y < 2 ^ N) : wb (Y + b * 2 ^ N) (N / 8 + 1) = wb Y (N / 8) ++ [UInt8.ofNat ((Y / 2 ^ (8 * (N / 8)) ||| b * 2 ^ (N % 8)) % 256)] := by
  have h := div_lt_pow hY (m := 8 * (N / 8)) (by omega)
  rw [wb_succ, wb_add (by omega), add_div_pow _ _ (by omega), show N % 8 = N - 8 * (N / 8) from by omega, or_shift h]
theorem ref01_Writer_Bits {x : Nat} {o : List Nat} {W N : Nat} {v n : Int} {σ : Mem} (h : WrR σ x o W N) (hN : N ≤ 2 ^ 40) (h1 : -9223372036854775808 ≤ v) (h2 : v ≤ 9223372036854775807) :
    ACalls PG n_ref01_Writer_Bits [.ptr x 0, .int .i64 v, .int .i64 n] σ fun r σ' => r = .tup [] ∧ ∃ o', WrR σ' x o' (lay W N v n).1 (lay W N v n).2 ∧ Grow o o' σ σ' := by
  refine ok_ref01_Writer_Bits fun live => ?_
  unfold F_ref01_Writer_Bits
  have hlt := h.lt live
  repeat (first | refine To.go ?_ | with_reducible refine And.intro (by first | omega | exact ⟨rfl, rfl⟩) ?_ | ((with_reducible apply opt); (· (first | with_reducible assumption | rfl))) | ((with_reducible apply ldrw); (· (first | with_reducible assumption | (simp (disch := omega) only [go_sem, *]; try rfl))); (· (first | with_reducible assumption | rfl))) | ((with_reducible apply ldro); (· (first | with_reducible assumption | (simp (disch := omega) only [go_sem, *]; try rfl))); (· (first | with_reducible assumption | rfl))) | ((with_reducible apply st1); (· (first | with_reducible assumption | (simp (disch := omega) only [go_sem, *]; try rfl))); (· simp); (· rfl)) | with_reducible refine ifT rfl ?_ | with_reducible refine ifF (not_not_intro rfl) ?_ | with_reducible refine ifT (by omega) ?_ | with_reducible refine ifF (by omega) ?_)
  refine ifD (fun h0 => ?_) (fun h0 => ?_)
  · rw [lay, if_pos (.inl h0)]
    exact ⟨rfl, o, h, (Grow.refl hlt).bump _⟩
  refine ifD (fun h3 => ?_) (fun h3 => ?_)
  · rw [lay, if_pos (.inr h3)]
    exact ⟨rfl, o, h, (Grow.refl hlt).bump _⟩
  obtain ⟨n, rfl⟩ := int_nat (by omega : 0 ≤ n)
  have hlay : lay W N v n = (W + (v % 2 ^ n).toNat * 2 ^ N, N + n) := by rw [lay, if_neg (by omega), Int.toNat_natCast]
  rw [hlay]
  refine loop1 (fun (i : Nat) (k : Int) σ' => k = i ∧ i ≤ n ∧ ∃ o', WrR σ' x o' (W + (v % 2 ^ i).toNat * 2 ^ N) (N + i) ∧ Grow o o' σ σ') (fun i => n - i) 0 ⟨rfl, by omega, o, ?_, (Grow.refl hlt).bump _⟩ ?_
  · have h0 : W + (v % 2 ^ 0).toNat * 2 ^ N = W := by simp [Int.emod_one]
    rw [h0]
    exact h.keep fun b _ => rfl
  rintro i k σ2 ⟨rfl, hi, o2, hW2, g2⟩
  unfold F_ref01_Writer_Bits_l1
  refine ifD (fun hlt2 => ?_) (fun hge => ?_)
  · have hnext : W + (v % 2 ^ (i + 1)).toNat * 2 ^ N = W + (v % 2 ^ i).toNat * 2 ^ N + (v / 2 ^ i % 2).toNat * 2 ^ (N + i) := by
      rw [mod_bit_more, Nat.add_mul, Nat.mul_assoc, ← Nat.pow_add, Nat.add_comm i N, Nat.add_assoc]
    have hlt' := fun b hb => g2.lt b hb
    obtain ⟨hWl, u, rfl, hx, e, own⟩ := hW2
    have hb01 : (v / 2 ^ i % 2).toNat < 2 := by have := Int.emod_lt_of_pos (v / 2 ^ i) (show (0 : Int) < 2 by decide); omega
    have hv1 : -9223372036854775808 ≤ v / 2 ^ i ∧ v / 2 ^ i ≤ 9223372036854775807 := by
      have hp : (0 : Int) < 2 ^ i := Int.pow_pos (by decide)
      constructor
      · rw [Int.le_ediv_iff_mul_le hp]
        generalize (2 : Int) ^ i = p at *
        omega
      · rcases Int.lt_or_le v 0 with hn | hn
        · have := Int.ediv_neg_of_neg_of_pos hn hp; omega
        · have := Int.ediv_le_self (2 ^ i) hn; omega
    obtain ⟨Y, hY⟩ : ∃ Y, W + (v % 2 ^ i).toNat * 2 ^ N = Y := ⟨_, rfl⟩
    rw [hY] at hWl own hnext
    obtain ⟨y, hy⟩ : ∃ y, v / 2 ^ i = y := ⟨_, rfl⟩
    rw [hy] at hb01 hv1 hnext
    have hand := bits_and1 hv1.1 hv1.2
    obtain ⟨b, hbe⟩ : ∃ b, (y % 2).toNat = b := ⟨_, rfl⟩
    rw [hbe] at hand hb01 hnext
    obtain ⟨N', hN'⟩ : ∃ N', N + i = N' := ⟨_, rfl⟩
    rw [hN'] at hWl own hnext e
    have hxn := hlt' x (by simp)
    repeat (first | refine To.go ?_ | with_reducible refine And.intro (by first | omega | exact ⟨rfl, rfl⟩) ?_ | ((with_reducible apply opt); (· (first | with_reducible assumption | rfl))) | ((with_reducible apply ldrw); (· (first | with_reducible assumption | (simp (disch := omega) only [go_sem, *]; try rfl))); (· (first | with_reducible assumption | rfl))) | ((with_reducible apply ldro); (· (first | with_reducible assumption | (simp (disch := omega) only [go_sem, *]; try rfl))); (· (first | with_reducible assumption | rfl))) | ((with_reducible apply st1); (· (first | with_reducible assumption | (simp (disch := omega) only [go_sem, *]; try rfl))); (· simp); (· rfl)) | with_reducible refine ifT rfl ?_ | with_reducible refine ifF (not_not_intro rfl) ?_ | with_reducible refine ifT (by omega) ?_ | with_reducible refine ifF (by omega) ?_)
    refine join0 (fun σ' => ∃ u', x ∉ blkOf u' ∧ σ'.get x = some (.rw [u', .int .i64 (N' : Nat)]) ∧ OwnS 1 σ' u' (bl (wb Y (N' / 8 + 1))) (N' / 8 + 1) ∧ Grow o (x :: blkOf u') σ σ') ?_ ?_
    · refine ifD (fun h8 => ?_) (fun h8 => ?_)
      · repeat (first | refine To.go ?_ | with_reducible refine And.intro (by first | omega | exact ⟨rfl, rfl⟩) ?_ | ((with_reducible apply opt); (· (first | with_reducible assumption | rfl))) | ((with_reducible apply ldrw); (· (first | with_reducible assumption | (simp (disch := omega) only [go_sem, *]; try rfl))); (· (first | with_reducible assumption | rfl))) | ((with_reducible apply ldro); (· (first | with_reducible assumption | (simp (disch := omega) only [go_sem, *]; try rfl))); (· (first | with_reducible assumption | rfl))) | ((with_reducible apply st1); (· (first | with_reducible assumption | (simp (disch := omega) only [go_sem, *]; try rfl))); (· simp); (· rfl)) | with_reducible refine ifT rfl ?_ | with_reducible refine ifF (not_not_intro rfl) ?_ | with_reducible refine ifT (by omega) ?_ | with_reducible refine ifF (by omega) ?_)
        refine OwnS.append (cs := bl (wb Y (N' / 8))) (n := N' / 8) (m := 1) ?_ (fun K hK => src_new gS' rfl rfl K hK) (by omega) rfl rfl (bl_one _) (by omega) (fun hb => ?_) ?_
        · rw [show (N' + 7) / 8 = N' / 8 from by omega] at own
          refine own.keep fun b hb => ?_
          have := hlt' b (by simp [hb])
          rw [Mem.get_put_ne _ (by omega)]; rfl
        · have := hlt' _ (List.mem_cons_of_mem _ hb); omega
        intro v' σ3 own3 hn3 hg3 hb3
        simp only [Mem.next_bump, Mem.next_put] at hn3
        have hw3 : x ∉ blkOf v' := fun hb => by
          rcases hb3 x hb with h | h
          · exact hx h
          · omega
        have hneu3 : ∀ b ∈ blkOf v', b ≠ x := fun b hb e => hw3 (e ▸ hb)
        have e3 : σ3.get x = σ2.get x := by rw [hg3 x hx (by omega), Mem.get_put_ne _ (by omega)]; rfl
        rw [e] at e3
        repeat (first | refine To.go ?_ | with_reducible refine And.intro (by first | omega | exact ⟨rfl, rfl⟩) ?_ | ((with_reducible apply opt); (· (first | with_reducible assumption | rfl))) | ((with_reducible apply ldrw); (· (first | with_reducible assumption | (simp (disch := omega) only [go_sem, *]; try rfl))); (· (first | with_reducible assumption | rfl))) | ((with_reducible apply ldro); (· (first | with_reducible assumption | (simp (disch := omega) only [go_sem, *]; try rfl))); (· (first | with_reducible assumption | rfl))) | ((with_reducible apply st1); (· (first | with_reducible assumption | (simp (disch := omega) only [go_sem, *]; try rfl))); (· simp); (· rfl)) | with_reducible refine ifT rfl ?_ | with_reducible refine ifF (not_not_intro rfl) ?_ | with_reducible refine ifT (by omega) ?_ | with_reducible refine ifF (by omega) ?_)
        refine st1 e3 (by simp) own3.one ?_
        refine ⟨v', hw3, gS', ?_, ?_⟩
        · rw [wb_succ, ← bl_append]
          rw [show Y / 2 ^ (8 * (N' / 8)) % 256 = 0 from by rw [Nat.div_eq_of_lt (by rw [show 8 * (N' / 8) = N' from by omega]; exact hWl)]]
          exact own3.keep fun b hb => Mem.get_put_ne _ (hneu3 b hb) _
        · refine g2.trans ⟨?_, ?_, ?_⟩
          · have o3 : Mem.Only (x :: blkOf u) σ2 σ3 := ⟨by omega, fun b hb hn => by
              simp at hn
              rw [hg3 b hn.2 (by omega), Mem.get_put_ne _ (by omega)]; rfl⟩
            repeat (with_reducible first | assumption | exact Mem.Only.refl _ _ | exact Mem.Same.refl _ | refine Mem.Only.bump ?_ _ | refine Mem.Only.put ?_ (by simp) _ | refine Mem.Only.put ?_ (.inr (by first | omega | (simp only [Mem.next_bump, Mem.next_put]; omega))) _ | refine Mem.Same.bump ?_ _ | refine Mem.Same.put ?_ (by first | omega | (simp only [Mem.next_bump, Mem.next_put]; omega)) _)
          · intro b hb
            rcases List.mem_cons.1 hb with rfl | hb
            · exact .inl (by simp)
            · rcases hb3 b hb with h | h
              · exact .inl (by simp [h])
              · exact .inr (by omega)
          · intro b hb
            simp only [Mem.next_put]
            rcases List.mem_cons.1 hb with rfl | hb
            · omega
            · rcases hb3 b hb with h | h
              · have := hlt' _ (List.mem_cons_of_mem _ h); omega
              · omega
      · rw [show (N' + 7) / 8 = N' / 8 + 1 from by omega] at own
        exact ⟨u, hx, e, own.keep fun b _ => rfl, g2.bump _⟩
    · rintro σ3 ⟨u3, hx3, e3, own3, g3⟩
      unfold F_ref01_Writer_Bits_j1
      obtain ⟨c, rfl, hc, hcl⟩ := own3.pos (by omega)
      have hcx : c ≠ x := fun h => hx3 (by simp [blkOf, h])
      have hq := div_lt_pow hWl (m := 8 * (N' / 8)) (by omega)
      have hq7 : 2 ^ (N' - 8 * (N' / 8)) ≤ 2 ^ 7 := pow_le (by omega)
      have hbit := wb_bit (b := b) hWl
      have hset := wb_set_last Y (N' / 8) (UInt8.ofNat ((Y / 2 ^ (8 * (N' / 8)) ||| b * 2 ^ (N' % 8)) % 256))
      have hbb : b * 2 ^ (N' % 8) < 2 ^ 8 := mul_pow_lt (a := 1) (by omega) (by omega)
      have hgetc : (bl (wb Y (N' / 8 + 1)))[N' / 8]? = some (.int .u8 ((Y / 2 ^ (8 * (N' / 8)) % 256 : Nat) : Int)) := by
        rw [bl_get (by rw [wb_length]; omega)]
        have := wb_get (W := Y) (show N' / 8 < N' / 8 + 1 by omega)
        rw [List.getElem?_eq_getElem (by rw [wb_length]; omega)] at this
        rw [Option.some.inj this, UInt8.toNat_ofNat', Nat.mod_mod_of_dvd _ (by decide)]
      obtain ⟨z, hz⟩ : ∃ z, Y / 2 ^ (8 * (N' / 8)) = z := ⟨_, rfl⟩
      rw [hz] at hq hbit hset hgetc
      rw [show ((z % 256 : Nat) : Int) = (z : Int) from by omega] at hgetc
      repeat (first | refine To.go ?_ | with_reducible refine And.intro (by first | omega | exact ⟨rfl, rfl⟩) ?_ | ((with_reducible apply opt); (· (first | with_reducible assumption | rfl))) | ((with_reducible apply ldrw); (· (first | with_reducible assumption | (simp (disch := omega) only [go_sem, *]; try rfl))); (· (first | with_reducible assumption | rfl))) | ((with_reducible apply ldro); (· (first | with_reducible assumption | (simp (disch := omega) only [go_sem, *]; try rfl))); (· (first | with_reducible assumption | rfl))) | ((with_reducible apply st1); (· (first | with_reducible assumption | (simp (disch := omega) only [go_sem, *]; try rfl))); (· simp); (· rfl)) | with_reducible refine ifT rfl ?_ | with_reducible refine ifF (not_not_intro rfl) ?_ | with_reducible refine ifT (by omega) ?_ | with_reducible refine ifF (by omega) ?_)
      rw [show ((N' : Int) / 8).toNat = N' / 8 from by omega]
      repeat (first | refine To.go ?_ | with_reducible refine And.intro (by first | omega | exact ⟨rfl, rfl⟩) ?_ | ((with_reducible apply opt); (· (first | with_reducible assumption | rfl))) | ((with_reducible apply ldrw); (· (first | with_reducible assumption | (simp (disch := omega) only [go_sem, *]; try rfl))); (· (first | with_reducible assumption | rfl))) | ((with_reducible apply ldro); (· (first | with_reducible assumption | (simp (disch := omega) only [go_sem, *]; try rfl))); (· (first | with_reducible assumption | rfl))) | ((with_reducible apply st1); (· (first | with_reducible assumption | (simp (disch := omega) only [go_sem, *]; try rfl))); (· simp); (· rfl)) | with_reducible refine ifT rfl ?_ | with_reducible refine ifF (not_not_intro rfl) ?_ | with_reducible refine ifT (by omega) ?_ | with_reducible refine ifF (by omega) ?_)
      rw [Int.toNat_natCast, hy, hand]
      repeat (first | refine To.go ?_ | with_reducible refine And.intro (by first | omega | exact ⟨rfl, rfl⟩) ?_ | ((with_reducible apply opt); (· (first | with_reducible assumption | rfl))) | ((with_reducible apply ldrw); (· (first | with_reducible assumption | (simp (disch := omega) only [go_sem, *]; try rfl))); (· (first | with_reducible assumption | rfl))) | ((with_reducible apply ldro); (· (first | with_reducible assumption | (simp (disch := omega) only [go_sem, *]; try rfl))); (· (first | with_reducible assumption | rfl))) | ((with_reducible apply st1); (· (first | with_reducible assumption | (simp (disch := omega) only [go_sem, *]; try rfl))); (· simp); (· rfl)) | with_reducible refine ifT rfl ?_ | with_reducible refine ifF (not_not_intro rfl) ?_ | with_reducible refine ifT (by omega) ?_ | with_reducible refine ifF (by omega) ?_)
      have hsh : ((b : Int) % 256 * 2 ^ ((N' : Int) % 8).toNat % 256) = ((b * 2 ^ (N' % 8) : Nat) : Int) := by
        rw [show ((N' : Int) % 8).toNat = N' % 8 from by omega, show ((b : Int) % 256) = (b : Int) from by omega, show ((b : Int) * 2 ^ (N' % 8)) = ((b * 2 ^ (N' % 8) : Nat) : Int) from by simp]
        omega
      have hz8 : z < 256 := by omega
      rw [hsh, bitsO8 hz8 (by omega), show ((N' : Int) / 8).toNat = N' / 8 from by omega]
      have hor : z ||| b * 2 ^ (N' % 8) < 2 ^ 8 := Nat.or_lt_two_pow hz8 hbb
      obtain ⟨q, hqe⟩ : ∃ q, z ||| b * 2 ^ (N' % 8) = q := ⟨_, rfl⟩
      rw [hqe] at hset hbit hor ⊢
      refine st1 hc (by rw [bl_length, wb_length]; omega) rfl ?_
      have hqb : AV.int .u8 ((q : Nat) : Int) = .int .u8 ((UInt8.ofNat (q % 256)).toNat : Nat) := by
        rw [UInt8.toNat_ofNat']; congr 2; omega
      rw [hqb, bl_set, hset, ← hbit]
      repeat (first | refine To.go ?_ | with_reducible refine And.intro (by first | omega | exact ⟨rfl, rfl⟩) ?_ | ((with_reducible apply opt); (· (first | with_reducible assumption | rfl))) | ((with_reducible apply ldrw); (· (first | with_reducible assumption | (simp (disch := omega) only [go_sem, *]; try rfl))); (· (first | with_reducible assumption | rfl))) | ((with_reducible apply ldro); (· (first | with_reducible assumption | (simp (disch := omega) only [go_sem, *]; try rfl))); (· (first | with_reducible assumption | rfl))) | ((with_reducible apply st1); (· (first | with_reducible assumption | (simp (disch := omega) only [go_sem, *]; try rfl))); (· simp); (· rfl)) | with_reducible refine ifT rfl ?_ | with_reducible refine ifF (not_not_intro rfl) ?_ | with_reducible refine ifT (by omega) ?_ | with_reducible refine ifF (by omega) ?_)
      refine again ⟨i + 1, ⟨by omega, by omega, [x, c], ⟨?_, .slice c 0 (N' / 8 + 1) (.op 1), rfl, hx3, ?_, ?_⟩, ?_⟩, by omega⟩
      · rw [hnext, ← Nat.add_assoc, hN', Nat.pow_succ]
        rcases (by omega : b = 0 ∨ b = 1) with rfl | rfl <;> omega
      · rw [Mem.get_bump, gS', ← Nat.add_assoc, hN', show ((N' : Int) + 1) = ((N' + 1 : Nat) : Int) from by omega]; rfl
      · rw [hnext, ← Nat.add_assoc, hN', show (N' + 1 + 7) / 8 = N' / 8 + 1 from by omega]
        refine .inr ⟨c, rfl, ?_, by rw [bl_length, wb_length]; omega⟩
        rw [Mem.get_bump, Mem.get_put_ne _ hcx, Mem.get_bump, gS']
      · have hcm : c ∈ blkOf (AV.slice c 0 (N' / 8 + 1) (.op 1)) := by simp [blkOf]
        refine g3.trans ⟨?_, fun b hb => .inl hb, fun b hb => ?_⟩
        · refine Mem.Only.bump (Mem.Only.put (Mem.Only.bump (Mem.Only.put (Mem.Only.bump (Mem.Only.refl _ _) _) (.inl (List.mem_cons_of_mem _ hcm)) _) _) (.inl (by simp)) _) _
        · have := g3.lt b hb
          simp only [Mem.next_put, Mem.next_bump]; omega
  · obtain rfl : i = n := by omega
    exact ⟨rfl, o2, hW2.keep fun b _ => rfl, g2.bump _⟩
/-- The bytes of a call. -/
def opLen (n : Int) : Nat := (imin (imax n 0) 50).toNat
def opB (v : Int) (k : Nat) : List UInt8 := (List.range k).map fun (i : Nat) => UInt8.ofNat ((v + (i : Int)) % 256).toNat
theorem opB_length (v : Int) (k : Nat) : (opB v k).length = k := by simp [opB]
theorem opB_succ (v : Int) (k : Nat) : opB v (k + 1) = opB v k ++ [UInt8.ofNat ((v + k) % 256).toNat] := by simp [opB, List.range_succ]
def opText (n v : Int) : ByteArray := ⟨(opB v (opLen n)).toArray⟩
theorem size_opText (n v : Int) : (opText n v).size = opLen n := by unfold opText; rw [size_mk, opB_length]
theorem opLen_le (n : Int) : opLen n ≤ 50 ∧ (opLen n : Int) = imin (imax n 0) 50 := by
  unfold opLen imin imax; split <;> split <;> omega
theorem repl_bl (n : Nat) : repl n [.int .u8 0] = bl (List.replicate n 0) := by
  simp [repl, bl]
theorem law01_Op_text {b : Bool} {n v : Int} (hok : opOk (b, n, v)) (σ : Mem) :
    ACalls PG n_law01_Op_text [.agg (opC (b, n, v))] σ fun r σ' => r = .str (opText n v) ∧ σ.Same σ' := by
  refine ok_law01_Op_text fun live => ?_
  unfold F_law01_Op_text
  obtain ⟨⟨hn1, hn2⟩, hv1, hv2⟩ := hok
  dsimp only at hn1 hn2 hv1 hv2
  obtain ⟨hL, hL2⟩ := opLen_le n
  unfold opC
  repeat (first | refine To.go ?_ | with_reducible refine And.intro (by first | omega | exact ⟨rfl, rfl⟩) ?_ | ((with_reducible apply opt); (· (first | with_reducible assumption | rfl))) | ((with_reducible apply ldrw); (· (first | with_reducible assumption | (simp (disch := omega) only [go_sem, *]; try rfl))); (· (first | with_reducible assumption | rfl))) | ((with_reducible apply ldro); (· (first | with_reducible assumption | (simp (disch := omega) only [go_sem, *]; try rfl))); (· (first | with_reducible assumption | rfl))) | ((with_reducible apply st1); (· (first | with_reducible assumption | (simp (disch := omega) only [go_sem, *]; try rfl))); (· simp); (· rfl)) | with_reducible refine ifT rfl ?_ | with_reducible refine ifF (not_not_intro rfl) ?_ | with_reducible refine ifT (by omega) ?_ | with_reducible refine ifF (by omega) ?_)
  dsimp only
  rw [← hL2]
  obtain ⟨L, hLe⟩ : ∃ L, opLen n = L := ⟨_, rfl⟩
  unfold opText
  rw [hLe] at hL ⊢
  repeat (first | refine To.go ?_ | with_reducible refine And.intro (by first | omega | exact ⟨rfl, rfl⟩) ?_ | ((with_reducible apply opt); (· (first | with_reducible assumption | rfl))) | ((with_reducible apply ldrw); (· (first | with_reducible assumption | (simp (disch := omega) only [go_sem, *]; try rfl))); (· (first | with_reducible assumption | rfl))) | ((with_reducible apply ldro); (· (first | with_reducible assumption | (simp (disch := omega) only [go_sem, *]; try rfl))); (· (first | with_reducible assumption | rfl))) | ((with_reducible apply st1); (· (first | with_reducible assumption | (simp (disch := omega) only [go_sem, *]; try rfl))); (· simp); (· rfl)) | with_reducible refine ifT rfl ?_ | with_reducible refine ifF (not_not_intro rfl) ?_ | with_reducible refine ifT (by omega) ?_ | with_reducible refine ifF (by omega) ?_)
  rw [Int.toNat_natCast, repl_bl]
  simp only [AV.cells, Mem.next_put, Mem.next_bump]
  have hset : ∀ i < L, (opB v i ++ List.replicate (L - i) 0).set i (UInt8.ofNat ((v + i) % 256).toNat) = opB v (i + 1) ++ List.replicate (L - (i + 1)) 0 := fun i hi => by
    rw [List.set_append_right _ _ (by rw [opB_length]; omega), opB_length, Nat.sub_self, show L - i = (L - (i + 1)) + 1 from by omega, List.replicate_succ, List.set_cons_zero, opB_succ, List.append_assoc]; rfl
  refine loop1 (fun (i : Nat) (k : Int) σ' => k = i ∧ i ≤ L ∧ σ.Same σ' ∧ σ.next + 2 + 4 < σ'.next ∧ σ'.get σ.next = some (.rw (opC (b, n, v))) ∧ σ'.get (σ.next + 2 + 4) = some (.rw (bl (opB v i ++ List.replicate (L - i) 0)))) (fun i => L - i) 0 ⟨rfl, by omega, ?_, ?_, ?_, ?_⟩ ?_
  · repeat (with_reducible first | assumption | exact Mem.Only.refl _ _ | exact Mem.Same.refl _ | refine Mem.Only.bump ?_ _ | refine Mem.Only.put ?_ (by simp) _ | refine Mem.Only.put ?_ (.inr (by first | omega | (simp only [Mem.next_bump, Mem.next_put]; omega))) _ | refine Mem.Same.bump ?_ _ | refine Mem.Same.put ?_ (by first | omega | (simp only [Mem.next_bump, Mem.next_put]; omega)) _)
  · simp only [Mem.next_put, Mem.next_bump]; omega
  · rw [Mem.get_bump, Mem.get_put_ne _ (by omega), Mem.get_bump, gS']; rfl
  · rw [Mem.get_bump, gS']; simp [opB]
  rintro i k σ2 ⟨rfl, hi, s2, hn2, e2, x2⟩
  unfold F_law01_Op_text_l1
  simp only [Mem.next_put, Mem.next_bump]
  unfold opC at e2
  repeat (first | refine To.go ?_ | with_reducible refine And.intro (by first | omega | exact ⟨rfl, rfl⟩) ?_ | ((with_reducible apply opt); (· (first | with_reducible assumption | rfl))) | ((with_reducible apply ldrw); (· (first | with_reducible assumption | (simp (disch := omega) only [go_sem, *]; try rfl))); (· (first | with_reducible assumption | rfl))) | ((with_reducible apply ldro); (· (first | with_reducible assumption | (simp (disch := omega) only [go_sem, *]; try rfl))); (· (first | with_reducible assumption | rfl))) | ((with_reducible apply st1); (· (first | with_reducible assumption | (simp (disch := omega) only [go_sem, *]; try rfl))); (· simp); (· rfl)) | with_reducible refine ifT rfl ?_ | with_reducible refine ifF (not_not_intro rfl) ?_ | with_reducible refine ifT (by omega) ?_ | with_reducible refine ifF (by omega) ?_)
  refine ifD (fun hlt => ?_) (fun hge => ?_)
  · refine To.go ?_
    refine To.go ?_
    refine ldrw (l := [.bool b, .int .i64 n, .int .i64 v]) e2 rfl ?_
    refine To.go ?_
    refine iW_raw ?_
    repeat (first | refine To.go ?_ | with_reducible refine And.intro (by first | omega | exact ⟨rfl, rfl⟩) ?_ | ((with_reducible apply opt); (· (first | with_reducible assumption | rfl))) | ((with_reducible apply ldrw); (· (first | with_reducible assumption | (simp (disch := omega) only [go_sem, *]; try rfl))); (· (first | with_reducible assumption | rfl))) | ((with_reducible apply ldro); (· (first | with_reducible assumption | (simp (disch := omega) only [go_sem, *]; try rfl))); (· (first | with_reducible assumption | rfl))) | ((with_reducible apply st1); (· (first | with_reducible assumption | (simp (disch := omega) only [go_sem, *]; try rfl))); (· simp); (· rfl)) | with_reducible refine ifT rfl ?_ | with_reducible refine ifF (not_not_intro rfl) ?_ | with_reducible refine ifT (by omega) ?_ | with_reducible refine ifF (by omega) ?_)
    rw [show ((v + i + 9223372036854775808) % 18446744073709551616 - 9223372036854775808) % 256 = ((UInt8.ofNat ((v + i) % 256).toNat).toNat : Int) from by rw [UInt8.toNat_ofNat']; omega]
    refine st1 x2 (by rw [bl_length]; simp [opB_length]; omega) rfl ?_
    rw [bl_set, hset i (by omega)]
    repeat (first | refine To.go ?_ | with_reducible refine And.intro (by first | omega | exact ⟨rfl, rfl⟩) ?_ | ((with_reducible apply opt); (· (first | with_reducible assumption | rfl))) | ((with_reducible apply ldrw); (· (first | with_reducible assumption | (simp (disch := omega) only [go_sem, *]; try rfl))); (· (first | with_reducible assumption | rfl))) | ((with_reducible apply ldro); (· (first | with_reducible assumption | (simp (disch := omega) only [go_sem, *]; try rfl))); (· (first | with_reducible assumption | rfl))) | ((with_reducible apply st1); (· (first | with_reducible assumption | (simp (disch := omega) only [go_sem, *]; try rfl))); (· simp); (· rfl)) | with_reducible refine ifT rfl ?_ | with_reducible refine ifF (not_not_intro rfl) ?_ | with_reducible refine ifT (by omega) ?_ | with_reducible refine ifF (by omega) ?_)
    refine again ⟨i + 1, ⟨by omega, by omega, ?_, ?_, ?_, ?_⟩, by omega⟩
    · repeat (with_reducible first | assumption | exact Mem.Only.refl _ _ | exact Mem.Same.refl _ | refine Mem.Only.bump ?_ _ | refine Mem.Only.put ?_ (by simp) _ | refine Mem.Only.put ?_ (.inr (by first | omega | (simp only [Mem.next_bump, Mem.next_put]; omega))) _ | refine Mem.Same.bump ?_ _ | refine Mem.Same.put ?_ (by first | omega | (simp only [Mem.next_bump, Mem.next_put]; omega)) _)
    · simp only [Mem.next_put, Mem.next_bump]; omega
    · rw [Mem.get_bump, Mem.get_put_ne _ (by omega)]; exact e2
    · rw [Mem.get_bump, gS']
  · obtain rfl : i = L := by omega
    refine bstr_bl x2 (by simp [opB_length]) ?_
    refine ⟨by simp, s2.bump _⟩
end Go.Vit
