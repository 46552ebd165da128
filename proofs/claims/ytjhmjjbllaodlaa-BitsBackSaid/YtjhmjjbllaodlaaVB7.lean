/- The writers: what each call lays. -/
import Derived.Test.YtjhmjjbllaodlaaVC1
import Derived.Test.YtjhmjjbllaodlaaVsI
set_option linter.unusedVariables false
set_option linter.unusedSimpArgs false
set_option linter.unusedSimpArgs false
set_option maxRecDepth 20000
namespace Go.Vit
open Go.Proofs
def WrI (σ : Mem) (w : Nat) (o : List Nat) (W N k : Nat) : Prop :=
  ∃ v, o = w :: blkOf v ∧ w ∉ blkOf v ∧ σ.get w = some (.rw [v, .int .i64 (W / 2 ^ (8 * k) : Nat), .int .i64 ((N - 8 * k : Nat) : Int)]) ∧ OwnS 1 σ v (bl (wb W k)) k
def WrP (σ : Mem) (w : Nat) (o : List Nat) (W N : Nat) : Prop := W < 2 ^ N ∧ WrI σ w o W N (N / 8)
theorem WrI.keep {σ σ' : Mem} {w : Nat} {o : List Nat} {W N k : Nat} (h : WrI σ w o W N k) (hb : ∀ b ∈ o, σ'.get b = σ.get b) : WrI σ' w o W N k := by
  obtain ⟨v, rfl, h1, h2, h3⟩ := h
  exact ⟨v, rfl, h1, (hb w (by simp)).trans h2, h3.keep fun b hm => hb b (by simp [hm])⟩
theorem WrI.lt {σ : Mem} {w : Nat} {o : List Nat} {W N k : Nat} (h : WrI σ w o W N k) (live : σ.Live) : ∀ b ∈ o, b < σ.next := by
  obtain ⟨v, rfl, h1, h2, h3⟩ := h
  intro b hb
  rcases List.mem_cons.1 hb with rfl | hb
  · exact live.lt h2
  · exact h3.lt live b hb
theorem bits_Writer_Bits {w : Nat} {o : List Nat} {W N : Nat} {v n : Int} {σ : Mem} (h : WrP σ w o W N) (hN : N ≤ 2 ^ 40) (h1 : -9223372036854775808 ≤ v) (h2 : v ≤ 9223372036854775807) :
    ACalls PG n_bits_Writer_Bits [.ptr w 0, .int .i64 v, .int .i64 n] σ fun r σ' => r = .tup [] ∧ ∃ o', WrP σ' w o' (lay W N v n).1 (lay W N v n).2 ∧ Grow o o' σ σ' := by
  refine ok_bits_Writer_Bits fun live => ?_
  unfold F_bits_Writer_Bits
  obtain ⟨hW, hI⟩ := h
  have hlt := hI.lt live
  repeat (first | refine To.go ?_ | with_reducible refine And.intro (by first | omega | exact ⟨rfl, rfl⟩) ?_ | ((with_reducible apply opt); (· (first | with_reducible assumption | rfl))) | ((with_reducible apply ldrw); (· (first | with_reducible assumption | (simp (disch := omega) only [go_sem, *]; try rfl))); (· (first | with_reducible assumption | rfl))) | ((with_reducible apply ldro); (· (first | with_reducible assumption | (simp (disch := omega) only [go_sem, *]; try rfl))); (· (first | with_reducible assumption | rfl))) | ((with_reducible apply st1); (· (first | with_reducible assumption | (simp (disch := omega) only [go_sem, *]; try rfl))); (· simp); (· rfl)) | with_reducible refine ifT rfl ?_ | with_reducible refine ifF (not_not_intro rfl) ?_ | with_reducible refine ifT (by omega) ?_ | with_reducible refine ifF (by omega) ?_)
  refine ifD (fun h0 => ?_) (fun h0 => ?_)
  · rw [lay, if_pos (.inl h0)]
    exact ⟨rfl, o, ⟨hW, hI⟩, (Grow.refl hlt).bump _⟩
  refine ifD (fun h3 => ?_) (fun h3 => ?_)
  · rw [lay, if_pos (.inr h3)]
    exact ⟨rfl, o, ⟨hW, hI⟩, (Grow.refl hlt).bump _⟩
  obtain ⟨n, rfl⟩ := int_nat (by omega : 0 ≤ n)
  have hlay : lay W N v n = (W + (v % 2 ^ n).toNat * 2 ^ N, N + n) := by rw [lay, if_neg (by omega), Int.toNat_natCast]
  have hL := lay_lt v n hW
  rw [hlay] at hL ⊢
  have hx := mod_pow_lt v n
  have hmask := bits_mask (n := n) h1 h2 (by omega)
  obtain ⟨x, hxe⟩ : ∃ x, (v % 2 ^ n).toNat = x := ⟨_, rfl⟩
  rw [hxe] at hx hL hmask ⊢
  obtain ⟨u, rfl, hw, e, own⟩ := hI
  have hp : 2 ^ n ≤ 2 ^ 24 := pow_le (by omega)
  have hp1 := Nat.pow_pos (n := n) (show 0 < 2 by decide)
  repeat (first | refine To.go ?_ | with_reducible refine And.intro (by first | omega | exact ⟨rfl, rfl⟩) ?_ | ((with_reducible apply opt); (· (first | with_reducible assumption | rfl))) | ((with_reducible apply ldrw); (· (first | with_reducible assumption | (simp (disch := omega) only [go_sem, *]; try rfl))); (· (first | with_reducible assumption | rfl))) | ((with_reducible apply ldro); (· (first | with_reducible assumption | (simp (disch := omega) only [go_sem, *]; try rfl))); (· (first | with_reducible assumption | rfl))) | ((with_reducible apply st1); (· (first | with_reducible assumption | (simp (disch := omega) only [go_sem, *]; try rfl))); (· simp); (· rfl)) | with_reducible refine ifT rfl ?_ | with_reducible refine ifF (not_not_intro rfl) ?_ | with_reducible refine ifT (by omega) ?_ | with_reducible refine ifF (by omega) ?_)
  rw [Int.toNat_natCast, show (1 * 2 ^ n : Int) = ((2 ^ n : Nat) : Int) from by simp]
  obtain ⟨p, hpe⟩ : ∃ p, 2 ^ n = p := ⟨_, rfl⟩
  rw [hpe] at hp hp1 hx hmask ⊢
  repeat (first | refine To.go ?_ | with_reducible refine And.intro (by first | omega | exact ⟨rfl, rfl⟩) ?_ | ((with_reducible apply opt); (· (first | with_reducible assumption | rfl))) | ((with_reducible apply ldrw); (· (first | with_reducible assumption | (simp (disch := omega) only [go_sem, *]; try rfl))); (· (first | with_reducible assumption | rfl))) | ((with_reducible apply ldro); (· (first | with_reducible assumption | (simp (disch := omega) only [go_sem, *]; try rfl))); (· (first | with_reducible assumption | rfl))) | ((with_reducible apply st1); (· (first | with_reducible assumption | (simp (disch := omega) only [go_sem, *]; try rfl))); (· simp); (· rfl)) | with_reducible refine ifT rfl ?_ | with_reducible refine ifF (not_not_intro rfl) ?_ | with_reducible refine ifT (by omega) ?_ | with_reducible refine ifF (by omega) ?_)
  rw [show ((p : Int) - 1) = ((p - 1 : Nat) : Int) from by omega, hmask]
  repeat (first | refine To.go ?_ | with_reducible refine And.intro (by first | omega | exact ⟨rfl, rfl⟩) ?_ | ((with_reducible apply opt); (· (first | with_reducible assumption | rfl))) | ((with_reducible apply ldrw); (· (first | with_reducible assumption | (simp (disch := omega) only [go_sem, *]; try rfl))); (· (first | with_reducible assumption | rfl))) | ((with_reducible apply ldro); (· (first | with_reducible assumption | (simp (disch := omega) only [go_sem, *]; try rfl))); (· (first | with_reducible assumption | rfl))) | ((with_reducible apply st1); (· (first | with_reducible assumption | (simp (disch := omega) only [go_sem, *]; try rfl))); (· simp); (· rfl)) | with_reducible refine ifT rfl ?_ | with_reducible refine ifF (not_not_intro rfl) ?_ | with_reducible refine ifT (by omega) ?_ | with_reducible refine ifF (by omega) ?_)
  rw [Int.toNat_natCast, show ((x : Int) * 2 ^ (N - 8 * (N / 8))) = ((x * 2 ^ (N - 8 * (N / 8)) : Nat) : Int) from by simp]
  have hh := div_lt_pow hW (m := 8 * (N / 8)) (by omega)
  have hq : x * 2 ^ (N - 8 * (N / 8)) < 2 ^ 31 := mul_pow_lt (a := 24) (by omega) (by omega)
  have hh2 : 2 ^ (N - 8 * (N / 8)) ≤ 2 ^ 7 := pow_le (by omega)
  have hsum : W / 2 ^ (8 * (N / 8)) ||| x * 2 ^ (N - 8 * (N / 8)) = (W + x * 2 ^ N) / 2 ^ (8 * (N / 8)) := by rw [or_shift hh, add_div_pow W x (by omega)]
  obtain ⟨q, hqe⟩ : ∃ q, x * 2 ^ (N - 8 * (N / 8)) = q := ⟨_, rfl⟩
  rw [hqe] at hq hsum ⊢
  obtain ⟨z, hze⟩ : ∃ z, W / 2 ^ (8 * (N / 8)) = z := ⟨_, rfl⟩
  rw [hze] at hh hsum e ⊢
  repeat (first | refine To.go ?_ | with_reducible refine And.intro (by first | omega | exact ⟨rfl, rfl⟩) ?_ | ((with_reducible apply opt); (· (first | with_reducible assumption | rfl))) | ((with_reducible apply ldrw); (· (first | with_reducible assumption | (simp (disch := omega) only [go_sem, *]; try rfl))); (· (first | with_reducible assumption | rfl))) | ((with_reducible apply ldro); (· (first | with_reducible assumption | (simp (disch := omega) only [go_sem, *]; try rfl))); (· (first | with_reducible assumption | rfl))) | ((with_reducible apply st1); (· (first | with_reducible assumption | (simp (disch := omega) only [go_sem, *]; try rfl))); (· simp); (· rfl)) | with_reducible refine ifT rfl ?_ | with_reducible refine ifF (not_not_intro rfl) ?_ | with_reducible refine ifT (by omega) ?_ | with_reducible refine ifF (by omega) ?_)
  rw [bitsO (by omega) (by omega), Int.toNat_natCast, Int.toNat_natCast, hsum]
  repeat (first | refine To.go ?_ | with_reducible refine And.intro (by first | omega | exact ⟨rfl, rfl⟩) ?_ | ((with_reducible apply opt); (· (first | with_reducible assumption | rfl))) | ((with_reducible apply ldrw); (· (first | with_reducible assumption | (simp (disch := omega) only [go_sem, *]; try rfl))); (· (first | with_reducible assumption | rfl))) | ((with_reducible apply ldro); (· (first | with_reducible assumption | (simp (disch := omega) only [go_sem, *]; try rfl))); (· (first | with_reducible assumption | rfl))) | ((with_reducible apply st1); (· (first | with_reducible assumption | (simp (disch := omega) only [go_sem, *]; try rfl))); (· simp); (· rfl)) | with_reducible refine ifT rfl ?_ | with_reducible refine ifF (not_not_intro rfl) ?_ | with_reducible refine ifT (by omega) ?_ | with_reducible refine ifF (by omega) ?_)
  have own0 : OwnS 1 σ u (bl (wb (W + x * 2 ^ N) (N / 8))) (N / 8) := by rw [wb_add (by omega)]; exact own
  have hwn : w < σ.next := hlt w (by simp)
  obtain ⟨Y, hY⟩ : ∃ Y, W + x * 2 ^ N = Y := ⟨_, rfl⟩
  rw [hY] at own0 hL ⊢
  have hneu : ∀ b ∈ blkOf u, b ≠ w := fun b hb e => hw (e ▸ hb)
  refine loop0 (fun (k : Nat) σ' => ∃ o', WrI σ' w o' Y (N + n) k ∧ 8 * k ≤ N + n ∧ Grow (w :: blkOf u) o' σ σ' ∧ σ.next ≤ σ'.next ∧ ∀ b ∈ o', b < σ'.next) (fun k => N + n - 8 * k) (N / 8) ⟨w :: blkOf u, ⟨u, rfl, hw, ?_, ?_⟩, by omega, ⟨?_, fun b hb => .inl hb, ?_⟩, ?_, ?_⟩ ?_
  · rw [gS', show ((N - 8 * (N / 8) : Nat) : Int) + n = ((N + n - 8 * (N / 8) : Nat) : Int) from by omega]; rfl
  · exact own0.keep fun b hb => by rw [Mem.get_put_ne _ (hneu b hb), Mem.get_bump, Mem.get_put_ne _ (hneu b hb)]; rfl
  · repeat (with_reducible first | assumption | exact Mem.Only.refl _ _ | exact Mem.Same.refl _ | refine Mem.Only.bump ?_ _ | refine Mem.Only.put ?_ (by simp) _ | refine Mem.Only.put ?_ (.inr (by first | omega | (simp only [Mem.next_bump, Mem.next_put]; omega))) _ | refine Mem.Same.bump ?_ _ | refine Mem.Same.put ?_ (by first | omega | (simp only [Mem.next_bump, Mem.next_put]; omega)) _)
  · intro b hb; have := hlt b hb; simp only [Mem.next_bump, Mem.next_put]; omega
  · simp only [Mem.next_bump, Mem.next_put]; omega
  · intro b hb; have := hlt b hb; simp only [Mem.next_bump, Mem.next_put]; omega
  rintro k σ2 ⟨o2, ⟨u2, rfl, hw2, e2, own2⟩, hk, g2, hn2, hlt2⟩
  unfold F_bits_Writer_Bits_l1
  repeat (first | refine To.go ?_ | with_reducible refine And.intro (by first | omega | exact ⟨rfl, rfl⟩) ?_ | ((with_reducible apply opt); (· (first | with_reducible assumption | rfl))) | ((with_reducible apply ldrw); (· (first | with_reducible assumption | (simp (disch := omega) only [go_sem, *]; try rfl))); (· (first | with_reducible assumption | rfl))) | ((with_reducible apply ldro); (· (first | with_reducible assumption | (simp (disch := omega) only [go_sem, *]; try rfl))); (· (first | with_reducible assumption | rfl))) | ((with_reducible apply st1); (· (first | with_reducible assumption | (simp (disch := omega) only [go_sem, *]; try rfl))); (· simp); (· rfl)) | with_reducible refine ifT rfl ?_ | with_reducible refine ifF (not_not_intro rfl) ?_ | with_reducible refine ifT (by omega) ?_ | with_reducible refine ifF (by omega) ?_)
  have hw2n := hlt2 w (by simp)
  have hlu2 : ∀ b ∈ blkOf u2, b < σ2.next := fun b hb => hlt2 b (by simp [hb])
  refine ifD (fun h8 => ?_) (fun h8 => ?_)
  · repeat (first | refine To.go ?_ | with_reducible refine And.intro (by first | omega | exact ⟨rfl, rfl⟩) ?_ | ((with_reducible apply opt); (· (first | with_reducible assumption | rfl))) | ((with_reducible apply ldrw); (· (first | with_reducible assumption | (simp (disch := omega) only [go_sem, *]; try rfl))); (· (first | with_reducible assumption | rfl))) | ((with_reducible apply ldro); (· (first | with_reducible assumption | (simp (disch := omega) only [go_sem, *]; try rfl))); (· (first | with_reducible assumption | rfl))) | ((with_reducible apply st1); (· (first | with_reducible assumption | (simp (disch := omega) only [go_sem, *]; try rfl))); (· simp); (· rfl)) | with_reducible refine ifT rfl ?_ | with_reducible refine ifF (not_not_intro rfl) ?_ | with_reducible refine ifT (by omega) ?_ | with_reducible refine ifF (by omega) ?_)
    obtain ⟨y, hy⟩ : ∃ y, Y / 2 ^ (8 * k) = y := ⟨_, rfl⟩
    rw [hy] at e2 ⊢
    refine OwnS.append (n := k) (m := 1) (own2.keep fun b hb => ?_) (fun K hK => src_new gS' rfl rfl K hK) (by omega) rfl rfl (bl_one _) (by omega) (fun hb => ?_) ?_
    · rw [Mem.get_put_ne _ (by have := hlu2 b hb; omega)]; rfl
    · have := hlu2 _ hb; omega
    intro v' σ3 own3 hn3 hg3 hb3
    have hw3 : w ∉ blkOf v' := fun hb => by
      rcases hb3 w hb with h | h
      · exact hw2 h
      · omega
    have e3 : σ3.get w = σ2.get w := by rw [hg3 w hw2 (by omega), Mem.get_put_ne _ (by omega)]; rfl
    rw [e2] at e3
    repeat (first | refine To.go ?_ | with_reducible refine And.intro (by first | omega | exact ⟨rfl, rfl⟩) ?_ | ((with_reducible apply opt); (· (first | with_reducible assumption | rfl))) | ((with_reducible apply ldrw); (· (first | with_reducible assumption | (simp (disch := omega) only [go_sem, *]; try rfl))); (· (first | with_reducible assumption | rfl))) | ((with_reducible apply ldro); (· (first | with_reducible assumption | (simp (disch := omega) only [go_sem, *]; try rfl))); (· (first | with_reducible assumption | rfl))) | ((with_reducible apply st1); (· (first | with_reducible assumption | (simp (disch := omega) only [go_sem, *]; try rfl))); (· simp); (· rfl)) | with_reducible refine ifT rfl ?_ | with_reducible refine ifF (not_not_intro rfl) ?_ | with_reducible refine ifT (by omega) ?_ | with_reducible refine ifF (by omega) ?_)
    refine st1 e3 (by simp) own3.one ?_
    simp only [Mem.next_bump, Mem.next_put] at hn3
    repeat (first | refine To.go ?_ | with_reducible refine And.intro (by first | omega | exact ⟨rfl, rfl⟩) ?_ | ((with_reducible apply opt); (· (first | with_reducible assumption | rfl))) | ((with_reducible apply ldrw); (· (first | with_reducible assumption | (simp (disch := omega) only [go_sem, *]; try rfl))); (· (first | with_reducible assumption | rfl))) | ((with_reducible apply ldro); (· (first | with_reducible assumption | (simp (disch := omega) only [go_sem, *]; try rfl))); (· (first | with_reducible assumption | rfl))) | ((with_reducible apply st1); (· (first | with_reducible assumption | (simp (disch := omega) only [go_sem, *]; try rfl))); (· simp); (· rfl)) | with_reducible refine ifT rfl ?_ | with_reducible refine ifF (not_not_intro rfl) ?_ | with_reducible refine ifT (by omega) ?_ | with_reducible refine ifF (by omega) ?_)
    have hneu3 : ∀ b ∈ blkOf v', b ≠ w := fun b hb e => hw3 (e ▸ hb)
    refine again ⟨k + 1, ⟨w :: blkOf v', ⟨v', rfl, hw3, ?_, ?_⟩, by omega, ?_, ?_, ?_⟩, by omega⟩
    · rw [gS', show ((N + n - 8 * k : Nat) : Int) - 8 = ((N + n - 8 * (k + 1) : Nat) : Int) from by omega, show ((y : Int) / 256) = ((Y / 2 ^ (8 * (k + 1)) : Nat) : Int) from ?_]
      · rfl
      · rw [← hy, Nat.mul_add, Nat.pow_add, ← Nat.div_div_eq_div_mul]; simp
    · rw [wb_succ, ← bl_append, hy, bl_byte]
      refine OwnS.keep (σ := σ3) own3 fun b hb => ?_
      rw [Mem.get_put_ne _ (hneu3 b hb), Mem.get_bump, Mem.get_put_ne _ (hneu3 b hb), Mem.get_bump, Mem.get_put_ne _ (hneu3 b hb)]
    · refine g2.trans ⟨?_, ?_, ?_⟩
      · have o3 : Mem.Only (w :: blkOf u2) σ2 σ3 := ⟨by omega, fun b hb hn => by
          simp at hn
          rw [hg3 b hn.2 (by omega), Mem.get_put_ne _ (by omega)]; rfl⟩
        repeat (with_reducible first | assumption | exact Mem.Only.refl _ _ | exact Mem.Same.refl _ | refine Mem.Only.bump ?_ _ | refine Mem.Only.put ?_ (by simp) _ | refine Mem.Only.put ?_ (.inr (by first | omega | (simp only [Mem.next_bump, Mem.next_put]; omega))) _ | refine Mem.Same.bump ?_ _ | refine Mem.Same.put ?_ (by first | omega | (simp only [Mem.next_bump, Mem.next_put]; omega)) _)
      · intro b hb
        rcases List.mem_cons.1 hb with rfl | hb
        · exact .inl (by simp)
        · rcases hb3 b hb with h | h
          · exact .inl (by simp [h])
          · exact .inr (by omega)
      · intro b hb
        simp only [Mem.next_bump, Mem.next_put]
        rcases List.mem_cons.1 hb with rfl | hb
        · omega
        · rcases hb3 b hb with h | h
          · have := hlu2 b h; omega
          · omega
    · simp only [Mem.next_bump, Mem.next_put]; omega
    · intro b hb
      simp only [Mem.next_bump, Mem.next_put]
      rcases List.mem_cons.1 hb with rfl | hb
      · omega
      · rcases hb3 b hb with h | h
        · have := hlu2 b h; omega
        · omega
  · refine ⟨rfl, w :: blkOf u2, ⟨hL, u2, rfl, hw2, ?_, ?_⟩, g2.bump _⟩
    · rw [show (N + n) / 8 = k from by omega]; exact e2
    · rw [show (N + n) / 8 = k from by omega]; exact own2
end Go.Vit
