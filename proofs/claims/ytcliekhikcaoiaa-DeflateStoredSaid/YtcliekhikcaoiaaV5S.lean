/- Stored blocks, as the document tells them. -/
import Derived.Test.YtcliekhikcaoiaaV5R
set_option linter.unusedVariables false
set_option linter.unusedSimpArgs false
set_option linter.unusedSimpArgs false
set_option maxRecDepth 20000
namespace Go.Vit
open Go.Proofs
def LoneR (σ σ' : Mem) (w : Nat) (p : Nat × Nat) : Prop := ∃ o, WrR σ' w o p.1 p.2 ∧ (∀ b ∈ o, σ.next ≤ b ∧ b < σ'.next) ∧ σ.Same σ'
theorem LoneR.same {σ σ1 σ2 : Mem} {w : Nat} {p : Nat × Nat} (h : LoneR σ σ1 w p) (s : σ1.Same σ2) : LoneR σ σ2 w p := by
  obtain ⟨o, h1, h2, h3⟩ := h
  exact ⟨o, h1.keep fun b hb => s.get b (h2 b hb).2, fun b hb => ⟨(h2 b hb).1, Nat.lt_of_lt_of_le (h2 b hb).2 s.next⟩, h3.trans s⟩
theorem LoneR.step {σ σ1 : Mem} {w : Nat} {p : Nat × Nat} (h : LoneR σ σ1 w p) : ∃ o, WrR σ1 w o p.1 p.2 ∧ σ.Same σ1 ∧ ∀ σ2 p', (∃ o', WrR σ2 w o' p'.1 p'.2 ∧ Grow o o' σ1 σ2) → LoneR σ σ2 w p' := by
  obtain ⟨o, h1, h2, h3⟩ := h
  refine ⟨o, h1, h3, fun σ2 p' ⟨o', h8, g⟩ => ?_⟩
  obtain ⟨s, hn⟩ := g.same h3 fun b hb => (h2 b hb).1
  exact ⟨o', h8, fun b hb => ⟨hn b hb, g.lt b hb⟩, s⟩
theorem LoneR.new {σ σ1 : Mem} {w : Nat} (h : σ1.get w = some (.rw [.nils, .int .i64 0])) (s : σ.Same σ1) (h1 : σ.next ≤ w) (h2 : w < σ1.next) : LoneR σ σ1 w (0, 0) :=
  ⟨[w], ⟨by decide, .nils, rfl, by simp [blkOf], h, .nil 1 σ1⟩, fun b hb => by simp only [List.mem_singleton] at hb; subst hb; exact ⟨h1, h2⟩, s⟩
theorem quoN {n m : Nat} {K : Int → Prop} (hm : m ≠ 0) (hn : n < 2 ^ 62) (hk : K ((n / m : Nat) : Int)) : quoW .i64 (n : Nat) (m : Nat) K := by
  refine ⟨by omega, ?_⟩
  have h : n / m ≤ n := Nat.div_le_self _ _
  rw [show Int.tdiv (n : Nat) (m : Nat) = ((n / m : Nat) : Int) from (Int.ofNat_tdiv n m).symm]
  generalize n / m = q at *
  rw [IntWalk.i64_in _ (by omega)]
  exact hk
theorem remN {n m : Nat} {K : Int → Prop} (hm : m ≠ 0) (hk : K ((n % m : Nat) : Int)) : remW (n : Nat) (m : Nat) K := by
  refine ⟨by omega, ?_⟩
  rw [show Int.tmod (n : Nat) (m : Nat) = ((n % m : Nat) : Int) from (Int.ofNat_tmod n m).symm]
  exact hk
theorem ref05_Stored {s : ByteArray} (hs : s.size ≤ 2 ^ 30) {σ : Mem} :
    ACalls PG n_ref05_Stored [.str s] σ fun v σ' => v = .str (text (stored s).1 (stored s).2) ∧ σ.Same σ' := by
  refine ok_ref05_Stored fun live => ?_
  unfold F_ref05_Stored
  refine boxW_agg rfl ?_
  refine To.go ?_
  obtain ⟨T, hT⟩ : ∃ T, stored s = T := ⟨_, rfl⟩
  obtain ⟨w, hw⟩ : ∃ w, σ.next + 2 = w := ⟨_, rfl⟩
  rw [hT]
  refine loop1 (fun (j : Nat) (d : ByteArray) σ' => ∃ p, LoneR σ σ' w p ∧ d.size ≤ s.size ∧ p.2 + 50 * (d.size + 1) ≤ 50 * (s.size + 1) ∧ j = d.size + 1 ∧ storedF (d.size + 1) d p = T) (fun j => j) (s.size + 1) ⟨(0, 0), .new (by rw [hw, gS']) (by repeat (with_reducible first | assumption | exact Mem.Only.refl _ _ | exact Mem.Same.refl _ | refine Mem.Only.bump ?_ _ | refine Mem.Only.put ?_ (by simp) _ | refine Mem.Only.put ?_ (.inr (by first | omega | (simp only [Mem.next_bump, Mem.next_put]; omega))) _ | refine Mem.Same.bump ?_ _ | refine Mem.Same.put ?_ (by first | omega | (simp only [Mem.next_bump, Mem.next_put]; omega)) _)) (by omega) (by simp only [Mem.next_put, Mem.next_bump]; omega), Nat.le_refl _, by dsimp only; omega, rfl, hT⟩ ?_
  rintro j d' σ2 h
  obtain ⟨d, rfl⟩ : ∃ d : ByteArray, d = d' := ⟨_, rfl⟩
  obtain ⟨p, lone, hd1, hp, rfl, hT'⟩ := h
  unfold F_ref05_Stored_l1
  obtain ⟨n, hn⟩ : ∃ n, min d.size 65535 = n := ⟨_, rfl⟩
  rw [show imin ((d.size : Nat) : Int) 65535 = ((n : Nat) : Int) from by rw [← hn]; exact imin_nat _ 65535]
  show joinF _ _ _
  refine join1 (fun (x : Int) σ' => x = ((lastB n d : Nat) : Int) ∧ σ2.Same σ') ?_ ?_
  · refine ifD (fun h => ?_) (fun h => ?_)
    · refine ⟨?_, (Mem.Same.refl σ2).bump _⟩
      unfold lastB
      rw [if_pos (by omega)]; rfl
    · refine ⟨?_, (Mem.Same.refl σ2).bump _⟩
      unfold lastB
      rw [if_neg (by omega)]; rfl
  · rintro _ σ3 ⟨rfl, s3⟩
    unfold F_ref05_Stored_j1
    rw [hw]
    have hlast : lastB n d ≤ 1 := by unfold lastB; split <;> omega
    have hst2 := stB_two n d p (by omega)
    have hz1 := size_extract d 0 n
    have h1 := laP_two p (lastB n d : Nat) (n := 1) (by decide)
    have h2 := laP_two p (lastB n d : Nat) (n := 3) (by decide)
    rw [show ((3 : Nat) : Int) = 3 from rfl] at h2
    rw [show ((1 : Nat) : Int) = 1 from rfl] at h1
    obtain ⟨o, hwo, s20, st⟩ := (lone.same (s3.bump 3)).step
    refine callW_of (ref01_Writer_Bits hwo (by omega) (by omega) (by omega)) ?_
    rintro _ σ4 ⟨rfl, h4⟩
    have lone4 := st _ (laP p (lastB n d : Nat) 1) h4
    obtain ⟨o', hwo', s20', st'⟩ := (lone4.same ((Mem.Same.refl σ4).bump 2)).step
    refine callW_of (ref01_Writer_Bits hwo' (by rw [h1]; omega) (by omega) (by omega)) ?_
    rintro _ σ4 ⟨rfl, h4⟩
    have lone4 := st' _ (laP (laP p (lastB n d : Nat) 1) 0 2) h4
    rw [lay_head p hlast] at lone4
    refine To.go ?_
    refine quoN (m := 256) (by decide) (by omega) ?_
    refine To.go ?_
    refine remN (m := 256) (by decide) ?_
    refine iW_of (by omega) ?_
    refine To.go ?_
    refine quoN (m := 256) (by decide) (by omega) ?_
    refine iW_of (by omega) ?_
    refine To.go ?_
    refine To.go ?_
    refine bstr_bl (l := hd n) ?_ rfl ?_
    · rw [gS', bl_hd (by omega)]
      rw [show ((n / 256 : Nat) : Int) % 256 = ((n / 256 : Nat) : Int) from by omega, show (255 - ((n % 256 : Nat) : Int)) % 256 = ((255 - n % 256 : Nat) : Int) from by omega, show (255 - ((n / 256 : Nat) : Int)) % 256 = ((255 - n / 256 : Nat) : Int) from by omega, show ((n : Nat) : Int) % 256 = ((n % 256 : Nat) : Int) from by omega]
    obtain ⟨σ5, h5⟩ : ∃ σ5, σ5 = (σ4.bump 21).put (σ4.next + 14) (some (Blk.rw [AV.int IntKind.u8 (((n : Nat) : Int) % 256), AV.int IntKind.u8 (((n / 256 : Nat) : Int) % 256), AV.int IntKind.u8 ((255 - ((n % 256 : Nat) : Int)) % 256), AV.int IntKind.u8 ((255 - ((n / 256 : Nat) : Int)) % 256)])) := ⟨_, rfl⟩
    rw [← h5]
    have s5 : σ4.Same σ5 := by rw [h5]; repeat (with_reducible first | assumption | exact Mem.Only.refl _ _ | exact Mem.Same.refl _ | refine Mem.Only.bump ?_ _ | refine Mem.Only.put ?_ (by simp) _ | refine Mem.Only.put ?_ (.inr (by first | omega | (simp only [Mem.next_bump, Mem.next_put]; omega))) _ | refine Mem.Same.bump ?_ _ | refine Mem.Same.put ?_ (by first | omega | (simp only [Mem.next_bump, Mem.next_put]; omega)) _)
    clear h5
    obtain ⟨o5, hwo5, s05, st5⟩ := (lone4.same s5).step
    refine And.intro (show (0 : Int) ≤ 0 ∧ (0 : Int) ≤ (n : Nat) ∧ ((n : Nat) : Int) ≤ (d.size : Nat) by omega) ?_
    rw [Int.toNat_natCast, Int.toNat_zero]
    have h4' : (hdB n).size = 4 := rfl
    refine And.intro (show (hdB n).size + (d.extract 0 n).size ≤ _ by omega) ?_
    refine callW_of (ref01_Writer_Bytes (s := hdB n ++ d.extract 0 n) hwo5 (by rw [h2]; omega) (by rw [ByteArray.size_append]; omega)) ?_
    rintro _ σ6 ⟨rfl, h6⟩
    have lone6 : LoneR σ σ6 w (stB n d p) := by
      have := st5 _ (laS (laP p (lastB n d : Nat) 3) (hdB n ++ d.extract 0 n)) h6
      rw [← laS_laS] at this
      exact this
    refine And.intro (show (0 : Int) ≤ (n : Nat) ∧ ((n : Nat) : Int) ≤ (d.size : Nat) ∧ ((d.size : Nat) : Int) ≤ (d.size : Nat) by omega) ?_
    rw [Int.toNat_natCast, Int.toNat_natCast]
    have hz2 := size_extract d n d.size
    rw [Nat.min_self] at hz2
    by_cases hnd : n < d.size
    · refine ifF (by unfold lastB; rw [if_neg (by omega)]; decide) ?_
      obtain rfl : n = 65535 := by omega
      have hb : (stB 65535 d p).2 + 50 * ((d.extract 65535 d.size).size + 1) ≤ 50 * (s.size + 1) := by omega
      refine again ⟨(d.extract 65535 d.size).size + 1, ⟨stB 65535 d p, lone6.same ((Mem.Same.refl σ6).bump _), ?_, hb, rfl, ?_⟩, ?_⟩
      · show (d.extract 65535 d.size).size ≤ s.size
        omega
      · rw [← hT', storedF_succ hnd]
        exact (storedF_fuel (by omega)).symm
      · omega
    · obtain rfl : n = d.size := by omega
      refine ifT (by unfold lastB; rw [if_pos rfl]; rfl) ?_
      rw [storedF_last (by omega)] at hT'
      rw [hT'] at lone6
      obtain ⟨o7, hwo7, s07, _⟩ := (lone6.same ((Mem.Same.refl σ6).bump 9)).step
      refine callW_of (ref01_Writer_Text hwo7) ?_
      rintro _ σ8 ⟨rfl, s8⟩
      exact ⟨rfl, s07.trans s8⟩
end Go.Vit