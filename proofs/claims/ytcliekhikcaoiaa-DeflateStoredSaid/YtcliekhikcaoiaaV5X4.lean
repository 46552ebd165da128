/- Repeated numbers. -/
import Derived.Test.YtcliekhikcaoiaaV5X3
set_option linter.unusedVariables false
set_option linter.unusedSimpArgs false
set_option linter.unusedSimpArgs false
set_option maxRecDepth 20000
namespace Go.Vit
open Go.Proofs
def rp (v : Int) (s n : Nat) : List AV := ic (List.replicate s v) ++ ic (List.replicate (n - s) 0)
theorem rp_len {v : Int} {s n : Nat} (h : s ≤ n) : (rp v s n).length = n := by
  unfold rp; rw [List.length_append, ic_len, ic_len, List.length_replicate, List.length_replicate]; omega
theorem rp_all (v : Int) (n : Nat) : rp v n n = ic (List.replicate n v) := by
  unfold rp; rw [Nat.sub_self]; simp [ic]
theorem rp_copy {v : Int} {s m n : Nat} (h : s + m ≤ n) : setAt (rp v s n) s (ic (List.replicate m v)) = rp v (s + m) n := by
  have e : rp v s n = ic (List.replicate s v) ++ (ic (List.replicate m 0) ++ ic (List.replicate (n - (s + m)) 0)) := by
    unfold rp
    rw [← ic_append (List.replicate m 0), List.replicate_append_replicate, show m + (n - (s + m)) = n - s from by omega]
  have h1 := setAt_mid (ic (List.replicate m v)) (ic (List.replicate s v)) (ic (List.replicate m 0)) (ic (List.replicate (n - (s + m)) 0)) (by rw [ic_len, ic_len, List.length_replicate, List.length_replicate])
  rw [ic_len, List.length_replicate] at h1
  rw [e, h1, ← List.append_assoc, ← ic_append, List.replicate_append_replicate]
  rfl
theorem rp_front {v : Int} {s m n : Nat} (h : m ≤ s) : (rp v s n).take m = ic (List.replicate m v) := by
  unfold rp
  rw [List.take_append_of_le_length (by rw [ic_len, List.length_replicate]; exact h)]
  unfold ic
  rw [← List.map_take, List.take_replicate, Nat.min_eq_left h]
theorem slices_Repeat {b n : Nat} {v : Int} {c : Cap} {σ : Mem} (hg : σ.get b = some (.rw [.int .i64 v])) (hb : b < σ.next) (hn : 1 ≤ n) (hn2 : n ≤ 2 ^ 20) :
    ACalls PG n_slices_Repeat___int_int_ [.slice b 0 1 c, .int .i64 (n : Nat)] σ fun w σ' => RdX σ' w (List.replicate n v) ∧ (∀ b ∈ blkOf w, σ.next ≤ b ∧ b < σ'.next) ∧ σ.Same σ' := by
  refine ok_slices_Repeat___int_int_ fun live => ?_
  unfold F_slices_Repeat___int_int_
  refine joinI ?_
  refine ifF (by omega) ?_
  unfold F_slices_Repeat___int_int__j1
  refine To.go ?_
  refine To.go ?_
  refine To.go ?_
  rw [show ((1 : Nat) : Int) % 18446744073709551616 = 1 from rfl, show ((n : Nat) : Int) % 18446744073709551616 = (n : Nat) from by omega]
  refine callW_of (math_Mul (by omega) _) ?_
  rintro _ σ1 ⟨rfl, s1⟩
  replace s1 := s1.ob.bump 0
  refine tupW_of (x := .int .u64 0) rfl ?_
  refine To.go ?_
  refine tupW_of (x := .int .u64 (n : Nat)) rfl ?_
  refine To.go ?_
  refine ifF (by decide) ?_
  refine joinI ?_
  refine ifF (by omega) ?_
  unfold F_slices_Repeat___int_int__j3
  refine iW_of (by omega) ?_
  refine And.intro (by omega) ?_
  rw [Int.toNat_natCast]
  refine To.go ?_
  have s01 : σ.Same σ1 := ⟨by have := s1.next; simp only [Mem.next_bump] at this; omega, fun b hb => s1.get b (by simp only [Mem.next_bump]; omega)⟩
  have n1 := s01.next
  obtain ⟨σ2, h2⟩ : ∃ σ2, σ2 = σ1.bump 6 := ⟨_, rfl⟩
  rw [← h2]
  have n2 : σ2.next = σ1.next + 6 := by rw [h2]; rfl
  have s2 : σ1.Same σ2 := by rw [h2]; exact (Mem.Same.refl σ1).bump _
  clear h2
  obtain ⟨nb, hnb⟩ : ∃ nb, σ2.next + 2 = nb := ⟨_, rfl⟩
  rw [hnb]
  obtain ⟨σ3, h3⟩ : ∃ σ3, σ3 = ((σ2.bump 4).put nb (some (.rw (repl n [.int .i64 0])))) := ⟨_, rfl⟩
  rw [← h3]
  have s3 : σ.Same σ3 := by rw [h3]; exact Mem.Same.put ((s01.trans s2).bump _) (by omega) _
  have n3 : σ3.next = σ2.next + 4 := by rw [h3]; rfl
  have g3 : σ3.get nb = some (.rw (rp v 0 n)) := by
    rw [h3, gS']
    unfold rp
    rw [repl_zero]
    have : arr (fun _ => 0) n = List.replicate n 0 := by
      unfold arr
      rw [List.map_const', List.length_range]
    rw [this, Nat.sub_zero]; rfl
  clear h3
  have g3b : σ3.get b = some (.rw [.int .i64 v]) := (s3.get b hb).trans hg
  have hmin : Nat.min 1 n = 1 := Nat.min_eq_left hn
  -- the first number
  have first : ∀ K : Int → Mem → Prop, K 1 ((σ3.bump 4).put nb (some (.rw (rp v 1 n)))) → cpW 1 (σ3.bump 4) (.slice nb 0 n (.ex n)) (.slice b 0 1 c) K := by
    intro K hK
    show optW ((σ3.bump 4).cells b 0 (Nat.min 1 n * 1)) _
    rw [hmin]
    refine opt (v := [.int .i64 v]) ?_ ?_
    · rw [Mem.cells_of (gB g3b)]; rfl
    · refine ⟨fun h => absurd h (by decide), fun _ => ?_⟩
      refine opt (gB g3) ⟨⟨by rw [rp_len (by omega)]; simp; omega, rfl⟩, ?_⟩
      have := rp_copy (v := v) (s := 0) (m := 1) (n := n) (by omega)
      rw [show (0 : Nat) + 1 = 1 from rfl] at this
      rw [show ([AV.int .i64 v] : List AV) = ic (List.replicate 1 v) from rfl, this]
      exact hK
  refine first _ ?_
  refine loop1 (fun (s : Nat) (y : Int) σ' => y = s ∧ 1 ≤ s ∧ s ≤ n ∧ σ.Same σ' ∧ nb < σ'.next ∧ σ'.get nb = some (.rw (rp v s n))) (fun s => n - s) 1 ⟨rfl, Nat.le_refl _, hn, Mem.Same.put (s3.bump _) (by omega) _, by simp only [Mem.next_put, Mem.next_bump]; omega, gS'⟩ ?_
  rintro s _ σ4 ⟨rfl, hs1, hs, s4, n4, g4⟩
  unfold F_slices_Repeat___int_int__l2
  rw [Int.toNat_natCast, hnb]
  refine To.go ?_
  refine ifD (fun hlt => ?_) (fun hge => ?_)
  · refine And.intro ⟨rfl, show (0 : Int) ≤ ((s : Nat) : Int) by omega, show ((s : Nat) : Int) ≤ ((n : Nat) : Int) by omega, show ((n : Nat) : Int) ≤ ((n : Nat) : Int) by omega⟩ ?_
    refine And.intro ⟨rfl, Int.le_refl _, show (0 : Int) ≤ ((s : Nat) : Int) by omega, show ((s : Nat) : Int) ≤ ((n : Nat) : Int) by omega⟩ ?_
    show cpW 1 (σ4.bump 14) (.slice nb (0 + ((s : Nat) : Int).toNat * 1) (((n : Nat) : Int).toNat - ((s : Nat) : Int).toNat) _) (.slice nb (0 + (0 : Int).toNat * 1) (((s : Nat) : Int).toNat - (0 : Int).toNat) _) _
    rw [Int.toNat_natCast, Int.toNat_natCast, Int.toNat_zero, Nat.zero_mul, Nat.sub_zero, Nat.zero_add, Nat.mul_one, Nat.add_zero]
    show optW ((σ4.bump 14).cells nb 0 (Nat.min s (n - s) * 1)) _
    obtain ⟨m, hm⟩ : ∃ m, Nat.min s (n - s) = m := ⟨_, rfl⟩
    have hm1 : m ≤ s ∧ m ≤ n - s ∧ 1 ≤ m := by
      rw [← hm]
      show min s (n - s) ≤ s ∧ min s (n - s) ≤ n - s ∧ 1 ≤ min s (n - s)
      omega
    rw [hm, Nat.mul_one]
    refine opt (v := ic (List.replicate m v)) ?_ ?_
    · rw [Mem.cells_of (gB g4), if_pos (by rw [rp_len hs]; omega), List.drop_zero, rp_front hm1.1]
    · refine ⟨fun h => absurd h (by omega), fun _ => ?_⟩
      refine opt (gB g4) ⟨⟨by rw [rp_len hs, ic_len, List.length_replicate]; omega, ic_one _⟩, ?_⟩
      rw [rp_copy (by omega)]
      refine iW_of (by omega) ?_
      exact again ⟨s + m, ⟨by omega, by omega, by omega, Mem.Same.put (s4.bump _) (by omega) _, by simp only [Mem.next_put, Mem.next_bump]; omega, gS'⟩, by omega⟩
  · obtain rfl : s = n := by omega
    rw [rp_all] at g4
    refine ⟨⟨nb, by rw [List.length_replicate], gB g4⟩, fun b' hb' => ?_, s4.bump _⟩
    simp only [blkOf, List.mem_singleton] at hb'
    subst hb'
    simp only [Mem.next_bump]
    omega
end Go.Vit
