/- The law HuffReads. -/
import Derived.Test.YthkehkmnfaaagaaVS9
set_option linter.unusedVariables false
set_option linter.unusedSimpArgs false
set_option linter.unusedSimpArgs false
set_option maxRecDepth 20000
namespace Go.Vit
open Go.Proofs
theorem args_Ls {σ : Mem} {l : List AV} (hw : Wts PG σ Try.f9.params.toList l) : ∃ a L s, l = [a, .str s] ∧ RdS 1 σ a (ic L) L.length ∧ L.length ≤ 2 ^ 44 ∧ s.size ≤ reachBytes := by
  rw [Try.params9] at hw
  obtain ⟨a, r, L, rfl, hw, ha, hn, hL⟩ := Wts.ints (e := 3) (by kernel_rfl) (by kernel_rfl) (by kernel_rfl) (by kernel_rfl) hw
  obtain ⟨s, r, rfl, hs, hw⟩ := hw.str (by kernel_rfl)
  obtain rfl := hw.nil_inv
  exact ⟨a, L, s, rfl, ha, hn, hs⟩
theorem law02_HuffReads (σ : Mem) (l : List AV) (_ : σ.Ro) (hw : Wts PG σ Try.f9.params.toList l) : ACalls PG n_law02_HuffReads l σ fun v _ => isTrue v := by
  obtain ⟨a, L, s, rfl, ha, hn, hs⟩ := args_Ls hw
  clear hw
  refine ok_law02_HuffReads fun live => ?_
  unfold F_law02_HuffReads
  have hla := ha.lt live
  refine callW_of (huff_Make (σ := σ.bump 8) (ha.keep fun _ _ => rfl) hn) ?_
  rintro _ σ1 ⟨p, rfl, p1, p2, s1⟩
  replace s1 := s1.ob
  repeat (first | refine To.go ?_ | with_reducible refine And.intro (by first | omega | exact ⟨rfl, rfl⟩) ?_ | ((with_reducible apply opt); (· (first | with_reducible assumption | rfl))) | ((with_reducible apply ldrw); (· (first | with_reducible assumption | (simp (disch := omega) only [go_sem, *]; try rfl))); (· (first | with_reducible assumption | rfl))) | ((with_reducible apply ldro); (· (first | with_reducible assumption | (simp (disch := omega) only [go_sem, *]; try rfl))); (· (first | with_reducible assumption | rfl))) | ((with_reducible apply st1); (· (first | with_reducible assumption | (simp (disch := omega) only [go_sem, *]; try rfl))); (· simp); (· rfl)) | with_reducible refine ifT rfl ?_ | with_reducible refine ifF (not_not_intro rfl) ?_ | with_reducible refine ifT (by omega) ?_ | with_reducible refine ifF (by omega) ?_)
  refine callW_of (ref02_Make (σ := σ1.bump 7) (ha.keep fun b hb => s1.get b (hla b hb)) hn) ?_
  rintro _ σ2 ⟨q, rfl, q1, q2, s2⟩
  have n2 := s2.next
  simp only [Mem.next_bump] at n2 q2
  replace s2 := s2.ob
  repeat (first | refine To.go ?_ | with_reducible refine And.intro (by first | omega | exact ⟨rfl, rfl⟩) ?_ | ((with_reducible apply opt); (· (first | with_reducible assumption | rfl))) | ((with_reducible apply ldrw); (· (first | with_reducible assumption | (simp (disch := omega) only [go_sem, *]; try rfl))); (· (first | with_reducible assumption | rfl))) | ((with_reducible apply ldro); (· (first | with_reducible assumption | (simp (disch := omega) only [go_sem, *]; try rfl))); (· (first | with_reducible assumption | rfl))) | ((with_reducible apply st1); (· (first | with_reducible assumption | (simp (disch := omega) only [go_sem, *]; try rfl))); (· simp); (· rfl)) | with_reducible refine ifT rfl ?_ | with_reducible refine ifF (not_not_intro rfl) ?_ | with_reducible refine ifT (by omega) ?_ | with_reducible refine ifF (by omega) ?_)
  by_cases hc : chk L = 0
  · obtain ⟨hL, t, rfl, ht⟩ := p2 hc
    obtain ⟨_, u, rfl, hu⟩ := q2 hc
    repeat (first | refine To.go ?_ | with_reducible refine And.intro (by first | omega | exact ⟨rfl, rfl⟩) ?_ | ((with_reducible apply opt); (· (first | with_reducible assumption | rfl))) | ((with_reducible apply ldrw); (· (first | with_reducible assumption | (simp (disch := omega) only [go_sem, *]; try rfl))); (· (first | with_reducible assumption | rfl))) | ((with_reducible apply ldro); (· (first | with_reducible assumption | (simp (disch := omega) only [go_sem, *]; try rfl))); (· (first | with_reducible assumption | rfl))) | ((with_reducible apply st1); (· (first | with_reducible assumption | (simp (disch := omega) only [go_sem, *]; try rfl))); (· simp); (· rfl)) | with_reducible refine ifT rfl ?_ | with_reducible refine ifF (not_not_intro rfl) ?_ | with_reducible refine ifT (by omega) ?_ | with_reducible refine ifF (by omega) ?_)
    refine callW_of (bits_Read s _) ?_
    rintro _ σ3 ⟨r, rfl, r1, r2, er, s3⟩
    have n3 := s3.next
    simp only [Mem.next_bump] at n3 r1
    replace s3 := s3.ob
    refine To.go ?_
    refine To.go ?_
    obtain ⟨x, hx⟩ : ∃ x, σ3.next + 2 = x := ⟨_, rfl⟩
    rw [hx]
    have hs' := hs
    have ht2 := (ht.b).keep fun b h1 h2 => s2.get b h2
    have nt : σ1.next ≤ σ2.next := by omega
    obtain ⟨σ4, h4⟩ : ∃ σ4, σ4 = (σ3.bump 4).put x (some (.rw [.str s, .int .i64 0])) := ⟨_, rfl⟩
    rw [← h4]
    have n4 : σ4.next = σ3.next + 4 := by rw [h4]; rfl
    have e4 : σ4.get x = some (rdR s 0) := by rw [h4, gS']; rfl
    have s34 : σ3.Same σ4 := by rw [h4]; repeat (with_reducible first | assumption | exact Mem.Only.refl _ _ | exact Mem.Same.refl _ | refine Mem.Only.bump ?_ _ | refine Mem.Only.put ?_ (by simp) _ | refine Mem.Only.put ?_ (.inr (by first | omega | (simp only [Mem.next_bump, Mem.next_put]; omega))) _ | refine Mem.Same.bump ?_ _ | refine Mem.Same.put ?_ (by first | omega | (simp only [Mem.next_bump, Mem.next_put]; omega)) _)
    have er4 : σ4.get r = some (rdP s 0) := (s34.get r r2).trans er
    have s24 := s3.trans s34
    clear h4
    refine loop1 (fun (i : Nat) (y : Int) σ' => y = i ∧ i ≤ 100 ∧ σ2.Same σ' ∧ σ4.next ≤ σ'.next ∧ ∃ at', at' ≤ 8 * s.size ∧ σ'.get r = some (rdP s at') ∧ σ'.get x = some (rdR s at')) (fun i => 100 - i) 0 ⟨rfl, by omega, s24.bump _, by simp only [Mem.next_bump]; omega, 0, by omega, er4, e4⟩ ?_
    clear er4 e4 s24 s34 er
    rintro i _ σ5 ⟨rfl, hi, s5, n5, at', hat, e5, x5⟩
    unfold F_law02_HuffReads_l1
    rw [hx]
    refine ifD (fun hlt => ?_) (fun hge => ?_)
    · refine callW_of (huff_Next (σ := σ5.bump 10) hL (ht2.keep fun b h1 h2 => s5.get b (by omega)) (by simp only [Mem.next_bump]; omega) (.inr (by omega)) hs e5 hat) ?_
      rintro _ σ6 ⟨rfl, e6, o6⟩
      have n6 := o6.next
      simp only [Mem.next_bump] at n6
      have s6 : σ2.Same σ6 := ⟨by have := s5.next; omega, fun b hb => (o6.get b (by simp only [Mem.next_bump]; omega) (by simp; omega)).trans (s5.get b hb)⟩
      have x6 : σ6.get x = some (rdR s at') := (o6.get x (by simp only [Mem.next_bump]; omega) (by simp; omega)).trans x5
      have hle := dec_le (L := L) (s := s) (mostN L) 1 0 hat
      obtain ⟨D, hD⟩ : ∃ D, dec L s (mostN L) 1 0 at' = D := ⟨_, rfl⟩
      rw [hD] at e6 hle ⊢
      repeat (first | refine To.go ?_ | with_reducible refine And.intro (by first | omega | exact ⟨rfl, rfl⟩) ?_ | ((with_reducible apply opt); (· (first | with_reducible assumption | rfl))) | ((with_reducible apply ldrw); (· (first | with_reducible assumption | (simp (disch := omega) only [go_sem, *]; try rfl))); (· (first | with_reducible assumption | rfl))) | ((with_reducible apply ldro); (· (first | with_reducible assumption | (simp (disch := omega) only [go_sem, *]; try rfl))); (· (first | with_reducible assumption | rfl))) | ((with_reducible apply st1); (· (first | with_reducible assumption | (simp (disch := omega) only [go_sem, *]; try rfl))); (· simp); (· rfl)) | with_reducible refine ifT rfl ?_ | with_reducible refine ifF (not_not_intro rfl) ?_ | with_reducible refine ifT (by omega) ?_ | with_reducible refine ifF (by omega) ?_)
      refine callW_of (ref02_Next (σ := σ6.bump 8) hc (hu.keep fun b h1 h2 => s6.get b (by omega)) (by have := s6.next; simp only [Mem.next_bump]; omega) (.inr (by omega)) hs x6 hat) ?_
      rintro _ σ7 ⟨rfl, e7, o7⟩
      have n7 := o7.next
      simp only [Mem.next_bump] at n7
      have s7 : σ2.Same σ7 := ⟨by have := s6.next; omega, fun b hb => (o7.get b (by simp only [Mem.next_bump]; have := s6.next; omega) (by simp; omega)).trans (s6.get b hb)⟩
      have r7 : σ7.get r = some (rdP s D.2.2) := (o7.get r (by simp only [Mem.next_bump]; omega) (by simp; omega)).trans e6
      rw [hD] at e7 ⊢
      repeat (first | refine To.go ?_ | with_reducible refine And.intro (by first | omega | exact ⟨rfl, rfl⟩) ?_ | ((with_reducible apply opt); (· (first | with_reducible assumption | rfl))) | ((with_reducible apply ldrw); (· (first | with_reducible assumption | (simp (disch := omega) only [go_sem, *]; try rfl))); (· (first | with_reducible assumption | rfl))) | ((with_reducible apply ldro); (· (first | with_reducible assumption | (simp (disch := omega) only [go_sem, *]; try rfl))); (· (first | with_reducible assumption | rfl))) | ((with_reducible apply st1); (· (first | with_reducible assumption | (simp (disch := omega) only [go_sem, *]; try rfl))); (· simp); (· rfl)) | with_reducible refine ifT rfl ?_ | with_reducible refine ifF (not_not_intro rfl) ?_ | with_reducible refine ifT (by omega) ?_ | with_reducible refine ifF (by omega) ?_)
      refine callW_of (bits_Reader_Left (σ := σ7.bump 15) hs r7 hle) ?_
      rintro _ σ8 ⟨rfl, s8⟩
      replace s8 := s8.ob
      repeat (first | refine To.go ?_ | with_reducible refine And.intro (by first | omega | exact ⟨rfl, rfl⟩) ?_ | ((with_reducible apply opt); (· (first | with_reducible assumption | rfl))) | ((with_reducible apply ldrw); (· (first | with_reducible assumption | (simp (disch := omega) only [go_sem, *]; try rfl))); (· (first | with_reducible assumption | rfl))) | ((with_reducible apply ldro); (· (first | with_reducible assumption | (simp (disch := omega) only [go_sem, *]; try rfl))); (· (first | with_reducible assumption | rfl))) | ((with_reducible apply st1); (· (first | with_reducible assumption | (simp (disch := omega) only [go_sem, *]; try rfl))); (· simp); (· rfl)) | with_reducible refine ifT rfl ?_ | with_reducible refine ifF (not_not_intro rfl) ?_ | with_reducible refine ifT (by omega) ?_ | with_reducible refine ifF (by omega) ?_)
      refine callW_of (ref01_Reader_Left (σ := σ8) hs ((s8.get x (by omega)).trans e7) hle) ?_
      rintro _ σ9 ⟨rfl, s9⟩
      have s79 := s8.trans s9
      repeat (first | refine To.go ?_ | with_reducible refine And.intro (by first | omega | exact ⟨rfl, rfl⟩) ?_ | ((with_reducible apply opt); (· (first | with_reducible assumption | rfl))) | ((with_reducible apply ldrw); (· (first | with_reducible assumption | (simp (disch := omega) only [go_sem, *]; try rfl))); (· (first | with_reducible assumption | rfl))) | ((with_reducible apply ldro); (· (first | with_reducible assumption | (simp (disch := omega) only [go_sem, *]; try rfl))); (· (first | with_reducible assumption | rfl))) | ((with_reducible apply st1); (· (first | with_reducible assumption | (simp (disch := omega) only [go_sem, *]; try rfl))); (· simp); (· rfl)) | with_reducible refine ifT rfl ?_ | with_reducible refine ifF (not_not_intro rfl) ?_ | with_reducible refine ifT (by omega) ?_ | with_reducible refine ifF (by omega) ?_)
      exact again ⟨i + 1, ⟨by omega, by omega, (s7.trans s79).bump _, by have := s79.next; simp only [Mem.next_bump]; omega, D.2.2, hle, (s79.get r (by omega)).trans r7, (s79.get x (by omega)).trans e7⟩, by omega⟩
    · refine callW_of (law02_awake _) ?_
      rintro v σ8 ⟨rfl, rfl⟩
      repeat (first | refine To.go ?_ | with_reducible refine And.intro (by first | omega | exact ⟨rfl, rfl⟩) ?_ | ((with_reducible apply opt); (· (first | with_reducible assumption | rfl))) | ((with_reducible apply ldrw); (· (first | with_reducible assumption | (simp (disch := omega) only [go_sem, *]; try rfl))); (· (first | with_reducible assumption | rfl))) | ((with_reducible apply ldro); (· (first | with_reducible assumption | (simp (disch := omega) only [go_sem, *]; try rfl))); (· (first | with_reducible assumption | rfl))) | ((with_reducible apply st1); (· (first | with_reducible assumption | (simp (disch := omega) only [go_sem, *]; try rfl))); (· simp); (· rfl)) | with_reducible refine ifT rfl ?_ | with_reducible refine ifF (not_not_intro rfl) ?_ | with_reducible refine ifT (by omega) ?_ | with_reducible refine ifF (by omega) ?_)
      exact rfl
  · rw [p1 hc, q1 hc]
    repeat (first | refine To.go ?_ | with_reducible refine And.intro (by first | omega | exact ⟨rfl, rfl⟩) ?_ | ((with_reducible apply opt); (· (first | with_reducible assumption | rfl))) | ((with_reducible apply ldrw); (· (first | with_reducible assumption | (simp (disch := omega) only [go_sem, *]; try rfl))); (· (first | with_reducible assumption | rfl))) | ((with_reducible apply ldro); (· (first | with_reducible assumption | (simp (disch := omega) only [go_sem, *]; try rfl))); (· (first | with_reducible assumption | rfl))) | ((with_reducible apply st1); (· (first | with_reducible assumption | (simp (disch := omega) only [go_sem, *]; try rfl))); (· simp); (· rfl)) | with_reducible refine ifT rfl ?_ | with_reducible refine ifF (not_not_intro rfl) ?_ | with_reducible refine ifT (by omega) ?_ | with_reducible refine ifF (by omega) ?_)
    refine callW_of (law02_awake _) ?_
    rintro v σ8 ⟨rfl, rfl⟩
    repeat (first | refine To.go ?_ | with_reducible refine And.intro (by first | omega | exact ⟨rfl, rfl⟩) ?_ | ((with_reducible apply opt); (· (first | with_reducible assumption | rfl))) | ((with_reducible apply ldrw); (· (first | with_reducible assumption | (simp (disch := omega) only [go_sem, *]; try rfl))); (· (first | with_reducible assumption | rfl))) | ((with_reducible apply ldro); (· (first | with_reducible assumption | (simp (disch := omega) only [go_sem, *]; try rfl))); (· (first | with_reducible assumption | rfl))) | ((with_reducible apply st1); (· (first | with_reducible assumption | (simp (disch := omega) only [go_sem, *]; try rfl))); (· simp); (· rfl)) | with_reducible refine ifT rfl ?_ | with_reducible refine ifF (not_not_intro rfl) ?_ | with_reducible refine ifT (by omega) ?_ | with_reducible refine ifF (by omega) ?_)
    exact rfl
end Go.Vit
