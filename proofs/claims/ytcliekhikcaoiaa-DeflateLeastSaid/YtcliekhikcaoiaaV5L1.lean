/- The laws DeflateStored, DeflateFixed, DeflateLeast. -/
import Derived.Test.YtcliekhikcaoiaaV5LA
set_option linter.unusedVariables false
set_option linter.unusedSimpArgs false
set_option linter.unusedSimpArgs false
set_option maxRecDepth 20000
set_option maxRecDepth 20000
namespace Go.Vit
open Go.Proofs
theorem best2_le (a b : ByteArray) : (best2 a b).size ≤ a.size ∧ (best2 a b).size ≤ b.size := by
  unfold best2; split <;> omega
theorem best2_or (a b : ByteArray) : best2 a b = a ∨ best2 a b = b := by
  unfold best2; split <;> simp
theorem law05_DeflateLeast (σ : Mem) (l : List AV) (_ : σ.Ro) (hw : Wts PG σ Try.f8.params.toList l) : ACalls PG n_law05_DeflateLeast l σ fun v _ => isTrue v := by
  obtain ⟨s, rfl, hs⟩ := args_s (show Wts PG σ [9] l by rw [Try.params8] at hw; exact hw)
  clear hw
  refine ok_law05_DeflateLeast fun live => ?_
  unfold F_law05_DeflateLeast
  refine callW_of (law05_few s _) ?_
  rintro _ σ1 ⟨rfl, s1⟩
  refine To.go ?_
  by_cases h : (s.size : Int) ≤ 10000
  · rw [decide_eq_true h]
    refine ifF (p := False) id ?_
    refine callW_of (deflate_Deflate (s := s) (by omega)) ?_
    rintro _ σ2 ⟨⟨k, hk, rfl⟩, s2⟩
    refine To.go ?_
    refine callW_of (deflate_Stored (s := s) (by omega)) ?_
    rintro _ σ3 ⟨rfl, s3⟩
    refine To.go ?_
    refine callW_of (deflate_Fixed (s := s) (by omega)) ?_
    rintro _ σ4 ⟨⟨k', hk', rfl⟩, s4⟩
    obtain rfl := done_unique hk hk'
    refine To.go ?_
    refine callW_of (deflate_Dynamic (s := s) (by omega)) ?_
    rintro _ σ5 ⟨⟨k', hk', rfl⟩, s5⟩
    obtain rfl := done_unique hk hk'
    refine To.go ?_
    obtain ⟨A, hA⟩ : ∃ A, text (stored s).1 (stored s).2 = A := ⟨_, rfl⟩
    obtain ⟨B, hB⟩ : ∃ B, text (fixedP (toks s k)).1 (fixedP (toks s k)).2 = B := ⟨_, rfl⟩
    obtain ⟨C, hC⟩ : ∃ C, text (dynP (toks s k)).1 (dynP (toks s k)).2 = C := ⟨_, rfl⟩
    have e : best3 s k = best2 (best2 A B) C := by unfold best3 tx; rw [hA, hB, hC]
    rw [hA, hB, hC, e]
    have l1 := best2_le (best2 A B) C
    have l2 := best2_le A B
    have o1 := best2_or (best2 A B) C
    have o2 := best2_or A B
    obtain ⟨D, hD⟩ : ∃ D, best2 (best2 A B) C = D := ⟨_, rfl⟩
    rw [hD] at l1 o1 ⊢
    have hor : D = A ∨ D = B ∨ D = C := by
      rcases o1 with h | h
      · rcases o2 with h2 | h2
        · exact .inl (h.trans h2)
        · exact .inr (.inl (h.trans h2))
      · exact .inr (.inr h)
    refine ifT (by omega) ?_
    refine ifT (by omega) ?_
    refine ifT (by omega) ?_
    refine ifD (fun h1 => ?_) (fun h1 => ?_)
    · refine callW_of (law05_awake _) ?_
      rintro v σ6 ⟨rfl, _⟩
      exact rfl
    · refine ifD (fun h2 => ?_) (fun h2 => ?_)
      · refine callW_of (law05_awake _) ?_
        rintro v σ6 ⟨rfl, _⟩
        exact rfl
      · refine ifT ?_ ?_
        · rcases hor with h | h | h
          · exact absurd h h1
          · exact absurd h h2
          · exact h
        · refine callW_of (law05_awake _) ?_
          rintro v σ6 ⟨rfl, _⟩
          exact rfl
  · rw [decide_eq_false h]
    refine ifT (p := True) trivial ?_
    refine callW_of (law05_awake _) ?_
    rintro v σ2 ⟨rfl, _⟩
    exact rfl
end Go.Vit
