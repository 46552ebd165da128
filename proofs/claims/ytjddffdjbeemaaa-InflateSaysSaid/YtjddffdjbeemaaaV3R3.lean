/- The document's fixed lengths; stored blocks. -/
import Derived.Test.YtjddffdjbeemaaaV3R2
set_option linter.unusedVariables false
set_option linter.unusedSimpArgs false
set_option linter.unusedSimpArgs false
set_option maxRecDepth 20000
namespace Go.Vit
open Go.Proofs
theorem arr_succ' (f : Nat → Int) (n : Nat) : arr f (n + 1) = arr f n ++ [f n] := by
  unfold arr
  rw [List.range_succ, List.map_append]; rfl
theorem ref03_Fixed (σ : Mem) : ACalls PG n_ref03_Fixed [] σ fun w σ' => ∃ a b, w = .tup [a, b] ∧ RdO 1 σ' a (ic fixL) fixL.length ∧ RdO 1 σ' b (ic fixD) fixD.length ∧ (∀ z ∈ blkOf a ++ blkOf b, σ.next ≤ z ∧ z < σ'.next) ∧ σ.Same σ' := by
  refine ok_ref03_Fixed fun live => ?_
  unfold F_ref03_Fixed
  refine loop2 (fun (i : Nat) (u : AV) (y : Int) σ' => y = i ∧ i ≤ 288 ∧ Own 1 σ σ' u (ic (arr fixF i)) i ∧ σ.Same σ') (fun i => 288 - i) 0 ⟨rfl, by omega, Own.nil 1 _ _, (Mem.Same.refl σ).bump _⟩ ?_
  rintro i u _ σ1 ⟨rfl, hi, own, s1⟩
  unfold F_ref03_Fixed_l1
  have step : ∀ (z : Int) (k nb : Nat) (K : AV → Mem → Prop), i < 288 → z = fixF i → nb + 2 ≤ k → (∀ u' σ', Own 1 σ σ' u' (ic (arr fixF (i + 1))) (i + 1) → σ.Same σ' → K u' σ') →
      newW (σ1.bump k) (σ1.next + nb) (.rw [.int .i64 z]) fun σ8 => apW 1 8 (σ1.next + nb + 1) σ8 u (.slice (σ1.next + nb) 0 1 (.ex 1)) K := by
    rintro z k nb K hil rfl hnb hK
    refine To.go ?_
    refine own.push (m := 1) (c := ic [fixF i]) s1 rfl (by omega) (by omega) (by omega) rfl rfl (ic_one _) (by omega) ?_ (by simp only [Mem.next_put, Mem.next_bump]; omega)
    intro v' σ' own' s' _ _ _
    rw [← ic_append, ← arr_succ'] at own'
    exact hK v' σ' own' s'
  refine ifD (fun hlt => ?_) (fun hge => ?_)
  · have hil : i < 288 := by omega
    have fin : ∀ (u' : AV) (σ' : Mem), Own 1 σ σ' u' (ic (arr fixF (i + 1))) (i + 1) → σ.Same σ' → iW ((i : Int) + 1) fun v6 => (fun (x1 : AV) (x2 : Int) (σ_1 : Mem) => Again (∃ j : Nat, (x2 = j ∧ j ≤ 288 ∧ Own 1 σ σ_1 x1 (ic (arr fixF j)) j ∧ σ.Same σ_1) ∧ 288 - j < 288 - i)) u' v6 (σ'.bump 3) := by
      intro u' σ' o' s'
      refine iW_of (by omega) ?_
      exact again ⟨i + 1, ⟨by omega, by omega, o'.same ((Mem.Same.refl σ').bump 3), s'.bump _⟩, by omega⟩
    refine ifD (fun h1 => ?_) (fun h1 => ?_)
    · refine joinI ?_
      refine step 8 13 10 _ hil (by unfold fixF; rw [if_pos (by omega)]) (by omega) ?_
      intro u' σ' o' s'
      unfold F_ref03_Fixed_j1
      exact fin u' σ' o' s'
    refine joinI ?_
    refine ifD (fun h2 => ?_) (fun h2 => ?_)
    · refine step 8 13 10 _ hil (by unfold fixF; rw [if_pos (by omega)]) (by omega) ?_
      intro u' σ' o' s'
      unfold F_ref03_Fixed_j2
      exact fin u' σ' o' s'
    refine joinI ?_
    refine ifD (fun h3 => ?_) (fun h3 => ?_)
    · refine step 9 16 13 _ hil (by unfold fixF; rw [if_neg (by omega), if_pos (by omega)]) (by omega) ?_
      intro u' σ' o' s'
      unfold F_ref03_Fixed_j3 F_ref03_Fixed_j2
      exact fin u' σ' o' s'
    · refine step 7 16 13 _ hil (by unfold fixF; rw [if_neg (by omega), if_neg (by omega)]) (by omega) ?_
      intro u' σ' o' s'
      unfold F_ref03_Fixed_j3 F_ref03_Fixed_j2
      exact fin u' σ' o' s'
  · obtain rfl : i = 288 := by omega
    rw [← fixL_eq] at own
    clear step hge hi
    refine loop2 (fun (i : Nat) (w : AV) (y : Int) σ' => y = i ∧ i ≤ 32 ∧ Own 1 σ1 σ' w (ic (arr (fun _ => 5) i)) i ∧ σ1.Same σ') (fun i => 32 - i) 0 ⟨rfl, by omega, Own.nil 1 _ _, (Mem.Same.refl σ1).bump _⟩ ?_
    rintro i w _ σ2 ⟨rfl, hi, own2, s2⟩
    unfold F_ref03_Fixed_l2
    refine ifD (fun hlt => ?_) (fun hge => ?_)
    · refine To.go ?_
      refine own2.push (m := 1) (c := ic [5]) s2 rfl (by omega) (by omega) (by omega) rfl rfl (ic_one _) (by omega) ?_ (by simp only [Mem.next_put, Mem.next_bump]; omega)
      intro v' σ' own' s' _ _ _
      rw [← ic_append, ← arr_succ' (fun _ => (5 : Int))] at own'
      refine iW_of (by omega) ?_
      exact again ⟨i + 1, ⟨by omega, by omega, own'.same ((Mem.Same.refl σ').bump 3), s'.bump _⟩, by omega⟩
    · obtain rfl : i = 32 := by omega
      have n1 := s1.next
      have n2 := s2.next
      refine ⟨u, w, rfl, ?_, ?_, ?_, (s1.trans s2).bump _⟩
      · exact (own.same (s2.bump 6)).1.rdO
      · exact (own2.same ((Mem.Same.refl σ2).bump 6)).1.rdO
      · intro z hz
        simp only [Mem.next_bump]
        rcases List.mem_append.1 hz with h | h
        · have := own.2 z h; omega
        · have := own2.2 z h; omega
end Go.Vit
