/- A row, two items at a time. -/
import Derived.Test.YtcliekhikcaoiaaV5K
set_option linter.unusedVariables false
set_option linter.unusedSimpArgs false
set_option linter.unusedSimpArgs false
set_option maxRecDepth 20000
namespace Go.Vit
open Go.Proofs
theorem callvY_one {P : Program} {b : Nat} {T : YT} {args : List AV} {σ : Mem} {K K' : AV → Mem → Prop} (h : T args σ K') (hk : ∀ v σ', K' v σ' → K v σ') : callvY P (oneY b T) (.yld b) args σ K := by
  have e : oneY b T b = some T := by unfold oneY; rw [if_pos rfl]
  unfold callvY
  dsimp only
  rw [e]
  exact ⟨K', h, hk⟩
theorem slices_Chunk {v : AV} {σ : Mem} (hv : v.one = true) : ACalls PG n_slices_Chunk___huff_item_huff_item_ [v, .int .i64 2] σ fun w σ' => ∃ p q, w = .func n_slices_Chunk___huff_item_huff_item__1 [.ptr p 0, .ptr q 0] ∧ σ'.get p = some (.rw [v]) ∧ σ'.get q = some (.rw [.int .i64 2]) ∧ (σ.next ≤ p ∧ p < σ'.next) ∧ (σ.next ≤ q ∧ q < σ'.next) ∧ σ.Same σ' := by
  refine ok_slices_Chunk___huff_item_huff_item_ fun live => ?_
  unfold F_slices_Chunk___huff_item_huff_item_
  rw [one_cells hv]
  refine boxW_one hv ?_
  refine To.go ?_
  refine To.go ?_
  obtain ⟨σ1, h1⟩ : ∃ σ1, σ1 = (((σ.bump 3).put σ.next (some (.rw [v]))).put (σ.next + 1) (some (.rw [.int .i64 2]))) := ⟨_, rfl⟩
  rw [← h1]
  have s1 : σ.Same σ1 := by rw [h1]; repeat (with_reducible first | assumption | exact Mem.Only.refl _ _ | exact Mem.Same.refl _ | refine Mem.Only.bump ?_ _ | refine Mem.Only.put ?_ (by simp) _ | refine Mem.Only.put ?_ (.inr (by first | omega | (simp only [Mem.next_bump, Mem.next_put]; omega))) _ | refine Mem.Same.bump ?_ _ | refine Mem.Same.put ?_ (by first | omega | (simp only [Mem.next_bump, Mem.next_put]; omega)) _)
  have n1 : σ1.next = σ.next + 3 := by rw [h1]; rfl
  have e1 : σ1.get σ.next = some (.rw [v]) := by rw [h1, Mem.get_put_ne _ (by omega), gS']
  have e2 : σ1.get (σ.next + 1) = some (.rw [.int .i64 2]) := by rw [h1, gS']
  clear h1
  refine To.go ?_
  refine ldrw e2 (v := .int .i64 2) rfl ?_
  refine To.go ?_
  refine joinI ?_
  refine ifF (by decide) ?_
  unfold F_slices_Chunk___huff_item_huff_item__j1
  exact ⟨σ.next, σ.next + 1, rfl, e1, e2, ⟨by omega, by simp only [Mem.next_bump]; omega⟩, ⟨by omega, by simp only [Mem.next_bump]; omega⟩, (s1.bump _).bump _⟩
theorem chunk_range {p q b n : Nat} {σ : Mem} {T : YT} {K : Mem → Prop} {J : Nat → Mem → Prop} (hn : n ≤ 2 ^ 40)
    (hJ : ∀ i σ', J i σ' → σ'.get p = some (.rw [.slice b 0 n (.op 3)]) ∧ σ'.get q = some (.rw [.int .i64 2])) (hJb : ∀ i σ' k, J i σ' → J i (σ'.bump k)) (h0 : J 0 σ)
    (hT : ∀ i σ', 2 * i < n → J i σ' → T [.slice b (2 * i * 3) (min 2 (n - 2 * i)) (.ex (min 2 (n - 2 * i)))] σ' (fun v σ'' => v = .bool true ∧ J (i + 1) σ''))
    (hK : ∀ i σ', n ≤ 2 * i → J i σ' → K σ') : rangeW PG (.func n_slices_Chunk___huff_item_huff_item__1 [.ptr p 0, .ptr q 0]) T σ K := by
  show ACallsY PG (oneY σ.next T) n_slices_Chunk___huff_item_huff_item__1 (.yld σ.next :: [.ptr p 0, .ptr q 0]) (σ.bump 1) fun _ σ' => K σ'
  refine ok_slices_Chunk___huff_item_huff_item__1 fun live => ?_
  unfold F_slices_Chunk___huff_item_huff_item__1
  refine loop1 (fun (i : Nat) (y : Int) σ' => y = (2 * i : Nat) ∧ (2 * i ≤ n + 1) ∧ J i σ') (fun i => n - i) 0 ⟨by simp, by omega, hJb _ _ _ (hJb _ _ _ h0)⟩ ?_
  rintro i _ σ1 ⟨rfl, hi, hj⟩
  unfold F_slices_Chunk___huff_item_huff_item__1_l1
  obtain ⟨hp, hq⟩ := hJ i σ1 hj
  refine ldrw hp (v := .slice b 0 n (.op 3)) rfl ?_
  refine To.go ?_
  refine ifD (fun hlt => ?_) (fun hge => ?_)
  · have hlt : 2 * i < n := by omega
    refine To.go ?_
    refine ldrw hq (v := .int .i64 2) rfl ?_
    refine To.go ?_
    refine ldrw hp (v := .slice b 0 n (.op 3)) rfl ?_
    refine And.intro ⟨rfl, show (0 : Int) ≤ (2 * i : Nat) by omega, show ((2 * i : Nat) : Int) ≤ (n : Nat) by omega, Int.le_refl _⟩ ?_
    refine To.go ?_
    show letW (imin 2 ((((n : Nat) : Int).toNat - (((2 * i : Nat) : Int)).toNat : Nat) : Int)) _
    rw [Int.toNat_natCast, Int.toNat_natCast]
    obtain ⟨m, hm⟩ : ∃ m, min 2 (n - 2 * i) = m := ⟨_, rfl⟩
    have him : imin 2 ((n - 2 * i : Nat) : Int) = (m : Nat) := by
      unfold imin
      split <;> omega
    rw [him]
    refine To.go ?_
    refine ldrw hp (v := .slice b 0 n (.op 3)) rfl ?_
    refine iW_of (by omega) ?_
    refine iW_of (by omega) ?_
    rw [show ((2 * i : Nat) : Int) + (m : Nat) = ((2 * i + m : Nat) : Int) from by omega]
    refine And.intro ⟨rfl, show (0 : Int) ≤ (2 * i : Nat) by omega, show ((2 * i : Nat) : Int) ≤ ((2 * i + m : Nat) : Int) by omega, Int.le_refl _, show ((2 * i + m : Nat) : Int) ≤ ((n : Nat) : Int) by omega⟩ ?_
    have hsl : (AV.slice b (0 + (orD 0 (some ((2 * i : Nat) : Int))).toNat * 3) (((2 * i + m : Nat) : Int).toNat - (orD 0 (some ((2 * i : Nat) : Int))).toNat) ((Cap.op 3).cut true (orD 0 (some ((2 * i : Nat) : Int))).toNat ((2 * i + m : Nat) : Int).toNat)) = .slice b (2 * i * 3) m (.ex m) := by
      show AV.slice b (0 + ((2 * i : Nat) : Int).toNat * 3) (((2 * i + m : Nat) : Int).toNat - ((2 * i : Nat) : Int).toNat) (.ex (((2 * i + m : Nat) : Int).toNat - ((2 * i : Nat) : Int).toNat)) = _
      rw [Int.toNat_natCast, Int.toNat_natCast, Nat.zero_add, show 2 * i + m - 2 * i = m from by omega]
    rw [hsl]
    have ht := hT i (σ1.bump 23) hlt (hJb _ _ _ hj)
    rw [hm] at ht
    refine callvY_one ht ?_
    rintro _ σ2 ⟨rfl, hj2⟩
    refine To.go ?_
    refine To.go ?_
    refine To.go ?_
    obtain ⟨_, hq2⟩ := hJ _ _ hj2
    refine To.go ?_
    refine ldrw hq2 (v := .int .i64 2) rfl ?_
    refine To.go ?_
    refine iW_of (by omega) ?_
    exact again ⟨i + 1, ⟨by omega, by omega, hJb _ _ _ hj2⟩, by omega⟩
  · exact hK i _ (by omega) (hJb _ _ _ hj)
end Go.Vit
