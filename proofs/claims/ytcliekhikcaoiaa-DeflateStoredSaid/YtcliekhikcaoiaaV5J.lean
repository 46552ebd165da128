/- Items: their order, a copy of them, two at a time, and the coins in them. -/
import Derived.Test.YtcliekhikcaoiaaV5I
set_option linter.unusedVariables false
set_option linter.unusedSimpArgs false
set_option linter.unusedSimpArgs false
set_option maxRecDepth 20000
namespace Go.Vit
open Go.Proofs
theorem huff_byCount (x y : It) (σ : Mem) : ACalls PG n_huff_byCount [.agg (itC x), .agg (itC y)] σ fun v σ' => ∃ c, v = .int .i64 c ∧ (c < 0 ↔ x.n < y.n) ∧ σ.Same σ' := by
  refine ok_huff_byCount fun live => ?_
  unfold F_huff_byCount
  refine And.intro (itC_one x) ?_
  refine To.go ?_
  refine And.intro (itC_one y) ?_
  refine To.go ?_
  have hx : (AV.agg (itC x)).cells = [.int .i64 x.n, .int .i64 x.s, x.v] := rfl
  have hy : (AV.agg (itC y)).cells = [.int .i64 y.n, .int .i64 y.s, y.v] := rfl
  rw [hx, hy]
  obtain ⟨σ1, h1⟩ : ∃ σ1, σ1 = (((σ.bump 3).put σ.next (some (.rw [.int .i64 x.n, .int .i64 x.s, x.v]))).put (σ.next + 1) (some (.rw [.int .i64 y.n, .int .i64 y.s, y.v]))) := ⟨_, rfl⟩
  rw [← h1]
  have s1 : σ.Same σ1 := by rw [h1]; repeat (with_reducible first | assumption | exact Mem.Only.refl _ _ | exact Mem.Same.refl _ | refine Mem.Only.bump ?_ _ | refine Mem.Only.put ?_ (by simp) _ | refine Mem.Only.put ?_ (.inr (by first | omega | (simp only [Mem.next_bump, Mem.next_put]; omega))) _ | refine Mem.Same.bump ?_ _ | refine Mem.Same.put ?_ (by first | omega | (simp only [Mem.next_bump, Mem.next_put]; omega)) _)
  have e1 : σ1.get σ.next = some (.rw [.int .i64 x.n, .int .i64 x.s, x.v]) := by rw [h1, Mem.get_put_ne _ (by omega), gS']
  have e2 : σ1.get (σ.next + 1) = some (.rw [.int .i64 y.n, .int .i64 y.s, y.v]) := by rw [h1, gS']
  clear h1 hx hy
  refine To.go ?_
  refine To.go ?_
  refine ldrw e1 (v := .int .i64 x.n) rfl ?_
  refine To.go ?_
  refine To.go ?_
  refine To.go ?_
  refine ldrw e2 (v := .int .i64 y.n) rfl ?_
  refine To.go ?_
  refine callW_of (cmp_Compare_int _ _ _) ?_
  rintro _ σ2 ⟨c, rfl, hc, s2⟩
  refine To.go ?_
  exact ⟨c, rfl, hc, s1.trans s2.ob⟩
theorem cmp_items {b : Nat} {σ : Mem} : I3.Cmp σ b (fun x => x.n) (fun _ => True) (.func n_huff_byCount []) := by
  intro σ1 x y _ _ _ K hK
  refine ACalls.mono (huff_byCount x y σ1) ?_
  rintro _ σ' ⟨c, rfl, h1, h2⟩
  exact hK c σ' h1 h2
theorem slices_Clone_items {a : AV} {X : List It} {σ : Mem} (ha : RdO 3 σ a (ic3 X) X.length) (hl : X.length ≤ 2 ^ 40) (hne : X ≠ []) : ACalls PG n_slices_Clone___huff_item_huff_item_ [a] σ fun v σ' => Own 3 σ σ' v (ic3 X) X.length ∧ σ.Same σ' := by
  refine ok_slices_Clone___huff_item_huff_item_ fun live => ?_
  have hla := ha.lt live
  have ha0 := ha
  unfold F_slices_Clone___huff_item_huff_item_
  rcases ha with ⟨rfl, h0, _⟩ | ⟨b, z, c, rfl, hlen, hq⟩
  · exact absurd (List.length_eq_zero_iff.1 h0) hne
  · repeat (first | refine To.go ?_ | with_reducible refine And.intro (by first | omega | exact ⟨rfl, rfl⟩) ?_ | ((with_reducible apply opt); (· (first | with_reducible assumption | rfl))) | ((with_reducible apply ldrw); (· (first | with_reducible assumption | (simp (disch := omega) only [go_sem, *]; try rfl))); (· (first | with_reducible assumption | rfl))) | ((with_reducible apply ldro); (· (first | with_reducible assumption | (simp (disch := omega) only [go_sem, *]; try rfl))); (· (first | with_reducible assumption | rfl))) | ((with_reducible apply st1); (· (first | with_reducible assumption | (simp (disch := omega) only [go_sem, *]; try rfl))); (· simp); (· rfl)) | with_reducible refine ifT rfl ?_ | with_reducible refine ifF (not_not_intro rfl) ?_ | with_reducible refine ifT (by omega) ?_ | with_reducible refine ifF (by omega) ?_)
    refine ap_freshO gS' (n := X.length) (cs := ic3 X) (ha0.keep fun b' hb' => ?_) (ic3_one _) (by omega) (fun h0 => ?_) (fun h0 => ?_)
    · have := hla b' hb'
      rw [Mem.get_put_ne _ (by omega), Mem.get_bump]
    · exact absurd (List.length_eq_zero_iff.1 h0) hne
    · refine ⟨⟨.inr ⟨_, rfl, gS', by rw [ic3_len]⟩, fun b' hb' => ?_⟩, by repeat (with_reducible first | assumption | exact Mem.Only.refl _ _ | exact Mem.Same.refl _ | refine Mem.Only.bump ?_ _ | refine Mem.Only.put ?_ (by simp) _ | refine Mem.Only.put ?_ (.inr (by first | omega | (simp only [Mem.next_bump, Mem.next_put]; omega))) _ | refine Mem.Same.bump ?_ _ | refine Mem.Same.put ?_ (by first | omega | (simp only [Mem.next_bump, Mem.next_put]; omega)) _)⟩
      simp only [blkOf, List.mem_singleton] at hb'
      simp only [Mem.next_put, Mem.next_bump]; omega
end Go.Vit
