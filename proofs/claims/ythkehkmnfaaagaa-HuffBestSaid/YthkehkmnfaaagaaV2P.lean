/- A list is searched. -/
import Derived.Test.YthkehkmnfaaagaaV2N
set_option linter.unusedVariables false
set_option linter.unusedSimpArgs false
set_option linter.unusedSimpArgs false
set_option maxRecDepth 20000
namespace Go.Vit
open Go.Proofs
theorem slices_IndexFuncO {a : AV} {L : List Int} {f : AV} {p : Int → Bool} {σ : Mem} (ha : RdO 1 σ a (ic L) L.length) (hl : L.length ≤ 2 ^ 60)
    (hf : ∀ σ' x, x ∈ L → σ.Same σ' → ∀ n K, (∀ σ'', σ'.Same σ'' → K (.bool (p x)) σ'') → callvW PG f [.int .i64 x] (σ'.bump n) K) :
    ACalls PG n_slices_IndexFunc___int_int_ [a, f] σ fun v σ' => (∃ n : Int, v = .int .i64 n ∧ (0 ≤ n ↔ ∃ x ∈ L, p x = true)) ∧ σ.Same σ' := by
  refine ok_slices_IndexFunc___int_int_ fun live => ?_
  unfold F_slices_IndexFunc___int_int_
  have hla := ha.lt live
  refine ha.len ?_
  refine loop1 (fun (i : Nat) (x : Int) σ' => x = i ∧ i ≤ L.length ∧ (∀ x ∈ L.take i, p x = false) ∧ σ.Same σ') (fun i => L.length - i) 0 ⟨rfl, by omega, by simp, (Mem.Same.refl σ).bump _⟩ ?_
  rintro i _ σ1 ⟨rfl, hi, hp, s1⟩
  unfold F_slices_IndexFunc___int_int__l1
  refine ifD (fun hlt => ?_) (fun hge => ?_)
  · have hil : i < L.length := by omega
    obtain ⟨b, bz, c, rfl, hget⟩ := (ha.keep fun b hb => s1.get b (hla b hb)).at hil
    repeat (first | refine To.go ?_ | with_reducible refine And.intro (by first | omega | exact ⟨rfl, rfl⟩) ?_ | ((with_reducible apply opt); (· (first | with_reducible assumption | rfl))) | ((with_reducible apply ldrw); (· (first | with_reducible assumption | (simp (disch := omega) only [go_sem, *]; try rfl))); (· (first | with_reducible assumption | rfl))) | ((with_reducible apply ldro); (· (first | with_reducible assumption | (simp (disch := omega) only [go_sem, *]; try rfl))); (· (first | with_reducible assumption | rfl))) | ((with_reducible apply st1); (· (first | with_reducible assumption | (simp (disch := omega) only [go_sem, *]; try rfl))); (· simp); (· rfl)) | with_reducible refine ifT rfl ?_ | with_reducible refine ifF (not_not_intro rfl) ?_ | with_reducible refine ifT (by omega) ?_ | with_reducible refine ifF (by omega) ?_)
    refine hget _ ?_
    have hmem := List.getElem_mem hil
    have htake := List.take_succ_eq_append_getElem hil
    obtain ⟨x, hx⟩ : ∃ x, L[i] = x := ⟨_, rfl⟩
    rw [hx] at hmem htake ⊢
    repeat (first | refine To.go ?_ | with_reducible refine And.intro (by first | omega | exact ⟨rfl, rfl⟩) ?_ | ((with_reducible apply opt); (· (first | with_reducible assumption | rfl))) | ((with_reducible apply ldrw); (· (first | with_reducible assumption | (simp (disch := omega) only [go_sem, *]; try rfl))); (· (first | with_reducible assumption | rfl))) | ((with_reducible apply ldro); (· (first | with_reducible assumption | (simp (disch := omega) only [go_sem, *]; try rfl))); (· (first | with_reducible assumption | rfl))) | ((with_reducible apply st1); (· (first | with_reducible assumption | (simp (disch := omega) only [go_sem, *]; try rfl))); (· simp); (· rfl)) | with_reducible refine ifT rfl ?_ | with_reducible refine ifF (not_not_intro rfl) ?_ | with_reducible refine ifT (by omega) ?_ | with_reducible refine ifF (by omega) ?_)
    refine hf σ1 x hmem s1 _ _ fun σ2 s2 => ?_
    repeat (first | refine To.go ?_ | with_reducible refine And.intro (by first | omega | exact ⟨rfl, rfl⟩) ?_ | ((with_reducible apply opt); (· (first | with_reducible assumption | rfl))) | ((with_reducible apply ldrw); (· (first | with_reducible assumption | (simp (disch := omega) only [go_sem, *]; try rfl))); (· (first | with_reducible assumption | rfl))) | ((with_reducible apply ldro); (· (first | with_reducible assumption | (simp (disch := omega) only [go_sem, *]; try rfl))); (· (first | with_reducible assumption | rfl))) | ((with_reducible apply st1); (· (first | with_reducible assumption | (simp (disch := omega) only [go_sem, *]; try rfl))); (· simp); (· rfl)) | with_reducible refine ifT rfl ?_ | with_reducible refine ifF (not_not_intro rfl) ?_ | with_reducible refine ifT (by omega) ?_ | with_reducible refine ifF (by omega) ?_)
    refine ifI (fun h => ?_) (fun h => ?_)
    · exact ⟨⟨i, rfl, ⟨fun _ => ⟨x, hmem, h⟩, fun _ => by omega⟩⟩, (s1.trans s2).bump _⟩
    · repeat (first | refine To.go ?_ | with_reducible refine And.intro (by first | omega | exact ⟨rfl, rfl⟩) ?_ | ((with_reducible apply opt); (· (first | with_reducible assumption | rfl))) | ((with_reducible apply ldrw); (· (first | with_reducible assumption | (simp (disch := omega) only [go_sem, *]; try rfl))); (· (first | with_reducible assumption | rfl))) | ((with_reducible apply ldro); (· (first | with_reducible assumption | (simp (disch := omega) only [go_sem, *]; try rfl))); (· (first | with_reducible assumption | rfl))) | ((with_reducible apply st1); (· (first | with_reducible assumption | (simp (disch := omega) only [go_sem, *]; try rfl))); (· simp); (· rfl)) | with_reducible refine ifT rfl ?_ | with_reducible refine ifF (not_not_intro rfl) ?_ | with_reducible refine ifT (by omega) ?_ | with_reducible refine ifF (by omega) ?_)
      refine again ⟨i + 1, ⟨by omega, by omega, fun y hy => ?_, (s1.trans s2).bump _⟩, by omega⟩
      rw [htake, List.mem_append] at hy
      rcases hy with hy | hy
      · exact hp y hy
      · simp at hy; rw [hy]; exact h
  · obtain rfl : i = L.length := by omega
    rw [List.take_length] at hp
    exact ⟨⟨-1, rfl, ⟨fun h => absurd h (by decide), fun ⟨x, h1, h2⟩ => by rw [hp x h1] at h2; exact absurd h2 (by decide)⟩⟩, s1.bump _⟩
theorem slices_ContainsFuncO {a : AV} {L : List Int} {f : AV} {p : Int → Bool} {σ : Mem} (ha : RdO 1 σ a (ic L) L.length) (hl : L.length ≤ 2 ^ 60)
    (hf : ∀ σ' x, x ∈ L → σ.Same σ' → ∀ n K, (∀ σ'', σ'.Same σ'' → K (.bool (p x)) σ'') → callvW PG f [.int .i64 x] (σ'.bump n) K) :
    ACalls PG n_slices_ContainsFunc___int_int_ [a, f] σ fun v σ' => v = .bool (decide (∃ x ∈ L, p x = true)) ∧ σ.Same σ' := by
  refine ok_slices_ContainsFunc___int_int_ fun live => ?_
  unfold F_slices_ContainsFunc___int_int_
  refine callW_of (slices_IndexFuncO (σ := σ.bump 6) (p := p) (ha.keep fun _ _ => rfl) hl fun σ' x hx s => hf σ' x hx s.ob) ?_
  rintro _ σ1 ⟨⟨n, rfl, hn⟩, s1⟩
  repeat (first | refine To.go ?_ | with_reducible refine And.intro (by first | omega | exact ⟨rfl, rfl⟩) ?_ | ((with_reducible apply opt); (· (first | with_reducible assumption | rfl))) | ((with_reducible apply ldrw); (· (first | with_reducible assumption | (simp (disch := omega) only [go_sem, *]; try rfl))); (· (first | with_reducible assumption | rfl))) | ((with_reducible apply ldro); (· (first | with_reducible assumption | (simp (disch := omega) only [go_sem, *]; try rfl))); (· (first | with_reducible assumption | rfl))) | ((with_reducible apply st1); (· (first | with_reducible assumption | (simp (disch := omega) only [go_sem, *]; try rfl))); (· simp); (· rfl)) | with_reducible refine ifT rfl ?_ | with_reducible refine ifF (not_not_intro rfl) ?_ | with_reducible refine ifT (by omega) ?_ | with_reducible refine ifF (by omega) ?_)
  refine ⟨?_, s1.ob⟩
  congr 1; rw [decide_eq_decide]; exact hn
end Go.Vit
