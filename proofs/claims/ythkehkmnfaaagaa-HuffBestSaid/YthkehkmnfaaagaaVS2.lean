/- Sorting: small rows. -/
import Derived.Test.YthkehkmnfaaagaaVS1
set_option linter.unusedVariables false
set_option linter.unusedSimpArgs false
set_option linter.unusedSimpArgs false
set_option maxRecDepth 20000
namespace Go.Vit
open Go.Proofs
def Cmp (σ0 : Mem) (b : Nat) (key : Int → Int) (S : Int → Prop) (cmp : AV) : Prop :=
  ∀ σ x y, Mem.Only [b] σ0 σ → S x → S y → ∀ K : AV → Mem → Prop, (∀ c σ', (c < 0 ↔ key x < key y) → σ.Same σ' → K (.int .i64 c) σ') → callvW PG cmp [.int .i64 x, .int .i64 y] σ K
theorem Cmp.of {σ0 σ1 : Mem} {b : Nat} {key : Int → Int} {S : Int → Prop} {cmp : AV} (h : Cmp σ0 b key S cmp) (o : Mem.Only [b] σ0 σ1) : Cmp σ1 b key S cmp := fun σ x y o' => h σ x y ⟨Nat.le_trans o.next o'.next, fun b' h1 h2 => (o'.get b' (Nat.lt_of_lt_of_le h1 o.next) h2).trans (o.get b' h1 h2)⟩
theorem Cmp.sub {σ0 : Mem} {b : Nat} {key : Int → Int} {S S' : Int → Prop} {cmp : AV} (h : Cmp σ0 b key S cmp) (hs : ∀ x, S' x → S x) : Cmp σ0 b key S' cmp := fun σ x y o hx hy => h σ x y o (hs x hx) (hs y hy)
variable {b n : Nat} {c : Cap} {cmp : AV} {key : Int → Int} {S : Int → Prop}
theorem Arr.lt {σ0 σ : Mem} {X : List Int} (h : Arr σ0 σ b X) (hb : b < σ0.next) : b < σ.next := Nat.lt_of_lt_of_le hb h.1.next
theorem slices_insertionSort {σ : Mem} {X P A R : List Int} {a1 a2 : Int} (hX : X = P ++ (A ++ R)) (hg : σ.get b = some (.rw (ic X))) (hb : b < σ.next) (hn : X.length = n) (hl : n ≤ 2 ^ 60) (h1 : a1 = P.length) (h2 : a2 = (P.length + A.length : Nat)) (hS : ∀ x ∈ A, S x) (hc : Cmp σ b key S cmp) :
    ACalls PG n_slices_insertionSortCmpFunc_int_ [.slice b 0 n c, .int .i64 a1, .int .i64 a2, cmp] σ fun _ σ' => ∃ C, Stb key A C ∧ Srt key C ∧ Arr σ σ' b (P ++ (C ++ R)) := by
  refine ok_slices_insertionSortCmpFunc_int_ fun live => ?_
  unfold F_slices_insertionSortCmpFunc_int_
  subst h1 h2
  have hlen : n = P.length + A.length + R.length := by rw [← hn, hX]; simp only [List.length_append]; omega
  refine iW_of (by omega) ?_
  refine loop1 (fun (k : Nat) (x : Int) σ' => x = (P.length + k : Nat) ∧ 1 ≤ k ∧ (A ≠ [] → k ≤ A.length) ∧ ∃ D0 D E, A = D0 ++ E ∧ (A ≠ [] → D0.length = k) ∧ Stb key D0 D ∧ Srt key D ∧ Arr σ σ' b (P ++ (D ++ (E ++ R)))) (fun k => A.length - k) 1 ⟨by omega, by omega, fun h => by cases A with | nil => exact absurd rfl h | cons x l => simp, ?_⟩ ?_
  · cases A with
    | nil => exact ⟨[], [], [], rfl, fun h => absurd rfl h, Stb.refl _, List.Pairwise.nil, (Arr.self (by rw [hg, hX]; rfl)).bump _⟩
    | cons x l => exact ⟨[x], [x], l, rfl, fun _ => rfl, Stb.refl _, List.pairwise_singleton _ _, (Arr.self (by rw [hg, hX]; rfl)).bump _⟩
  rintro k _ σ1 ⟨rfl, hk, hkA, D0, D, E, hA, hD0, sD, oD, ar⟩
  unfold F_slices_insertionSortCmpFunc_int__l1
  refine ifD (fun hlt => ?_) (fun hge => ?_)
  · have hne : A ≠ [] := by rintro rfl; simp at hlt; omega
    have hkA := hkA hne
    have hD0 := hD0 hne
    obtain ⟨x, E, rfl⟩ := split_one E (by rintro rfl; rw [hA] at hlt; simp at hlt; omega)
    have hAl : A.length = D0.length + (E.length + 1) := by rw [hA]; simp
    have hDl := sD.1
    have hxS : S x := hS x (by rw [hA]; simp)
    have hDS : ∀ y ∈ D, S y := fun y hy => hS y (by rw [hA]; exact List.mem_append_left _ ((sD.mem y).1 hy))
    refine join0 (fun σ' => ∃ D1 D2, D = D1 ++ D2 ∧ (∀ y ∈ D1, key y ≤ key x) ∧ (∀ y ∈ D2, key x < key y) ∧ Arr σ σ' b (P ++ (D1 ++ x :: (D2 ++ (E ++ R))))) ?_ ?_
    · refine loop1 (fun (m : Nat) (j : Int) σ' => j = (P.length + m : Nat) ∧ ∃ D1 D2, D = D1 ++ D2 ∧ D1.length = m ∧ (∀ y ∈ D2, key x < key y) ∧ Arr σ σ' b (P ++ (D1 ++ x :: (D2 ++ (E ++ R))))) (fun m => m) k ⟨by omega, D, [], by simp, by omega, fun y h => by simp at h, (ar.bump _).eq (by simp)⟩ ?_
      rintro m _ σ2 ⟨rfl, D1, D2, hD, hD1, gt, ar⟩
      unfold F_slices_insertionSortCmpFunc_int__l2
      have hD12 : D.length = D1.length + D2.length := by rw [hD, List.length_append]
      refine ifD (fun hlt => ?_) (fun hge => ?_)
      · obtain ⟨D1, y, rfl⟩ := split_last D1 (by rintro rfl; simp at hD1; omega)
        have hyS : S y := hDS y (by rw [hD]; simp)
        have e : P ++ (D1 ++ [y] ++ x :: (D2 ++ (E ++ R))) = (P ++ D1) ++ y :: ([] ++ x :: (D2 ++ (E ++ R))) := by simp
        rw [e] at ar
        simp only [List.length_append, List.length_cons, List.length_nil] at hD1 hD12 hD
        refine rdI (m := P.length + m) (x := x) ar.2 (by simp; omega) (by omega) ?_ ?_
        · rw [List.nil_append, show (P ++ D1) ++ y :: x :: (D2 ++ (E ++ R)) = ((P ++ D1) ++ [y]) ++ x :: (D2 ++ (E ++ R)) from by simp]
          exact mid_get (by simp; omega)
        refine iW_of (by omega) ?_
        refine rdI (m := P.length + m - 1) (x := y) ar.2 (by simp; omega) (by omega) (mid_get (by simp; omega)) ?_
        refine hc _ x y (ar.bump _).1 hxS hyS _ fun c σ3 hcmp s3 => ?_
        have ar := (ar.bump _).same s3 ((ar.bump _).lt hb)
        refine To.go ?_
        refine ifD (fun hlt => ?_) (fun hge => ?_)
        · have hlt := hcmp.1 hlt
          refine iW_of (by omega) ?_
          refine iW_of (by omega) ?_
          refine rdI (m := P.length + m - 1) (x := y) ar.2 (by simp; omega) (by omega) (mid_get (by simp; omega)) ?_
          refine rdI (m := P.length + m) (x := x) ar.2 (by simp; omega) (by omega) ?_ ?_
          · rw [List.nil_append, show (P ++ D1) ++ y :: x :: (D2 ++ (E ++ R)) = ((P ++ D1) ++ [y]) ++ x :: (D2 ++ (E ++ R)) from by simp]
            exact mid_get (by simp; omega)
          refine wrI (m := P.length + m) ar.2 (by simp; omega) (by omega) (by omega) ?_
          refine wrI (m := P.length + m - 1) gS' (by simp; omega) (by omega) (by omega) ?_
          rw [swap2' (by simp; omega) (by simp; omega)]
          refine iW_of (by omega) ?_
          refine again ⟨m - 1, ⟨by omega, D1, y :: D2, by rw [hD]; simp, by omega, ?_, ?_⟩, by omega⟩
          · intro z hz
            rcases List.mem_cons.1 hz with rfl | hz
            · exact hlt
            · exact gt z hz
          · refine (((ar.bump _).put (Y := _)).put.bump _).eq ?_
            simp
        · have hge : key y ≤ key x := by
            have := mt hcmp.2 hge
            omega
          refine ⟨D1 ++ [y], D2, by rw [hD], fun z hz => ?_, gt, ar.eq (by simp)⟩
          rw [hD] at oD
          have oD := Srt.left oD
          rcases List.mem_append.1 hz with hz | hz
          · have := Srt.rel oD z hz y (by simp)
            omega
          · rw [List.mem_singleton] at hz
            subst hz
            exact hge
      · obtain rfl : D1 = [] := List.length_eq_zero_iff.1 (by omega)
        exact ⟨[], D2, hD, fun y h => by simp at h, gt, ar.bump _⟩
    · rintro σ2 ⟨D1, D2, hD, le, gt, ar⟩
      unfold F_slices_insertionSortCmpFunc_int__j1
      refine iW_of (by omega) ?_
      rw [hD] at sD oD
      refine again ⟨k + 1, ⟨by omega, by omega, fun _ => by omega, D0 ++ [x], D1 ++ x :: D2, E, by rw [hA]; simp, fun _ => by simp; omega, ?_, ?_, ?_⟩, by omega⟩
      · refine (sD.append (Stb.refl [x])).trans ?_
        have t : Stb key (D1 ++ (D2 ++ [x])) (D1 ++ ([x] ++ D2)) := (Stb.refl D1).append (Stb.swap fun y hy z hz => by rw [List.mem_singleton] at hz; subst hz; exact gt y hy)
        simpa using t
      · refine oD.left.append ?_ fun y hy z hz => ?_
        · exact List.pairwise_cons.2 ⟨fun z hz => Int.le_of_lt (gt z hz), oD.right⟩
        · rcases List.mem_cons.1 hz with rfl | hz
          · exact le y hy
          · exact oD.rel y hy z hz
      · exact (ar.bump _).eq (by simp)
  · by_cases hne : A = []
    · subst hne
      obtain ⟨rfl, rfl⟩ : D0 = [] ∧ E = [] := by simpa using hA.symm
      obtain rfl : D = [] := List.length_eq_zero_iff.1 sD.1
      exact ⟨[], Stb.refl _, List.Pairwise.nil, ar.bump _⟩
    · have hD0 := hD0 hne
      have hAl : A.length = D0.length + E.length := by rw [hA]; simp
      obtain rfl : E = [] := List.length_eq_zero_iff.1 (by omega)
      rw [hA, List.append_nil]
      exact ⟨D, sD, oD, ar.bump _⟩
end Go.Vit
