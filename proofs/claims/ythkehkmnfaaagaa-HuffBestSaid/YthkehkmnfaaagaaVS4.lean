/- Sorting: the stable sort. -/
import Derived.Test.YthkehkmnfaaagaaVS3
set_option linter.unusedVariables false
set_option linter.unusedSimpArgs false
set_option linter.unusedSimpArgs false
set_option maxRecDepth 20000
namespace Go.Vit
open Go.Proofs
variable {b n : Nat} {c : Cap} {cmp : AV} {key : Int → Int} {S : Int → Prop}
def Rows (key : Int → Int) (k : Nat) (D : List (List Int)) : Prop := ∀ l ∈ D, l.length = k ∧ Srt key l
theorem Rows.snoc {k : Nat} {D : List (List Int)} {l : List Int} (h : Rows key k D) (h1 : l.length = k) (h2 : Srt key l) : Rows key k (D ++ [l]) := by
  intro x hx
  rcases List.mem_append.1 hx with hx | hx
  · exact h x hx
  · rw [List.mem_singleton] at hx; subst hx; exact ⟨h1, h2⟩
theorem Rows.len {k : Nat} : ∀ {D : List (List Int)}, Rows key k D → D.flatten.length = D.length * k
  | [], _ => by simp
  | l :: D, h => by
    rw [List.flatten_cons, List.length_append, (h l (by simp)).1, Rows.len (D := D) fun x hx => h x (List.mem_cons_of_mem _ hx), List.length_cons, Nat.add_mul]
    omega
theorem slices_stable {σ : Mem} {X : List Int} (hg : σ.get b = some (.rw (ic X))) (hb : b < σ.next) (hn : X.length = n) (hl : n ≤ 2 ^ 58) (hS : ∀ x ∈ X, S x) (hc : Cmp σ b key S cmp) :
    ACalls PG n_slices_stableCmpFunc_int_ [.slice b 0 n c, .int .i64 (n : Nat), cmp] σ fun _ σ' => ∃ C, Stb key X C ∧ Srt key C ∧ Arr σ σ' b C := by
  refine ok_slices_stableCmpFunc_int_ fun live => ?_
  unfold F_slices_stableCmpFunc_int_
  -- the first rows
  refine loop2 (fun (a : Nat) (i j : Int) σ' => i = a ∧ j = (a + 20 : Nat) ∧ a ≤ n ∧ ∃ X0 E D, X = X0 ++ E ∧ Rows key 20 D ∧ Stb key X0 D.flatten ∧ a = X0.length ∧ Arr σ σ' b (D.flatten ++ E)) (fun a => n - a) 0 ⟨rfl, by omega, by omega, [], X, [], rfl, fun l h => by simp at h, Stb.refl _, rfl, (Arr.self hg).bump _⟩ ?_
  rintro a _ _ σ1 ⟨rfl, rfl, ha, X0, E, D, rfl, rD, sD, hX0, ar⟩
  unfold F_slices_stableCmpFunc_int__l1
  have hDl := sD.1
  rw [List.length_append] at hn
  refine ifD (fun hle => ?_) (fun hgt => ?_)
  · obtain ⟨A, E, rfl, hA⟩ := split_at E (k := 20) (by omega)
    rw [List.length_append] at hn
    refine callW_of (slices_insertionSort (S := S) (P := D.flatten) (A := A) (R := E) rfl (by rw [Mem.get_bump, ar.2]) ((ar.bump _).lt hb) (by simp [-List.length_flatten]; omega) (by omega) (by omega) (by omega) (fun x hx => hS x (by simp [hx])) (hc.of (ar.bump _).1)) ?_
    rintro v σ2 ⟨C, sC, oC, aC⟩
    refine iW_of (by omega) ?_
    refine again ⟨a + 20, ⟨by omega, by omega, by omega, X0 ++ A, E, D ++ [C], by simp, rD.snoc (by rw [sC.1]; exact hA) oC, ?_, by simp [-List.length_flatten]; omega, ?_⟩, by omega⟩
    · rw [List.flatten_append]
      exact sD.append (by simpa using sC)
    · exact (((ar.bump _).trans aC).bump _).eq (by simp)
  · refine callW_of (slices_insertionSort (S := S) (P := D.flatten) (A := E) (R := []) rfl (by rw [Mem.get_bump, ar.2]; simp) ((ar.bump _).lt hb) (by simp [-List.length_flatten]; omega) (by omega) (by omega) (by omega) (fun x hx => hS x (by simp [hx])) (hc.of (ar.bump _).1)) ?_
    rintro v σ2 ⟨C, sC, oC, aC⟩
    have ar := ((ar.bump _).trans aC).eq (Y := D.flatten ++ C) (by simp)
    have hCl := sC.1
    -- greater and greater rows
    refine loop1 (fun (m : Nat) (x : Int) σ' => ∃ k D T, x = (k : Nat) ∧ 20 ≤ k ∧ k ≤ 2 ^ 59 ∧ m = n - k ∧ Rows key k D ∧ T.length < k ∧ Srt key T ∧ Stb key (X0 ++ E) (D.flatten ++ T) ∧ Arr σ σ' b (D.flatten ++ T)) (fun m => m) (n - 20) ⟨20, D, C, rfl, by omega, by omega, rfl, rD, by omega, oC, sD.append sC, ar⟩ ?_
    clear rD sD hDl ar sC oC aC hCl
    rintro _ _ σ3 ⟨k, D, T, rfl, hk, hk2, rfl, rD, hT, oT, sD, ar⟩
    unfold F_slices_stableCmpFunc_int__l2
    have hl1 := rD.len
    have hl2 := sD.1
    rw [List.length_append, List.length_append] at hl2
    refine ifD (fun hlt => ?_) (fun hge => ?_)
    · refine iW_of (by omega) ?_
      refine loop2 (fun (m : Nat) (i j : Int) σ' => ∃ (a : Nat) (D1 D2 : List (List Int)), i = a ∧ j = (a + 2 * k : Nat) ∧ m = D2.length ∧ Rows key (2 * k) D1 ∧ Rows key k D2 ∧ D1.flatten.length = a ∧ a + D2.flatten.length + T.length = n ∧ Stb key (X0 ++ E) (D1.flatten ++ (D2.flatten ++ T)) ∧ Arr σ σ' b (D1.flatten ++ (D2.flatten ++ T))) (fun m => m) D.length ⟨0, [], D, rfl, by omega, rfl, fun l h => by simp at h, rD, rfl, by omega, sD, ar.bump _⟩ ?_
      clear sD ar
      rintro _ _ _ σ4 ⟨a, D1, D2, rfl, rfl, rfl, r1, r2, la, ln, sD, ar⟩
      unfold F_slices_stableCmpFunc_int__l3
      have hl3 := r2.len
      have hSD : ∀ x ∈ D1.flatten ++ (D2.flatten ++ T), S x := fun x hx => hS x ((sD.mem x).1 hx)
      refine ifD (fun hle => ?_) (fun hgt => ?_)
      · -- two rows
        match D2, hl3 with
        | [], hl3 => simp at ln; omega
        | [A], hl3 => simp at hl3; simp at ln; omega
        | A :: B :: D2, hl3 =>
        have hA := r2 A (by simp)
        have hB := r2 B (by simp)
        simp only [List.flatten_cons, List.length_append, List.length_cons] at ln hl3
        refine iW_of (by omega) ?_
        refine callW_of (slices_symMerge (S := S) _ (P := D1.flatten) (A := A) (B := B) (R := D2.flatten ++ T) (Nat.le_refl _) rfl (by rw [Mem.get_bump, ar.2]; simp) ((ar.bump _).lt hb) (by simp [-List.length_flatten]; omega) (by omega) (by omega) (by omega) (by omega) (by omega) (by omega) hA.2 hB.2 (fun x hx => hSD x (by simp [hx])) (fun x hx => hSD x (by simp [hx])) (hc.of (ar.bump _).1)) ?_
        rintro v σ5 ⟨C, sC, oC, aC⟩
        have hCl := sC.1
        rw [List.length_append] at hCl
        refine iW_of (by omega) ?_
        refine iW_of (by omega) ?_
        refine again ⟨D2.length, ⟨a + 2 * k, D1 ++ [C], D2, by omega, by omega, rfl, r1.snoc (by omega) oC, fun l hl => r2 l (by simp [hl]), by simp [-List.length_flatten]; omega, by omega, ?_, ?_⟩, by simp only [List.length_cons]; omega⟩
        · refine sD.trans ?_
          have t : Stb key (D1.flatten ++ ((A ++ B) ++ (D2.flatten ++ T))) (D1.flatten ++ (C ++ (D2.flatten ++ T))) := (Stb.refl _).append (sC.append (Stb.refl _))
          simpa using t
        · exact (((ar.bump _).trans aC).bump _).eq (by simp)
      · refine iW_of (by omega) ?_
        refine join0 (fun σ' => ∃ D T, Rows key (2 * k) D ∧ T.length < 2 * k ∧ Srt key T ∧ Stb key (X0 ++ E) (D.flatten ++ T) ∧ Arr σ σ' b (D.flatten ++ T)) ?_ ?_
        · match D2, hl3 with
          | [], hl3 =>
            simp at ln
            refine ifD (fun h => absurd h (by omega)) (fun _ => ?_)
            exact ⟨D1, T, r1, by omega, oT, by simpa using sD, (ar.bump _).eq (by simp)⟩
          | [A], hl3 =>
            have hA := r2 A (by simp)
            simp only [List.flatten_cons, List.length_append, List.flatten_nil, List.length_nil] at ln
            refine ifD (fun h => ?_) (fun h => ?_)
            · refine callW_of (slices_symMerge (S := S) _ (P := D1.flatten) (A := A) (B := T) (R := []) (Nat.le_refl _) rfl (by rw [Mem.get_bump, ar.2]; simp) ((ar.bump _).lt hb) (by simp [-List.length_flatten]; omega) (by omega) (by omega) (by omega) (by omega) (by omega) (by omega) hA.2 oT (fun x hx => hSD x (by simp [hx])) (fun x hx => hSD x (by simp [hx])) (hc.of (ar.bump _).1)) ?_
              rintro v σ5 ⟨C, sC, oC, aC⟩
              have hCl := sC.1
              rw [List.length_append] at hCl
              refine ⟨D1, C, r1, by omega, oC, sD.trans ?_, ((ar.bump _).trans aC).eq (by simp)⟩
              have t : Stb key (D1.flatten ++ (A ++ T)) (D1.flatten ++ C) := (Stb.refl _).append sC
              simpa using t
            · obtain rfl : T = [] := List.length_eq_zero_iff.1 (by omega)
              refine ⟨D1, A, r1, by omega, hA.2, by simpa using sD, (ar.bump _).eq (by simp)⟩
          | A :: B :: D2, hl3 =>
            have hA := r2 A (by simp)
            have hB := r2 B (by simp)
            simp only [List.flatten_cons, List.length_append, List.length_cons] at ln
            omega
        · rintro σ5 ⟨D, T, rD, hT, oT, sD, ar⟩
          unfold F_slices_stableCmpFunc_int__j1
          refine iW_of (by omega) ?_
          exact again ⟨n - 2 * k, ⟨2 * k, D, T, by omega, by omega, by omega, rfl, rD, hT, oT, sD, ar.bump _⟩, by omega⟩
    · match D, hl1 with
      | [], hl1 => exact ⟨T, by simpa using sD, oT, (ar.bump _).eq (by simp)⟩
      | [A], hl1 =>
        simp at hl1 hl2
        obtain rfl : T = [] := List.length_eq_zero_iff.1 (by omega)
        exact ⟨A, by simpa using sD, (rD A (by simp)).2, (ar.bump _).eq (by simp)⟩
      | A :: B :: D, hl1 =>
        have hA := rD A (by simp)
        have hB := rD B (by simp)
        simp only [List.flatten_cons, List.length_append, List.length_cons] at hl2
        omega
theorem slices_SortStable {σ : Mem} {X : List Int} (hg : σ.get b = some (.rw (ic X))) (hb : b < σ.next) (hn : X.length = n) (hl : n ≤ 2 ^ 58) (hS : ∀ x ∈ X, S x) (hc : Cmp σ b key S cmp) :
    ACalls PG n_slices_SortStableFunc___int_int_ [.slice b 0 n c, cmp] σ fun _ σ' => ∃ C, Stb key X C ∧ Srt key C ∧ Arr σ σ' b C := by
  refine ok_slices_SortStableFunc___int_int_ fun live => ?_
  unfold F_slices_SortStableFunc___int_int_
  show callW _ _ _ _ _
  refine callW_of (slices_stable (σ := σ.bump 5) (S := S) (key := key) hg (Nat.lt_of_lt_of_le hb (by rw [Mem.next_bump]; omega)) hn hl hS (hc.of (Arr.bump (Arr.self hg) 5).1)) ?_
  rintro v σ1 ⟨C, h1, h2, h3⟩
  exact ⟨C, h1, h2, (Arr.bump (Arr.self hg) 5).trans h3⟩
end Go.Vit
