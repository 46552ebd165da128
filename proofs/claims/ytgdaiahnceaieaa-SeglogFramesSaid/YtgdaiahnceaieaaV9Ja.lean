/- Lists of numbers in order: an exchange, and what an insertion comes to. -/
import Derived.Test.YtgdaiahnceaieaaVm3
set_option linter.unusedVariables false
set_option linter.unusedSimpArgs false
namespace Go.Vit
def gd (L : List Int) (i : Nat) : Int := L.getD i 0
theorem gd_eq {L : List Int} {i : Nat} (h : i < L.length) : gd L i = L[i] := by
  unfold gd; rw [List.getD_eq_getElem?_getD, List.getElem?_eq_getElem h]; rfl
theorem gd_set {L : List Int} {i k : Nat} {x : Int} (h : i < L.length) : gd (L.set i x) k = if k = i then x else gd L k := by
  unfold gd
  rw [List.getD_eq_getElem?_getD, List.getD_eq_getElem?_getD, List.getElem?_set]
  by_cases e : i = k
  · subst e; rw [if_pos rfl, if_pos h, if_pos rfl]; rfl
  · rw [if_neg e, if_neg (fun h => e h.symm)]
def swp (L : List Int) (j : Nat) : List Int := (L.set j (gd L (j - 1))).set (j - 1) (gd L j)
theorem swp_perm {L : List Int} {j : Nat} (h : j < L.length) : (swp L j).Perm L := by
  unfold swp
  have h2 : j - 1 < L.length := by omega
  rw [gd_eq h, gd_eq h2]
  exact List.set_set_perm h h2
theorem swp_gd {L : List Int} {j k : Nat} (h : j < L.length) (hj : 0 < j) : gd (swp L j) k = if k = j - 1 then gd L j else if k = j then gd L (j - 1) else gd L k := by
  unfold swp
  rw [gd_set (by rw [List.length_set]; omega), gd_set h]
def ordT (L : List Int) (i : Nat) : Prop := ∀ p q, p < q → q < i → gd L p ≤ gd L q
def ordX (L : List Int) (i j : Nat) : Prop := ∀ p q, p < q → q ≤ i → q ≠ j → gd L p ≤ gd L q
theorem ordX_of {L : List Int} {i : Nat} (h : ordT L i) : ordX L i i := fun p q h1 h2 h3 => h p q h1 (by omega)
theorem ordX_swp {L : List Int} {i j : Nat} (h : ordX L i j) (hi : i < L.length) (hj : 0 < j) (hji : j ≤ i) (hlt : gd L j < gd L (j - 1)) : ordX (swp L j) i (j - 1) := by
  intro p q h1 h2 h3
  rw [swp_gd (by omega) hj, swp_gd (by omega) hj, if_neg h3]
  by_cases hq : q = j
  · rw [if_pos hq]
    by_cases hp : p = j - 1
    · rw [if_pos hp]; omega
    · rw [if_neg hp, if_neg (by omega)]
      exact h p (j - 1) (by omega) (by omega) (by omega)
  · rw [if_neg hq]
    by_cases hp : p = j - 1
    · rw [if_pos hp]
      exact h j q (by omega) h2 hq
    · rw [if_neg hp]
      by_cases hp2 : p = j
      · rw [if_pos hp2]
        exact h (j - 1) q (by omega) h2 hq
      · rw [if_neg hp2]
        exact h p q h1 h2 hq
theorem ordX_end {L : List Int} {i j : Nat} (h : ordX L i j) (hji : j ≤ i) (hd : j = 0 ∨ gd L (j - 1) ≤ gd L j) : ordT L (i + 1) := by
  intro p q h1 h2
  by_cases hq : q = j
  · subst hq
    rcases hd with hd | hd
    · omega
    · by_cases hp : p = q - 1
      · rw [hp]; exact hd
      · exact Int.le_trans (h p (q - 1) (by omega) (by omega) (by omega)) hd
  · exact h p q h1 (by omega) hq
theorem ordT_pair {L : List Int} (h : ordT L L.length) : L.Pairwise (· ≤ ·) := by
  rw [List.pairwise_iff_getElem]
  intro i j hi hj hij
  have := h i j hij hj
  rwa [gd_eq hi, gd_eq hj] at this
def srt (X : List Int) : List Int := X.mergeSort fun a b => decide (a ≤ b)
theorem srt_perm (X : List Int) : (srt X).Perm X := List.mergeSort_perm X _
theorem srt_pair (X : List Int) : (srt X).Pairwise (· ≤ ·) := by
  have h := List.pairwise_mergeSort (le := fun a b : Int => decide (a ≤ b)) (fun a b c => by simp only [decide_eq_true_eq]; exact Int.le_trans) (fun a b => by simp only [Bool.or_eq_true, decide_eq_true_eq]; exact Int.le_total a b) X
  exact h.imp fun h => by simpa using h
theorem pair_uniq : ∀ {X Y : List Int}, X.Perm Y → X.Pairwise (· ≤ ·) → Y.Pairwise (· ≤ ·) → X = Y
  | [], Y, h, _, _ => h.symm.eq_nil.symm
  | x :: X, [], h, _, _ => by cases h.eq_nil
  | x :: X, y :: Y, h, h1, h2 => by
    rw [List.pairwise_cons] at h1 h2
    have e : x = y := by
      have hx := h.mem_iff.1 (List.mem_cons_self (a := x) (l := X))
      have hy := h.mem_iff.2 (List.mem_cons_self (a := y) (l := Y))
      rcases List.mem_cons.1 hx with hx | hx
      · exact hx
      · rcases List.mem_cons.1 hy with hy | hy
        · exact hy.symm
        · have a := h1.1 y hy
          have b := h2.1 x hx
          omega
    subst e
    rw [pair_uniq (List.Perm.cons_inv h) h1.2 h2.2]
theorem srt_uniq {X Y : List Int} (h : Y.Perm X) (hp : Y.Pairwise (· ≤ ·)) : Y = srt X := pair_uniq (h.trans (srt_perm X).symm) hp (srt_pair X)
theorem srt_comm {X Y : List Int} (h : X.Perm Y) : srt X = srt Y := pair_uniq (((srt_perm X).trans h).trans (srt_perm Y).symm) (srt_pair X) (srt_pair Y)
theorem srt_len (X : List Int) : (srt X).length = X.length := (srt_perm X).length_eq
end Go.Vit
