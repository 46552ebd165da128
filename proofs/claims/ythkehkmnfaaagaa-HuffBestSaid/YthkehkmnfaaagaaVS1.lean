/- Sorting: exchanging and turning. -/
import Derived.Test.YthkehkmnfaaagaaV2C
import Derived.Test.YthkehkmnfaaagaaVm3
set_option linter.unusedVariables false
set_option linter.unusedSimpArgs false
set_option linter.unusedSimpArgs false
set_option maxRecDepth 20000
namespace Go.Vit
open Go.Proofs
theorem iW_of {n : Int} {K : Int → Prop} (h : -9223372036854775808 ≤ n ∧ n ≤ 9223372036854775807) (hk : K n) : iW n K := by rw [iW_eq h]; exact hk
theorem rdI {b n m : Nat} {c : Cap} {X : List Int} {σ : Mem} {i x : Int} {K : Int → Prop} (hg : σ.get b = some (.rw (ic X))) (hn : X.length = n) (hi : i = (m : Nat)) (hx : X[m]? = some x) (hk : K x) : idxW 1 (.slice b 0 n c) i fun v => ldI σ v K := by
  subst hi
  have hm := (List.getElem?_eq_some_iff.1 hx).1
  refine To.go ?_
  refine And.intro (by omega) ?_
  refine To.go ?_
  refine ldrw hg (v := .int .i64 x) ?_ ?_
  · rw [ic_get hm]
    rw [List.getElem?_eq_getElem hm] at hx
    injection hx with hx
    rw [hx]
  · refine To.go ?_
    exact hk
theorem wrI {b n m : Nat} {c : Cap} {X : List Int} {σ : Mem} {i x : Int} {K : Mem → Prop} (hg : σ.get b = some (.rw (ic X))) (hn : X.length = n) (hi : i = (m : Nat)) (hm : m < n) (hk : K (σ.put b (some (.rw (ic (X.set m x)))))) : idxW 1 (.slice b 0 n c) i fun v => stW 1 σ v (.int .i64 x) K := by
  subst hi
  refine To.go ?_
  refine And.intro (by omega) ?_
  refine st1 hg (by rw [ic_len]; omega) rfl ?_
  rw [ic_set]
  exact hk
def Arr (σ0 σ : Mem) (b : Nat) (X : List Int) : Prop := Mem.Only [b] σ0 σ ∧ σ.get b = some (.rw (ic X))
theorem Arr.bump {σ0 σ : Mem} {b : Nat} {X : List Int} (h : Arr σ0 σ b X) (k : Nat) : Arr σ0 (σ.bump k) b X := ⟨⟨Nat.le_trans h.1.next (by rw [Mem.next_bump]; omega), fun b' h1 h2 => h.1.get b' h1 h2⟩, h.2⟩
theorem Arr.put {σ0 σ : Mem} {b : Nat} {X Y : List Int} (h : Arr σ0 σ b X) : Arr σ0 (σ.put b (some (.rw (ic Y)))) b Y :=
  ⟨⟨h.1.next, fun b' h1 h2 => by rw [Mem.get_put_ne _ (by simpa using h2)]; exact h.1.get b' h1 h2⟩, gS'⟩
theorem Arr.self {σ : Mem} {b : Nat} {X : List Int} (h : σ.get b = some (.rw (ic X))) : Arr σ σ b X := ⟨⟨Nat.le_refl _, fun _ _ _ => rfl⟩, h⟩
theorem Arr.trans {σ0 σ1 σ2 : Mem} {b : Nat} {X Y : List Int} (h : Arr σ0 σ1 b X) (g : Arr σ1 σ2 b Y) : Arr σ0 σ2 b Y :=
  ⟨⟨Nat.le_trans h.1.next g.1.next, fun b' h1 h2 => (g.1.get b' (Nat.lt_of_lt_of_le h1 h.1.next) h2).trans (h.1.get b' h1 h2)⟩, g.2⟩
theorem Arr.same {σ0 σ1 σ2 : Mem} {b : Nat} {X : List Int} (h : Arr σ0 σ1 b X) (s : σ1.Same σ2) (hb : b < σ1.next) : Arr σ0 σ2 b X :=
  ⟨⟨Nat.le_trans h.1.next s.next, fun b' h1 h2 => (s.get b' (Nat.lt_of_lt_of_le h1 h.1.next)).trans (h.1.get b' h1 h2)⟩, (s.get b hb).trans h.2⟩
theorem Arr.eq {σ0 σ : Mem} {b : Nat} {X Y : List Int} (h : Arr σ0 σ b X) (e : X = Y) : Arr σ0 σ b Y := e ▸ h
theorem slices_swapRange {b n : Nat} {c : Cap} {cmp : AV} {σ : Mem} {X P U M V R : List Int} {a1 a2 a3 : Int} (hX : X = P ++ (U ++ (M ++ (V ++ R)))) (hg : σ.get b = some (.rw (ic X))) (hn : X.length = n) (hl : n ≤ 2 ^ 60) (h1 : a1 = P.length) (h2 : a2 = (P.length + U.length + M.length : Nat)) (h3 : a3 = U.length) (hv : V.length = U.length) :
    ACalls PG n_slices_swapRangeCmpFunc_int_ [.slice b 0 n c, .int .i64 a1, .int .i64 a2, .int .i64 a3, cmp] σ fun _ σ' => Arr σ σ' b (P ++ (V ++ (M ++ (U ++ R)))) := by
  refine ok_slices_swapRangeCmpFunc_int_ fun live => ?_
  unfold F_slices_swapRangeCmpFunc_int_
  subst h1 h2 h3
  have hlen : n = P.length + U.length + M.length + V.length + R.length := by rw [← hn, hX]; simp only [List.length_append]; omega
  refine loop1 (fun (i : Nat) (x : Int) σ' => x = i ∧ i ≤ U.length ∧ ∃ U1 U2 V1 V2, U = U1 ++ U2 ∧ V = V1 ++ V2 ∧ U1.length = i ∧ V1.length = i ∧ Arr σ σ' b (P ++ (V1 ++ (U2 ++ (M ++ (U1 ++ (V2 ++ R))))))) (fun i => U.length - i) 0 ⟨rfl, by omega, [], U, [], V, rfl, rfl, rfl, rfl, (Arr.self (by rw [hg, hX]; rfl)).bump _⟩ ?_
  rintro i _ σ1 ⟨rfl, hi, U1, U2, V1, V2, rfl, rfl, hU1, hV1, ar⟩
  unfold F_slices_swapRangeCmpFunc_int__l1
  simp only [List.length_append] at hi hlen hv ⊢
  refine ifD (fun hlt => ?_) (fun hge => ?_)
  · obtain ⟨x, U2, rfl⟩ := split_one U2 (by rintro rfl; simp at hlt; omega)
    obtain ⟨y, V2, rfl⟩ := split_one V2 (by rintro rfl; simp at hv hlt; omega)
    simp only [List.length_cons] at hi hlen hv hlt ⊢
    have e : P ++ (V1 ++ (x :: U2 ++ (M ++ (U1 ++ (y :: V2 ++ R))))) = (P ++ V1) ++ x :: ((U2 ++ (M ++ U1)) ++ y :: (V2 ++ R)) := by simp
    rw [e] at ar
    refine iW_of (by omega) ?_
    refine iW_of (by omega) ?_
    refine iW_of (by omega) ?_
    refine rdI (m := P.length + (U1.length + U2.length + 1) + M.length + i) (x := y) ar.2 (by simp; omega) (by omega) ?_ ?_
    · rw [← List.cons_append, ← List.append_assoc]
      exact mid_get (by simp; omega)
    refine iW_of (by omega) ?_
    refine rdI (m := P.length + i) (x := x) ar.2 (by simp; omega) (by omega) (mid_get (by simp; omega)) ?_
    refine wrI (m := P.length + i) ar.2 (by simp; omega) (by omega) (by omega) ?_
    refine wrI (m := P.length + (U1.length + U2.length + 1) + M.length + i) gS' (by simp; omega) (by omega) (by omega) ?_
    rw [swap2 (by simp; omega) (by simp; omega)]
    refine iW_of (by omega) ?_
    refine again ⟨i + 1, ⟨by omega, by omega, U1 ++ [x], U2, V1 ++ [y], V2, by simp, by simp, by simp; omega, by simp; omega, ?_⟩, by omega⟩
    refine (((ar.bump _).put (Y := _)).put.bump _).eq ?_
    simp
  · obtain rfl : U2 = [] := List.length_eq_zero_iff.1 (by omega)
    obtain rfl : V2 = [] := List.length_eq_zero_iff.1 (by simp at hv; omega)
    refine (ar.bump _).eq ?_
    simp
theorem slices_rotate {b n : Nat} {c : Cap} {cmp : AV} {σ : Mem} {X P U V R : List Int} {a1 a2 a3 : Int} (hX : X = P ++ (U ++ (V ++ R))) (hg : σ.get b = some (.rw (ic X))) (hn : X.length = n) (hl : n ≤ 2 ^ 60) (h1 : a1 = P.length) (h2 : a2 = (P.length + U.length : Nat)) (h3 : a3 = (P.length + U.length + V.length : Nat)) (hu : 0 < U.length) (hv : 0 < V.length) :
    ACalls PG n_slices_rotateCmpFunc_int_ [.slice b 0 n c, .int .i64 a1, .int .i64 a2, .int .i64 a3, cmp] σ fun _ σ' => Arr σ σ' b (P ++ (V ++ (U ++ R))) := by
  refine ok_slices_rotateCmpFunc_int_ fun live => ?_
  unfold F_slices_rotateCmpFunc_int_
  subst h1 h3
  have hlen : n = P.length + U.length + V.length + R.length := by rw [← hn, hX]; simp only [List.length_append]; omega
  obtain ⟨m, hm⟩ : ∃ m, m = P.length + U.length := ⟨_, rfl⟩
  rw [← hm] at h2
  subst h2
  refine iW_of (by omega) ?_
  refine iW_of (by omega) ?_
  obtain ⟨T, hT⟩ : ∃ T, T = P ++ (V ++ (U ++ R)) := ⟨_, rfl⟩
  rw [← hT]
  refine loop2 (fun (s : Nat) (i j : Int) σ' => ∃ P' U' V' R', i = U'.length ∧ j = V'.length ∧ s = U'.length + V'.length ∧ 0 < U'.length ∧ 0 < V'.length ∧ m = P'.length + U'.length ∧ n = P'.length + U'.length + V'.length + R'.length ∧ T = P' ++ (V' ++ (U' ++ R')) ∧ Arr σ σ' b (P' ++ (U' ++ (V' ++ R')))) (fun s => s) (U.length + V.length) ⟨P, U, V, R, by omega, by omega, rfl, hu, hv, hm, hlen, hT, (Arr.self (by rw [hg, hX])).bump _⟩ ?_
  clear hT hX hm hlen hu hv hg
  rintro s _ _ σ1 ⟨P, U, V, R, rfl, rfl, rfl, hu, hv, hm, hlen, rfl, ar⟩
  unfold F_slices_rotateCmpFunc_int__l1
  refine ifD (fun hne => ?_) (fun heq => ?_)
  · refine joinI ?_
    refine ifD (fun hlt => ?_) (fun hge => ?_)
    · obtain ⟨U1, U2, rfl, hU⟩ := split_at U (k := V.length) (by omega)
      simp only [List.length_append] at hu hm hlen hne hlt ⊢
      refine iW_of (by omega) ?_
      refine callW_of (slices_swapRange (P := P) (U := U1) (M := U2) (V := V) (R := R) rfl (by rw [Mem.get_bump, ar.2]; simp) (by simp; omega) hl (by omega) (by omega) (by omega) (by omega)) ?_
      intro v σ2 a2
      refine iW_of (by omega) ?_
      unfold F_slices_rotateCmpFunc_int__j1
      refine again ⟨U2.length + U1.length, ⟨P ++ V, U2, U1, R, by omega, by omega, rfl, by omega, by omega, by simp; omega, by simp; omega, by simp, ?_⟩, by omega⟩
      refine (((ar.bump _).trans a2).bump _).eq ?_
      simp
    · obtain ⟨V1, V2, rfl, hV⟩ := split_at V (k := V.length - U.length) (by omega)
      simp only [List.length_append] at hv hm hlen hne hge hV ⊢
      refine iW_of (by omega) ?_
      refine iW_of (by omega) ?_
      refine iW_of (by omega) ?_
      refine callW_of (slices_swapRange (P := P) (U := U) (M := V1) (V := V2) (R := R) rfl (by rw [Mem.get_bump, ar.2]; simp) (by simp; omega) hl (by omega) (by omega) (by omega) (by omega)) ?_
      intro v σ2 a2
      refine iW_of (by omega) ?_
      unfold F_slices_rotateCmpFunc_int__j1
      refine again ⟨V2.length + V1.length, ⟨P, V2, V1, U ++ R, by omega, by omega, rfl, by omega, by omega, by omega, by simp; omega, by simp, ?_⟩, by omega⟩
      refine (((ar.bump _).trans a2).bump _).eq ?_
      simp
  · refine iW_of (by omega) ?_
    refine callW_of (slices_swapRange (P := P) (U := U) (M := []) (V := V) (R := R) rfl (by rw [Mem.get_bump, ar.2]; simp) (by simp; omega) hl (by omega) (by simp; omega) (by omega) (by omega)) ?_
    intro v σ2 a2
    exact ((ar.bump _).trans a2).eq (by simp)
end Go.Vit
