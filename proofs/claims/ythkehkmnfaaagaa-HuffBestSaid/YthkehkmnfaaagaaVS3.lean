/- Sorting: two sorted rows are merged in place. -/
import Derived.Test.YthkehkmnfaaagaaVS2
set_option linter.unusedVariables false
set_option linter.unusedSimpArgs false
set_option linter.unusedSimpArgs false
set_option maxRecDepth 20000
namespace Go.Vit
open Go.Proofs
section
variable {key : Int → Int}
theorem getD_mid {X L l R : List Int} (e : X = L ++ (l ++ R)) {i : Nat} (h1 : L.length ≤ i) (h2 : i < L.length + l.length) : X.getD i 0 = l[i - L.length]'(by omega) := by
  subst e
  rw [List.getD_eq_getElem?_getD, List.getElem?_append_right h1, List.getElem?_append_left (by omega), List.getElem?_eq_getElem (by omega)]; rfl
theorem Srt.mono {X L l R : List Int} (h : Srt key l) (e : X = L ++ (l ++ R)) {i j : Nat} (h1 : L.length ≤ i) (h2 : i ≤ j) (h3 : j < L.length + l.length) : key (X.getD i 0) ≤ key (X.getD j 0) := by
  rw [getD_mid e h1 (by omega), getD_mid e (by omega) h3]
  rcases Nat.eq_or_lt_of_le h2 with rfl | h2
  · exact Int.le_refl _
  · exact List.pairwise_iff_getElem.1 h _ _ _ _ (by omega)
theorem mem_idx {X L l R : List Int} (e : X = L ++ (l ++ R)) {x : Int} (h : x ∈ l) : ∃ i, L.length ≤ i ∧ i < L.length + l.length ∧ X.getD i 0 = x := by
  obtain ⟨k, hk, rfl⟩ := List.mem_iff_getElem.1 h
  refine ⟨L.length + k, by omega, by omega, ?_⟩
  rw [getD_mid e (by omega) (by omega)]
  congr 1
  omega
theorem idx_mem {X L l R : List Int} (e : X = L ++ (l ++ R)) {i : Nat} (h1 : L.length ≤ i) (h2 : i < L.length + l.length) : X.getD i 0 ∈ l := by
  rw [getD_mid e h1 h2]
  exact List.getElem_mem _
theorem get_getD {X : List Int} {i : Nat} (h : i < X.length) : X[i]? = some (X.getD i 0) := by rw [List.getD_eq_getElem?_getD, List.getElem?_eq_getElem h]; rfl
end
theorem mid_of {v : Int} {h : Nat} {K : Int → Prop} (e : v = h) (hb : h ≤ 2 ^ 62) (hk : K (h / 2 : Nat)) : wrW .u64 v fun x => letW (x / 2) fun y => iW y K := by
  subst e
  refine To.go ?_
  show iW _ _
  rw [show ((h : Int) % 18446744073709551616 / 2) = ((h / 2 : Nat) : Int) from by omega]
  exact iW_of (by omega) hk
variable {b n : Nat} {c : Cap} {cmp : AV} {key : Int → Int} {S : Int → Prop}
theorem slices_symMerge : ∀ (N : Nat) {σ : Mem} {X P A B R : List Int} {a1 a2 a3 : Int}, A.length + B.length ≤ N → X = P ++ (A ++ (B ++ R)) → σ.get b = some (.rw (ic X)) → b < σ.next → X.length = n → n ≤ 2 ^ 60 → a1 = P.length → a2 = (P.length + A.length : Nat) → a3 = (P.length + A.length + B.length : Nat) →
    0 < A.length → 0 < B.length → Srt key A → Srt key B → (∀ x ∈ A, S x) → (∀ x ∈ B, S x) → Cmp σ b key S cmp →
    ACalls PG n_slices_symMergeCmpFunc_int_ [.slice b 0 n c, .int .i64 a1, .int .i64 a2, .int .i64 a3, cmp] σ fun _ σ' => ∃ C, Stb key (A ++ B) C ∧ Srt key C ∧ Arr σ σ' b (P ++ (C ++ R)) := by
  intro N
  induction N with
  | zero => intro σ X P A B R a1 a2 a3 hN _ _ _ _ _ _ _ _ hA; omega
  | succ N ih =>
  intro σ X P A B R a1 a2 a3 hN hX hg hb hn hl h1 h2 h3 hA hB oA oB hSA hSB hc
  refine ok_slices_symMergeCmpFunc_int_ fun live => ?_
  unfold F_slices_symMergeCmpFunc_int_
  have hlen : n = P.length + A.length + B.length + R.length := by rw [← hn, hX]; simp only [List.length_append]; omega
  have eA : X = P ++ (A ++ (B ++ R)) := hX
  have eB : X = (P ++ A) ++ (B ++ R) := by rw [hX]; simp
  have lPA : (P ++ A).length = P.length + A.length := List.length_append
  obtain ⟨a, ha⟩ : ∃ a, a = P.length := ⟨_, rfl⟩
  obtain ⟨m, hm⟩ : ∃ m, m = P.length + A.length := ⟨_, rfl⟩
  obtain ⟨d, hd⟩ : ∃ d, d = P.length + A.length + B.length := ⟨_, rfl⟩
  rw [← ha] at h1
  rw [← hm] at h2
  rw [← hd] at h3
  subst h1 h2 h3
  have mA : ∀ {i j : Nat}, a ≤ i → i ≤ j → j < m → key (X.getD i 0) ≤ key (X.getD j 0) := fun h1 h2 h3 => oA.mono eA (by omega) h2 (by omega)
  have mB : ∀ {i j : Nat}, m ≤ i → i ≤ j → j < d → key (X.getD i 0) ≤ key (X.getD j 0) := fun h1 h2 h3 => oB.mono eB (by omega) h2 (by omega)
  have sA : ∀ {i : Nat}, a ≤ i → i < m → S (X.getD i 0) := fun h1 h2 => hSA _ (idx_mem eA (by omega) (by omega))
  have sB : ∀ {i : Nat}, m ≤ i → i < d → S (X.getD i 0) := fun h1 h2 => hSB _ (idx_mem eB (by omega) (by omega))
  have ar0 : Arr σ σ b X := Arr.self hg
  refine iW_of (by omega) ?_
  refine ifD (fun hone => ?_) (fun hne => ?_)
  · -- one thing ahead
    obtain ⟨x, A', rfl⟩ := split_one A (by rintro rfl; simp at hA)
    obtain rfl : A' = [] := List.length_eq_zero_iff.1 (by simp only [List.length_cons] at hm; omega)
    simp only [List.length_cons, List.length_nil] at hm hd hlen
    have hx : X.getD a 0 = x := by rw [getD_mid eA (by omega) (by simp; omega)]; simp [ha]
    refine loop2 (fun (s : Nat) (i j : Int) σ' => ∃ i' j' : Nat, i = i' ∧ j = j' ∧ m ≤ i' ∧ i' ≤ j' ∧ j' ≤ d ∧ s = j' - i' ∧ (∀ t, m ≤ t → t < i' → key (X.getD t 0) < key x) ∧ (∀ t, j' ≤ t → t < d → key x ≤ key (X.getD t 0)) ∧ Arr σ σ' b X) (fun s => s) (d - m) ⟨m, d, rfl, rfl, by omega, by omega, by omega, rfl, fun t h1 h2 => by omega, fun t h1 h2 => by omega, ar0.bump _⟩ ?_
    rintro s _ _ σ1 ⟨i, j, rfl, rfl, hmi, hij, hjd, rfl, lo, hi, ar⟩
    unfold F_slices_symMergeCmpFunc_int__l1
    refine ifD (fun hlt => ?_) (fun hge => ?_)
    · obtain ⟨h, hh⟩ : ∃ h, h = (i + j) / 2 := ⟨_, rfl⟩
      refine iW_of (by omega) ?_
      refine mid_of (h := i + j) (by omega) (by omega) ?_
      rw [← hh]
      refine rdI (m := h) ar.2 hn rfl (get_getD (by omega)) ?_
      refine rdI (m := a) ar.2 hn rfl (get_getD (by omega)) ?_
      rw [hx]
      refine hc _ _ x (ar.bump _).1 (sB (by omega) (by omega)) (hSA _ (by simp)) _ fun c σ2 hcmp s2 => ?_
      have ar := (ar.bump _).same s2 ((ar.bump _).lt hb)
      refine To.go ?_
      refine joinI ?_
      unfold F_slices_symMergeCmpFunc_int__j1
      refine ifD (fun hlt => ?_) (fun hge => ?_)
      · have hlt := hcmp.1 hlt
        refine iW_of (by omega) ?_
        refine again ⟨j - (h + 1), ⟨h + 1, j, by omega, rfl, by omega, by omega, hjd, rfl, fun t h1 h2 => ?_, hi, ar.bump _⟩, by omega⟩
        have := mB h1 (show t ≤ h by omega) (by omega)
        omega
      · have hge : key x ≤ key (X.getD h 0) := by have := mt hcmp.2 hge; omega
        refine again ⟨h - i, ⟨i, h, rfl, rfl, hmi, by omega, by omega, rfl, lo, fun t h1 h2 => ?_, ar.bump _⟩, by omega⟩
        have := mB (show m ≤ h by omega) h1 h2
        omega
    · obtain rfl : i = j := by omega
      obtain ⟨B1, B2, rfl, hB1⟩ := split_at B (k := i - m) (by omega)
      simp only [List.length_append] at hd hlen hB
      have e1 : X = (P ++ [x]) ++ (B1 ++ (B2 ++ R)) := by rw [hX]; simp
      have e2 : X = (P ++ [x] ++ B1) ++ (B2 ++ R) := by rw [hX]; simp
      have l1 : ∀ y ∈ B1, key y < key x := fun y hy => by
        obtain ⟨t, h1, h2, rfl⟩ := mem_idx e1 hy
        simp only [List.length_append, List.length_cons, List.length_nil] at h1 h2
        exact lo t (by omega) (by omega)
      have l2 : ∀ y ∈ B2, key x ≤ key y := fun y hy => by
        obtain ⟨t, h1, h2, rfl⟩ := mem_idx e2 hy
        simp only [List.length_append, List.length_cons, List.length_nil] at h1 h2
        exact hi t (by omega) (by omega)
      refine loop1 (fun (s : Nat) (k : Int) σ' => ∃ B3 B4, B1 = B3 ++ B4 ∧ s = B4.length ∧ k = (a + B3.length : Nat) ∧ Arr σ σ' b (P ++ (B3 ++ x :: (B4 ++ (B2 ++ R))))) (fun s => s) B1.length ⟨[], B1, rfl, rfl, by simp, (ar.bump _).eq (by rw [hX]; simp)⟩ ?_
      rintro s _ σ2 ⟨B3, B4, rfl, rfl, rfl, ar⟩
      unfold F_slices_symMergeCmpFunc_int__l2
      simp only [List.length_append] at hB1 hd hlen
      refine iW_of (by omega) ?_
      refine ifD (fun hlt => ?_) (fun hge => ?_)
      · obtain ⟨y, B4, rfl⟩ := split_one B4 (by rintro rfl; simp only [List.length_nil] at hB1; omega)
        simp only [List.length_cons] at hB1 hd hlen ⊢
        have e : P ++ (B3 ++ x :: (y :: B4 ++ (B2 ++ R))) = (P ++ B3) ++ x :: ([] ++ y :: (B4 ++ (B2 ++ R))) := by simp
        rw [e] at ar
        refine iW_of (by omega) ?_
        refine iW_of (by omega) ?_
        refine rdI (m := a + B3.length + 1) (x := y) ar.2 (by simp; omega) (by omega) ?_ ?_
        · rw [List.nil_append, show (P ++ B3) ++ x :: y :: (B4 ++ (B2 ++ R)) = ((P ++ B3) ++ [x]) ++ y :: (B4 ++ (B2 ++ R)) from by simp]
          exact mid_get (by simp; omega)
        refine rdI (m := a + B3.length) (x := x) ar.2 (by simp; omega) (by omega) (mid_get (by simp; omega)) ?_
        refine wrI (m := a + B3.length) ar.2 (by simp; omega) (by omega) (by omega) ?_
        refine wrI (m := a + B3.length + 1) gS' (by simp; omega) (by omega) (by omega) ?_
        rw [swap2 (by simp; omega) (by simp)]
        refine iW_of (by omega) ?_
        refine again ⟨B4.length, ⟨B3 ++ [y], B4, by simp, rfl, by simp; omega, ?_⟩, by omega⟩
        refine (((ar.bump _).put (Y := _)).put.bump _).eq ?_
        simp
      · obtain rfl : B4 = [] := List.length_eq_zero_iff.1 (by omega)
        rw [List.append_nil] at l1
        refine ⟨B3 ++ x :: B2, ?_, ?_, (ar.bump _).eq (by simp)⟩
        · have t : Stb key (([x] ++ B3) ++ B2) ((B3 ++ [x]) ++ B2) := (Stb.swap fun y hy z hz => by rw [List.mem_singleton] at hy; subst hy; exact l1 z hz).append (Stb.refl B2)
          simpa using t
        · rw [List.append_nil] at oB
          refine oB.left.append (List.pairwise_cons.2 ⟨l2, oB.right⟩) fun y hy z hz => ?_
          rcases List.mem_cons.1 hz with rfl | hz
          · exact Int.le_of_lt (l1 y hy)
          · exact oB.rel y hy z hz
  refine iW_of (by omega) ?_
  refine ifD (fun hone => ?_) (fun hne2 => ?_)
  · -- one thing behind
    obtain ⟨x, B', rfl⟩ := split_one B (by rintro rfl; simp at hB)
    obtain rfl : B' = [] := List.length_eq_zero_iff.1 (by simp only [List.length_cons] at hd; omega)
    simp only [List.length_cons, List.length_nil] at hm hd hlen
    have hx : X.getD m 0 = x := by rw [getD_mid eB (by omega) (by simp; omega)]; simp [hm]
    refine loop2 (fun (s : Nat) (i j : Int) σ' => ∃ i' j' : Nat, i = i' ∧ j = j' ∧ a ≤ i' ∧ i' ≤ j' ∧ j' ≤ m ∧ s = j' - i' ∧ (∀ t, a ≤ t → t < i' → key (X.getD t 0) ≤ key x) ∧ (∀ t, j' ≤ t → t < m → key x < key (X.getD t 0)) ∧ Arr σ σ' b X) (fun s => s) (m - a) ⟨a, m, rfl, rfl, by omega, by omega, by omega, rfl, fun t h1 h2 => by omega, fun t h1 h2 => by omega, ar0.bump _⟩ ?_
    rintro s _ _ σ1 ⟨i, j, rfl, rfl, hmi, hij, hjd, rfl, lo, hi, ar⟩
    unfold F_slices_symMergeCmpFunc_int__l3
    refine ifD (fun hlt => ?_) (fun hge => ?_)
    · obtain ⟨h, hh⟩ : ∃ h, h = (i + j) / 2 := ⟨_, rfl⟩
      refine iW_of (by omega) ?_
      refine mid_of (h := i + j) (by omega) (by omega) ?_
      rw [← hh]
      refine rdI (m := m) ar.2 hn rfl (get_getD (by omega)) ?_
      refine rdI (m := h) ar.2 hn rfl (get_getD (by omega)) ?_
      rw [hx]
      refine hc _ x _ (ar.bump _).1 (hSB _ (by simp)) (sA (by omega) (by omega)) _ fun c σ2 hcmp s2 => ?_
      have ar := (ar.bump _).same s2 ((ar.bump _).lt hb)
      refine To.go ?_
      refine joinI ?_
      unfold F_slices_symMergeCmpFunc_int__j2
      by_cases hlt : c < 0
      · rw [decide_eq_true hlt]
        have hlt := hcmp.1 hlt
        refine again ⟨h - i, ⟨i, h, rfl, rfl, hmi, by omega, by omega, rfl, lo, fun t h1 h2 => ?_, ar.bump _⟩, by omega⟩
        have := mA (show a ≤ h by omega) h1 h2
        omega
      · rw [decide_eq_false hlt]
        have hge : key (X.getD h 0) ≤ key x := by have := mt hcmp.2 hlt; omega
        refine iW_of (by omega) ?_
        refine again ⟨j - (h + 1), ⟨h + 1, j, by omega, rfl, by omega, by omega, hjd, rfl, fun t h1 h2 => ?_, hi, ar.bump _⟩, by omega⟩
        have := mA h1 (show t ≤ h by omega) (by omega)
        omega
    · obtain rfl : i = j := by omega
      obtain ⟨A1, A2, rfl, hA1⟩ := split_at A (k := i - a) (by omega)
      simp only [List.length_append] at hm hd hlen hA
      have e1 : X = P ++ (A1 ++ (A2 ++ (x :: R))) := by rw [hX]; simp
      have e2 : X = (P ++ A1) ++ (A2 ++ (x :: R)) := by rw [hX]; simp
      have l1 : ∀ y ∈ A1, key y ≤ key x := fun y hy => by
        obtain ⟨t, h1, h2, rfl⟩ := mem_idx e1 hy
        exact lo t (by omega) (by omega)
      have l2 : ∀ y ∈ A2, key x < key y := fun y hy => by
        obtain ⟨t, h1, h2, rfl⟩ := mem_idx e2 hy
        simp only [List.length_append] at h1 h2
        exact hi t (by omega) (by omega)
      refine loop1 (fun (s : Nat) (k : Int) σ' => ∃ A3 A4, A2 = A3 ++ A4 ∧ s = A3.length ∧ k = (i + A3.length : Nat) ∧ Arr σ σ' b (P ++ (A1 ++ (A3 ++ x :: (A4 ++ R))))) (fun s => s) A2.length ⟨A2, [], by simp, rfl, by omega, (ar.bump _).eq (by rw [hX]; simp)⟩ ?_
      rintro s _ σ2 ⟨A3, A4, rfl, rfl, rfl, ar⟩
      unfold F_slices_symMergeCmpFunc_int__l4
      simp only [List.length_append] at hm hd hlen
      refine ifD (fun hlt => ?_) (fun hge => ?_)
      · obtain ⟨A3, y, rfl⟩ := split_last A3 (by rintro rfl; simp only [List.length_nil] at hlt; omega)
        simp only [List.length_append, List.length_cons, List.length_nil] at hm hd hlen ⊢
        have e : P ++ (A1 ++ (A3 ++ [y] ++ x :: (A4 ++ R))) = (P ++ A1 ++ A3) ++ y :: ([] ++ x :: (A4 ++ R)) := by simp
        rw [e] at ar
        refine iW_of (by omega) ?_
        refine iW_of (by omega) ?_
        refine rdI (m := i + A3.length) (x := y) ar.2 (by simp; omega) (by omega) (mid_get (by simp; omega)) ?_
        have hgx : ((P ++ A1 ++ A3) ++ y :: ([] ++ x :: (A4 ++ R)))[i + A3.length + 1]? = some x := by
          rw [List.nil_append, show (P ++ A1 ++ A3) ++ y :: x :: (A4 ++ R) = ((P ++ A1 ++ A3) ++ [y]) ++ x :: (A4 ++ R) from by simp]
          exact mid_get (by simp; omega)
        refine rdI (m := i + A3.length + 1) (x := x) ar.2 (by simp; omega) (by omega) hgx ?_
        refine wrI (m := i + A3.length + 1) ar.2 (by simp; omega) (by omega) (by omega) ?_
        refine wrI (m := i + A3.length) gS' (by simp; omega) (by omega) (by omega) ?_
        rw [swap2' (by simp; omega) (by simp)]
        refine iW_of (by omega) ?_
        refine again ⟨A3.length, ⟨A3, y :: A4, by simp, rfl, by omega, ?_⟩, by omega⟩
        refine (((ar.bump _).put (Y := _)).put.bump _).eq ?_
        simp
      · obtain rfl : A3 = [] := List.length_eq_zero_iff.1 (by omega)
        rw [List.nil_append] at l2
        refine ⟨A1 ++ x :: A4, ?_, ?_, (ar.bump _).eq (by simp)⟩
        · have t : Stb key (A1 ++ (A4 ++ [x])) (A1 ++ ([x] ++ A4)) := (Stb.refl A1).append (Stb.swap fun y hy z hz => by rw [List.mem_singleton] at hz; subst hz; exact l2 y hy)
          simpa using t
        · rw [List.nil_append] at oA
          refine oA.left.append (List.pairwise_cons.2 ⟨fun z hz => Int.le_of_lt (l2 z hz), oA.right⟩) fun y hy z hz => ?_
          rcases List.mem_cons.1 hz with rfl | hz
          · exact l1 y hy
          · exact oA.rel y hy z hz
  -- halves
  obtain ⟨q, hq⟩ : ∃ q, q = (a + d) / 2 := ⟨_, rfl⟩
  refine iW_of (by omega) ?_
  refine mid_of (h := a + d) (by omega) (by omega) ?_
  rw [← hq]
  refine iW_of (by omega) ?_
  refine join2 (fun (i j : Int) σ' => ∃ i' j' : Nat, i = i' ∧ j = j' ∧ (q < m ∧ i' = q + m - d ∧ j' = q ∨ m ≤ q ∧ i' = a ∧ j' = m) ∧ Arr σ σ' b X) ?_ ?_
  · refine ifD (fun hlt => ?_) (fun hge => ?_)
    · refine iW_of (by omega) ?_
      exact ⟨q + m - d, q, by omega, rfl, .inl ⟨by omega, rfl, rfl⟩, ar0.bump _⟩
    · exact ⟨a, m, rfl, rfl, .inr ⟨by omega, rfl, rfl⟩, ar0.bump _⟩
  rintro _ _ σ1 ⟨s0, r0, rfl, rfl, hsr, ar⟩
  unfold F_slices_symMergeCmpFunc_int__j3
  refine iW_of (by omega) ?_
  have hs0 : a ≤ s0 ∧ s0 ≤ r0 ∧ r0 ≤ m ∧ r0 ≤ q ∧ q + m ≤ s0 + d := by omega
  refine loop2 (fun (s : Nat) (i j : Int) σ' => ∃ i' j' : Nat, i = i' ∧ j = j' ∧ s0 ≤ i' ∧ i' ≤ j' ∧ j' ≤ r0 ∧ s = j' - i' ∧ (∀ t, s0 ≤ t → t < i' → key (X.getD t 0) ≤ key (X.getD (q + m - 1 - t) 0)) ∧ (∀ t, j' ≤ t → t < r0 → key (X.getD (q + m - 1 - t) 0) < key (X.getD t 0)) ∧ Arr σ σ' b X) (fun s => s) (r0 - s0) ⟨s0, r0, rfl, rfl, by omega, by omega, by omega, rfl, fun t h1 h2 => by omega, fun t h1 h2 => by omega, ar.bump _⟩ ?_
  clear ar
  rintro s _ _ σ2 ⟨i, j, rfl, rfl, hmi, hij, hjd, rfl, lo, hi, ar⟩
  unfold F_slices_symMergeCmpFunc_int__l5
  refine ifD (fun hlt => ?_) (fun hge => ?_)
  · obtain ⟨h, hh⟩ : ∃ h, h = (i + j) / 2 := ⟨_, rfl⟩
    refine iW_of (by omega) ?_
    refine mid_of (h := i + j) (by omega) (by omega) ?_
    rw [← hh]
    refine iW_of (by omega) ?_
    refine rdI (m := q + m - 1 - h) ar.2 hn (by omega) (get_getD (by omega)) ?_
    refine rdI (m := h) ar.2 hn rfl (get_getD (by omega)) ?_
    refine hc _ _ _ (ar.bump _).1 (sB (by omega) (by omega)) (sA (by omega) (by omega)) _ fun c σ2 hcmp s2 => ?_
    have ar := (ar.bump _).same s2 ((ar.bump _).lt hb)
    refine To.go ?_
    refine joinI ?_
    unfold F_slices_symMergeCmpFunc_int__j4
    by_cases hlt : c < 0
    · rw [decide_eq_true hlt]
      have hlt := hcmp.1 hlt
      refine again ⟨h - i, ⟨i, h, rfl, rfl, hmi, by omega, by omega, rfl, lo, fun t h1 h2 => ?_, ar.bump _⟩, by omega⟩
      have := mA (show a ≤ h by omega) h1 (by omega)
      have := mB (show m ≤ q + m - 1 - t by omega) (show q + m - 1 - t ≤ q + m - 1 - h by omega) (by omega)
      omega
    · rw [decide_eq_false hlt]
      have hge : key (X.getD h 0) ≤ key (X.getD (q + m - 1 - h) 0) := by have := mt hcmp.2 hlt; omega
      refine iW_of (by omega) ?_
      refine again ⟨j - (h + 1), ⟨h + 1, j, by omega, rfl, by omega, by omega, hjd, rfl, fun t h1 h2 => ?_, hi, ar.bump _⟩, by omega⟩
      have := mA (show a ≤ t by omega) (show t ≤ h by omega) (by omega)
      have := mB (show m ≤ q + m - 1 - h by omega) (show q + m - 1 - h ≤ q + m - 1 - t by omega) (by omega)
      omega
  obtain rfl : i = j := by omega
  obtain ⟨A1, A2, rfl, hA1⟩ := split_at A (k := i - a) (by omega)
  obtain ⟨B1, B2, rfl, hB1⟩ := split_at B (k := q - i) (by omega)
  simp only [List.length_append] at hm hd hlen hN
  have f1 : X = P ++ (A1 ++ (A2 ++ (B1 ++ (B2 ++ R)))) := by rw [hX]; simp
  have f2 : X = (P ++ A1) ++ (A2 ++ (B1 ++ (B2 ++ R))) := by rw [hX]; simp
  have f3 : X = (P ++ A1 ++ A2) ++ (B1 ++ (B2 ++ R)) := by rw [hX]; simp
  have f4 : X = (P ++ A1 ++ A2 ++ B1) ++ (B2 ++ R) := by rw [hX]; simp
  have h12 : ∀ x ∈ A1, ∀ y ∈ B2, key x ≤ key y := by
    intro x hx y hy
    obtain ⟨t, h1, h2, rfl⟩ := mem_idx f1 hx
    obtain ⟨u, h3, h4, rfl⟩ := mem_idx f4 hy
    simp only [List.length_append] at h3 h4
    have g1 := mA (show a ≤ t by omega) (show t ≤ i - 1 by omega) (by omega)
    have g2 := lo (i - 1) (by omega) (by omega)
    have g3 := mB (show m ≤ q + m - 1 - (i - 1) by omega) (show q + m - 1 - (i - 1) ≤ u by omega) (by omega)
    omega
  have h21 : ∀ x ∈ A2, ∀ y ∈ B1, key y < key x := by
    intro x hx y hy
    obtain ⟨t, h1, h2, rfl⟩ := mem_idx f2 hx
    obtain ⟨u, h3, h4, rfl⟩ := mem_idx f3 hy
    simp only [List.length_append] at h1 h2 h3 h4
    have g1 := mA (show a ≤ i by omega) (show i ≤ t by omega) (by omega)
    have g2 := hi i (by omega) (by omega)
    have g3 := mB (show m ≤ u by omega) (show u ≤ q + m - 1 - i by omega) (by omega)
    omega
  obtain ⟨e, he⟩ : ∃ e, e = q + m - i := ⟨_, rfl⟩
  have right : ∀ L σ', Stb key (A1 ++ B1) L → Srt key L → Arr σ σ' b (P ++ (L ++ (A2 ++ (B2 ++ R)))) → F_slices_symMergeCmpFunc_int__j6 (.slice b 0 n c) d cmp (fun _ σ' => ∃ C, Stb key ((A1 ++ A2) ++ (B1 ++ B2)) C ∧ Srt key C ∧ Arr σ σ' b (P ++ (C ++ R))) q e σ' := by
    intro L σ' sL oL ar
    have hL := sL.1
    simp only [List.length_append] at hL
    have fin : ∀ R' σ'', Stb key (A2 ++ B2) R' → Srt key R' → Arr σ σ'' b (P ++ (L ++ (R' ++ R))) → ∃ C, Stb key ((A1 ++ A2) ++ (B1 ++ B2)) C ∧ Srt key C ∧ Arr σ σ'' b (P ++ (C ++ R)) := by
      intro R' σ'' sR oR ar
      obtain ⟨g1, g2⟩ := merge_halves oA oB h12 h21 sL oL sR oR
      exact ⟨L ++ R', g2, g1, ar.eq (by simp)⟩
    unfold F_slices_symMergeCmpFunc_int__j6
    refine ifD (fun hlt => ?_) (fun hge => ?_)
    · refine joinI ?_
      unfold F_slices_symMergeCmpFunc_int__j7
      refine ifD (fun hlt2 => ?_) (fun hge2 => ?_)
      · refine callW_of (ih (P := P ++ L) (A := A2) (B := B2) (R := R) (by omega) rfl (by rw [Mem.get_bump, ar.2]; simp) ((ar.bump _).lt hb) (by simp; omega) hl (by simp; omega) (by simp; omega) (by simp; omega) (by omega) (by omega) oA.right oB.right (fun x hx => hSA x (by simp [hx])) (fun x hx => hSB x (by simp [hx])) (hc.of (ar.bump _).1)) ?_
        rintro v σ3 ⟨C, sC, oC, aC⟩
        exact fin C σ3 sC oC (((ar.bump _).trans aC).eq (by simp))
      · obtain rfl : B2 = [] := List.length_eq_zero_iff.1 (by omega)
        exact fin A2 _ (by simpa using Stb.refl A2) oA.right (ar.bump _)
    · refine joinI ?_
      unfold F_slices_symMergeCmpFunc_int__j8
      obtain rfl : A2 = [] := List.length_eq_zero_iff.1 (by omega)
      exact fin B2 _ (by simpa using Stb.refl B2) oB.right (ar.bump _)
  have left : ∀ σ', Arr σ σ' b (P ++ (A1 ++ (B1 ++ (A2 ++ (B2 ++ R))))) → F_slices_symMergeCmpFunc_int__j5 (.slice b 0 n c) a d cmp (fun _ σ' => ∃ C, Stb key ((A1 ++ A2) ++ (B1 ++ B2)) C ∧ Srt key C ∧ Arr σ σ' b (P ++ (C ++ R))) q i e σ' := by
    intro σ' ar
    unfold F_slices_symMergeCmpFunc_int__j5
    refine ifD (fun hlt => ?_) (fun hge => ?_)
    · refine joinI ?_
      refine ifD (fun hlt2 => ?_) (fun hge2 => ?_)
      · refine callW_of (ih (P := P) (A := A1) (B := B1) (R := A2 ++ (B2 ++ R)) (by omega) rfl (by rw [Mem.get_bump, ar.2]) ((ar.bump _).lt hb) (by simp; omega) hl (by omega) (by omega) (by omega) (by omega) (by omega) oA.left oB.left (fun x hx => hSA x (by simp [hx])) (fun x hx => hSB x (by simp [hx])) (hc.of (ar.bump _).1)) ?_
        rintro v σ3 ⟨C, sC, oC, aC⟩
        exact right C σ3 sC oC ((ar.bump _).trans aC)
      · obtain rfl : B1 = [] := List.length_eq_zero_iff.1 (by omega)
        exact right A1 _ (by simpa using Stb.refl A1) oA.left (ar.bump _)
    · refine joinI ?_
      obtain rfl : A1 = [] := List.length_eq_zero_iff.1 (by omega)
      exact right B1 _ (by simpa using Stb.refl B1) oB.left (ar.bump _)
  refine iW_of (by omega) ?_
  rw [show ((q : Int) + m - i) = (e : Nat) from by omega]
  refine ifD (fun hlt => ?_) (fun hge => ?_)
  · refine joinI ?_
    refine ifD (fun hlt2 => ?_) (fun hge2 => ?_)
    · refine callW_of (slices_rotate (P := P ++ A1) (U := A2) (V := B1) (R := B2 ++ R) rfl (by rw [Mem.get_bump, ar.2, f1]; simp) (by simp; omega) hl (by simp; omega) (by simp; omega) (by simp; omega) (by omega) (by omega)) ?_
      intro v σ3 a3
      exact left σ3 (((ar.bump _).trans a3).eq (by simp))
    · obtain rfl : B1 = [] := List.length_eq_zero_iff.1 (by omega)
      exact left _ ((ar.bump _).eq (by rw [f1]; simp))
  · refine joinI ?_
    obtain rfl : A2 = [] := List.length_eq_zero_iff.1 (by omega)
    exact left _ ((ar.bump _).eq (by rw [f1]; simp))
end Go.Vit
