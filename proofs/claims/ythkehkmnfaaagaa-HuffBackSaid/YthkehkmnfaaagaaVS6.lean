/- The table of lengths. -/
import Derived.Test.YthkehkmnfaaagaaVS5
set_option linter.unusedVariables false
set_option linter.unusedSimpArgs false
set_option linter.unusedSimpArgs false
set_option maxRecDepth 20000
namespace Go.Vit
open Go.Proofs
theorem one_cells {v : AV} (h : v.one = true) : v.cells = [v] := by cases v <;> first | rfl | exact Bool.noConfusion h
theorem RdS.one {k n : Nat} {σ : Mem} {v : AV} {cs : List AV} (h : RdS k σ v cs n) : v.one = true := by
  rcases h with ⟨rfl, _⟩ | ⟨b, c, rfl, _⟩ <;> rfl
theorem boxW_one {v : AV} {X : Prop} (h : v.one = true) (hx : X) : boxW v X := by cases v <;> first | exact Bool.noConfusion h | exact hx
theorem cellOkW_one {v : AV} {X : Prop} (h : v.one = true) (hx : X) : cellOkW v 1 X := by cases v <;> first | exact Bool.noConfusion h | exact hx
theorem cellOkW_agg {l : List AV} {n : Nat} {X : Prop} (h : l.length = n) (h1 : l.all AV.one = true) (hx : X) : cellOkW (.agg l) n X := ⟨⟨h, h1⟩, hx⟩
theorem boxW_agg {l : List AV} {X : Prop} (h : l.all AV.one = true) (hx : X) : boxW (.agg l) X := ⟨h, hx⟩
theorem RdS.same {k n : Nat} {σ σ' : Mem} {v : AV} {cs : List AV} (h : RdS k σ v cs n) (s : σ.Same σ') (hb : ∀ b ∈ blkOf v, b < σ.next) : RdS k σ' v cs n := h.keep fun b h => s.get b (hb b h)
theorem slices_insertionSort_nil {σ : Mem} {cmp : AV} : ACalls PG n_slices_insertionSortCmpFunc_int_ [.nils, .int .i64 0, .int .i64 0, cmp] σ fun _ σ' => σ.Same σ' := by
  refine ok_slices_insertionSortCmpFunc_int_ fun live => ?_
  unfold F_slices_insertionSortCmpFunc_int_
  refine iW_of (by omega) ?_
  refine loop1 (fun (_ : Nat) (x : Int) σ' => x = 1 ∧ σ.Same σ') (fun s => s) 0 ⟨rfl, (Mem.Same.refl σ).bump _⟩ ?_
  rintro _ _ σ1 ⟨rfl, s1⟩
  unfold F_slices_insertionSortCmpFunc_int__l1
  refine ifD (fun h => absurd h (by omega)) (fun _ => ?_)
  exact s1.bump _
theorem slices_SortStable_nil {σ : Mem} {cmp : AV} : ACalls PG n_slices_SortStableFunc___int_int_ [.nils, cmp] σ fun _ σ' => σ.Same σ' := by
  refine ok_slices_SortStableFunc___int_int_ fun live => ?_
  unfold F_slices_SortStableFunc___int_int_
  show callW _ _ _ _ _
  refine callW_of (Q := fun _ σ' => σ.Same σ') ?_ fun _ _ h => h
  refine ok_slices_stableCmpFunc_int_ fun live => ?_
  unfold F_slices_stableCmpFunc_int_
  refine loop2 (fun (_ : Nat) (x y : Int) σ' => x = 0 ∧ y = 20 ∧ σ.Same σ') (fun s => s) 0 ⟨rfl, rfl, ((Mem.Same.refl σ).bump _).bump _⟩ ?_
  rintro _ _ _ σ1 ⟨rfl, rfl, s1⟩
  unfold F_slices_stableCmpFunc_int__l1
  refine ifD (fun h => absurd h (by omega)) (fun _ => ?_)
  refine callW_of slices_insertionSort_nil ?_
  rintro _ σ2 s2
  refine loop1 (fun (_ : Nat) (x : Int) σ' => x = 20 ∧ σ.Same σ') (fun s => s) 0 ⟨rfl, s1.trans s2.ob⟩ ?_
  rintro _ _ σ3 ⟨rfl, s3⟩
  unfold F_slices_stableCmpFunc_int__l2
  refine ifD (fun h => absurd h (by omega)) (fun _ => ?_)
  exact s3.bump _
theorem sort_own {σ : Mem} {s cmp : AV} {X : List Int} {key : Int → Int} {S : Int → Prop} (own : OwnS 1 σ s (ic X) X.length) (hb : ∀ b ∈ blkOf s, b < σ.next) (hl : X.length ≤ 2 ^ 58) (hS : ∀ x ∈ X, S x) (hc : ∀ b ∈ blkOf s, Cmp σ b key S cmp) :
    ACalls PG n_slices_SortStableFunc___int_int_ [s, cmp] σ fun _ σ' => ∃ C, Stb key X C ∧ Srt key C ∧ OwnS 1 σ' s (ic C) X.length ∧ Mem.Only (blkOf s) σ σ' := by
  rcases own with ⟨rfl, h0, h1⟩ | ⟨b, rfl, hg, hlen⟩
  · obtain rfl : X = [] := List.length_eq_zero_iff.1 h0
    refine slices_SortStable_nil.mono ?_
    rintro _ σ' s'
    exact ⟨[], Stb.refl _, List.Pairwise.nil, .inl ⟨rfl, rfl, rfl⟩, ⟨s'.next, fun b h _ => s'.get b h⟩⟩
  · refine (slices_SortStable hg (hb b (by simp [blkOf])) rfl hl hS (hc b (by simp [blkOf]))).mono ?_
    rintro _ σ' ⟨C, h1, h2, h3⟩
    exact ⟨C, h1, h2, .inr ⟨b, rfl, h3.2, by rw [ic_len, h1.1, Nat.mul_one]⟩, h3.1⟩
/-- A table. -/
def tabC (l c : AV) (L : List Int) (s : AV) (n : Int) : List AV := [l, c] ++ cA L ++ [s, .int .i64 n]
def mostT (L : List Int) : Int := if many L < 2 then (many L : Nat) else 15
def Tab (lo : Nat) (L : List Int) (σ : Mem) (r : Nat) : Prop :=
  ∃ l c s T, σ.get r = some (.rw (tabC l c L s (mostT L))) ∧ RdS 1 σ l (ic L) L.length ∧ RdS 1 σ c (ic (codes L)) L.length ∧ RdS 1 σ s (ic T) T.length ∧ Stb (lkey L) (syms L L.length) T ∧ Srt (lkey L) T ∧ (lo ≤ r ∧ r < σ.next) ∧ (∀ b ∈ blkOf l, lo ≤ b ∧ b < σ.next) ∧ (∀ b ∈ blkOf c, lo ≤ b ∧ b < σ.next) ∧ (∀ b ∈ blkOf s, lo ≤ b ∧ b < σ.next)
theorem Tab.keep {lo hi : Nat} {L : List Int} {σ σ' : Mem} {r : Nat} (h : Tab lo L σ r) (hn : σ.next ≤ hi) (hg : ∀ b, lo ≤ b → b < hi → σ'.get b = σ.get b) (hs : σ.next ≤ σ'.next) : Tab lo L σ' r := by
  obtain ⟨l, c, s, T, h1, h2, h3, h4, h5, h6, h7, h8, h9, h10⟩ := h
  refine ⟨l, c, s, T, (hg r h7.1 (by omega)).trans h1, h2.keep fun b hb => hg b (h8 b hb).1 ?_, h3.keep fun b hb => hg b (h9 b hb).1 ?_, h4.keep fun b hb => hg b (h10 b hb).1 ?_, h5, h6, by omega, fun b hb => ?_, fun b hb => ?_, fun b hb => ?_⟩
  · have := h8 b hb; omega
  · have := h9 b hb; omega
  · have := h10 b hb; omega
  · have := h8 b hb; omega
  · have := h9 b hb; omega
  · have := h10 b hb; omega
def MakeR (L : List Int) (σ σ' : Mem) (v : AV) : Prop :=
  ∃ p, v = .tup [p, .int .i64 (chk L)] ∧ (chk L ≠ 0 → p = .nilp) ∧ (chk L = 0 → lens L ∧ ∃ r, p = .ptr r 0 ∧ Tab σ.next L σ' r) ∧ σ.Same σ'
theorem tabC_one {l c s : AV} {L : List Int} {n : Int} (h1 : l.one = true) (h2 : c.one = true) (h3 : s.one = true) : (tabC l c L s n).all AV.one = true := by
  unfold tabC
  simp only [List.all_append, List.all_cons, List.all_nil, h1, h2, h3, Bool.and_true, Bool.true_and]
  have h : (cA L).all AV.one = true := ic_one _
  rw [h]; rfl
theorem tabC_set (l c s s' : AV) (L : List Int) (n : Int) : (tabC l c L s n).set 18 s' = tabC l c L s' n := rfl
theorem tabC_set' (l c s : AV) (L : List Int) (n m : Int) : (tabC l c L s n).set 19 (.int .i64 m) = tabC l c L s m := rfl
theorem setAt_mid : ∀ (vc pre l post : List AV), l.length = vc.length → setAt (pre ++ (l ++ post)) pre.length vc = pre ++ (vc ++ post)
  | [], pre, l, post, h => by
    obtain rfl := List.length_eq_zero_iff.1 h
    rfl
  | c :: cs, pre, [], post, h => by simp at h
  | c :: cs, pre, x :: l, post, h => by
    show setAt ((pre ++ x :: (l ++ post)).set pre.length c) (pre.length + 1) cs = _
    have e : (pre ++ x :: (l ++ post)).set pre.length c = (pre ++ [c]) ++ (l ++ post) := by
      rw [List.set_append_right _ _ (Nat.le_refl _), Nat.sub_self]; simp
    have := setAt_mid cs (pre ++ [c]) l post (by simpa using h)
    rw [List.length_append] at this
    rw [e]
    rw [show (pre ++ [c]) ++ (cs ++ post) = pre ++ (c :: cs ++ post) from by simp] at this
    exact this
theorem tabC_eq (v c : AV) (m : List AV) (h : m.length = 16) : setAt (setAt (setAt (setAt ([AV.nils, AV.nils] ++ List.replicate 16 (AV.int IntKind.i64 0) ++ [AV.nils] ++ [AV.int IntKind.i64 0]) 0 [v]) 1 [c]) 2 m) 19 [AV.int IntKind.i64 15] = [v, c] ++ m ++ [AV.nils, AV.int IntKind.i64 15] := by
  have e := setAt_mid m [v, c] (List.replicate 16 (AV.int IntKind.i64 0)) [AV.nils, AV.int IntKind.i64 0] (by rw [h, List.length_replicate])
  have e2 := setAt_mid [AV.int IntKind.i64 15] ([v, c] ++ m ++ [AV.nils]) [AV.int IntKind.i64 0] [] rfl
  rw [show ([v, c] ++ m ++ [AV.nils]).length = 19 from by simp [h]] at e2
  show setAt (setAt ([v, c] ++ (List.replicate 16 (AV.int IntKind.i64 0) ++ [AV.nils, AV.int IntKind.i64 0])) 2 m) 19 [AV.int IntKind.i64 15] = _
  rw [show (2 : Nat) = [v, c].length from rfl, e, show [v, c] ++ (m ++ [AV.nils, AV.int IntKind.i64 0]) = [v, c] ++ m ++ [AV.nils] ++ ([AV.int IntKind.i64 0] ++ []) from by simp, e2]
  simp
theorem huff_Make {a : AV} {L : List Int} {σ : Mem} (ha : RdS 1 σ a (ic L) L.length) (hl : L.length ≤ 2 ^ 44) : ACalls PG n_huff_Make [a] σ fun v σ' => MakeR L σ σ' v := by
  refine ok_huff_Make fun live => ?_
  unfold F_huff_Make
  have hla := ha.lt live
  have hone := ha.one
  rw [one_cells hone]
  refine boxW_one hone ?_
  obtain ⟨pb, hpb⟩ : ∃ b, σ.next = b := ⟨_, rfl⟩
  rw [hpb]
  refine To.go ?_
  refine ldrw (l := [a]) (v := a) (by rw [Mem.get_bump, gS']) rfl ?_
  obtain ⟨σ1, h1⟩ : ∃ σ1, σ1 = (((σ.bump 3).put pb (some (.rw [a]))).bump 7) := ⟨_, rfl⟩
  rw [← h1]
  have n1 : σ1.next = σ.next + 10 := by rw [h1]; rfl
  have s1 : σ.Same σ1 := by rw [h1]; repeat (with_reducible first | assumption | exact Mem.Only.refl _ _ | exact Mem.Same.refl _ | refine Mem.Only.bump ?_ _ | refine Mem.Only.put ?_ (by simp) _ | refine Mem.Only.put ?_ (.inr (by first | omega | (simp only [Mem.next_bump, Mem.next_put]; omega))) _ | refine Mem.Same.bump ?_ _ | refine Mem.Same.put ?_ (by first | omega | (simp only [Mem.next_bump, Mem.next_put]; omega)) _)
  have e1 : σ1.get pb = some (.rw [a]) := by rw [h1, Mem.get_bump, gS']
  clear h1
  refine callW_of (huff_Codes (σ := σ1) (ha.same s1 hla) (by omega)) ?_
  rintro _ σ2 ⟨c, rfl, c1, c2, s2⟩
  have n2 := s2.next
  by_cases hc : chk L = 0
  · obtain ⟨hL, cb, rfl, gc, lc, lc'⟩ := c2 hc
    have hL1 := hL.1
    rw [hc]
    have s02 := s1.trans s2
    have e2 : σ2.get pb = some (.rw [a]) := (s2.get pb (by omega)).trans e1
    repeat (first | refine To.go ?_ | with_reducible refine And.intro (by first | omega | exact ⟨rfl, rfl⟩) ?_ | ((with_reducible apply opt); (· (first | with_reducible assumption | rfl))) | ((with_reducible apply ldrw); (· (first | with_reducible assumption | (simp (disch := omega) only [go_sem, *]; try rfl))); (· (first | with_reducible assumption | rfl))) | ((with_reducible apply ldro); (· (first | with_reducible assumption | (simp (disch := omega) only [go_sem, *]; try rfl))); (· (first | with_reducible assumption | rfl))) | ((with_reducible apply st1); (· (first | with_reducible assumption | (simp (disch := omega) only [go_sem, *]; try rfl))); (· simp); (· rfl)) | with_reducible refine ifT rfl ?_ | with_reducible refine ifF (not_not_intro rfl) ?_ | with_reducible refine ifT (by omega) ?_ | with_reducible refine ifF (by omega) ?_)
    refine callW_of (slices_Clone_ints (σ := σ2.bump 10) (ha.same (s02.bump 10) hla) hl) ?_
    rintro v σ3 ⟨rv, s3, bv, ov⟩
    have n3 := s3.next
    simp only [Mem.next_bump] at n3 bv
    have s03 := s02.trans s3.ob
    refine To.go ?_
    refine And.intro (s3.ob.get pb (by omega)) ?_
    refine callW_of (huff_counted (ha.same s03 hla) hL) ?_
    rintro _ σ4 ⟨rfl, s4⟩
    have n4 := s4.next
    have s04 := s03.trans s4
    refine cellOkW_one ov ?_
    refine To.go ?_
    rw [one_cells ov]
    refine cellOkW_agg (cA_len L) (ic_one _) ?_
    rw [show (AV.agg (cA L)).cells = cA L from rfl, show (AV.slice cb 0 L.length (Cap.ex L.length)).cells = [AV.slice cb 0 L.length (Cap.ex L.length)] from rfl, tabC_eq _ _ _ (cA_len L), show [v, AV.slice cb 0 L.length (Cap.ex L.length)] ++ cA L ++ [AV.nils, AV.int IntKind.i64 15] = tabC v (.slice cb 0 L.length (.ex L.length)) L .nils 15 from rfl]
    refine boxW_agg (tabC_one ov rfl rfl) ?_
    obtain ⟨r, hr⟩ : ∃ r, σ2.next + 8 = r := ⟨_, rfl⟩
    rw [hr]
    refine To.go ?_
    obtain ⟨σ5, h5⟩ : ∃ σ5, σ5 = σ4.put r (some (.rw (tabC v (.slice cb 0 L.length (.ex L.length)) L .nils 15))) := ⟨_, rfl⟩
    rw [← h5]
    have n5 : σ5.next = σ4.next := by rw [h5]; rfl
    have s05 : σ.Same σ5 := by rw [h5]; repeat (with_reducible first | assumption | exact Mem.Only.refl _ _ | exact Mem.Same.refl _ | refine Mem.Only.bump ?_ _ | refine Mem.Only.put ?_ (by simp) _ | refine Mem.Only.put ?_ (.inr (by first | omega | (simp only [Mem.next_bump, Mem.next_put]; omega))) _ | refine Mem.Same.bump ?_ _ | refine Mem.Same.put ?_ (by first | omega | (simp only [Mem.next_bump, Mem.next_put]; omega)) _)
    have e5 : σ5.get r = some (.rw (tabC v (.slice cb 0 L.length (.ex L.length)) L .nils 15)) := by rw [h5, gS']
    have k5 : ∀ b, b ≠ r → b < σ4.next → σ5.get b = σ4.get b := fun b h1 h2 => by rw [h5, Mem.get_put_ne _ h1]
    clear h5
    have p5 : σ5.get pb = some (.rw [a]) := by rw [k5 pb (by omega) (by omega), s4.get pb (by omega), s3.ob.get pb (by omega)]; exact e2
    have v5 : RdS 1 σ5 v (ic L) L.length := rv.keep fun b hb => by
      have := bv b hb
      rw [k5 b (by omega) (by omega), s4.get b (by omega)]
    have c5 : σ5.get cb = some (.rw (ic (codes L))) := by rw [k5 cb (by omega) (by omega), s4.get cb (by omega), s3.ob.get cb (by omega)]; exact gc
    refine ldrw (l := [a]) (v := a) p5 rfl ?_
    refine ha.len ?_
    refine loop1 (fun (i : Nat) (x : Int) σ' => x = i ∧ i ≤ L.length ∧ ∃ s, Mem.Only [r] σ5 σ' ∧ σ'.get r = some (.rw (tabC v (.slice cb 0 L.length (.ex L.length)) L s 15)) ∧ Own 1 σ5 σ' s (ic (syms L i)) (syms L i).length) (fun i => L.length - i) 0 ⟨rfl, by omega, .nils, ⟨by simp only [Mem.next_bump]; omega, fun _ _ _ => rfl⟩, e5, Own.nil 1 _ _⟩ ?_
    rintro i _ σ6 ⟨rfl, hi, s, o6, e6, own⟩
    unfold F_huff_Make_l1
    rw [hr]
    have n6 := o6.next
    have k6 : ∀ b, b < σ5.next → b ≠ r → σ6.get b = σ5.get b := fun b h1 h2 => o6.get b h1 (by simpa using h2)
    refine ifD (fun hlt => ?_) (fun hge => ?_)
    · have hil : i < L.length := by omega
      have s06 : ∀ b ∈ blkOf a, σ6.get b = σ.get b := fun b hb => by
        have := hla b hb
        rw [k6 b (by omega) (by omega), s05.get b (by omega)]
      have hml := syms_len (L := L) (i := i) (by omega)
      have hml2 := many_le (L.take i)
      rw [List.length_take] at hml2
      have hsucc := syms_succ L i
      obtain ⟨bk, ck, hae, hget⟩ := (ha.keep s06).at hil
      rw [hae]
      refine To.go ?_
      refine And.intro (by omega) ?_
      refine hget _ ?_
      have hgd := getD_of hil
      obtain ⟨x, hxe⟩ : ∃ x, L[i] = x := ⟨_, rfl⟩
      rw [hxe] at hgd ⊢
      rw [hgd] at hsucc
      refine To.go ?_
      refine join0 (fun σ' => ∃ s, Mem.Only [r] σ5 σ' ∧ σ'.get r = some (.rw (tabC v (.slice cb 0 L.length (.ex L.length)) L s 15)) ∧ Own 1 σ5 σ' s (ic (syms L (i + 1))) (syms L (i + 1)).length) ?_ ?_
      · refine ifD (fun h0 => ?_) (fun h0 => ?_)
        · rw [if_pos h0] at hsucc
          refine To.go ?_
          refine ldrw (v := s) e6 rfl ?_
          refine To.go ?_
          refine own.pushO (m := 1) o6 rfl (by omega) (by omega) (by omega) rfl rfl (ic_one _) (by omega) ?_ (by simp only [Mem.next_put, Mem.next_bump]; omega)
          intro s' σ7 own7 o7 hn7 o67 hb7
          have e7 : σ7.get r = some (.rw (tabC v (.slice cb 0 L.length (.ex L.length)) L s 15)) := by
            rw [o67.get r (by omega) fun h => by have := own.2 r h; omega]; exact e6
          refine To.go ?_
          refine st1 e7 (by simp [tabC, cA_len]) own7.1.rd.one ?_
          refine ⟨s', ⟨o7.next, fun b h1 h2 => ?_⟩, by rw [gS', tabC_set], ?_⟩
          · rw [Mem.get_put_ne _ (by simpa using h2)]; exact o7.get b h1 h2
          · rw [hsucc, ic_append, List.length_append]
            exact ⟨own7.1.keep fun b hb => by rw [Mem.get_put_ne _ (by have := own7.2 b hb; omega)], fun b hb => own7.2 b hb⟩
        · rw [if_neg h0, List.append_nil] at hsucc
          rw [hsucc]
          exact ⟨s, o6.bump _, e6, own.1.keep fun _ _ => rfl, fun b hb => by have := own.2 b hb; simp only [Mem.next_bump]; omega⟩
      · rintro σ7 ⟨s, o7, e7, own⟩
        unfold F_huff_Make_j1
        refine iW_of (by omega) ?_
        refine again ⟨i + 1, ⟨by omega, by omega, s, o7.bump _, e7, own.1.keep fun _ _ => rfl, fun b hb => by have := own.2 b hb; simp only [Mem.next_bump]; omega⟩, by omega⟩
    · obtain rfl : i = L.length := by omega
      have hml := syms_len (L := L) (i := L.length) (Nat.le_refl _)
      have hml2 := many_le L
      rw [List.take_length] at hml
      refine To.go ?_
      refine ldrw (v := s) e6 rfl ?_
      have ap6 : σ6.get pb = some (.rw [a]) := by rw [k6 pb (by omega) (by omega)]; exact p5
      rw [hpb]
      refine callW_of (sort_own (σ := σ6.bump 7) (s := s) (X := syms L L.length) (key := lkey L) (S := fun x => ∃ j : Nat, x = j ∧ j < L.length) (own.1.keep fun _ _ => rfl) (fun b hb => by have := own.2 b hb; simp only [Mem.next_bump]; omega) (by omega) ?_ ?_) ?_
      · intro x hx
        obtain ⟨j, h1, h2, _⟩ := syms_mem hx
        exact ⟨j, h1, h2⟩
      · intro b hb
        have := own.2 b hb
        refine cmp_Make (a := a) ap6 (by simp only [Mem.next_bump]; omega) (by omega) (ha.keep fun x hx => ?_) (fun x hx => ?_) (by omega)
        · have := hla x hx
          rw [Mem.get_bump, k6 x (by omega) (by omega), s05.get x (by omega)]
        · have := hla x hx
          simp only [Mem.next_bump]; omega
      rintro _ σ7 ⟨T, sT, oT, ownT, o7⟩
      have n7 := o7.next
      simp only [Mem.next_bump] at n7
      have hTl := sT.1
      have k7 : ∀ b, b < σ5.next → σ7.get b = σ6.get b := fun b h => o7.get b (by simp only [Mem.next_bump]; omega) fun hb => by have := own.2 b hb; omega
      have e7 : σ7.get r = some (.rw (tabC v (.slice cb 0 L.length (.ex L.length)) L s 15)) := by rw [k7 r (by omega)]; exact e6
      have fin : ∀ σ', σ7.next ≤ σ'.next → (∀ b, b < σ7.next → b ≠ r → σ'.get b = σ7.get b) → σ'.get r = some (.rw (tabC v (.slice cb 0 L.length (.ex L.length)) L s (mostT L))) → MakeR L σ σ' (.tup [.ptr r 0, .int .i64 0]) := by
        intro σ' n' k' e'
        refine ⟨_, by rw [hc], fun h => absurd hc h, fun _ => ⟨hL, r, rfl, v, _, s, T, e', v5.keep fun b hb => ?_, .inr ⟨cb, _, rfl, ⟨.rw (ic (codes L)), ?_, rfl⟩, by rw [ic_len, codes_len, Nat.mul_one]⟩, ?_, sT, oT, by omega, fun b hb => ?_, fun b hb => ?_, fun b hb => ?_⟩, by omega, fun b hb => ?_⟩
        · have := bv b hb
          rw [k' b (by omega) (by omega), k7 b (by omega), k6 b (by omega) (by omega)]
        · rw [k' cb (by omega) (by omega), k7 cb (by omega), k6 cb (by omega) (by omega)]; exact c5
        · rw [hTl]
          exact ownT.rd.keep fun b hb => by have := own.2 b hb; exact k' b (by omega) (by omega)
        · have := bv b hb; omega
        · simp only [blkOf, List.mem_singleton] at hb; omega
        · have := own.2 b hb; omega
        · rw [k' b (by omega) (by omega), k7 b (by omega), k6 b (by omega) (by omega), s05.get b (by omega)]
      refine To.go ?_
      refine ldrw (v := s) e7 rfl ?_
      refine ownT.rd.len ?_
      unfold F_huff_Make_j2
      rw [hr]
      refine joinI ?_
      have hmo : mostT L = if many L < 2 then ((many L : Nat) : Int) else 15 := rfl
      refine ifD (fun hlt => ?_) (fun hge => ?_)
      · rw [if_pos (by omega)] at hmo
        refine To.go ?_
        refine ldrw (v := s) e7 rfl ?_
        refine ownT.rd.len ?_
        refine To.go ?_
        refine st1 e7 (by simp [tabC, cA_len]) rfl ?_
        refine fin _ (by simp only [Mem.next_bump, Mem.next_put]; omega) (fun b h1 h2 => by rw [Mem.get_bump, Mem.get_put_ne _ h2]; rfl) ?_
        rw [Mem.get_bump, gS', tabC_set', hmo, hml]
      · rw [if_neg (by omega)] at hmo
        refine fin _ (by simp only [Mem.next_bump]; omega) (fun b h1 h2 => rfl) ?_
        rw [hmo]; exact e7
  · repeat (first | refine To.go ?_ | with_reducible refine And.intro (by first | omega | exact ⟨rfl, rfl⟩) ?_ | ((with_reducible apply opt); (· (first | with_reducible assumption | rfl))) | ((with_reducible apply ldrw); (· (first | with_reducible assumption | (simp (disch := omega) only [go_sem, *]; try rfl))); (· (first | with_reducible assumption | rfl))) | ((with_reducible apply ldro); (· (first | with_reducible assumption | (simp (disch := omega) only [go_sem, *]; try rfl))); (· (first | with_reducible assumption | rfl))) | ((with_reducible apply st1); (· (first | with_reducible assumption | (simp (disch := omega) only [go_sem, *]; try rfl))); (· simp); (· rfl)) | with_reducible refine ifT rfl ?_ | with_reducible refine ifF (not_not_intro rfl) ?_ | with_reducible refine ifT (by omega) ?_ | with_reducible refine ifF (by omega) ?_)
    exact ⟨_, rfl, fun _ => rfl, fun h => absurd h hc, (s1.trans s2).bump _⟩
end Go.Vit
