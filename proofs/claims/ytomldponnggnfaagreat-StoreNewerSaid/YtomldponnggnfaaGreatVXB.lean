/- The law StoreNewer. -/
import Derived.Test.YtomldponnggnfaaGreatVX18
import Derived.Test.YtomldponnggnfaaGreatVm3
import Derived.Test.YtomldponnggnfaaGreatVm4
set_option linter.unusedVariables false
set_option linter.unusedSimpArgs false
set_option linter.unusedSimpArgs false
set_option maxRecDepth 20000
set_option maxRecDepth 100000
namespace Go.Vit
open Go.Proofs
theorem eqB {x y : Bool} {K : Bool → Prop} (h : x = y) (hk : K true) : eqW .bool (.bool x) (.bool y) K := by
  subst h
  show K (x == x)
  rw [beq_self_eq_true]; exact hk
theorem isNaN_no (x : Int) (σ : Mem) : ACalls PG n_cmp_isNaN_int_ [.int .i64 x] σ fun v σ' => v = .bool false ∧ σ.Same σ' := by
  refine ok_cmp_isNaN_int_ fun _ => ?_
  unfold F_cmp_isNaN_int_
  exact ⟨by rw [decide_eq_false (not_not_intro rfl)], (Mem.Same.refl σ).bump _⟩
def cmpI (a b : Int) : Int := if a < b then -1 else if b < a then 1 else 0
theorem cmp_Compare (a b : Int) (σ : Mem) : ACalls PG n_cmp_Compare_int_ [.int .i64 a, .int .i64 b] σ fun v σ' => v = .int .i64 (cmpI a b) ∧ σ.Same σ' := by
  refine ok_cmp_Compare_int_ fun _ => ?_
  unfold F_cmp_Compare_int_
  refine callW_of (isNaN_no a _) ?_
  rintro _ σ1 ⟨rfl, s1⟩
  refine To.go ?_
  refine callW_of (isNaN_no b _) ?_
  rintro _ σ2 ⟨rfl, s2⟩
  have s : ∀ k, σ.Same (σ2.bump k) := fun k => (s1.ob.trans s2.ob).bump k
  refine To.go ?_
  refine ifF (p := False) id ?_
  refine ifF (p := False) id ?_
  unfold cmpI
  refine ifD (fun h => ?_) (fun h => ?_)
  · rw [if_pos h]; exact ⟨rfl, s _⟩
  · rw [if_neg h]
    refine ifD (fun h2 => ?_) (fun h2 => ?_)
    · rw [if_pos h2]; exact ⟨rfl, s _⟩
    · rw [if_neg h2]; exact ⟨rfl, s _⟩
theorem cmp_Or {σ : Mem} {b : Nat} {x y : Int} (hg : σ.get b = some (.rw [.int .i64 x, .int .i64 y])) : ACalls PG n_cmp_Or_int_ [.slice b 0 2 (.ex 2)] σ fun v σ' => v = .int .i64 (if x ≠ 0 then x else y) ∧ σ.Same σ' := by
  refine ok_cmp_Or_int_ fun live => ?_
  unfold F_cmp_Or_int_
  have hlt := live.lt hg
  refine To.go ?_
  refine loop1 (fun (i : Nat) (z : Int) σ' => z = i ∧ (i = 0 ∨ x = 0 ∧ (i = 1 ∨ i = 2 ∧ y = 0)) ∧ σ.Same σ') (fun i => 2 - i) 0 ⟨rfl, .inl rfl, (Mem.Same.refl σ).bump _⟩ ?_
  rintro i _ σ1 ⟨rfl, hi, s1⟩
  have g1 : ∀ k, (σ1.bump k).get b = some (.rw [.int .i64 x, .int .i64 y]) := fun k => (s1.get b hlt).trans hg
  unfold F_cmp_Or_int__l1
  rcases hi with rfl | ⟨hx, rfl | ⟨rfl, hy⟩⟩
  · refine ifT (by decide) ?_
    refine And.intro (by decide) ?_
    refine ldrw (σ := σ1.bump 4) (K := fun a => castI .i64 a _) (g1 4) (v := .int .i64 x) rfl ?_
    refine To.go ?_
    refine ifD (fun h => ?_) (fun h => ?_)
    · rw [if_pos h]; exact ⟨rfl, s1.bump _⟩
    · have hx0 : x = 0 := by omega
      refine iW_of2 (by omega) ?_
      exact again ⟨1, ⟨rfl, .inr ⟨hx0, .inl rfl⟩, s1.bump _⟩, by decide⟩
  · refine ifT (by decide) ?_
    refine And.intro (by decide) ?_
    refine ldrw (σ := σ1.bump 4) (K := fun a => castI .i64 a _) (g1 4) (v := .int .i64 y) rfl ?_
    refine To.go ?_
    refine ifD (fun h => ?_) (fun h => ?_)
    · rw [if_neg (by omega)]; exact ⟨rfl, s1.bump _⟩
    · have hy0 : y = 0 := by omega
      refine iW_of2 (by omega) ?_
      exact again ⟨2, ⟨rfl, .inr ⟨hx, .inr ⟨rfl, hy0⟩⟩, s1.bump _⟩, by decide⟩
  · refine ifF (by decide) ?_
    rw [if_neg (by omega), hy]; exact ⟨rfl, s1.bump _⟩
def newer (a b c d : Int) : Bool := decide (c < a) || (decide (a = c) && decide (d < b))
theorem store_Newer {a b c d : Int} {σ : Mem} : ACalls PG n_store_Newer [.agg [.int .i64 a, .int .i64 b], .agg [.int .i64 c, .int .i64 d]] σ fun v σ' => v = .bool (newer a b c d) ∧ σ.Same σ' := by
  refine ok_store_Newer fun live => ?_
  unfold F_store_Newer
  refine And.intro rfl ?_
  refine To.go ?_
  refine And.intro rfl ?_
  refine To.go ?_
  obtain ⟨b1, hb1⟩ : ∃ b1, σ.next = b1 := ⟨_, rfl⟩
  rw [hb1]
  obtain ⟨σ1, e1⟩ : ∃ σ1, σ1 = ((σ.bump 3).put b1 (some (.rw (AV.agg [.int .i64 a, .int .i64 b]).cells))).put (b1 + 1) (some (.rw (AV.agg [.int .i64 c, .int .i64 d]).cells)) := ⟨_, rfl⟩
  rw [← e1]
  have s1 : σ.Same σ1 := by rw [e1]; exact Mem.Same.put (Mem.Same.put ((Mem.Same.refl σ).bump _) (by omega) _) (by omega) _
  have n1 : σ1.next = σ.next + 3 := by rw [e1]; rfl
  have g2 : ∀ k, (σ1.bump k).get (b1 + 1) = some (.rw [.int .i64 c, .int .i64 d]) := fun k => by show σ1.get _ = _; rw [e1, gS']; rfl
  have g1 : ∀ k, (σ1.bump k).get b1 = some (.rw [.int .i64 a, .int .i64 b]) := fun k => by show σ1.get _ = _; rw [e1]; exact gN (by omega) gS'
  clear e1
  refine To.go ?_
  refine ldrw (K := fun a => castI .i64 a _) (g1 14) (v := .int .i64 a) rfl ?_
  refine To.go ?_
  refine To.go ?_
  refine ldrw (K := fun a => castI .i64 a _) (g2 14) (v := .int .i64 c) rfl ?_
  refine To.go ?_
  refine To.go ?_
  refine ldrw (K := fun a => castI .i64 a _) (g1 14) (v := .int .i64 b) rfl ?_
  refine To.go ?_
  refine To.go ?_
  refine ldrw (K := fun a => castI .i64 a _) (g2 14) (v := .int .i64 d) rfl ?_
  refine To.go ?_
  refine callW_of (cmp_Compare a c _) ?_
  rintro _ σ2 ⟨rfl, s2⟩
  have h12 : ∀ x, x < σ1.next → σ2.get x = (σ1.bump 14).get x := fun x hx => s2.get x (by simp only [Mem.next_bump]; omega)
  refine And.intro (h12 _ (by omega)) ?_
  refine And.intro (h12 _ (by omega)) ?_
  refine To.go ?_
  refine callW_of (cmp_Compare b d _) ?_
  rintro _ σ3 ⟨rfl, s3⟩
  have s03 : σ.Same σ3 := (s1.trans s2.ob).trans s3
  have n3 := s3.next
  have n2 := s2.next
  simp only [Mem.next_bump] at n2
  refine To.go ?_
  refine To.go ?_
  refine callW_of (cmp_Or (b := σ1.next + 10) (x := cmpI a c) (y := cmpI b d) gS') ?_
  rintro _ σ4 ⟨rfl, s4⟩
  refine To.go ?_
  refine ⟨?_, (Mem.Same.put s03 (by omega) _).trans s4⟩
  congr 1
  unfold cmpI newer
  by_cases h1 : a < c
  · rw [if_pos h1, if_pos (by decide), decide_eq_false (show ¬ c < a by omega), decide_eq_false (show ¬ a = c by omega)]; rfl
  · rw [if_neg h1]
    by_cases h2 : c < a
    · rw [if_pos h2, if_pos (by decide), decide_eq_true h2]; rfl
    · rw [if_neg h2, if_neg (by decide), decide_eq_false h2, decide_eq_true (show a = c by omega)]
      by_cases h3 : b < d
      · rw [if_pos h3, decide_eq_false (show ¬ d < b by omega)]; rfl
      · rw [if_neg h3]
        by_cases h4 : d < b
        · rw [if_pos h4, decide_eq_true h4]; rfl
        · rw [if_neg h4, decide_eq_false h4]; rfl
theorem ref18_Newer {a b c d : Int} {σ : Mem} : ACalls PG n_ref18_Newer [.agg [.int .i64 a, .int .i64 b], .agg [.int .i64 c, .int .i64 d]] σ fun v σ' => v = .bool (newer a b c d) ∧ σ.Same σ' := by
  refine ok_ref18_Newer fun live => ?_
  unfold F_ref18_Newer
  refine And.intro rfl ?_
  refine To.go ?_
  refine And.intro rfl ?_
  refine To.go ?_
  obtain ⟨b1, hb1⟩ : ∃ b1, σ.next = b1 := ⟨_, rfl⟩
  rw [hb1]
  obtain ⟨σ1, e1⟩ : ∃ σ1, σ1 = ((σ.bump 3).put b1 (some (.rw (AV.agg [.int .i64 a, .int .i64 b]).cells))).put (b1 + 1) (some (.rw (AV.agg [.int .i64 c, .int .i64 d]).cells)) := ⟨_, rfl⟩
  rw [← e1]
  have s1 : ∀ k, σ.Same (σ1.bump k) := fun k => by rw [e1]; exact (Mem.Same.put (Mem.Same.put ((Mem.Same.refl σ).bump _) (by omega) _) (by omega) _).bump k
  have g2 : ∀ k, (σ1.bump k).get (b1 + 1) = some (.rw [.int .i64 c, .int .i64 d]) := fun k => by show σ1.get _ = _; rw [e1, gS']; rfl
  have g1 : ∀ k, (σ1.bump k).get b1 = some (.rw [.int .i64 a, .int .i64 b]) := fun k => by show σ1.get _ = _; rw [e1]; exact gN (by omega) gS'
  clear e1
  have la : ∀ {K : Int → Prop}, K a → fldW 0 (.ptr b1 0) fun v => ldI (σ1.bump 20) v K := fun hk => ldrw (K := fun a => castI .i64 a _) (g1 20) (v := .int .i64 a) rfl hk
  have lb : ∀ {K : Int → Prop}, K b → fldW 1 (.ptr b1 0) fun v => ldI (σ1.bump 20) v K := fun hk => ldrw (K := fun a => castI .i64 a _) (g1 20) (v := .int .i64 b) rfl hk
  have lc : ∀ {K : Int → Prop}, K c → fldW 0 (.ptr (b1 + 1) 0) fun v => ldI (σ1.bump 20) v K := fun hk => ldrw (K := fun a => castI .i64 a _) (g2 20) (v := .int .i64 c) rfl hk
  have ld : ∀ {K : Int → Prop}, K d → fldW 1 (.ptr (b1 + 1) 0) fun v => ldI (σ1.bump 20) v K := fun hk => ldrw (K := fun a => castI .i64 a _) (g2 20) (v := .int .i64 d) rfl hk
  refine la ?_
  refine lc ?_
  unfold newer
  refine ifD (fun h => ?_) (fun h => ?_)
  · exact ⟨by rw [decide_eq_true h]; rfl, s1 _⟩
  · refine la ?_
    refine lc ?_
    refine ifD (fun h2 => ?_) (fun h2 => ?_)
    · refine lb ?_
      refine ld ?_
      exact ⟨by rw [decide_eq_false h, decide_eq_true h2]; rfl, s1 _⟩
    · exact ⟨by rw [decide_eq_false h, decide_eq_false h2]; rfl, s1 _⟩
theorem ver_inv {σ : Mem} {c : List AV} (h : Wt PG σ 23 c) : ∃ n m, c = [.int .i64 n, .int .i64 m] := by
  obtain ⟨hc, he⟩ := h.struct_inv Tryz.underlying23
  rw [show PG.cellsOf 23 = 2 from by kernel_rfl] at hc
  match c, hc with
  | [x, y], _ =>
    have h1 := he _ (List.mem_cons_self ..)
    have h2 := he _ (List.mem_cons_of_mem _ (List.mem_cons_self ..))
    rw [show PG.cellsOf _ = 1 from by kernel_rfl] at h1 h2
    obtain ⟨n, e1, _⟩ := h1.int_inv (k := .i64) (by kernel_rfl)
    obtain ⟨m, e2, _⟩ := h2.int_inv (k := .i64) (by kernel_rfl)
    refine ⟨n, m, ?_⟩
    simp only [List.drop_zero, List.take_succ_cons, List.take_zero, List.drop_succ_cons] at e1 e2
    simp only [List.cons.injEq, and_true] at e1 e2 ⊢
    exact ⟨e1, e2⟩
theorem law18_StoreNewer (σ : Mem) (l : List AV) (_ : σ.Ro) (hw : Wts PG σ Tryz.f4.params.toList l) : ACalls PG n_law18_StoreNewer l σ fun v _ => isTrue v := by
  rw [Tryz.params4] at hw
  obtain ⟨x, r, rfl, hx, hw⟩ := Wts.agg (by kernel_rfl) hw
  obtain ⟨y, r, rfl, hy, hw⟩ := Wts.agg (by kernel_rfl) hw
  obtain rfl := hw.nil_inv
  obtain ⟨a, b, rfl⟩ := ver_inv hx
  obtain ⟨c, d, rfl⟩ := ver_inv hy
  refine ok_law18_StoreNewer fun live => ?_
  unfold F_law18_StoreNewer
  refine And.intro rfl ?_
  refine To.go ?_
  refine And.intro rfl ?_
  refine To.go ?_
  obtain ⟨b1, hb1⟩ : ∃ b1, σ.next = b1 := ⟨_, rfl⟩
  rw [hb1]
  obtain ⟨σ1, e1⟩ : ∃ σ1, σ1 = ((σ.bump 3).put b1 (some (.rw (AV.agg [.int .i64 a, .int .i64 b]).cells))).put (b1 + 1) (some (.rw (AV.agg [.int .i64 c, .int .i64 d]).cells)) := ⟨_, rfl⟩
  rw [← e1]
  have n1 : σ1.next = σ.next + 3 := by rw [e1]; rfl
  have g2 : ∀ k, (σ1.bump k).get (b1 + 1) = some (.rw [.int .i64 c, .int .i64 d]) := fun k => by show σ1.get _ = _; rw [e1, gS']; rfl
  have g1 : ∀ k, (σ1.bump k).get b1 = some (.rw [.int .i64 a, .int .i64 b]) := fun k => by show σ1.get _ = _; rw [e1]; exact gN (by omega) gS'
  clear e1
  refine ldnq (g1 11) rfl (by show 2 ≤ 2; decide) ?_
  refine ldnq (g2 11) rfl (by show 2 ≤ 2; decide) ?_
  refine ldnq (g1 11) rfl (by show 2 ≤ 2; decide) ?_
  refine ldnq (g2 11) rfl (by show 2 ≤ 2; decide) ?_
  refine callW_of (store_Newer (a := a) (b := b) (c := c) (d := d)) ?_
  rintro _ σ2 ⟨rfl, s2⟩
  have h12 : ∀ x, x < σ1.next → σ2.get x = (σ1.bump 11).get x := fun x hx => s2.get x (by simp only [Mem.next_bump]; omega)
  refine And.intro (h12 _ (by omega)) ?_
  refine And.intro (h12 _ (by omega)) ?_
  refine To.go ?_
  refine callW_of (ref18_Newer (a := a) (b := b) (c := c) (d := d)) ?_
  rintro _ σ3 ⟨rfl, s3⟩
  refine To.go ?_
  refine eqB rfl ?_
  refine ifI (fun _ => ?_) (fun h => by cases h)
  refine callW_of (law18_awake _) ?_
  rintro _ σ4 ⟨rfl, _⟩
  exact rfl
end Go.Vit
