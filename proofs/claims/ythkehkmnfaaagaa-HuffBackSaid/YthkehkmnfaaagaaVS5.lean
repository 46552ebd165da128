/- Tables of codes. -/
import Derived.Test.YthkehkmnfaaagaaVS4
import Derived.Test.YthkehkmnfaaagaaVm3
import Derived.Test.YthkehkmnfaaagaaVH5
set_option linter.unusedVariables false
set_option linter.unusedSimpArgs false
set_option linter.unusedSimpArgs false
set_option maxRecDepth 20000
namespace Go.Vit
open Go.Proofs
theorem cmp_isNaN_int (x : Int) (σ : Mem) : ACalls PG n_cmp_isNaN_int_ [.int .i64 x] σ fun v σ' => v = .bool false ∧ σ.Same σ' := by
  refine ok_cmp_isNaN_int_ fun live => ?_
  unfold F_cmp_isNaN_int_
  exact ⟨by simp, (Mem.Same.refl σ).bump _⟩
theorem cmp_Compare_int (x y : Int) (σ : Mem) : ACalls PG n_cmp_Compare_int_ [.int .i64 x, .int .i64 y] σ fun v σ' => ∃ c, v = .int .i64 c ∧ (c < 0 ↔ x < y) ∧ σ.Same σ' := by
  refine ok_cmp_Compare_int_ fun live => ?_
  unfold F_cmp_Compare_int_
  refine callW_of (cmp_isNaN_int _ _) ?_
  rintro _ σ1 ⟨rfl, s1⟩
  replace s1 := s1.ob
  refine To.go ?_
  refine callW_of (cmp_isNaN_int _ _) ?_
  rintro _ σ2 ⟨rfl, s2⟩
  replace s2 := s2.ob
  have s := s1.trans s2
  refine To.go ?_
  repeat (first | refine To.go ?_ | with_reducible refine And.intro (by first | omega | exact ⟨rfl, rfl⟩) ?_ | ((with_reducible apply opt); (· (first | with_reducible assumption | rfl))) | ((with_reducible apply ldrw); (· (first | with_reducible assumption | (simp (disch := omega) only [go_sem, *]; try rfl))); (· (first | with_reducible assumption | rfl))) | ((with_reducible apply ldro); (· (first | with_reducible assumption | (simp (disch := omega) only [go_sem, *]; try rfl))); (· (first | with_reducible assumption | rfl))) | ((with_reducible apply st1); (· (first | with_reducible assumption | (simp (disch := omega) only [go_sem, *]; try rfl))); (· simp); (· rfl)) | with_reducible refine ifT rfl ?_ | with_reducible refine ifF (not_not_intro rfl) ?_ | with_reducible refine ifT (by omega) ?_ | with_reducible refine ifF (by omega) ?_)
  refine ifD (fun h => ?_) (fun h => ?_)
  · exact ⟨_, rfl, ⟨fun _ => h, fun _ => by omega⟩, s.bump _⟩
  refine ifD (fun h => ?_) (fun h => ?_)
  · exact ⟨_, rfl, ⟨fun _ => by omega, fun _ => by omega⟩, s.bump _⟩
  · exact ⟨_, rfl, ⟨fun _ => by omega, fun _ => by omega⟩, s.bump _⟩
/-- The comparator of Make. -/
theorem cmp_Make {b pb : Nat} {a : AV} {L : List Int} {σ0 : Mem} (hp : σ0.get pb = some (.rw [a])) (hpb : pb < σ0.next) (hne : pb ≠ b) (ha : RdS 1 σ0 a (ic L) L.length) (hla : ∀ x ∈ blkOf a, x < σ0.next ∧ x ≠ b) (hl : L.length ≤ 2 ^ 58) : Cmp σ0 b (lkey L) (fun x => ∃ j : Nat, x = j ∧ j < L.length) (.func n_huff_Make_1 [.ptr pb 0]) := by
  rintro σ _ _ o ⟨i, rfl, hi⟩ ⟨j, rfl, hj⟩ K hK
  have hp' : σ.get pb = some (.rw [a]) := (o.get pb hpb (by simpa using hne)).trans hp
  have ha' : RdS 1 σ a (ic L) L.length := ha.keep fun x hx => o.get x (hla x hx).1 (by simpa using (hla x hx).2)
  refine callvW_of (Q := fun v σ' => ∃ c, v = .int .i64 c ∧ (c < 0 ↔ lkey L i < lkey L j) ∧ σ.Same σ') ?_ ?_
  · refine ok_huff_Make_1 fun live => ?_
    unfold F_huff_Make_1
    refine ldrw (l := [a]) hp' rfl ?_
    obtain ⟨bk, c, rfl, hget⟩ := ha'.at hi
    have hget2 : ∀ (n : Nat) {K : AV → Prop}, K (.int .i64 L[j]) → ldW (σ.bump n) (.ptr bk j) K := by
      intro n K hK
      obtain ⟨bk', c', e, hget'⟩ := ha'.at hj
      injection e with e1 e2
      subst e1
      exact hget' n hK
    refine To.go ?_
    refine And.intro (by omega) ?_
    refine To.go ?_
    refine hget _ ?_
    refine To.go ?_
    refine ldrw (l := [_]) hp' rfl ?_
    refine To.go ?_
    refine And.intro (by omega) ?_
    refine To.go ?_
    refine hget2 _ ?_
    refine To.go ?_
    refine callW_of (cmp_Compare_int _ _ _) ?_
    rintro _ σ1 ⟨c, rfl, hc, s1⟩
    refine To.go ?_
    refine ⟨c, rfl, ?_, s1.ob⟩
    rw [hc]
    unfold lkey
    rw [Int.toNat_natCast, Int.toNat_natCast, getD_of hi, getD_of hj]
  · rintro _ σ' ⟨c, rfl, h1, h2⟩
    exact hK c σ' h1 h2
theorem slices_Clone_ints {a : AV} {L : List Int} {σ : Mem} (ha : RdS 1 σ a (ic L) L.length) (hl : L.length ≤ 2 ^ 44) : ACalls PG n_slices_Clone___int_int_ [a] σ fun v σ' => RdS 1 σ' v (ic L) L.length ∧ σ.Same σ' ∧ (∀ b ∈ blkOf v, σ.next ≤ b ∧ b < σ'.next) ∧ v.one = true := by
  refine ok_slices_Clone___int_int_ fun live => ?_
  have hla := ha.lt live
  unfold F_slices_Clone___int_int_
  rcases ha with ⟨rfl, h0, h1⟩ | ⟨b, c, rfl, hq, hlen⟩
  · repeat (first | refine To.go ?_ | with_reducible refine And.intro (by first | omega | exact ⟨rfl, rfl⟩) ?_ | ((with_reducible apply opt); (· (first | with_reducible assumption | rfl))) | ((with_reducible apply ldrw); (· (first | with_reducible assumption | (simp (disch := omega) only [go_sem, *]; try rfl))); (· (first | with_reducible assumption | rfl))) | ((with_reducible apply ldro); (· (first | with_reducible assumption | (simp (disch := omega) only [go_sem, *]; try rfl))); (· (first | with_reducible assumption | rfl))) | ((with_reducible apply st1); (· (first | with_reducible assumption | (simp (disch := omega) only [go_sem, *]; try rfl))); (· simp); (· rfl)) | with_reducible refine ifT rfl ?_ | with_reducible refine ifF (not_not_intro rfl) ?_ | with_reducible refine ifT (by omega) ?_ | with_reducible refine ifF (by omega) ?_)
    refine ⟨.inl ⟨rfl, h0, h1⟩, (Mem.Same.refl σ).bump _, fun b hb => by simp [blkOf] at hb, rfl⟩
  · repeat (first | refine To.go ?_ | with_reducible refine And.intro (by first | omega | exact ⟨rfl, rfl⟩) ?_ | ((with_reducible apply opt); (· (first | with_reducible assumption | rfl))) | ((with_reducible apply ldrw); (· (first | with_reducible assumption | (simp (disch := omega) only [go_sem, *]; try rfl))); (· (first | with_reducible assumption | rfl))) | ((with_reducible apply ldro); (· (first | with_reducible assumption | (simp (disch := omega) only [go_sem, *]; try rfl))); (· (first | with_reducible assumption | rfl))) | ((with_reducible apply st1); (· (first | with_reducible assumption | (simp (disch := omega) only [go_sem, *]; try rfl))); (· simp); (· rfl)) | with_reducible refine ifT rfl ?_ | with_reducible refine ifF (not_not_intro rfl) ?_ | with_reducible refine ifT (by omega) ?_ | with_reducible refine ifF (by omega) ?_)
    refine ap_fresh gS' (n := L.length) (cs := ic L) (.inr ⟨b, c, rfl, ?_, hlen⟩) (ic_one _) (by omega) (fun h0 => ?_) (fun h0 => ?_)
    · have := hla b (by simp [blkOf])
      rw [Mem.get_put_ne _ (by omega), Mem.get_bump]; exact hq
    · refine ⟨.inr ⟨_, _, by rw [h0], ⟨_, gS', by rw [List.length_eq_zero_iff.1 h0]; rfl⟩, by rw [List.length_eq_zero_iff.1 h0]; simp [ic]⟩, by repeat (with_reducible first | assumption | exact Mem.Only.refl _ _ | exact Mem.Same.refl _ | refine Mem.Only.bump ?_ _ | refine Mem.Only.put ?_ (by simp) _ | refine Mem.Only.put ?_ (.inr (by first | omega | (simp only [Mem.next_bump, Mem.next_put]; omega))) _ | refine Mem.Same.bump ?_ _ | refine Mem.Same.put ?_ (by first | omega | (simp only [Mem.next_bump, Mem.next_put]; omega)) _), ?_, rfl⟩
      intro b hb
      simp only [blkOf, List.mem_singleton] at hb
      simp only [Mem.next_put, Mem.next_bump]; omega
    · refine ⟨.inr ⟨_, _, rfl, ⟨_, gS', rfl⟩, by rw [ic_len, Nat.mul_one]⟩, by repeat (with_reducible first | assumption | exact Mem.Only.refl _ _ | exact Mem.Same.refl _ | refine Mem.Only.bump ?_ _ | refine Mem.Only.put ?_ (by simp) _ | refine Mem.Only.put ?_ (.inr (by first | omega | (simp only [Mem.next_bump, Mem.next_put]; omega))) _ | refine Mem.Same.bump ?_ _ | refine Mem.Same.put ?_ (by first | omega | (simp only [Mem.next_bump, Mem.next_put]; omega)) _), ?_, rfl⟩
      intro b hb
      simp only [blkOf, List.mem_singleton] at hb
      simp only [Mem.next_put, Mem.next_bump]; omega
end Go.Vit
