/- The kit's sort, for twelve numbers at most. -/
import Derived.Test.YtgdaiahnceaieaaV9I
import Derived.Test.YtgdaiahnceaieaaV9P
import Derived.Test.YtgdaiahnceaieaaV9Ja
set_option linter.unusedVariables false
set_option linter.unusedSimpArgs false
set_option linter.unusedSimpArgs false
set_option maxRecDepth 20000
namespace Go.Vit
open Go.Proofs
theorem cmp_isNaN (x : Int) (σ : Mem) : ACalls PG n_cmp_isNaN_int_ [.int .i64 x] σ fun v σ' => v = .bool false ∧ σ.Same σ' := by
  refine ok_cmp_isNaN_int_ fun _ => ?_
  unfold F_cmp_isNaN_int_
  exact ⟨by rw [decide_eq_false (not_not_intro rfl)], (Mem.Same.refl σ).bump _⟩
theorem cmp_Less (x y : Int) (σ : Mem) : ACalls PG n_cmp_Less_int_ [.int .i64 x, .int .i64 y] σ fun v σ' => v = .bool (decide (x < y)) ∧ σ.Same σ' := by
  refine ok_cmp_Less_int_ fun _ => ?_
  unfold F_cmp_Less_int_
  refine callW_of (cmp_isNaN x _) ?_
  rintro _ σ1 ⟨rfl, s1⟩
  refine To.go ?_
  refine ifF (p := False) id ?_
  exact ⟨rfl, s1.ob⟩
theorem rdK {σ : Mem} {b n : Nat} {c : Cap} {l : List AV} {i : Nat} {x : Int} {K : Int → Prop} (hg : σ.get b = some (.rw l)) (hi : i < n) (hx : l[i]? = some (.int .i64 x)) {j : Int} (hj : j = (i : Nat)) (hk : K x) : idxW 1 (.slice b 0 n c) j fun p => ldI σ p K := by
  subst hj
  refine And.intro (show (0 : Int) ≤ (i : Nat) ∧ ((i : Nat) : Int) < (n : Nat) by omega) ?_
  rw [Int.toNat_natCast, Nat.zero_add, Nat.mul_one]
  exact ldrw (σ := σ) (K := fun a => castI .i64 a K) hg hx hk
theorem wrK {σ : Mem} {b n : Nat} {c : Cap} {l : List AV} {i : Nat} {x : Int} {K : Mem → Prop} (hg : σ.get b = some (.rw l)) (hi : i < n) (hl : i < l.length) {j : Int} (hj : j = (i : Nat)) (hk : K (σ.put b (some (.rw (l.set i (.int .i64 x)))))) : idxW 1 (.slice b 0 n c) j fun p => stW 1 σ p (.int .i64 x) K := by
  subst hj
  refine And.intro (show (0 : Int) ≤ (i : Nat) ∧ ((i : Nat) : Int) < (n : Nat) by omega) ?_
  rw [Int.toNat_natCast, Nat.zero_add, Nat.mul_one]
  exact st1 hg hl rfl hk
theorem rdC {σ : Mem} {b n : Nat} {c : Cap} {L : List Int} {i : Nat} {K : Int → Prop} (hg : σ.get b = some (.rw (ic L))) (hi : i < n) (hl : i < L.length) {j : Int} (hj : j = (i : Nat)) (hk : K (gd L i)) : idxW 1 (.slice b 0 n c) j fun p => ldI σ p K :=
  rdK hg hi (by rw [ic_get hl, gd_eq hl]) hj hk
theorem wrC {σ : Mem} {b n : Nat} {c : Cap} {L : List Int} {i : Nat} {x : Int} {K : Mem → Prop} (hg : σ.get b = some (.rw (ic L))) (hi : i < n) (hl : i < L.length) {j : Int} (hj : j = (i : Nat)) (hk : K (σ.put b (some (.rw (ic (L.set i x)))))) : idxW 1 (.slice b 0 n c) j fun p => stW 1 σ p (.int .i64 x) K :=
  wrK hg hi (by rw [ic_len]; exact hl) hj (by rw [ic_set]; exact hk)
theorem ins_small {σ : Mem} {v : AV} {n : Nat} (hn : n ≤ 1) : ACalls PG n_slices_insertionSortOrdered_int_ [v, .int .i64 0, .int .i64 (n : Nat)] σ fun _ σ' => σ.Same σ' := by
  refine ok_slices_insertionSortOrdered_int_ fun live => ?_
  unfold F_slices_insertionSortOrdered_int_
  refine iW_of (by omega) ?_
  refine loop1 (fun (_ : Nat) (x : Int) σ' => x = 1 ∧ σ.Same σ') (fun s => s) 0 ⟨rfl, (Mem.Same.refl σ).bump _⟩ ?_
  rintro _ _ σ1 ⟨rfl, s1⟩
  unfold F_slices_insertionSortOrdered_int__l1
  refine ifF (by omega) ?_
  exact s1.bump _
theorem ins_any {σ : Mem} {b n : Nat} {c : Cap} {X : List Int} (hX : X.length = n) (hn : n ≤ 2 ^ 40) (hg : σ.get b = some (.rw (ic X))) : ACalls PG n_slices_insertionSortOrdered_int_ [.slice b 0 n c, .int .i64 0, .int .i64 (n : Nat)] σ fun _ σ' => σ'.get b = some (.rw (ic (srt X))) ∧ Mem.Only [b] σ σ' := by
  refine ok_slices_insertionSortOrdered_int_ fun live => ?_
  unfold F_slices_insertionSortOrdered_int_
  have hbl := live.lt hg
  refine iW_of (by omega) ?_
  refine loop1 (fun (g : Nat × List Int) (z : Int) σ' => z = g.1 ∧ 1 ≤ g.1 ∧ (g.1 ≤ n ∨ n = 0) ∧ g.2.Perm X ∧ ordT g.2 g.1 ∧ σ'.get b = some (.rw (ic g.2)) ∧ Mem.Only [b] σ σ') (fun g => n - g.1) (1, X) ⟨rfl, Nat.le_refl _, by omega, .refl _, fun p q h1 h2 => by omega, hg, (Mem.Only.refl _ _).bump _⟩ ?_
  rintro ⟨i, L⟩ _ σ1 ⟨rfl, hi1, hin, hp, ho, g1, o1⟩
  dsimp only at hi1 hin hp ho g1 ⊢
  have hL := hp.length_eq
  unfold F_slices_insertionSortOrdered_int__l1
  refine ifD (fun hlt => ?_) (fun hge => ?_)
  · refine join0 (fun σ' => ∃ L', L'.Perm X ∧ ordT L' (i + 1) ∧ σ'.get b = some (.rw (ic L')) ∧ Mem.Only [b] σ σ') ?_ ?_
    · refine loop1 (fun (g : Nat × List Int) (z : Int) σ' => z = g.1 ∧ g.1 ≤ i ∧ g.2.Perm X ∧ ordX g.2 i g.1 ∧ σ'.get b = some (.rw (ic g.2)) ∧ Mem.Only [b] σ σ') (fun g => g.1) (i, L) ⟨rfl, Nat.le_refl _, hp, ordX_of ho, g1, o1.bump _⟩ ?_
      rintro ⟨j, M⟩ _ σ2 ⟨rfl, hji, hpM, hoM, g2, o2⟩
      dsimp only at hji hpM hoM g2 ⊢
      have hM := hpM.length_eq
      unfold F_slices_insertionSortOrdered_int__l2
      refine ifD (fun hj0 => ?_) (fun hj0 => ?_)
      · refine rdC (σ := σ2.bump 15) (i := j) g2 (by omega) (by omega) rfl ?_
        refine iW_of (by omega) ?_
        refine rdC (σ := σ2.bump 15) (i := j - 1) g2 (by omega) (by omega) (by omega) ?_
        refine callW_of (cmp_Less (gd M j) (gd M (j - 1)) _) ?_
        rintro _ σ3 ⟨rfl, s3⟩
        have n2 := o2.next
        have g3 : σ3.get b = some (.rw (ic M)) := (s3.get b (by simp only [Mem.next_bump]; omega)).trans g2
        have o3 : Mem.Only [b] σ σ3 := Only.then o2 (Only.of_same (l := [b]) s3.ob) (fun _ h => h) (fun _ h => h)
        refine To.go ?_
        refine ifD (fun hlt => ?_) (fun hge => ?_)
        · refine iW_of (by omega) ?_
          refine iW_of (by omega) ?_
          refine rdC (σ := σ3.bump 18) (i := j - 1) g3 (by omega) (by omega) (by omega) ?_
          refine rdC (σ := σ3.bump 18) (i := j) g3 (by omega) (by omega) rfl ?_
          refine wrC (σ := σ3.bump 18) (i := j) g3 (by omega) (by omega) rfl ?_
          refine wrC (i := j - 1) (L := M.set j (gd M (j - 1))) gS' (by omega) (by rw [List.length_set]; omega) (by omega) ?_
          refine iW_of (by omega) ?_
          refine again ⟨(j - 1, swp M j), ⟨by dsimp only; omega, by dsimp only; omega, (swp_perm (by omega)).trans hpM, ordX_swp hoM (by omega) (by omega) hji hlt, gB gS', Mem.Only.bump (Mem.Only.put (Mem.Only.put (o3.bump _) (by simp) _) (by simp) _) _⟩, by dsimp only; omega⟩
        · exact ⟨M, hpM, ordX_end hoM hji (.inr (by omega)), g3, o3⟩
      · exact ⟨M, hpM, ordX_end hoM hji (.inl (by omega)), g2, o2.bump _⟩
    · rintro σ2 ⟨L', hp', ho', g2, o2⟩
      unfold F_slices_insertionSortOrdered_int__j1
      refine iW_of (by omega) ?_
      exact again ⟨(i + 1, L'), ⟨by dsimp only; omega, by dsimp only; omega, by dsimp only; omega, hp', ho', g2, o2.bump _⟩, by dsimp only; omega⟩
  · have e : L = srt X := srt_uniq hp (ordT_pair fun p q h1 h2 => ho p q h1 (by omega))
    rw [e] at g1
    exact ⟨g1, o1.bump _⟩
theorem pdq_small {σ : Mem} {v : AV} {n : Nat} {k : Int} (hn : n ≤ 1) : ACalls PG n_slices_pdqsortOrdered_int_ [v, .int .i64 0, .int .i64 (n : Nat), .int .i64 k] σ fun _ σ' => σ.Same σ' := by
  refine ok_slices_pdqsortOrdered_int_ fun live => ?_
  unfold F_slices_pdqsortOrdered_int_
  refine loop5 (fun (_ : Nat) (x1 x2 x3 : Int) (x4 x5 : Bool) σ' => x1 = 0 ∧ x2 = (n : Nat) ∧ σ.Same σ') (fun s => s) 0 ⟨rfl, rfl, (Mem.Same.refl σ).bump _⟩ ?_
  rintro _ _ _ k x4 x5 σ1 ⟨rfl, rfl, s1⟩
  unfold F_slices_pdqsortOrdered_int__l1
  refine joinI ?_
  refine iW_of (by omega) ?_
  refine ifT (by omega) ?_
  refine callW_of (ins_small (σ := σ1.bump 10) hn) ?_
  rintro _ σ2 s2
  exact s1.trans s2.ob
theorem pdq_few {σ : Mem} {b n : Nat} {c : Cap} {X : List Int} {k : Int} (hX : X.length = n) (hn : n ≤ 12) (hg : σ.get b = some (.rw (ic X))) : ACalls PG n_slices_pdqsortOrdered_int_ [.slice b 0 n c, .int .i64 0, .int .i64 (n : Nat), .int .i64 k] σ fun _ σ' => σ'.get b = some (.rw (ic (srt X))) ∧ Mem.Only [b] σ σ' := by
  refine ok_slices_pdqsortOrdered_int_ fun live => ?_
  unfold F_slices_pdqsortOrdered_int_
  refine loop5 (fun (_ : Nat) (x1 x2 x3 : Int) (x4 x5 : Bool) σ' => x1 = 0 ∧ x2 = (n : Nat) ∧ σ.Same σ') (fun s => s) 0 ⟨rfl, rfl, (Mem.Same.refl σ).bump _⟩ ?_
  rintro _ _ _ k x4 x5 σ1 ⟨rfl, rfl, s1⟩
  unfold F_slices_pdqsortOrdered_int__l1
  refine joinI ?_
  refine iW_of (by omega) ?_
  refine ifT (by omega) ?_
  refine callW_of (ins_any (σ := σ1.bump 10) (c := c) hX (by omega) ((s1.get b (live.lt hg)).trans hg)) ?_
  rintro _ σ2 ⟨g2, o2⟩
  exact ⟨g2, Only.then (Only.of_same (l := [b]) (s1.bump 10)) o2 (fun _ h => h) (fun _ h => h)⟩
def len4 (n : Nat) : Int := if n = 0 then 0 else if n = 1 then 1 else if n < 4 then 2 else if n < 8 then 3 else 4
theorem len_all : (List.range 13).all (fun n => runsTo PG 200 20 n_math_bits_Len [.int .u64 (n : Nat)] (.int .i64 (len4 n))) = true := by kernel_rfl
theorem bits_Len {n : Nat} (h : n ≤ 12) (σ : Mem) : ACalls PG n_math_bits_Len [.int .u64 (n : Nat)] σ fun v σ' => v = .int .i64 (len4 n) ∧ σ' = σ :=
  ACalls.runs mixed 200 20 (List.all_eq_true.1 len_all n (by rw [List.mem_range]; omega)) rfl rfl σ
theorem slices_Sort {σ0 σ : Mem} {v : AV} {X : List Int} (h : Own 1 σ0 σ v (ic X) X.length) (s0 : σ0.Same σ) (hX : X.length ≤ 12) : ACalls PG n_slices_Sort___int_int_ [v] σ fun _ σ' => Own 1 σ0 σ' v (ic (srt X)) X.length ∧ σ0.Same σ' := by
  refine ok_slices_Sort___int_int_ fun live => ?_
  unfold F_slices_Sort___int_int_
  refine h.1.rd.len ?_
  dsimp only [wrW]
  rw [show IntKind.u64.wrap ((X.length : Nat) : Int) = ((X.length : Nat) : Int) from by rw [IntKind.wrap_u64]; omega]
  refine callW_of (bits_Len hX _) ?_
  rintro _ σ1 ⟨rfl, rfl⟩
  refine To.go ?_
  by_cases h0 : X.length = 0
  · have e : X = [] := List.length_eq_zero_iff.1 h0
    subst e
    refine callW_of (pdq_small (n := 0) (by decide)) ?_
    rintro _ σ2 s2
    rw [show srt [] = [] from (srt_perm []).eq_nil]
    exact ⟨h.same s2.ob, s0.trans s2.ob⟩
  · rcases h.1 with ⟨rfl, h1, _⟩ | ⟨b, rfl, hg, hlen⟩
    · exact absurd h1 h0
    refine callW_of (pdq_few (X := X) (b := b) rfl hX hg) ?_
    rintro _ σ2 ⟨g2, o2⟩
    have hb := h.2 b (by simp [blkOf])
    have n2 := o2.next
    simp only [Mem.next_bump] at n2
    refine ⟨⟨.inr ⟨b, rfl, g2, ?_⟩, fun c hc => ?_⟩, ⟨by have := s0.next; omega, fun c hc => ?_⟩⟩
    · rw [ic_len, srt_len, Nat.mul_one]
    · simp only [blkOf, List.mem_singleton] at hc; subst hc; omega
    · rw [o2.get c (by simp only [Mem.next_bump]; have := s0.next; omega) (by simp; omega)]
      exact s0.get c hc
end Go.Vit
