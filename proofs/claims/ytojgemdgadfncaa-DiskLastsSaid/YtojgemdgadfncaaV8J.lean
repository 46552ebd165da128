/- A disk: its numbers in order, for two files at most. -/
import Derived.Test.YtojgemdgadfncaaV8I
import Derived.Test.YtojgemdgadfncaaV8P
set_option linter.unusedVariables false
set_option linter.unusedSimpArgs false
set_option linter.unusedSimpArgs false
set_option maxRecDepth 20000
namespace Go.Vit
open Go.Proofs
def srt2 : List Int → List Int
  | [x, y] => if y < x then [y, x] else [x, y]
  | l => l
theorem srt2_lt {x y : Int} (h : y < x) : srt2 [x, y] = [y, x] := if_pos h
theorem srt2_ge {x y : Int} (h : ¬ y < x) : srt2 [x, y] = [x, y] := if_neg h
theorem cmp_isNaN (x : Int) (σ : Mem) : ACalls PG n_cmp_isNaN_int_ [.int .i64 x] σ fun v σ' => v = .bool false ∧ σ.Same σ' := by
  refine ok_cmp_isNaN_int_ fun _ => ?_
  unfold F_cmp_isNaN_int_
  exact ⟨by rw [decide_eq_false (not_not_intro rfl)], (Mem.Same.refl σ).bump _⟩
theorem cmp_Less (x y : Int) (σ : Mem) : ACalls PG n_cmp_Less_int_ [.int .i64 x, .int .i64 y] σ fun v σ' => v = .bool (decide (x < y)) ∧ σ.Same σ' := by
  refine ok_cmp_Less_int_ fun _ => ?_
  unfold F_cmp_Less_int_
  refine callW_of (cmp_isNaN x _) ?_
  rintro _ σ1 ⟨rfl, s1⟩
  refine To.go ?_
  refine ifF (p := False) id ?_
  exact ⟨rfl, s1.ob⟩
theorem rdK {σ : Mem} {b n : Nat} {c : Cap} {l : List AV} {i : Nat} {x : Int} {K : Int → Prop} (hg : σ.get b = some (.rw l)) (hi : i < n) (hx : l[i]? = some (.int .i64 x)) {j : Int} (hj : j = (i : Nat)) (hk : K x) : idxW 1 (.slice b 0 n c) j fun p => ldI σ p K := by
  subst hj
  refine And.intro (show (0 : Int) ≤ (i : Nat) ∧ ((i : Nat) : Int) < (n : Nat) by omega) ?_
  rw [Int.toNat_natCast, Nat.zero_add, Nat.mul_one]
  exact ldrw (σ := σ) (K := fun a => castI .i64 a K) hg hx hk
theorem wrK {σ : Mem} {b n : Nat} {c : Cap} {l : List AV} {i : Nat} {x : Int} {K : Mem → Prop} (hg : σ.get b = some (.rw l)) (hi : i < n) (hl : i < l.length) {j : Int} (hj : j = (i : Nat)) (hk : K (σ.put b (some (.rw (l.set i (.int .i64 x)))))) : idxW 1 (.slice b 0 n c) j fun p => stW 1 σ p (.int .i64 x) K := by
  subst hj
  refine And.intro (show (0 : Int) ≤ (i : Nat) ∧ ((i : Nat) : Int) < (n : Nat) by omega) ?_
  rw [Int.toNat_natCast, Nat.zero_add, Nat.mul_one]
  exact st1 hg hl rfl hk
theorem ins_small {σ : Mem} {v : AV} {n : Nat} (hn : n ≤ 1) : ACalls PG n_slices_insertionSortOrdered_int_ [v, .int .i64 0, .int .i64 (n : Nat)] σ fun _ σ' => σ.Same σ' := by
  refine ok_slices_insertionSortOrdered_int_ fun live => ?_
  unfold F_slices_insertionSortOrdered_int_
  refine iW_of (by omega) ?_
  refine loop1 (fun (_ : Nat) (x : Int) σ' => x = 1 ∧ σ.Same σ') (fun s => s) 0 ⟨rfl, (Mem.Same.refl σ).bump _⟩ ?_
  rintro _ _ σ1 ⟨rfl, s1⟩
  unfold F_slices_insertionSortOrdered_int__l1
  refine ifF (by omega) ?_
  exact s1.bump _
theorem ins_two {σ : Mem} {b : Nat} {x y : Int} (hg : σ.get b = some (.rw (ic [x, y]))) : ACalls PG n_slices_insertionSortOrdered_int_ [.slice b 0 2 (.op 1), .int .i64 0, .int .i64 2] σ fun _ σ' => σ'.get b = some (.rw (ic (srt2 [x, y]))) ∧ Mem.Only [b] σ σ' := by
  refine ok_slices_insertionSortOrdered_int_ fun live => ?_
  unfold F_slices_insertionSortOrdered_int_
  have hbl := live.lt hg
  refine iW_of (by omega) ?_
  refine loop1 (fun (i : Nat) (z : Int) σ' => Mem.Only [b] σ σ' ∧ ((i = 0 ∧ z = 1 ∧ σ'.get b = some (.rw (ic [x, y]))) ∨ (i = 1 ∧ z = 2 ∧ σ'.get b = some (.rw (ic (srt2 [x, y])))))) (fun i => 1 - i) 0 ⟨(Mem.Only.refl _ _).bump _, .inl ⟨rfl, rfl, hg⟩⟩ ?_
  rintro i z σ1 ⟨o1, ⟨rfl, rfl, g1⟩ | ⟨rfl, rfl, g1⟩⟩
  · unfold F_slices_insertionSortOrdered_int__l1
    refine ifT (by decide) ?_
    refine join0 (fun σ' => Mem.Only [b] σ σ' ∧ σ'.get b = some (.rw (ic (srt2 [x, y])))) ?_ ?_
    · refine loop1 (fun (i : Nat) (z : Int) σ' => Mem.Only [b] σ σ' ∧ ((i = 0 ∧ z = 1 ∧ σ'.get b = some (.rw (ic [x, y]))) ∨ (i = 1 ∧ z = 0 ∧ σ'.get b = some (.rw (ic (srt2 [x, y])))))) (fun i => 1 - i) 0 ⟨o1.bump _, .inl ⟨rfl, rfl, g1⟩⟩ ?_
      rintro i z σ2 ⟨o2, ⟨rfl, rfl, g2⟩ | ⟨rfl, rfl, g2⟩⟩
      · unfold F_slices_insertionSortOrdered_int__l2
        refine ifT (by decide) ?_
        refine rdK (σ := σ2.bump 15) (i := 1) g2 (by decide) rfl rfl ?_
        refine iW_of (by omega) ?_
        refine rdK (σ := σ2.bump 15) (i := 0) g2 (by decide) rfl rfl ?_
        refine callW_of (cmp_Less y x _) ?_
        rintro _ σ3 ⟨rfl, s3⟩
        have n2 := o2.next
        have g3 : σ3.get b = some (.rw (ic [x, y])) := (s3.get b (by simp only [Mem.next_bump]; omega)).trans g2
        have o3 : Mem.Only [b] σ σ3 := Only.then o2 (Only.of_same (l := [b]) s3.ob) (fun _ h => h) (fun _ h => h)
        refine To.go ?_
        refine ifD (fun hlt => ?_) (fun hge => ?_)
        · refine iW_of (by omega) ?_
          refine iW_of (by omega) ?_
          refine rdK (σ := σ3.bump 18) (i := 0) g3 (by decide) rfl rfl ?_
          refine rdK (σ := σ3.bump 18) (i := 1) g3 (by decide) rfl rfl ?_
          refine wrK (σ := σ3.bump 18) (i := 1) g3 (by decide) (show 1 < 2 by decide) rfl ?_
          refine wrK (i := 0) (l := (ic [x, y]).set 1 (.int .i64 x)) gS' (by decide) (show 0 < 2 by decide) rfl ?_
          refine iW_of (by omega) ?_
          refine again ⟨1, ⟨Mem.Only.bump (Mem.Only.put (Mem.Only.put (o3.bump _) (by simp) _) (by simp) _) _, .inr ⟨rfl, rfl, ?_⟩⟩, by decide⟩
          rw [srt2_lt hlt]
          exact gB gS'
        · refine ⟨o3, ?_⟩
          rw [srt2_ge hge]
          exact g3
      · unfold F_slices_insertionSortOrdered_int__l2
        refine ifF (by decide) ?_
        exact ⟨o2.bump _, g2⟩
    · rintro σ2 ⟨o2, g2⟩
      unfold F_slices_insertionSortOrdered_int__j1
      refine iW_of (by omega) ?_
      exact again ⟨1, ⟨o2.bump _, .inr ⟨rfl, rfl, g2⟩⟩, by decide⟩
  · unfold F_slices_insertionSortOrdered_int__l1
    refine ifF (by decide) ?_
    exact ⟨g1, o1.bump _⟩
theorem pdq_small {σ : Mem} {v : AV} {n : Nat} {k : Int} (hn : n ≤ 1) : ACalls PG n_slices_pdqsortOrdered_int_ [v, .int .i64 0, .int .i64 (n : Nat), .int .i64 k] σ fun _ σ' => σ.Same σ' := by
  refine ok_slices_pdqsortOrdered_int_ fun live => ?_
  unfold F_slices_pdqsortOrdered_int_
  refine loop5 (fun (_ : Nat) (x1 x2 x3 : Int) (x4 x5 : Bool) σ' => x1 = 0 ∧ x2 = (n : Nat) ∧ σ.Same σ') (fun s => s) 0 ⟨rfl, rfl, (Mem.Same.refl σ).bump _⟩ ?_
  rintro _ _ _ k x4 x5 σ1 ⟨rfl, rfl, s1⟩
  unfold F_slices_pdqsortOrdered_int__l1
  refine joinI ?_
  refine iW_of (by omega) ?_
  refine ifT (by omega) ?_
  refine callW_of (ins_small (σ := σ1.bump 10) hn) ?_
  rintro _ σ2 s2
  exact s1.trans s2.ob
theorem pdq_two {σ : Mem} {b : Nat} {x y k : Int} (hg : σ.get b = some (.rw (ic [x, y]))) : ACalls PG n_slices_pdqsortOrdered_int_ [.slice b 0 2 (.op 1), .int .i64 0, .int .i64 2, .int .i64 k] σ fun _ σ' => σ'.get b = some (.rw (ic (srt2 [x, y]))) ∧ Mem.Only [b] σ σ' := by
  refine ok_slices_pdqsortOrdered_int_ fun live => ?_
  unfold F_slices_pdqsortOrdered_int_
  refine loop5 (fun (_ : Nat) (x1 x2 x3 : Int) (x4 x5 : Bool) σ' => x1 = 0 ∧ x2 = 2 ∧ σ.Same σ') (fun s => s) 0 ⟨rfl, rfl, (Mem.Same.refl σ).bump _⟩ ?_
  rintro _ _ _ k x4 x5 σ1 ⟨rfl, rfl, s1⟩
  unfold F_slices_pdqsortOrdered_int__l1
  refine joinI ?_
  refine iW_of (by omega) ?_
  refine ifT (by decide) ?_
  refine callW_of (ins_two (σ := σ1.bump 10) (x := x) (y := y) ((s1.get b (live.lt hg)).trans hg)) ?_
  rintro _ σ2 ⟨g2, o2⟩
  exact ⟨g2, Only.then (Only.of_same (l := [b]) (s1.bump 10)) o2 (fun _ h => h) (fun _ h => h)⟩
theorem len0 : runsTo PG 200 20 n_math_bits_Len [.int .u64 0] (.int .i64 0) = true := by kernel_rfl
theorem len1 : runsTo PG 200 20 n_math_bits_Len [.int .u64 1] (.int .i64 1) = true := by kernel_rfl
theorem len2 : runsTo PG 200 20 n_math_bits_Len [.int .u64 2] (.int .i64 2) = true := by kernel_rfl
theorem bits_Len {n : Nat} (h : n ≤ 2) (σ : Mem) : ACalls PG n_math_bits_Len [.int .u64 (n : Nat)] σ fun v σ' => v = .int .i64 (n : Nat) ∧ σ' = σ := by
  have hn : n = 0 ∨ n = 1 ∨ n = 2 := by omega
  rcases hn with rfl | rfl | rfl
  · exact ACalls.runs mixed 200 20 len0 rfl rfl σ
  · exact ACalls.runs mixed 200 20 len1 rfl rfl σ
  · exact ACalls.runs mixed 200 20 len2 rfl rfl σ
theorem slices_Sort {σ0 σ : Mem} {v : AV} {X : List Int} (h : Own 1 σ0 σ v (ic X) X.length) (s0 : σ0.Same σ) (hX : X.length ≤ 2) : ACalls PG n_slices_Sort___int_int_ [v] σ fun _ σ' => Own 1 σ0 σ' v (ic (srt2 X)) X.length ∧ σ0.Same σ' := by
  refine ok_slices_Sort___int_int_ fun live => ?_
  unfold F_slices_Sort___int_int_
  refine h.1.rd.len ?_
  dsimp only [wrW]
  rw [show IntKind.u64.wrap ((X.length : Nat) : Int) = ((X.length : Nat) : Int) from by rw [IntKind.wrap_u64]; omega]
  refine callW_of (bits_Len hX _) ?_
  rintro _ σ1 ⟨rfl, rfl⟩
  refine To.go ?_
  have hown : ∀ k, Own 1 σ0 (σ.bump k) v (ic X) X.length := fun k => h.same ((Mem.Same.refl σ).bump k)
  match X, hX, h with
  | [], _, h =>
    refine callW_of (pdq_small (n := 0) (by decide)) ?_
    rintro _ σ2 s2
    exact ⟨h.same s2.ob, s0.trans s2.ob⟩
  | [x], _, h =>
    refine callW_of (pdq_small (n := 1) (by decide)) ?_
    rintro _ σ2 s2
    exact ⟨h.same s2.ob, s0.trans s2.ob⟩
  | [x, y], _, h =>
    rcases h.1 with ⟨rfl, h0, _⟩ | ⟨b, rfl, hg, hlen⟩
    · simp at h0
    refine callW_of (pdq_two (x := x) (y := y) (b := b) hg) ?_
    rintro _ σ2 ⟨g2, o2⟩
    have hb := h.2 b (by simp [blkOf])
    have n2 := o2.next
    simp only [Mem.next_bump] at n2
    refine ⟨⟨.inr ⟨b, rfl, g2, ?_⟩, fun c hc => ?_⟩, ⟨by have := s0.next; omega, fun c hc => ?_⟩⟩
    · rw [ic_len]; unfold srt2; dsimp only; split <;> rfl
    · simp only [blkOf, List.mem_singleton] at hc; subst hc; omega
    · rw [o2.get c (by simp only [Mem.next_bump]; have := s0.next; omega) (by simp; omega)]
      exact s0.get c hc
theorem srt2_perm {X : List Int} {x y : Int} (h : X.Perm [x, y]) (hlt : x < y) : srt2 X = [x, y] := by
  have hl := h.length_eq
  match X, hl with
  | [a, b], _ =>
    have ha : a = x ∨ a = y := by simpa using h.mem_iff.1 (show a ∈ [a, b] by simp)
    have hb : b = x ∨ b = y := by simpa using h.mem_iff.1 (show b ∈ [a, b] by simp)
    have hx : x = a ∨ x = b := by simpa using h.mem_iff.2 (show x ∈ [x, y] by simp)
    have hy : y = a ∨ y = b := by simpa using h.mem_iff.2 (show y ∈ [x, y] by simp)
    rcases ha with rfl | rfl
    · have : b = y := by omega
      subst this
      exact srt2_ge (by omega)
    · have : b = x := by omega
      subst this
      exact srt2_lt hlt
end Go.Vit
