/- The law DeflateRuns. -/
import Derived.Test.YtcliekhikcaoiaaV5LA
set_option linter.unusedVariables false
set_option linter.unusedSimpArgs false
set_option linter.unusedSimpArgs false
set_option maxRecDepth 20000
set_option maxRecDepth 20000
namespace Go.Vit
open Go.Proofs
theorem law05_DeflateRuns (σ : Mem) (l : List AV) (_ : σ.Ro) (hw : Wts PG σ Try.f3.params.toList l) : ACalls PG n_law05_DeflateRuns l σ fun v _ => isTrue v := by
  obtain ⟨a, L, rfl, ha, hL, _⟩ := args_L (show Wts PG σ [22] l by rw [Try.params3] at hw; exact hw)
  clear hw
  refine ok_law05_DeflateRuns fun live => ?_
  unfold F_law05_DeflateRuns
  have hla := ha.lt live
  refine ha.len ?_
  refine ifD (fun h => ?_) (fun h => ?_)
  · refine callW_of (law05_awake _) ?_
    rintro v σ1 ⟨rfl, _⟩
    exact rfl
  · refine callW_of (deflate_Runs (σ := σ.bump 7) (L := L) (ha.keep fun _ _ => rfl) (by omega)) ?_
    rintro u σ1 ⟨own1, s1⟩
    have s01 := s1.ob
    refine callW_of (ref05_Runs (σ := σ1.bump 3) (L := L) (ha.keep fun b hb => s01.get b (hla b hb)) (by omega)) ?_
    rintro v σ2 ⟨own2, s2⟩
    have s12 := s2.ob
    obtain ⟨R, hR⟩ : ∃ R, runs L = R := ⟨_, rfl⟩
    rw [hR] at own1 own2
    have h1 : OwnS 2 σ2 u (ic2 R) R.length := (own1.same s12).1
    have h2 : OwnS 2 σ2 v (ic2 R) R.length := own2.1
    have b1 : ∀ b ∈ blkOf u, b < σ2.next := fun b hb => ((own1.same s12).2 b hb).2
    have b2 : ∀ b ∈ blkOf v, b < σ2.next := fun b hb => (own2.2 b hb).2
    refine h1.rdO.len ?_
    refine h2.rdO.len ?_
    refine ifF (not_not_intro rfl) ?_
    refine loop1 (fun (i : Nat) (y : Int) σ' => y = i ∧ i ≤ R.length ∧ σ2.Same σ') (fun i => R.length - i) 0 ⟨rfl, by omega, (Mem.Same.refl σ2).bump _⟩ ?_
    rintro i _ σ3 ⟨rfl, hi, s3⟩
    unfold F_law05_DeflateRuns_l1
    refine (h1.keep (σ' := σ3) fun b hb => s3.get b (b1 b hb)).rdO.len ?_
    refine ifD (fun hlt => ?_) (fun hge => ?_)
    · have hiR : i < R.length := by omega
      obtain ⟨⟨c, m⟩, hr⟩ : ∃ r, R[i] = r := ⟨_, rfl⟩
      have x0 : (rC R[i])[0]? = some (.int .i64 c) := by rw [hr]; rfl
      have x1 : (rC R[i])[1]? = some (.int .i64 m) := by rw [hr]; rfl
      refine h1.fldR2 (k := 0) (σ' := σ3.bump 28) (fun b hb => (s3.bump 28).get b (b1 b hb)) hiR (by decide) rfl x0 ?_
      refine h2.fldR2 (k := 0) (σ' := σ3.bump 28) (fun b hb => (s3.bump 28).get b (b2 b hb)) hiR (by decide) rfl x0 ?_
      refine ifF (not_not_intro rfl) ?_
      refine h1.fldR2 (k := 1) (σ' := σ3.bump 28) (fun b hb => (s3.bump 28).get b (b1 b hb)) hiR (by decide) rfl x1 ?_
      refine h2.fldR2 (k := 1) (σ' := σ3.bump 28) (fun b hb => (s3.bump 28).get b (b2 b hb)) hiR (by decide) rfl x1 ?_
      refine ifF (not_not_intro rfl) ?_
      have hRl : R.length ≤ 1000000 := by
        have h : (runs L).length ≤ L.length := runs_len_le (L := L) L.length 0
        rw [hR] at h
        omega
      refine iW_of (by omega) ?_
      exact again ⟨i + 1, ⟨by omega, by omega, s3.bump _⟩, by omega⟩
    · refine callW_of (law05_awake _) ?_
      rintro v σ4 ⟨rfl, _⟩
      exact rfl
end Go.Vit
