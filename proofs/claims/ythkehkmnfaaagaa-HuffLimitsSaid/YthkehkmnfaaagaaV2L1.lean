/- HuffLimits. -/
import Derived.Test.YthkehkmnfaaagaaV2Y5
import Derived.Test.YthkehkmnfaaagaaVH3
import Derived.Test.YthkehkmnfaaagaaVHa
set_option linter.unusedVariables false
set_option linter.unusedSimpArgs false
set_option linter.unusedSimpArgs false
set_option maxRecDepth 20000
namespace Go.Vit
open Go.Proofs
theorem args_nL {σ : Mem} {l : List AV} (hw : Wts PG σ [3, 22] l) : ∃ n a L, l = [.int .i64 n, a] ∧ RdS 1 σ a (ic L) L.length ∧ L.length ≤ 2 ^ 44 ∧ (-9223372036854775808 ≤ n ∧ n ≤ 9223372036854775807) := by
  obtain ⟨n, r, rfl, hn, hw⟩ := hw.int (k := .i64) (by kernel_rfl)
  obtain ⟨a, L, rfl, h1, h2, _⟩ := args_L hw
  exact ⟨n, a, L, rfl, h1, h2, wf_i64 hn⟩
theorem law02_HuffLimits (σ : Mem) (l : List AV) (_ : σ.Ro) (hw : Wts PG σ Try.f5.params.toList l) : ACalls PG n_law02_HuffLimits l σ fun v _ => isTrue v := by
  obtain ⟨n, a, L, rfl, ha, hl, hn⟩ := args_nL (show Wts PG σ [3, 22] l by rw [Try.params5] at hw; exact hw)
  clear hw
  refine ok_law02_HuffLimits fun live => ?_
  unfold F_law02_HuffLimits
  have hla := ha.lt live
  refine callW_of (huff_Limit (σ := σ.bump 9) (L := L) (ha.o.keep fun _ _ => rfl) hl) ?_
  rintro _ σ1 ⟨c, rfl, s1, h1⟩
  replace s1 := s1.ob
  refine tupW_of rfl ?_
  refine tpI_of rfl ?_
  have ha1 := ha.o.keep (σ' := σ1) fun b hb => s1.get b (hla b hb)
  refine callW_of (ref02_Limit (σ := σ1.bump 8) (L := L) (ha1.keep fun _ _ => rfl) hl) ?_
  rintro _ σ2 ⟨d, rfl, s2, h2⟩
  replace s2 := s2.ob
  refine tupW_of rfl ?_
  refine tpI_of rfl ?_
  refine ifT rfl ?_
  obtain ⟨M, hc, hd⟩ : ∃ M : List Int, RdS 1 (σ2.bump 12) c (ic M) M.length ∧ RdS 1 (σ2.bump 12) d (ic M) M.length ∧ M.length ≤ 2 ^ 60 := by
    rcases h1 with ⟨hb, rfl⟩ | ⟨hb, r1, b1⟩
    · rcases h2 with ⟨_, rfl⟩ | ⟨hb', _⟩
      · exact ⟨[], .inl ⟨rfl, rfl, rfl⟩, .inl ⟨rfl, rfl, rfl⟩, by decide⟩
      · exact absurd hb hb'
    · rcases h2 with ⟨hb', _⟩ | ⟨_, r2, b2⟩
      · exact absurd hb' hb
      · refine ⟨limit n.toNat L, ?_, ?_, ?_⟩
        · rw [limit_len]; exact r1.keep fun b h => s2.get b (b1 b h).2
        · rw [limit_len]; exact r2.keep fun _ _ => rfl
        · rw [limit_len]; omega
  refine callW_of (law02_ints hc hd.1 hd.2) ?_
  rintro _ σ3 ⟨rfl, s3⟩
  rw [decide_eq_true (rfl : M = M)]
  refine To.go ?_
  refine To.go ?_
  refine callW_of (law02_awake _) ?_
  rintro v σ8 ⟨rfl, rfl⟩
  refine To.go ?_
  exact rfl
end Go.Vit
