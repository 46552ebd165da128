/- Messages laid and read, by a table. -/
import Derived.Test.YtomldponnggnfaaGreatVXM2
set_option linter.unusedVariables false
set_option linter.unusedSimpArgs false
set_option maxRecDepth 100000
namespace Go.Vit
open Go.Proofs
def tabM : List (Nat × List AV × AV) := [(104, mA0, mR0), (104, mA1, mR1), (104, mA2, mR2), (104, mA3, mR3), (104, mA4, mR4), (104, mA5, mR5), (104, mA6, mR6), (104, mA7, mR7), (104, mA8, mR8), (104, mA9, mR9), (104, mA10, mR10), (148, mA11, mR11), (148, mA12, mR12), (148, mA13, mR13), (148, mA14, mR14), (148, mA15, mR15), (148, mA16, mR16), (148, mA17, mR17), (148, mA18, mR18), (148, mA19, mR19), (148, mA20, mR20), (148, mA21, mR21)]
theorem tabM_ok : ∀ e ∈ tabM, ∀ σ, ACalls PG e.1 e.2.1 σ fun v σ' => v = e.2.2 ∧ σ' = σ := by
  intro e he σ
  unfold tabM at he
  simp only [List.mem_cons, List.not_mem_nil, or_false] at he
  rcases he with rfl | rfl | rfl | rfl | rfl | rfl | rfl | rfl | rfl | rfl | rfl | rfl | rfl | rfl | rfl | rfl | rfl | rfl | rfl | rfl | rfl | rfl
  · exact ACalls.runsOrcL (n := 1) (m := 2) mixed orcW_ok 4000 60 m_0 rfl rfl σ
  · exact ACalls.runsOrcL (n := 1) (m := 2) mixed orcW_ok 4000 60 m_1 rfl rfl σ
  · exact ACalls.runsOrcL (n := 1) (m := 2) mixed orcW_ok 4000 60 m_2 rfl rfl σ
  · exact ACalls.runsOrcL (n := 1) (m := 2) mixed orcW_ok 4000 60 m_3 rfl rfl σ
  · exact ACalls.runsOrcL (n := 1) (m := 2) mixed orcW_ok 4000 60 m_4 rfl rfl σ
  · exact ACalls.runsOrcL (n := 1) (m := 2) mixed orcW_ok 4000 60 m_5 rfl rfl σ
  · exact ACalls.runsOrcL (n := 1) (m := 2) mixed orcW_ok 4000 60 m_6 rfl rfl σ
  · exact ACalls.runsOrcL (n := 1) (m := 2) mixed orcW_ok 4000 60 m_7 rfl rfl σ
  · exact ACalls.runsOrcL (n := 1) (m := 2) mixed orcW_ok 4000 60 m_8 rfl rfl σ
  · exact ACalls.runsOrcL (n := 1) (m := 2) mixed orcW_ok 4000 60 m_9 rfl rfl σ
  · exact ACalls.runsOrcL (n := 1) (m := 2) mixed orcW_ok 4000 60 m_10 rfl rfl σ
  · exact ACalls.runsOrcL (n := 1) (m := 2) mixed orcW_ok 4000 60 m_11 rfl rfl σ
  · exact ACalls.runsOrcL (n := 1) (m := 2) mixed orcW_ok 4000 60 m_12 rfl rfl σ
  · exact ACalls.runsOrcL (n := 1) (m := 2) mixed orcW_ok 4000 60 m_13 rfl rfl σ
  · exact ACalls.runsOrcL (n := 1) (m := 2) mixed orcW_ok 4000 60 m_14 rfl rfl σ
  · exact ACalls.runsOrcL (n := 1) (m := 2) mixed orcW_ok 4000 60 m_15 rfl rfl σ
  · exact ACalls.runsOrcL (n := 1) (m := 2) mixed orcW_ok 4000 60 m_16 rfl rfl σ
  · exact ACalls.runsOrcL (n := 1) (m := 2) mixed orcW_ok 4000 60 m_17 rfl rfl σ
  · exact ACalls.runsOrcL (n := 1) (m := 2) mixed orcW_ok 4000 60 m_18 rfl rfl σ
  · exact ACalls.runsOrcL (n := 1) (m := 2) mixed orcW_ok 4000 60 m_19 rfl rfl σ
  · exact ACalls.runsOrcL (n := 1) (m := 2) mixed orcW_ok 4000 60 m_20 rfl rfl σ
  · exact ACalls.runsOrcL (n := 1) (m := 2) mixed orcW_ok 4000 60 m_21 rfl rfl σ
end Go.Vit
