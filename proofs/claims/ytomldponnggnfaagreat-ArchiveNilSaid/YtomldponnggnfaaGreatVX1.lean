/- Builders at work: the oracle of closed runs. -/
import Derived.Test.YtomldponnggnfaaGreatVXW
set_option linter.unusedVariables false
set_option linter.unusedSimpArgs false
namespace Go.Vit
open Go.Proofs
theorem ts_cases {T : Nat} (h : T ∈ [150, 267]) : T = 150 ∨ T = 267 := by simpa using h
theorem orcX1 : CallOkL PG (orcB 86 88 5 [150, 267]) := orcB_ok
  (fun T hT σ b buf bs s h hl => by
    rcases ts_cases hT with rfl | rfl
    · exact Builder_Write h s hl
    · exact bld_Write_ok lays166 extraB fnOkW lies267 (by decide) h s hl)
  (fun T hT σ b buf bs h hn => by
    rcases ts_cases hT with rfl | rfl
    · exact Builder_String h hn
    · exact bld_String_ok lays169 extraB fnOkS h hn)
theorem orcX2 : CallOkL PG (orcC 238 5 [150, 267]) := orcC_ok
  (fun T hT σ b buf bs c h hl => by
    rcases ts_cases hT with rfl | rfl
    · exact bld_WByte_ok lays167 extraB fnOk167 (by kernel_rfl) (by decide) h c hl
    · exact bld_WByte_ok lays167 extraB fnOk167 lies267 (by decide) h c hl)
theorem orcX : CallOkL PG (orOrc (orcB 86 88 5 [150, 267]) (orcC 238 5 [150, 267])) := orOrc_ok orcX1 orcX2
end Go.Vit
