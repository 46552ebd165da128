/- ArchiveNil: whatever the arguments, the law returns true and its arguments read as before. No condition. -/
import Derived.Test.YtomldponnggnfaaGreatVm4
import Derived.Test.YtomldponnggnfaaGreatVm3
import Derived.Test.YtomldponnggnfaaGreatVXE
import Derived.Test.YtomldponnggnfaaGreatRows
set_option linter.unusedVariables false
set_option linter.unusedSimpArgs false
namespace Go.Proofs.YtomldponnggnfaaGreat.archiveNil
open Go.Vit Go.ChangeShapes Go.WideShapes Go.ChangeAt Go.RowKit
theorem own : ownKnob Tryz.prog.godebug = none := by kernel_rfl
theorem laidOut : laidOutB Tryz.prog = true := by kernel_rfl
set_option maxRecDepth 100000 in
theorem lifted (os : Os) (started : os.Started) (H : Type) (enc : TypeId × Value → H) :
    ReturnsInHanded {} Tryz.checked os 9 .any (Rows.archiveNilSpec.pre6 enc Tryz.prog Tryz.f9 Rows.archiveNilRow.domain false) (Rows.archiveNilSpec.post enc Tryz.prog Tryz.f9 false true false false) := by
  refine returnsInHanded_of_change_sized (C := Tryz.checked) own started (by kernel_rfl) Tryz.func9
    (ChangeSpec.witness6 (enc := enc) (C := Tryz.checked) false ⟨#[], #[.string .empty, .int .i64 0], []⟩ 8 (by kernel_rfl) (by kernel_rfl) (by kernel_rfl) (by kernel_rfl)) ?_
  intro W base args ds gs before hval hW _ hwt _
  exact law_step (n := 8) (tb := 4) laidOut rfl (by kernel_rfl) (by kernel_rfl) (by kernel_rfl) (by kernel_rfl)
    (fun ds h => by
      match ds, h with
      | [d0, d1], _ => exact ⟨rfl, rfl, rfl⟩)
    law25_ArchiveNil W base args hval ds gs before hW hwt
set_option maxRecDepth 100000
theorem k1 : Rows.archiveNilRow.wf (OpenSpec.ofChange Rows.archiveNilSpec) = true := by kernel_rfl
theorem k3 : mapsRowed Tryz.prog = true := by kernel_rfl
theorem kA : restA Tryz.prog Tryz.f9 Rows.archiveNilSpec Rows.archiveNilRow = true := by kernel_rfl
theorem k10 : (Rows.archiveNilRow.inPlace == Tryz.prog.inPlace 9) = true := by kernel_rfl
theorem k11 : (Rows.archiveNilRow.unfollowed == Tryz.prog.unfollowed 9) = true := by kernel_rfl
theorem k12 : (Rows.archiveNilRow.recurses == Tryz.prog.recurses 9) = true := by kernel_rfl
theorem k13 : (Rows.archiveNilRow.named == Tryz.prog.varsNamed 9) = true := by kernel_rfl
theorem kB : restB Tryz.prog Tryz.f9 Rows.archiveNilSpec Rows.archiveNilRow = true := by kernel_rfl
theorem k22 : (Rows.archiveNilRow.plainKeys == Tryz.prog.plainKeys) = true := by kernel_rfl
theorem k23 : Tryz.prog.stopsHeard = true := by kernel_rfl
theorem kC : restC Tryz.prog Tryz.f9 Rows.archiveNilSpec Rows.archiveNilRow = true := by kernel_rfl
theorem kn : Tryz.prog.funcNamed Rows.archiveNilRow.func = some 9 := by kernel_rfl
theorem closed : joinedFacts Tryz.prog 9 Tryz.f9 Rows.archiveNilSpec Rows.archiveNilRow = true := joined_mk k1 laidOut k3 kA k10 k11 k12 k13 kB k22 k23 kC
theorem inst : Tryz.f9.isInstance Tryz.prog Rows.archiveNilRow.origin Rows.archiveNilRow.targs := of_decide_eq_true (by kernel_rfl)
theorem wrap : Tryz.f9.isWrapper Tryz.prog Rows.archiveNilRow.wrapper Rows.archiveNilRow.mainSum := by unfold Func.isWrapper; rw [if_neg (of_decide_eq_false (by kernel_rfl))]; exact ⟨rfl, rfl⟩
theorem proved : Rows.ArchiveNilSaid :=
  OpenClaim.holds_of_wide 9 Tryz.f9 rfl rfl rfl rfl rfl rfl rfl ⟨rfl, rfl, rfl, rfl, rfl⟩ rfl rfl rfl rfl rfl kn Tryz.func9 closed inst wrap
    (fun os started H enc _ => lifted os started H enc)
#print axioms proved
end Go.Proofs.YtomldponnggnfaaGreat.archiveNil
