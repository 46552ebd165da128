/- ClusterNil: whatever the arguments, the law returns true and its arguments read as before. No condition. -/
import Derived.Test.YtomldponnggnfaaGreatVm4
import Derived.Test.YtomldponnggnfaaGreatVm3
import Derived.Test.YtomldponnggnfaaGreatVXF
import Derived.Test.YtomldponnggnfaaGreatRows
set_option linter.unusedVariables false
set_option linter.unusedSimpArgs false
namespace Go.Proofs.YtomldponnggnfaaGreat.clusterNil
open Go.Vit Go.ChangeShapes Go.WideShapes Go.ChangeAt Go.RowKit
theorem own : ownKnob Tryz.prog.godebug = none := by kernel_rfl
theorem laidOut : laidOutB Tryz.prog = true := by kernel_rfl
set_option maxRecDepth 100000 in
theorem lifted (os : Os) (started : os.Started) (H : Type) (enc : TypeId × Value → H) :
    ReturnsInHanded {} Tryz.checked os 8 .any (Rows.clusterNilSpec.pre6 enc Tryz.prog Tryz.f8 Rows.clusterNilRow.domain false) (Rows.clusterNilSpec.post enc Tryz.prog Tryz.f8 false true false false) := by
  refine returnsInHanded_of_change_sized (C := Tryz.checked) own started (by kernel_rfl) Tryz.func8
    (ChangeSpec.witness6 (enc := enc) (C := Tryz.checked) false ⟨#[], #[.int .i64 0], []⟩ 8 (by kernel_rfl) (by kernel_rfl) (by kernel_rfl) (by kernel_rfl)) ?_
  intro W base args ds gs before hval hW _ hwt _
  exact law_step (n := 8) (tb := 4) laidOut rfl (by kernel_rfl) (by kernel_rfl) (by kernel_rfl) (by kernel_rfl)
    (fun ds h => by
      match ds, h with
      | [d0], _ => exact ⟨rfl, rfl, rfl⟩)
    law24_ClusterNil W base args hval ds gs before hW hwt
set_option maxRecDepth 100000
theorem k1 : Rows.clusterNilRow.wf (OpenSpec.ofChange Rows.clusterNilSpec) = true := by kernel_rfl
theorem k3 : mapsRowed Tryz.prog = true := by kernel_rfl
theorem kA : restA Tryz.prog Tryz.f8 Rows.clusterNilSpec Rows.clusterNilRow = true := by kernel_rfl
theorem k10 : (Rows.clusterNilRow.inPlace == Tryz.prog.inPlace 8) = true := by kernel_rfl
theorem k11 : (Rows.clusterNilRow.unfollowed == Tryz.prog.unfollowed 8) = true := by kernel_rfl
theorem k12 : (Rows.clusterNilRow.recurses == Tryz.prog.recurses 8) = true := by kernel_rfl
theorem k13 : (Rows.clusterNilRow.named == Tryz.prog.varsNamed 8) = true := by kernel_rfl
theorem kB : restB Tryz.prog Tryz.f8 Rows.clusterNilSpec Rows.clusterNilRow = true := by kernel_rfl
theorem k22 : (Rows.clusterNilRow.plainKeys == Tryz.prog.plainKeys) = true := by kernel_rfl
theorem k23 : Tryz.prog.stopsHeard = true := by kernel_rfl
theorem kC : restC Tryz.prog Tryz.f8 Rows.clusterNilSpec Rows.clusterNilRow = true := by kernel_rfl
theorem kn : Tryz.prog.funcNamed Rows.clusterNilRow.func = some 8 := by kernel_rfl
theorem closed : joinedFacts Tryz.prog 8 Tryz.f8 Rows.clusterNilSpec Rows.clusterNilRow = true := joined_mk k1 laidOut k3 kA k10 k11 k12 k13 kB k22 k23 kC
theorem inst : Tryz.f8.isInstance Tryz.prog Rows.clusterNilRow.origin Rows.clusterNilRow.targs := of_decide_eq_true (by kernel_rfl)
theorem wrap : Tryz.f8.isWrapper Tryz.prog Rows.clusterNilRow.wrapper Rows.clusterNilRow.mainSum := by unfold Func.isWrapper; rw [if_neg (of_decide_eq_false (by kernel_rfl))]; exact ⟨rfl, rfl⟩
theorem proved : Rows.ClusterNilSaid :=
  OpenClaim.holds_of_wide 8 Tryz.f8 rfl rfl rfl rfl rfl rfl rfl ⟨rfl, rfl, rfl, rfl, rfl⟩ rfl rfl rfl rfl rfl kn Tryz.func8 closed inst wrap
    (fun os started H enc _ => lifted os started H enc)
#print axioms proved
end Go.Proofs.YtomldponnggnfaaGreat.clusterNil
