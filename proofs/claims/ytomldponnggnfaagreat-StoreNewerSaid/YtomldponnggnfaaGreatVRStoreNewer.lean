/- StoreNewer: whatever the arguments, the law returns true and its arguments read as before. No condition. -/
import Derived.Test.YtomldponnggnfaaGreatVm4
import Derived.Test.YtomldponnggnfaaGreatVm3
import Derived.Test.YtomldponnggnfaaGreatVXB
import Derived.Test.YtomldponnggnfaaGreatRows
set_option linter.unusedVariables false
set_option linter.unusedSimpArgs false
namespace Go.Proofs.YtomldponnggnfaaGreat.storeNewer
open Go.Vit Go.ChangeShapes Go.WideShapes Go.ChangeAt Go.RowKit
theorem own : ownKnob Tryz.prog.godebug = none := by kernel_rfl
theorem laidOut : laidOutB Tryz.prog = true := by kernel_rfl
set_option maxRecDepth 100000 in
theorem lifted (os : Os) (started : os.Started) (H : Type) (enc : TypeId × Value → H) :
    ReturnsInHanded {} Tryz.checked os 4 .any (Rows.storeNewerSpec.pre6 enc Tryz.prog Tryz.f4 Rows.storeNewerRow.domain false) (Rows.storeNewerSpec.post enc Tryz.prog Tryz.f4 false true false false) := by
  refine returnsInHanded_of_change_sized (C := Tryz.checked) own started (by kernel_rfl) Tryz.func4
    (ChangeSpec.witness6 (enc := enc) (C := Tryz.checked) false ⟨#[], #[.agg #[.int .i64 0, .int .i64 0], .agg #[.int .i64 0, .int .i64 0]], []⟩ 8 (by kernel_rfl) (by kernel_rfl) (by kernel_rfl) (by kernel_rfl)) ?_
  intro W base args ds gs before hval hW _ hwt _
  exact law_step (n := 8) (tb := 4) laidOut rfl (by kernel_rfl) (by kernel_rfl) (by kernel_rfl) (by kernel_rfl)
    (fun ds h => by
      match ds, h with
      | [d0, d1], _ => exact ⟨rfl, rfl, rfl⟩)
    law18_StoreNewer W base args hval ds gs before hW hwt
set_option maxRecDepth 100000
theorem k1 : Rows.storeNewerRow.wf (OpenSpec.ofChange Rows.storeNewerSpec) = true := by kernel_rfl
theorem k3 : mapsRowed Tryz.prog = true := by kernel_rfl
theorem kA : restA Tryz.prog Tryz.f4 Rows.storeNewerSpec Rows.storeNewerRow = true := by kernel_rfl
theorem k10 : (Rows.storeNewerRow.inPlace == Tryz.prog.inPlace 4) = true := by kernel_rfl
theorem k11 : (Rows.storeNewerRow.unfollowed == Tryz.prog.unfollowed 4) = true := by kernel_rfl
theorem k12 : (Rows.storeNewerRow.recurses == Tryz.prog.recurses 4) = true := by kernel_rfl
theorem k13 : (Rows.storeNewerRow.named == Tryz.prog.varsNamed 4) = true := by kernel_rfl
theorem kB : restB Tryz.prog Tryz.f4 Rows.storeNewerSpec Rows.storeNewerRow = true := by kernel_rfl
theorem k22 : (Rows.storeNewerRow.plainKeys == Tryz.prog.plainKeys) = true := by kernel_rfl
theorem k23 : Tryz.prog.stopsHeard = true := by kernel_rfl
theorem kC : restC Tryz.prog Tryz.f4 Rows.storeNewerSpec Rows.storeNewerRow = true := by kernel_rfl
theorem kn : Tryz.prog.funcNamed Rows.storeNewerRow.func = some 4 := by kernel_rfl
theorem closed : joinedFacts Tryz.prog 4 Tryz.f4 Rows.storeNewerSpec Rows.storeNewerRow = true := joined_mk k1 laidOut k3 kA k10 k11 k12 k13 kB k22 k23 kC
theorem inst : Tryz.f4.isInstance Tryz.prog Rows.storeNewerRow.origin Rows.storeNewerRow.targs := of_decide_eq_true (by kernel_rfl)
theorem wrap : Tryz.f4.isWrapper Tryz.prog Rows.storeNewerRow.wrapper Rows.storeNewerRow.mainSum := by unfold Func.isWrapper; rw [if_neg (of_decide_eq_false (by kernel_rfl))]; exact ⟨rfl, rfl⟩
theorem proved : Rows.StoreNewerSaid :=
  OpenClaim.holds_of_wide 4 Tryz.f4 rfl rfl rfl rfl rfl rfl rfl ⟨rfl, rfl, rfl, rfl, rfl⟩ rfl rfl rfl rfl rfl kn Tryz.func4 closed inst wrap
    (fun os started H enc _ => lifted os started H enc)
#print axioms proved
end Go.Proofs.YtomldponnggnfaaGreat.storeNewer
