/- ZlibUnwraps: whatever the arguments, the law returns true and its arguments read as before. No condition. -/
import Derived.Test.YtloeboiajgfigaaGreatVm4
import Derived.Test.YtloeboiajgfigaaGreatV7Z4
import Derived.Test.YtloeboiajgfigaaGreatRows
set_option linter.unusedVariables false
set_option linter.unusedSimpArgs false
namespace Go.Proofs.YtloeboiajgfigaaGreat.zlibUnwraps
open Go.Vit Go.ChangeShapes Go.WideShapes Go.ChangeAt Go.RowKit
theorem own:ownKnob Tryz.prog.godebug=none:=by kernel_rfl
theorem laidOut:laidOutB Tryz.prog=true:=by kernel_rfl
set_option maxRecDepth 100000 in
theorem lifted (os:Os) (started:os.Started) (H:Type) (enc:TypeId×Value->H) :
 ReturnsInHanded {} Tryz.checked os 4 .any (Rows.zlibUnwrapsSpec.pre6 enc Tryz.prog Tryz.f4 Rows.zlibUnwrapsRow.domain false) (Rows.zlibUnwrapsSpec.post enc Tryz.prog Tryz.f4 false true false false):=by
 refine returnsInHanded_of_change_sized (C:=Tryz.checked) own started (by kernel_rfl) Tryz.func4
  (ChangeSpec.witness6 (enc:=enc) (C:=Tryz.checked) false ⟨#[],#[.string ByteArray.empty,.int .i64 0],[]⟩ 8 (by kernel_rfl) (by kernel_rfl) (by kernel_rfl) (by kernel_rfl)) ?_
 intro W base args ds gs before hval hW _ hwt _
 exact znt (n:=8) (tb:=4) laidOut rfl (by kernel_rfl) (by kernel_rfl) (by kernel_rfl) (by kernel_rfl)
  (λds h=>by
   match ds,h with
   | [d0,d1],_=>exact ⟨rfl,rfl,rfl⟩)
  zc6 W base args hval ds gs before hW hwt
theorem proved:Rows.ZlibUnwrapsSaid:=
 OpenClaim.holds_of_wide 4 Tryz.f4 rfl rfl rfl rfl rfl rfl rfl ⟨rfl,rfl,rfl,rfl,rfl⟩ rfl rfl rfl rfl rfl (by kernel_rfl) Tryz.func4 (by kernel_rfl)
  (of_decide_eq_true (by kernel_rfl)) (by unfold Func.isWrapper;rw [if_neg (of_decide_eq_false (by kernel_rfl))];exact ⟨rfl,rfl⟩)
  (λos started H enc _=>lifted os started H enc)
#print axioms proved
end Go.Proofs.YtloeboiajgfigaaGreat.zlibUnwraps
