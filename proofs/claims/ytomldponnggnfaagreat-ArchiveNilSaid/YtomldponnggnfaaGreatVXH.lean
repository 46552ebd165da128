/- More functions, as printed conditions. -/
import Derived.Test.YtomldponnggnfaaGreatVXC
set_option linter.unusedVariables false
set_option linter.unusedSimpArgs false
set_option linter.unusedVariables false
set_option maxRecDepth 100000
namespace Go.Vit
open Go.Proofs
/-! vitrine/sha.Sum -/
/-! vitrine/sha.begin -/
/-! vitrine/sha.constants -/
/-! (*vitrine/sha.state).block -/
/-! vitrine/sha.schedule -/
/-! vitrine/sha.turn -/
/-! vitrine/bits.Crc -/
def F_bits_Crc_l2 (next0 : Int → Int → Mem → Prop) (v2 : Int) (next7 : Int → Int → Mem → Prop) (v8 : Int) (v9 : Int) (σ10 : Mem) : Prop :=
ifB (decide (v9 < 8)) (
letW (v8 / 2) fun v11 =>
letW (bitsOp .and .i64 v8 1) fun v12 =>
iW (3988292384 * v12) fun v13 =>
letW (bitsOp .xor .i64 v11 v13) fun v14 =>
iW (v9 + 1) fun v15 =>
next7 v14 v15 (σ10.bump 10)) (
iW (v2 + 1) fun v16 =>
next0 v8 v16 (σ10.bump 3))
def F_bits_Crc_l1 (a0 : ByteArray) (Q : AV → Mem → Prop) (next0 : Int → Int → Mem → Prop) (v1 : Int) (v2 : Int) (σ3 : Mem) : Prop :=
ifB (decide (v2 < (a0.size : Int))) (
sidxW a0 v2 fun v4 =>
iW v4 fun v5 =>
letW (bitsOp .xor .i64 v1 v5) fun v6 =>
loopF [tI, tI] (F_bits_Crc_l2 next0 v2) v6 0 (σ3.bump 11)) (
letW (bitsOp .xor .i64 v1 4294967295) fun v17 =>
Q (.int .i64 v17) (σ3.bump 4))
def F_bits_Crc (a0 : ByteArray) (σ : Mem) (Q : AV → Mem → Prop) : Prop :=
loopF [tI, tI] (F_bits_Crc_l1 a0 Q) 4294967295 0 (σ.bump 5)
theorem ok_bits_Crc {a0 σ Q} (h : σ.Live → F_bits_Crc a0 σ Q) : ACalls PG n_bits_Crc [.str a0] σ Q :=
  .of_sem [none, none, none, none, some ([0, 6], [3, 7]), none, none, none, none, none, none, none, some ([0, 6, 7], [3, 16]), none, none, none, none, none, none, none] [(3, tI), (7, tI), (16, tI)] mixed (by kernel_rfl) (by kernel_rfl) h
/-! vitrine/vitrinelaw18.Small -/
/-! vitrine/vitrinelaw23.small -/
/-! vitrine/bands.Manifest -/
/-! vitrine/bands.Cut -/
end Go.Vit
