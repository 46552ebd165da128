/- The builder of strings of this program: its methods' contracts. -/
import Derived.Test.YtgdaiahnceaieaaV9C
import Derived.Test.YtgdaiahnceaieaaVm3
set_option linter.unusedVariables false
set_option linter.unusedSimpArgs false
set_option maxRecDepth 100000
set_option maxHeartbeats 2000000
namespace Go.Vit
open Go.Proofs Go.Shelf
abbrev rB : Go.Shelf.Ren := ⟨fun n => match n with | 166 => 69 | 169 => 71 | 240 => 83 | 276 => 87 | n => n, fun n => match n with | 0 => 0 | 3 => 3 | 4 => 4 | 5 => 5 | 9 => 9 | 20 => 20 | 37 => 96 | 70 => 95 | 72 => 98 | 75 => 100 | 127 => 113 | 164 => 117 | 80 => 104 | n => n, fun n => n⟩
theorem lays166 : Lays.n166 PG rB := by
  constructor <;> first | kernel_rfl | (intro w; kernel_rfl)
theorem lays169 : Lays.n169 PG rB := by
  constructor <;> first | kernel_rfl | (intro w; kernel_rfl)
theorem extraB : Builder.Extra PG rB := by
  refine { sizeBuilder := by kernel_rfl, liesBuilder := by kernel_rfl, t5 := by kernel_rfl, a5 := ?_, z5 := ?_, v5 := ?_, infoByte := by kernel_rfl, cellsByte := by kernel_rfl, sizeByte := by kernel_rfl, neB5 := by decide }
  all_goals (intro w; kernel_rfl)
theorem fnOkW : FnOk PG 69 := ⟨_, lays166.f166, rfl, rfl⟩
theorem fnOkS : FnOk PG 71 := ⟨_, lays169.f169, rfl, rfl⟩
theorem Builder_Write {σ : Mem} {b : Nat} {buf : Option (Nat × Nat)} {bs : List UInt8} (h : BldS σ b 98 5 buf bs) (s : ByteArray) (hl : bs.length + s.size ≤ 140737488355328) :
    ACalls PG 69 [.ptr b 0, .str s] σ fun v σ' => v = .tup [.int .i64 s.size, .nili] ∧ σ' = wrMem σ b 98 5 buf bs s := bld_Write_ok lays166 extraB fnOkW (by kernel_rfl) (by decide) h s hl
theorem Builder_String {σ : Mem} {b : Nat} {buf : Option (Nat × Nat)} {bs : List UInt8} (h : BldS σ b 98 5 buf bs) (hne : buf = none ∨ bs ≠ []) :
    ACalls PG 71 [.ptr b 0] σ fun v σ' => v = .str ⟨bs.toArray⟩ ∧ σ' = σ := bld_String_ok lays169 extraB fnOkS h hne
end Go.Vit
