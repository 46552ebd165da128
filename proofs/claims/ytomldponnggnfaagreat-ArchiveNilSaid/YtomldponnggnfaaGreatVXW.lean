/- The builder of strings of this program: its methods' contracts. -/
import Derived.Test.YtomldponnggnfaaGreatVXC
import Derived.Test.YtomldponnggnfaaGreatVm3
set_option linter.unusedVariables false
set_option linter.unusedSimpArgs false
set_option maxRecDepth 100000
set_option maxHeartbeats 2000000
namespace Go.Vit
open Go.Proofs Go.Shelf
abbrev rB : Go.Shelf.Ren := ⟨fun n => match n with | 167 => 238 | 166 => 86 | 169 => 88 | 240 => 141 | 276 => 189 | 156 => 97 | 165 => 147 | 241 => 193 | 277 => 237 | n => n, fun n => match n with | 0 => 0 | 3 => 3 | 4 => 4 | 5 => 5 | 9 => 9 | 20 => 20 | 37 => 111 | 70 => 148 | 72 => 150 | 75 => 152 | 31 => 24 | 76 => 153 | 127 => 217 | 164 => 262 | 80 => 156 | n => n, fun n => n⟩
theorem lays166 : Lays.n166 PG rB := by
  constructor <;> first | kernel_rfl | (intro w; kernel_rfl)
theorem lays169 : Lays.n169 PG rB := by
  constructor <;> first | kernel_rfl | (intro w; kernel_rfl)
theorem extraB : Builder.Extra PG rB := by
  refine { sizeBuilder := by kernel_rfl, liesBuilder := by kernel_rfl, t5 := by kernel_rfl, a5 := ?_, z5 := ?_, v5 := ?_, infoByte := by kernel_rfl, cellsByte := by kernel_rfl, sizeByte := by kernel_rfl, neB5 := by decide }
  all_goals (intro w; kernel_rfl)
theorem fnOkW : FnOk PG 86 := ⟨_, lays166.f166, rfl, rfl⟩
theorem fnOkS : FnOk PG 88 := ⟨_, lays169.f169, rfl, rfl⟩
theorem Builder_Write {σ : Mem} {b : Nat} {buf : Option (Nat × Nat)} {bs : List UInt8} (h : BldS σ b 150 5 buf bs) (s : ByteArray) (hl : bs.length + s.size ≤ 140737488355328) :
    ACalls PG 86 [.ptr b 0, .str s] σ fun v σ' => v = .tup [.int .i64 s.size, .nili] ∧ σ' = wrMem σ b 150 5 buf bs s := bld_Write_ok lays166 extraB fnOkW (by kernel_rfl) (by decide) h s hl
theorem Builder_String {σ : Mem} {b : Nat} {buf : Option (Nat × Nat)} {bs : List UInt8} (h : BldS σ b 150 5 buf bs) (hne : buf = none ∨ bs ≠ []) :
    ACalls PG 88 [.ptr b 0] σ fun v σ' => v = .str ⟨bs.toArray⟩ ∧ σ' = σ := bld_String_ok lays169 extraB fnOkS h hne

theorem lays167 : Lays.n167 PG rB := by
  constructor <;> first | kernel_rfl | (intro w; kernel_rfl)
theorem fnOk167 : FnOk PG 238 := ⟨_, lays167.f167, rfl, rfl⟩
theorem lies267 : liesAt PG PG.depth 267 (2 / PG.cellsOf 267) 0 150 1 = true := by kernel_rfl
abbrev rD : Go.Shelf.Ren := ⟨fun n => match n with | 24 => 149 | n => n, fun n => match n with | 0 => 0 | 3 => 3 | 4 => 4 | 9 => 9 | 24 => 24 | n => n, fun n => n⟩
theorem lays2_24 : Lays2.n24 PG rD := by
  constructor <;> first | kernel_rfl | (intro w; kernel_rfl)
theorem fnOkD : FnOk PG 149 := ⟨_, lays2_24.f24, rfl, rfl⟩
theorem orcDel : CallOkL PG (orcD 149) := orcD_ok fun σ b i j c d rest hd hg hij hj => del_ok lays2_24 fnOkD hd hg hij hj
end Go.Vit
