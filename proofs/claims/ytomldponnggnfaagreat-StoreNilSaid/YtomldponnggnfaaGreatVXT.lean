/- The sums of the examples, by a table. -/
import Derived.Test.YtomldponnggnfaaGreatVXK
import Derived.Test.YtomldponnggnfaaGreatVX1
set_option linter.unusedVariables false
set_option linter.unusedSimpArgs false
set_option maxRecDepth 1000000
namespace Go.Vit
open Go.Proofs
theorem sha_tab {s h : ByteArray} (hs : s.size ≤ 2 ^ 36) (e : eqBy (shaS s) h = true) (σ : Mem) : ACalls PG 70 [.str s] σ fun v σ' => v = .str h ∧ σ' = σ :=
  ACalls.closed ((sha_Sum s hs _).mono fun v σ' hv => by rw [hv.1, eqBy_eq e]) rfl rfl σ
def shaI0 : ByteArray := ⟨#[0, 0, 0, 0, 0, 0, 0, 0, 0, 0, 0, 0, 0, 0, 0, 0, 0, 0, 0, 0, 0, 0, 0, 0, 0, 0, 0, 0, 0, 0, 0, 0, 0, 0, 0, 0, 0, 0, 0, 0, 0, 0, 0, 0, 0, 0, 0, 0, 0, 0, 0, 0, 0, 0, 0, 0, 0, 0, 0, 0, 0, 0, 0, 0, 0, 0, 0, 0, 0, 0, 0, 0, 0, 0, 0, 0, 0, 0, 0, 0, 0, 0, 0, 0, 0, 0, 0, 0, 0, 0, 0, 0, 0, 0, 0, 0, 0, 0, 0, 0, 0, 0, 0, 0, 0, 0, 0, 0, 0, 0, 0, 0, 0, 0, 0, 0, 0, 0, 0, 0, 0, 0, 0, 0, 0, 0, 0, 0]⟩
def shaO0 : ByteArray := ⟨#[56, 114, 58, 46, 94, 138, 23, 170, 121, 80, 220, 0, 130, 9, 148, 78, 137, 143, 105, 167, 189, 16, 162, 60, 131, 157, 52, 30, 147, 95, 213, 202]⟩
theorem sha_0 : eqBy (shaS shaI0) shaO0 = true := by kernel_rfl
def shaI1 : ByteArray := ⟨#[0, 0, 0, 1, 0, 0, 0, 12, 124, 137, 117, 225, 230, 10, 92, 131, 55, 242, 142, 223, 140, 51, 195, 177, 128, 54, 11, 114, 121, 100, 74, 155, 193, 175, 60, 81, 230, 34, 11, 245, 114, 205, 110, 132, 34, 196, 7, 251, 109, 9, 134, 144, 241, 19, 11, 125, 237, 126, 194, 247, 245, 225, 211, 11, 217, 213, 33, 240, 21, 54, 55, 147]⟩
def shaO1 : ByteArray := ⟨#[20, 67, 222, 9, 224, 133, 173, 21, 81, 21, 246, 111, 51, 139, 228, 27, 188, 52, 87, 194, 42, 184, 132, 129, 3, 52, 167, 56, 43, 53, 210, 71]⟩
theorem sha_1 : eqBy (shaS shaI1) shaO1 = true := by kernel_rfl
def shaI2 : ByteArray := ⟨#[1, 1, 1, 1, 1, 1, 1, 1, 1, 1, 1, 1, 1, 1, 1, 1, 1, 1, 1, 1, 1, 1, 1, 1, 1, 1, 1, 1, 1, 1, 1, 1, 1, 1, 1, 1, 1, 1, 1, 1, 1, 1, 1, 1, 1, 1, 1, 1, 1, 1, 1, 1, 1, 1, 1, 1, 1, 1, 1, 1, 1, 1, 1, 1]⟩
def shaO2 : ByteArray := ⟨#[124, 137, 117, 225, 230, 10, 92, 131, 55, 242, 142, 223, 140, 51, 195, 177, 128, 54, 11, 114, 121, 100, 74, 155, 193, 175, 60, 81, 230, 34, 11, 245]⟩
theorem sha_2 : eqBy (shaS shaI2) shaO2 = true := by kernel_rfl
def shaI3 : ByteArray := ⟨#[4, 4, 4, 4, 4, 4, 4, 4, 4, 4, 4, 4, 4, 4, 4, 4, 4, 4, 4, 4, 4, 4, 4, 4, 4, 4, 4, 4, 4, 4, 4, 4, 4, 4, 4, 4, 4, 4, 4, 4, 4, 4, 4, 4, 4, 4, 4, 4, 4, 4, 4, 4, 4, 4, 4, 4, 4, 4, 4, 4, 4, 4, 4, 4]⟩
def shaO3 : ByteArray := ⟨#[203, 76, 223, 19, 81, 199, 183, 129, 46, 82, 184, 115, 100, 10, 178, 11, 215, 72, 167, 20, 47, 254, 193, 68, 177, 132, 57, 188, 139, 131, 57, 36]⟩
theorem sha_3 : eqBy (shaS shaI3) shaO3 = true := by kernel_rfl
def shaI4 : ByteArray := ⟨#[1, 1, 1, 1, 1, 1, 1, 1, 1, 1, 1, 1, 1, 1, 1, 1, 1, 1, 1, 1, 1, 1, 1, 1, 1, 1, 1, 1, 1, 1, 1, 1]⟩
def shaO4 : ByteArray := ⟨#[114, 205, 110, 132, 34, 196, 7, 251, 109, 9, 134, 144, 241, 19, 11, 125, 237, 126, 194, 247, 245, 225, 211, 11, 217, 213, 33, 240, 21, 54, 55, 147]⟩
theorem sha_4 : eqBy (shaS shaI4) shaO4 = true := by kernel_rfl
def tab18 : List (ByteArray × ByteArray) := [(shaI0, shaO0), (shaI1, shaO1), (shaI2, shaO2), (shaI3, shaO3), (shaI4, shaO4)]
theorem tab18_ok : ∀ e ∈ tab18, ∀ σ, ACalls PG 70 [.str e.1] σ fun v σ' => v = .str e.2 ∧ σ' = σ := by
  intro e he σ
  unfold tab18 at he
  simp only [List.mem_cons, List.not_mem_nil, or_false] at he
  rcases he with rfl | rfl | rfl | rfl | rfl
  · exact sha_tab (by decide) sha_0 σ
  · exact sha_tab (by decide) sha_1 σ
  · exact sha_tab (by decide) sha_2 σ
  · exact sha_tab (by decide) sha_3 σ
  · exact sha_tab (by decide) sha_4 σ
end Go.Vit
