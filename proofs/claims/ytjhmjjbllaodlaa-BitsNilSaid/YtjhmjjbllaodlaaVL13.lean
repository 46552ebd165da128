/- The law BitsNil over abstract memory: whatever the number, its function comes to true. -/
import Derived.Test.YtjhmjjbllaodlaaVitZ
import Derived.Test.YtjhmjjbllaodlaaChecked
import Derived.KernelRfl
namespace Go.Vit
open Go.Proofs
theorem mixed : Try.prog.follows .mixedOrders = true := by kernel_rfl
theorem runs13 (n : Int) : runsTo Try.prog 400 20 13 [.int .i64 n] (.bool true) = true := by kernel_rfl
theorem law13 (σ : Mem) (l : List AV) (_ : σ.Ro) (hw : Wts Try.prog σ Try.f13.params.toList l) : ACalls Try.prog 13 l σ fun v _ => isTrue v := by
  rw [show Try.f13.params.toList = [3] from by kernel_rfl] at hw
  obtain ⟨n, r, rfl, _, hw⟩ := hw.int (k := .i64) (by kernel_rfl)
  obtain rfl := hw.nil_inv
  exact (ACalls.runs mixed 400 20 (runs13 n) rfl rfl σ).mono fun v _ h => h.1
end Go.Vit
