/- CallsOrder: whatever the input, it returns true; each argument reads as it did. -/
import Derived.Test.YtkenimmellonjaaFCallsOrder
import Derived.Test.YtkenimmellonjaaJCallsOrder
namespace Go.Proofs.Ytkenimmellonjaa
open Go.Pv Go.RowKit Go.ChangeShapes Go.WideShapes
theorem callsOrder_holds : Rows.CallsOrderSaid :=
  OpenClaim.holds_of_wide 5 Try.f5 rfl rfl rfl rfl rfl rfl rfl ⟨rfl, rfl, rfl, rfl, rfl⟩ rfl rfl rfl rfl rfl (by kernel_rfl) Try.func5 callsOrder_closed
    (of_decide_eq_true (by kernel_rfl)) (by unfold Func.isWrapper; first | (rw [if_pos (by decide +kernel)]; kernel_rfl) | (rw [if_neg (by decide +kernel)]; exact ⟨rfl, rfl⟩))
    (fun os started H enc _ => callsOrder_lifted os started H enc)
#print axioms callsOrder_holds
end Go.Proofs.Ytkenimmellonjaa
