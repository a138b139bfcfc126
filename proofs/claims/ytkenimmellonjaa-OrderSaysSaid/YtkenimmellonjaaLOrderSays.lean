/- OrderSays: whatever the input, it returns true; each argument reads as it did. -/
import Derived.Test.YtkenimmellonjaaFOrderSays
import Derived.Test.YtkenimmellonjaaJOrderSays
namespace Go.Proofs.Ytkenimmellonjaa
open Go.Pv Go.RowKit Go.ChangeShapes Go.WideShapes
theorem orderSays_holds : Rows.OrderSaysSaid :=
  OpenClaim.holds_of_wide 9 Try.f9 rfl rfl rfl rfl rfl rfl rfl ⟨rfl, rfl, rfl, rfl, rfl⟩ rfl rfl rfl rfl rfl (by kernel_rfl) Try.func9 orderSays_closed
    (of_decide_eq_true (by kernel_rfl)) (by unfold Func.isWrapper; first | (rw [if_pos (by decide +kernel)]; kernel_rfl) | (rw [if_neg (by decide +kernel)]; exact ⟨rfl, rfl⟩))
    (fun os started H enc _ => orderSays_lifted os started H enc)
#print axioms orderSays_holds
end Go.Proofs.Ytkenimmellonjaa
