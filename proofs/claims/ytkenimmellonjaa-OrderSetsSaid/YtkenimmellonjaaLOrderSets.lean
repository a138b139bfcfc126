/- OrderSets: whatever the input, it returns true; each argument reads as it did. -/
import Derived.Test.YtkenimmellonjaaHLif
import Derived.Test.YtkenimmellonjaaJOrderSets
namespace Go.Proofs.Ytkenimmellonjaa
open Go.Pv Go.RowKit Go.ChangeShapes Go.WideShapes
theorem orderSets_holds : Rows.OrderSetsSaid :=
  OpenClaim.holds_of_wide 10 Try.f10 rfl rfl rfl rfl rfl rfl rfl ⟨rfl, rfl, rfl, rfl, rfl⟩ rfl rfl rfl rfl rfl (by kernel_rfl) Try.func10 orderSets_closed
    (of_decide_eq_true (by kernel_rfl)) (by unfold Func.isWrapper; first | (rw [if_pos (by decide +kernel)]; kernel_rfl) | (rw [if_neg (by decide +kernel)]; exact ⟨rfl, rfl⟩))
    (fun os started H enc _ => orderSets_lifted os started H enc)
#print axioms orderSets_holds
end Go.Proofs.Ytkenimmellonjaa
