/- OrderRing: whatever the input, it returns true; each argument reads as it did. -/
import Derived.Test.YtkenimmellonjaaELif
import Derived.Test.YtkenimmellonjaaJR
namespace Go.Proofs.Ytkenimmellonjaa
open Go.Pv Go.RowKit Go.ChangeShapes Go.WideShapes
theorem orderRing_holds : Rows.OrderRingSaid :=
  OpenClaim.holds_of_wide 4 Try.f4 rfl rfl rfl rfl rfl rfl rfl ⟨rfl, rfl, rfl, rfl, rfl⟩ rfl rfl rfl rfl rfl (by kernel_rfl) Try.func4 orderRing_closed
    (of_decide_eq_true (by kernel_rfl)) (by unfold Func.isWrapper; first | (rw [if_pos (by decide +kernel)]; kernel_rfl) | (rw [if_neg (by decide +kernel)]; exact ⟨rfl, rfl⟩))
    (fun os started H enc _ => orderRing_lifted os started H enc)
#print axioms orderRing_holds
end Go.Proofs.Ytkenimmellonjaa
