/- FoundLeast: whatever the input, it returns true; each argument reads as it did. -/
import Derived.Test.YtkenimmellonjaaFFoundLeast
import Derived.Test.YtkenimmellonjaaJFoundLeast
namespace Go.Proofs.Ytkenimmellonjaa
open Go.Pv Go.RowKit Go.ChangeShapes Go.WideShapes
theorem foundLeast_holds : Rows.FoundLeastSaid :=
  OpenClaim.holds_of_wide 7 Try.f7 rfl rfl rfl rfl rfl rfl rfl ⟨rfl, rfl, rfl, rfl, rfl⟩ rfl rfl rfl rfl rfl (by kernel_rfl) Try.func7 foundLeast_closed
    (of_decide_eq_true (by kernel_rfl)) (by unfold Func.isWrapper; first | (rw [if_pos (by decide +kernel)]; kernel_rfl) | (rw [if_neg (by decide +kernel)]; exact ⟨rfl, rfl⟩))
    (fun os started H enc _ => foundLeast_lifted os started H enc)
#print axioms foundLeast_holds
end Go.Proofs.Ytkenimmellonjaa
