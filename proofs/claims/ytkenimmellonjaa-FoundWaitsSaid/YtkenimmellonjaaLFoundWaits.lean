/- FoundWaits: whatever the input, it returns true; each argument reads as it did. -/
import Derived.Test.YtkenimmellonjaaFFoundWaits
import Derived.Test.YtkenimmellonjaaJFoundWaits
namespace Go.Proofs.Ytkenimmellonjaa
open Go.Pv Go.RowKit Go.ChangeShapes Go.WideShapes
theorem foundWaits_holds : Rows.FoundWaitsSaid :=
  OpenClaim.holds_of_wide 8 Try.f8 rfl rfl rfl rfl rfl rfl rfl ⟨rfl, rfl, rfl, rfl, rfl⟩ rfl rfl rfl rfl rfl (by kernel_rfl) Try.func8 foundWaits_closed
    (of_decide_eq_true (by kernel_rfl)) (by unfold Func.isWrapper; first | (rw [if_pos (by decide +kernel)]; kernel_rfl) | (rw [if_neg (by decide +kernel)]; exact ⟨rfl, rfl⟩))
    (fun os started H enc _ => foundWaits_lifted os started H enc)
#print axioms foundWaits_holds
end Go.Proofs.Ytkenimmellonjaa
