/- FoundSays: whatever the input, it returns true; each argument reads as it did. -/
import Derived.Test.YtkenimmellonjaaFFoundSays
import Derived.Test.YtkenimmellonjaaJFoundSays
namespace Go.Proofs.Ytkenimmellonjaa
open Go.Pv Go.RowKit Go.ChangeShapes Go.WideShapes
theorem foundSays_holds : Rows.FoundSaysSaid :=
  OpenClaim.holds_of_wide 6 Try.f6 rfl rfl rfl rfl rfl rfl rfl ⟨rfl, rfl, rfl, rfl, rfl⟩ rfl rfl rfl rfl rfl (by kernel_rfl) Try.func6 foundSays_closed
    (of_decide_eq_true (by kernel_rfl)) (by unfold Func.isWrapper; first | (rw [if_pos (by decide +kernel)]; kernel_rfl) | (rw [if_neg (by decide +kernel)]; exact ⟨rfl, rfl⟩))
    (fun os started H enc _ => foundSays_lifted os started H enc)
#print axioms foundSays_holds
end Go.Proofs.Ytkenimmellonjaa
