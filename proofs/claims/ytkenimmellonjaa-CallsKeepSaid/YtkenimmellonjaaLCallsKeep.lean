/- CallsKeep: whatever the input, it returns true; each argument reads as it did. -/
import Derived.Test.YtkenimmellonjaaFCallsKeep
import Derived.Test.YtkenimmellonjaaJCallsKeep
namespace Go.Proofs.Ytkenimmellonjaa
open Go.Pv Go.RowKit Go.ChangeShapes Go.WideShapes
theorem callsKeep_holds : Rows.CallsKeepSaid :=
  OpenClaim.holds_of_wide 11 Try.f11 rfl rfl rfl rfl rfl rfl rfl ⟨rfl, rfl, rfl, rfl, rfl⟩ rfl rfl rfl rfl rfl (by kernel_rfl) Try.func11 callsKeep_closed
    (of_decide_eq_true (by kernel_rfl)) (by unfold Func.isWrapper; first | (rw [if_pos (by decide +kernel)]; kernel_rfl) | (rw [if_neg (by decide +kernel)]; exact ⟨rfl, rfl⟩))
    (fun os started H enc _ => callsKeep_lifted os started H enc)
#print axioms callsKeep_holds
end Go.Proofs.Ytkenimmellonjaa
