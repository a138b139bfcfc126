/- CallsPlay: whatever the input, it returns true; each argument reads as it did. -/
import Derived.Test.YtkenimmellonjaaFCallsPlay
import Derived.Test.YtkenimmellonjaaJCallsPlay
namespace Go.Proofs.Ytkenimmellonjaa
open Go.Pv Go.RowKit Go.ChangeShapes Go.WideShapes
theorem callsPlay_holds : Rows.CallsPlaySaid :=
  OpenClaim.holds_of_wide 13 Try.f13 rfl rfl rfl rfl rfl rfl rfl ⟨rfl, rfl, rfl, rfl, rfl⟩ rfl rfl rfl rfl rfl (by kernel_rfl) Try.func13 callsPlay_closed
    (of_decide_eq_true (by kernel_rfl)) (by unfold Func.isWrapper; first | (rw [if_pos (by decide +kernel)]; kernel_rfl) | (rw [if_neg (by decide +kernel)]; exact ⟨rfl, rfl⟩))
    (fun os started H enc _ => callsPlay_lifted os started H enc)
#print axioms callsPlay_holds
end Go.Proofs.Ytkenimmellonjaa
