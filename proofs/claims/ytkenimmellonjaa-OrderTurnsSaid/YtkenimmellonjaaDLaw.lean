/- OrderTurns: whatever the input, it returns true; each argument reads as it did. -/
import Derived.Test.YtkenimmellonjaaDLif
import Derived.Test.YtkenimmellonjaaJT
namespace Go.Proofs.Ytkenimmellonjaa
open Go.Pv Go.RowKit Go.ChangeShapes Go.WideShapes
theorem orderTurns_holds : Rows.OrderTurnsSaid :=
  OpenClaim.holds_of_wide 3 Try.f3 rfl rfl rfl rfl rfl rfl rfl ⟨rfl, rfl, rfl, rfl, rfl⟩ rfl rfl rfl rfl rfl (by kernel_rfl) Try.func3 orderTurns_closed
    (of_decide_eq_true (by kernel_rfl)) (by unfold Func.isWrapper; first | (rw [if_pos (by decide +kernel)]; kernel_rfl) | (rw [if_neg (by decide +kernel)]; exact ⟨rfl, rfl⟩))
    (fun os started H enc _ => orderTurns_lifted os started H enc)
#print axioms orderTurns_holds
end Go.Proofs.Ytkenimmellonjaa
