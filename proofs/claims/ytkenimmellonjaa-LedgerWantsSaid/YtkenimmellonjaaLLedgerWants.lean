/- LedgerWants: whatever the input, it returns true; each argument reads as it did. -/
import Derived.Test.YtkenimmellonjaaFLedgerWants
import Derived.Test.YtkenimmellonjaaJLedgerWants
namespace Go.Proofs.Ytkenimmellonjaa
open Go.Pv Go.RowKit Go.ChangeShapes Go.WideShapes
theorem ledgerWants_holds : Rows.LedgerWantsSaid :=
  OpenClaim.holds_of_wide 14 Try.f14 rfl rfl rfl rfl rfl rfl rfl ⟨rfl, rfl, rfl, rfl, rfl⟩ rfl rfl rfl rfl rfl (by kernel_rfl) Try.func14 ledgerWants_closed
    (of_decide_eq_true (by kernel_rfl)) (by unfold Func.isWrapper; first | (rw [if_pos (by decide +kernel)]; kernel_rfl) | (rw [if_neg (by decide +kernel)]; exact ⟨rfl, rfl⟩))
    (fun os started H enc _ => ledgerWants_lifted os started H enc)
#print axioms ledgerWants_holds
end Go.Proofs.Ytkenimmellonjaa
