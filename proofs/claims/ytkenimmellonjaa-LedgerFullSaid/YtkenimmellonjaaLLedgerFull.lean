/- LedgerFull: whatever the input, it returns true; each argument reads as it did. -/
import Derived.Test.YtkenimmellonjaaFLedgerFull
import Derived.Test.YtkenimmellonjaaJLedgerFull
namespace Go.Proofs.Ytkenimmellonjaa
open Go.Pv Go.RowKit Go.ChangeShapes Go.WideShapes
theorem ledgerFull_holds : Rows.LedgerFullSaid :=
  OpenClaim.holds_of_wide 16 Try.f16 rfl rfl rfl rfl rfl rfl rfl ⟨rfl, rfl, rfl, rfl, rfl⟩ rfl rfl rfl rfl rfl (by kernel_rfl) Try.func16 ledgerFull_closed
    (of_decide_eq_true (by kernel_rfl)) (by unfold Func.isWrapper; first | (rw [if_pos (by decide +kernel)]; kernel_rfl) | (rw [if_neg (by decide +kernel)]; exact ⟨rfl, rfl⟩))
    (fun os started H enc _ => ledgerFull_lifted os started H enc)
#print axioms ledgerFull_holds
end Go.Proofs.Ytkenimmellonjaa
