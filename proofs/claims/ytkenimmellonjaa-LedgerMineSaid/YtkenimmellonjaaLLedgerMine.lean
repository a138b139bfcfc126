/- LedgerMine: whatever the input, it returns true; each argument reads as it did. -/
import Derived.Test.YtkenimmellonjaaFLedgerMine
import Derived.Test.YtkenimmellonjaaJLedgerMine
namespace Go.Proofs.Ytkenimmellonjaa
open Go.Pv Go.RowKit Go.ChangeShapes Go.WideShapes
theorem ledgerMine_holds : Rows.LedgerMineSaid :=
  OpenClaim.holds_of_wide 12 Try.f12 rfl rfl rfl rfl rfl rfl rfl ⟨rfl, rfl, rfl, rfl, rfl⟩ rfl rfl rfl rfl rfl (by kernel_rfl) Try.func12 ledgerMine_closed
    (of_decide_eq_true (by kernel_rfl)) (by unfold Func.isWrapper; first | (rw [if_pos (by decide +kernel)]; kernel_rfl) | (rw [if_neg (by decide +kernel)]; exact ⟨rfl, rfl⟩))
    (fun os started H enc _ => ledgerMine_lifted os started H enc)
#print axioms ledgerMine_holds
end Go.Proofs.Ytkenimmellonjaa
