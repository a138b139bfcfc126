/- LedgerPurges: whatever the input, it returns true; each argument reads as it did. -/
import Derived.Test.YtkenimmellonjaaFLedgerPurges
import Derived.Test.YtkenimmellonjaaJLedgerPurges
namespace Go.Proofs.Ytkenimmellonjaa
open Go.Pv Go.RowKit Go.ChangeShapes Go.WideShapes
theorem ledgerPurges_holds : Rows.LedgerPurgesSaid :=
  OpenClaim.holds_of_wide 15 Try.f15 rfl rfl rfl rfl rfl rfl rfl ⟨rfl, rfl, rfl, rfl, rfl⟩ rfl rfl rfl rfl rfl (by kernel_rfl) Try.func15 ledgerPurges_closed
    (of_decide_eq_true (by kernel_rfl)) (by unfold Func.isWrapper; first | (rw [if_pos (by decide +kernel)]; kernel_rfl) | (rw [if_neg (by decide +kernel)]; exact ⟨rfl, rfl⟩))
    (fun os started H enc _ => ledgerPurges_lifted os started H enc)
#print axioms ledgerPurges_holds
end Go.Proofs.Ytkenimmellonjaa
