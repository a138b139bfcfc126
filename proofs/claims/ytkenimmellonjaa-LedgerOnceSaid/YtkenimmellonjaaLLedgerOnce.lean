/- LedgerOnce: whatever the input, it returns true; each argument reads as it did. -/
import Derived.Test.YtkenimmellonjaaFLedgerOnce
import Derived.Test.YtkenimmellonjaaJLedgerOnce
namespace Go.Proofs.Ytkenimmellonjaa
open Go.Pv Go.RowKit Go.ChangeShapes Go.WideShapes
theorem ledgerOnce_holds : Rows.LedgerOnceSaid :=
  OpenClaim.holds_of_wide 17 Try.f17 rfl rfl rfl rfl rfl rfl rfl ⟨rfl, rfl, rfl, rfl, rfl⟩ rfl rfl rfl rfl rfl (by kernel_rfl) Try.func17 ledgerOnce_closed
    (of_decide_eq_true (by kernel_rfl)) (by unfold Func.isWrapper; first | (rw [if_pos (by decide +kernel)]; kernel_rfl) | (rw [if_neg (by decide +kernel)]; exact ⟨rfl, rfl⟩))
    (fun os started H enc _ => ledgerOnce_lifted os started H enc)
#print axioms ledgerOnce_holds
end Go.Proofs.Ytkenimmellonjaa
