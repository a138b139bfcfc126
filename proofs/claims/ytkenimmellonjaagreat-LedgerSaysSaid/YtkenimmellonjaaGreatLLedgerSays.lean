/- LedgerSays: whatever the input, it returns true; each argument reads as it did. -/
import Derived.Test.YtkenimmellonjaaGreatFLedgerSays
import Derived.Test.YtkenimmellonjaaGreatJLedgerSays
namespace Go.Proofs.YtkenimmellonjaaGreat
open Go.Pv Go.RowKit Go.ChangeShapes Go.WideShapes
theorem ledgerSays_holds : Rows.LedgerSaysSaid :=
  OpenClaim.holds_of_wide 3 Tryz.f3 rfl rfl rfl rfl rfl rfl rfl ⟨rfl, rfl, rfl, rfl, rfl⟩ rfl rfl rfl rfl rfl (by kernel_rfl) Tryz.func3 ledgerSays_closed
    (of_decide_eq_true (by kernel_rfl)) (by unfold Func.isWrapper; first | (rw [if_pos (by decide +kernel)]; kernel_rfl) | (rw [if_neg (by decide +kernel)]; exact ⟨rfl, rfl⟩))
    (fun os started H enc _ => ledgerSays_lifted os started H enc)
#print axioms ledgerSays_holds
end Go.Proofs.YtkenimmellonjaaGreat
