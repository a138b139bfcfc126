/- LedgerWants: what its row says of the program's calls. -/
import Derived.Test.YtkenimmellonjaaRows
import Derived.JoinedOf
namespace Go.Proofs.Ytkenimmellonjaa
theorem ledgerWants_closed : joinedFacts Try.checked.prog 14 Try.f14 Rows.ledgerWantsSpec Rows.ledgerWantsRow = true := by kernel_rfl
end Go.Proofs.Ytkenimmellonjaa
