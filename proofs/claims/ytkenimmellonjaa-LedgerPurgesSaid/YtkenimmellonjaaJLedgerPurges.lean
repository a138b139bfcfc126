/- LedgerPurges: what its row says of the program's calls. -/
import Derived.Test.YtkenimmellonjaaRows
import Derived.JoinedOf
namespace Go.Proofs.Ytkenimmellonjaa
theorem ledgerPurges_closed : joinedFacts Try.checked.prog 15 Try.f15 Rows.ledgerPurgesSpec Rows.ledgerPurgesRow = true := by kernel_rfl
end Go.Proofs.Ytkenimmellonjaa
