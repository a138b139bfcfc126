/- LedgerFull: what its row says of the program's calls. -/
import Derived.Test.YtkenimmellonjaaRows
import Derived.JoinedOf
namespace Go.Proofs.Ytkenimmellonjaa
theorem ledgerFull_closed : joinedFacts Try.checked.prog 16 Try.f16 Rows.ledgerFullSpec Rows.ledgerFullRow = true := by kernel_rfl
end Go.Proofs.Ytkenimmellonjaa
