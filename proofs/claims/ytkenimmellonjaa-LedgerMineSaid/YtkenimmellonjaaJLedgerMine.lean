/- LedgerMine: what its row says of the program's calls. -/
import Derived.Test.YtkenimmellonjaaRows
import Derived.JoinedOf
namespace Go.Proofs.Ytkenimmellonjaa
theorem ledgerMine_closed : joinedFacts Try.checked.prog 12 Try.f12 Rows.ledgerMineSpec Rows.ledgerMineRow = true := by kernel_rfl
end Go.Proofs.Ytkenimmellonjaa
