/- LedgerSays: what its row says of the program's calls. -/
import Derived.Test.YtkenimmellonjaaGreatRows
import Derived.JoinedOf
namespace Go.Proofs.YtkenimmellonjaaGreat
theorem ledgerSays_closed : joinedFacts Tryz.checked.prog 3 Tryz.f3 Rows.ledgerSaysSpec Rows.ledgerSaysRow = true := by kernel_rfl
end Go.Proofs.YtkenimmellonjaaGreat
