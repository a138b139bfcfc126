/- LedgerOnce: what its row says of the program's calls. -/
import Derived.Test.YtkenimmellonjaaRows
import Derived.JoinedOf
namespace Go.Proofs.Ytkenimmellonjaa
theorem ledgerOnce_closed : joinedFacts Try.checked.prog 17 Try.f17 Rows.ledgerOnceSpec Rows.ledgerOnceRow = true := by kernel_rfl
end Go.Proofs.Ytkenimmellonjaa
