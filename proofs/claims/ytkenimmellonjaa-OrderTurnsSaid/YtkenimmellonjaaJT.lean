/- OrderTurns: what its row says of the program's calls. -/
import Derived.Test.YtkenimmellonjaaRows
import Derived.JoinedOf
namespace Go.Proofs.Ytkenimmellonjaa
theorem orderTurns_closed : joinedFacts Try.checked.prog 3 Try.f3 Rows.orderTurnsSpec Rows.orderTurnsRow = true := by kernel_rfl
end Go.Proofs.Ytkenimmellonjaa
