/- OrderRing: what its row says of the program's calls. -/
import Derived.Test.YtkenimmellonjaaRows
import Derived.JoinedOf
namespace Go.Proofs.Ytkenimmellonjaa
theorem orderRing_closed : joinedFacts Try.checked.prog 4 Try.f4 Rows.orderRingSpec Rows.orderRingRow = true := by kernel_rfl
end Go.Proofs.Ytkenimmellonjaa
