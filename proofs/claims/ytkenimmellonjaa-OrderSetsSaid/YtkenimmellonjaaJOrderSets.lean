/- OrderSets: what its row says of the program's calls. -/
import Derived.Test.YtkenimmellonjaaRows
import Derived.JoinedOf
namespace Go.Proofs.Ytkenimmellonjaa
theorem orderSets_closed : joinedFacts Try.checked.prog 10 Try.f10 Rows.orderSetsSpec Rows.orderSetsRow = true := by kernel_rfl
end Go.Proofs.Ytkenimmellonjaa
