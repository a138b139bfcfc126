/- TraceLooks: what its row says of the program's calls. -/
import Derived.Test.YtgadgajhahfabaaDoorRows
import Derived.JoinedOf
namespace Go.Proofs.YtgadgajhahfabaaDoor
theorem traceLooks_closed : joinedFacts Tryd.checked.prog 3 Tryd.f3 Rows.traceLooksSpec Rows.traceLooksRow = true := by kernel_rfl
end Go.Proofs.YtgadgajhahfabaaDoor
