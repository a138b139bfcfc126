/- CallsOrder: what its row says of the program's calls. -/
import Derived.Test.YtkenimmellonjaaRows
import Derived.JoinedOf
namespace Go.Proofs.Ytkenimmellonjaa
theorem callsOrder_closed : joinedFacts Try.checked.prog 5 Try.f5 Rows.callsOrderSpec Rows.callsOrderRow = true := by kernel_rfl
end Go.Proofs.Ytkenimmellonjaa
