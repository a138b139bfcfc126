/- OrderSays: what its row says of the program's calls. -/
import Derived.Test.YtkenimmellonjaaRows
import Derived.JoinedOf
namespace Go.Proofs.Ytkenimmellonjaa
theorem orderSays_closed : joinedFacts Try.checked.prog 9 Try.f9 Rows.orderSaysSpec Rows.orderSaysRow = true := by kernel_rfl
end Go.Proofs.Ytkenimmellonjaa
