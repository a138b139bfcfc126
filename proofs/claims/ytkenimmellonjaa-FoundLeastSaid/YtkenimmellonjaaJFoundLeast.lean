/- FoundLeast: what its row says of the program's calls. -/
import Derived.Test.YtkenimmellonjaaRows
import Derived.JoinedOf
namespace Go.Proofs.Ytkenimmellonjaa
theorem foundLeast_closed : joinedFacts Try.checked.prog 7 Try.f7 Rows.foundLeastSpec Rows.foundLeastRow = true := by kernel_rfl
end Go.Proofs.Ytkenimmellonjaa
