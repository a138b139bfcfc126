/- FoundSays: what its row says of the program's calls. -/
import Derived.Test.YtkenimmellonjaaRows
import Derived.JoinedOf
namespace Go.Proofs.Ytkenimmellonjaa
theorem foundSays_closed : joinedFacts Try.checked.prog 6 Try.f6 Rows.foundSaysSpec Rows.foundSaysRow = true := by kernel_rfl
end Go.Proofs.Ytkenimmellonjaa
