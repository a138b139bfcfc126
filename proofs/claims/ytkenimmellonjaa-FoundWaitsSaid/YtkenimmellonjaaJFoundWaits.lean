/- FoundWaits: what its row says of the program's calls. -/
import Derived.Test.YtkenimmellonjaaRows
import Derived.JoinedOf
namespace Go.Proofs.Ytkenimmellonjaa
theorem foundWaits_closed : joinedFacts Try.checked.prog 8 Try.f8 Rows.foundWaitsSpec Rows.foundWaitsRow = true := by kernel_rfl
end Go.Proofs.Ytkenimmellonjaa
