/- CallsPlay: what its row says of the program's calls. -/
import Derived.Test.YtkenimmellonjaaRows
import Derived.JoinedOf
namespace Go.Proofs.Ytkenimmellonjaa
theorem callsPlay_closed : joinedFacts Try.checked.prog 13 Try.f13 Rows.callsPlaySpec Rows.callsPlayRow = true := by kernel_rfl
end Go.Proofs.Ytkenimmellonjaa
