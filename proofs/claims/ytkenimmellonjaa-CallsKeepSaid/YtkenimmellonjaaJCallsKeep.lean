/- CallsKeep: what its row says of the program's calls. -/
import Derived.Test.YtkenimmellonjaaRows
import Derived.JoinedOf
namespace Go.Proofs.Ytkenimmellonjaa
theorem callsKeep_closed : joinedFacts Try.checked.prog 11 Try.f11 Rows.callsKeepSpec Rows.callsKeepRow = true := by kernel_rfl
end Go.Proofs.Ytkenimmellonjaa
