/- TraceBoots: what its row says of the program's calls. -/
import Derived.Test.YtpfmnccocmgfmaaDoorRows
import Derived.JoinedOf
namespace Go.Proofs.YtpfmnccocmgfmaaDoor
theorem traceBoots_closed : joinedFacts Tryd.checked.prog 6 Tryd.f6 Rows.traceBootsSpec Rows.traceBootsRow = true := by kernel_rfl
end Go.Proofs.YtpfmnccocmgfmaaDoor
