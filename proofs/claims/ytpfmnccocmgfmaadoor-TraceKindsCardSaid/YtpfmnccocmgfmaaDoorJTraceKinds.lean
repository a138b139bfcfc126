/- TraceKinds: what its row says of the program's calls. -/
import Derived.Test.YtpfmnccocmgfmaaDoorRows
import Derived.JoinedOf
namespace Go.Proofs.YtpfmnccocmgfmaaDoor
theorem traceKinds_closed : joinedFacts Tryd.checked.prog 3 Tryd.f3 Rows.traceKindsSpec Rows.traceKindsRow = true := by kernel_rfl
end Go.Proofs.YtpfmnccocmgfmaaDoor
