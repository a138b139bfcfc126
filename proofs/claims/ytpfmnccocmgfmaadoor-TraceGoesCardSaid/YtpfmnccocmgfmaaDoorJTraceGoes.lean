/- TraceGoes: what its row says of the program's calls. -/
import Derived.Test.YtpfmnccocmgfmaaDoorRows
import Derived.JoinedOf
namespace Go.Proofs.YtpfmnccocmgfmaaDoor
theorem traceGoes_closed : joinedFacts Tryd.checked.prog 4 Tryd.f4 Rows.traceGoesSpec Rows.traceGoesRow = true := by kernel_rfl
end Go.Proofs.YtpfmnccocmgfmaaDoor
