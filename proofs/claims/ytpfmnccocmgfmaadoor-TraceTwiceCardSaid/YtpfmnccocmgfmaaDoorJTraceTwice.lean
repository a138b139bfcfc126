/- TraceTwice: what its row says of the program's calls. -/
import Derived.Test.YtpfmnccocmgfmaaDoorRows
import Derived.JoinedOf
namespace Go.Proofs.YtpfmnccocmgfmaaDoor
theorem traceTwice_closed : joinedFacts Tryd.checked.prog 5 Tryd.f5 Rows.traceTwiceSpec Rows.traceTwiceRow = true := by kernel_rfl
end Go.Proofs.YtpfmnccocmgfmaaDoor
