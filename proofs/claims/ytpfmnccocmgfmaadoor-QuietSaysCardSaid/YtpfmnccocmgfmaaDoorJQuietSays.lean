/- QuietSays: what its row says of the program's calls. -/
import Derived.Test.YtpfmnccocmgfmaaDoorRows
import Derived.JoinedOf
namespace Go.Proofs.YtpfmnccocmgfmaaDoor
theorem quietSays_closed : joinedFacts Tryd.checked.prog 7 Tryd.f7 Rows.quietSaysSpec Rows.quietSaysRow = true := by kernel_rfl
end Go.Proofs.YtpfmnccocmgfmaaDoor
