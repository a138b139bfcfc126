/- QuietGrows: what its row says of the program's calls. -/
import Derived.Test.YtpfmnccocmgfmaaDoorRows
import Derived.JoinedOf
namespace Go.Proofs.YtpfmnccocmgfmaaDoor
theorem quietGrows_closed : joinedFacts Tryd.checked.prog 8 Tryd.f8 Rows.quietGrowsSpec Rows.quietGrowsRow = true := by kernel_rfl
end Go.Proofs.YtpfmnccocmgfmaaDoor
