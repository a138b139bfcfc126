/- The node tables of regions that draw. -/
import Derived.Test.YtpfmnccocmgfmaaDoorFrD
namespace Go.Proofs.YtpfmnccocmgfmaaDoor
open Go.Pv Go.RowKit
def sp5_33 : List (Nat × List Nat × Bool) := [(0, [], false), (1, [], false), (2, [], true), (3, [1, 2], false), (4, [], false), (5, [4], false), (6, [3, 5, 3], false), (7, [0, 6, 6], false), (8, [7, 7, 0, 1, 2, 3, 4, 5, 6, 7], true)]
def sp5_34 : List (Nat × List Nat × Bool) := [(0, [], false), (1, [], false), (2, [], true), (3, [1, 2], false), (4, [], false), (5, [], false), (6, [4, 5], false), (7, [6], false), (8, [3, 7, 3], false), (9, [0, 8, 8], false), (10, [9, 9, 0, 1, 2, 3, 4, 5, 6, 7, 8, 9], true)]
end Go.Proofs.YtpfmnccocmgfmaaDoor
