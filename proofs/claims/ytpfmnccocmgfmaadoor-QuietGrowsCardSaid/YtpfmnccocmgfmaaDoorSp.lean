/- The node tables of regions that draw. -/
import Derived.Test.YtpfmnccocmgfmaaDoorFrD
namespace Go.Proofs.YtpfmnccocmgfmaaDoor
open Go.Pv Go.RowKit
def sp58_7 : List (Nat × List Nat × Bool) := [(0, [], false), (1, [], false), (2, [1], false), (3, [0, 2], false), (4, [], false), (5, [4], false), (6, [3, 5, 3], false), (7, [6, 6, 0, 1, 2, 3, 4, 5, 6], true)]
def sp27_13 : List (Nat × List Nat × Bool) := [(0, [], false), (1, [], true), (2, [], true), (3, [], true), (4, [], false), (5, [4], false), (6, [3, 5], false), (7, [], false), (8, [7], false), (9, [6, 8], false), (10, [0, 1, 2, 9], false), (11, [10], true), (12, [11], true), (13, [11], true), (14, [11], true), (15, [12, 10, 0, 1, 2, 3, 4, 5, 6, 7, 8, 9, 10, 11, 12], true), (16, [13, 15, 0, 1, 2, 3, 4, 5, 6, 7, 8, 9, 10, 11, 12, 13, 15], true), (17, [14, 16, 0, 1, 2, 3, 4, 5, 6, 7, 8, 9, 10, 11, 12, 13, 14, 15, 16], true)]
end Go.Proofs.YtpfmnccocmgfmaaDoor
