/- The node tables of regions that draw. -/
import Derived.Test.YtgadgajhahfabaaDoorFrD
namespace Go.Proofs.YtgadgajhahfabaaDoor
open Go.Pv Go.RowKit
def sp30_13 : List (Nat × List Nat × Bool) := [(0, [], true), (1, [], true), (2, [], false), (3, [2], false), (4, [], false), (5, [4], false), (6, [0, 0, 2, 3], false), (7, [6, 0, 2, 3], false), (8, [7, 3, 0, 2, 3], false), (9, [1, 0, 1, 2, 3, 4, 5, 6, 7, 8], false), (10, [9, 0, 1, 2, 3, 4, 5, 6, 7, 8], false), (11, [10, 5, 8, 0, 1, 2, 3, 4, 5, 6, 7, 8], false)]
end Go.Proofs.YtgadgajhahfabaaDoor
