/- The node tables of regions that draw. -/
import Derived.Test.YtkenimmellonjaaGreatFrD
namespace Go.Proofs.YtkenimmellonjaaGreat
open Go.Pv Go.RowKit
def sp37_6 : List (Nat × List Nat × Bool) := [(0, [], true), (1, [], true), (2, [0, 1], false), (3, [2], false), (4, [], false), (5, [4], false), (6, [3, 5, 3], false), (7, [6, 6, 0, 1, 2, 3, 4, 5, 6], true)]
def sp18_9 : List (Nat × List Nat × Bool) := [(0, [], true), (1, [], true), (2, [0, 1], false), (3, [2], false), (4, [], true), (5, [], true), (6, [4, 5], false), (7, [6], false), (8, [7], false), (9, [3, 8, 3], false), (10, [9, 9, 0, 1, 2, 3, 4, 5, 6, 7, 8, 9], true)]
end Go.Proofs.YtkenimmellonjaaGreat
