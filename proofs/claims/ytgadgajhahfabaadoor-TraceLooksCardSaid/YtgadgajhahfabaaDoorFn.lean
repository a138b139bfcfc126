/- A shell of a contract for each function of the program YtgadgajhahfabaaDoor. -/
import Derived.Test.YtgadgajhahfabaaDoorTab
import Derived.Test.YtgadgajhahfabaaDoorFrD
import Derived.Shelf.Abstract
namespace Go.Proofs.YtgadgajhahfabaaDoor
open Go.Pv Go.RowKit

/-- Which of the thirteen errors (numbered as in the elder seat) variable g holds. -/
def lg : List Nat := [0, 1, 2, 3, 9, 10, 8, 4, 5, 6, 7, 11, 12]
/-- The program's thirteen errors: variable g holds a pointer to 'bs k', k its number of old; these blocks stay as they are. -/
def G0 (bs : Nat → Addr) : Gl := fun g => match lg[g]? with
  | some k => some [.iface 114 (.raw (.pointer (some (bs k))))]
  | none => match (List.range 13).any fun k => Nat.beq (bs k).block g with
    | true => some []
    | false => .none
theorem mixed : Tryd.prog.follows .mixedOrders = true := by kernel_rfl
/-- gosem.cut.init -/
def cx2 (bs : Nat → Addr) : Ctx := ⟨T, G0 bs, 1, []⟩
def kt2 : List (Nat × Nat) := []
theorem ok2 : okCode kt2 (Tryd.f2.body.getD .skip) = true := by kernel_rfl
/-- paternoster/paternosterlaw24.TraceLooks -/
def cx3 (bs : Nat → Addr) : Ctx := ⟨T, G0 bs, 162, [0, 1, 2, 6, 7, 8, 9, 10, 11, 12, 13, 14, 15, 16, 17, 20, 99]⟩
def kt3 : List (Nat × Nat) := []
theorem ok3 : okCode kt3 (Tryd.f3.body.getD .skip) = true := by kernel_rfl
/-- paternoster/paternosterlaw24.first -/
def cx4 (bs : Nat → Addr) : Ctx := ⟨T, G0 bs, 17, [0, 1, 2]⟩
def kt4 : List (Nat × Nat) := []
theorem ok4 : okCode kt4 (Tryd.f4.body.getD .skip) = true := by kernel_rfl
/-- paternoster/paternosterworld.Number -/
def cx5 (bs : Nat → Addr) : Ctx := ⟨T, G0 bs, 15, [0, 1, 4, 5, 10]⟩
def kt5 : List (Nat × Nat) := []
theorem ok5 : okCode kt5 (Tryd.f5.body.getD .skip) = true := by kernel_rfl
/-- paternoster/trace.Look -/
def cx6 (bs : Nat → Addr) : Ctx := ⟨T, G0 bs, 51, [0, 1, 2, 3, 6, 7, 8, 9, 10, 18, 28]⟩
def kt6 : List (Nat × Nat) := [(2, 3), (7, 12)]
theorem ok6 : okCode kt6 (Tryd.f6.body.getD .skip) = true := by kernel_rfl
/-- paternoster/paternosterref.SameEpoch -/
def cx7 (bs : Nat → Addr) : Ctx := ⟨T, G0 bs, 17, [0, 1, 2, 3, 4]⟩
def kt7 : List (Nat × Nat) := []
theorem ok7 : okCode kt7 (Tryd.f7.body.getD .skip) = true := by kernel_rfl
/-- paternoster/trace.Check -/
def cx8 (bs : Nat → Addr) : Ctx := ⟨T, G0 bs, 14, [0, 1, 2, 4, 6]⟩
def kt8 : List (Nat × Nat) := []
theorem ok8 : okCode kt8 (Tryd.f8.body.getD .skip) = true := by kernel_rfl
/-- paternoster/paternostersee.Same -/
def cx9 (bs : Nat → Addr) : Ctx := ⟨T, G0 bs, 9, [0, 1, 3, 4]⟩
def kt9 : List (Nat × Nat) := [(1, 3)]
theorem ok9 : okCode kt9 (Tryd.f9.body.getD .skip) = true := by kernel_rfl
/-- paternoster/paternosterref.Placed -/
def cx10 (bs : Nat → Addr) : Ctx := ⟨T, G0 bs, 11, [0, 1, 4, 6]⟩
def kt10 : List (Nat × Nat) := []
theorem ok10 : okCode kt10 (Tryd.f10.body.getD .skip) = true := by kernel_rfl
/-- paternoster/trace.all -/
def cx11 (bs : Nat → Addr) : Ctx := ⟨T, G0 bs, 31, [0, 1, 2, 4, 5, 6, 7, 8, 9, 12, 13, 14, 15, 23]⟩
def kt11 : List (Nat × Nat) := []
theorem ok11 : okCode kt11 (Tryd.f11.body.getD .skip) = true := by kernel_rfl
/-- slices.SortedFunc[paternoster/api.Latch] -/
def cx12 (bs : Nat → Addr) : Ctx := ⟨T, G0 bs, 12, [0, 1, 4, 5]⟩
def kt12 : List (Nat × Nat) := []
theorem ok12 : okCode kt12 (Tryd.f12.body.getD .skip) = true := by kernel_rfl
/-- maps.Keys[map[paternoster/api.Latch]int,paternoster/api.Latch,int] -/
def cx13 (bs : Nat → Addr) : Ctx := ⟨T, G0 bs, 4, [0, 1, 2]⟩
def kt13 : List (Nat × Nat) := []
theorem ok13 : okCode kt13 (Tryd.f13.body.getD .skip) = true := by kernel_rfl
/-- paternoster/trace.compare -/
def cx14 (bs : Nat → Addr) : Ctx := ⟨T, G0 bs, 26, [0, 1, 2, 3, 4]⟩
def kt14 : List (Nat × Nat) := [(1, 18)]
theorem ok14 : okCode kt14 (Tryd.f14.body.getD .skip) = true := by kernel_rfl
/-- paternoster/paternosterref.SameFault -/
def cx15 (bs : Nat → Addr) : Ctx := ⟨T, G0 bs, 24, [0, 1, 2, 3, 4]⟩
def kt15 : List (Nat × Nat) := []
theorem ok15 : okCode kt15 (Tryd.f15.body.getD .skip) = true := by kernel_rfl
/-- paternoster/paternostersee.Fault -/
def cx16 (bs : Nat → Addr) : Ctx := ⟨T, G0 bs, 38, [0, 2, 3, 4, 6, 14, 26]⟩
def kt16 : List (Nat × Nat) := [(8, 9)]
theorem ok16 : okCode kt16 (Tryd.f16.body.getD .skip) = true := by kernel_rfl
/-- paternoster/paternosterref.NoFault -/
def cx17 (bs : Nat → Addr) : Ctx := ⟨T, G0 bs, 2, [0]⟩
def kt17 : List (Nat × Nat) := []
theorem ok17 : okCode kt17 (Tryd.f17.body.getD .skip) = true := by kernel_rfl
/-- paternoster/trace.start -/
def cx18 (bs : Nat → Addr) : Ctx := ⟨T, G0 bs, 33, [0, 1, 2, 3, 4, 19, 20, 21]⟩
def kt18 : List (Nat × Nat) := [(1, 10)]
theorem ok18 : okCode kt18 (Tryd.f18.body.getD .skip) = true := by kernel_rfl
/-- (*paternoster/trace.checker).event -/
def cx19 (bs : Nat → Addr) : Ctx := ⟨T, G0 bs, 110, [0, 1, 3, 4, 5, 6, 7, 17, 40, 41, 46, 58, 65, 78, 85, 91, 96, 102]⟩
def kt19 : List (Nat × Nat) := [(3, 11), (5, 6), (17, 5), (19, 5)]
theorem ok19 : okCode kt19 (Tryd.f19.body.getD .skip) = true := by kernel_rfl
/-- slices.Collect[paternoster/api.Latch] -/
def cx20 (bs : Nat → Addr) : Ctx := ⟨T, G0 bs, 5, [0, 2]⟩
def kt20 : List (Nat × Nat) := []
theorem ok20 : okCode kt20 (Tryd.f20.body.getD .skip) = true := by kernel_rfl
/-- slices.SortFunc[[]paternoster/api.Latch,paternoster/api.Latch] -/
def cx21 (bs : Nat → Addr) : Ctx := ⟨T, G0 bs, 14, [0, 1, 4]⟩
def kt21 : List (Nat × Nat) := []
theorem ok21 : okCode kt21 (Tryd.f21.body.getD .skip) = true := by kernel_rfl
/-- maps.Keys[map[paternoster/api.Latch]int,paternoster/api.Latch,int]$1 -/
def cx22 (bs : Nat → Addr) : Ctx := ⟨T, G0 bs, 14, [0, 1, 3, 5, 7, 13]⟩
def kt22 : List (Nat × Nat) := []
theorem ok22 : okCode kt22 (Tryd.f22.body.getD .skip) = true := by kernel_rfl
/-- cmp.Or[int] -/
def cx23 (bs : Nat → Addr) : Ctx := ⟨T, G0 bs, 18, [0, 2, 3, 5, 6, 7, 8, 9, 14]⟩
def kt23 : List (Nat × Nat) := []
theorem ok23 : okCode kt23 (Tryd.f23.body.getD .skip) = true := by kernel_rfl
/-- cmp.Compare[int] -/
def cx24 (bs : Nat → Addr) : Ctx := ⟨T, G0 bs, 20, [0, 1, 4, 5, 6, 11, 12, 13, 16, 19]⟩
def kt24 : List (Nat × Nat) := []
theorem ok24 : okCode kt24 (Tryd.f24.body.getD .skip) = true := by kernel_rfl
/-- paternoster/paternosterref.Bare -/
def cx25 (bs : Nat → Addr) : Ctx := ⟨T, G0 bs, 5, [0, 2]⟩
def kt25 : List (Nat × Nat) := []
theorem ok25 : okCode kt25 (Tryd.f25.body.getD .skip) = true := by kernel_rfl
/-- paternoster/paternostersee.sentinel -/
def cx26 (bs : Nat → Addr) : Ctx := ⟨T, G0 bs, 20, [0, 2, 3, 4, 9, 17]⟩
def kt26 : List (Nat × Nat) := []
theorem ok26 : okCode kt26 (Tryd.f26.body.getD .skip) = true := by kernel_rfl
/-- (*paternoster/trace.checker).ring -/
def cx27 (bs : Nat → Addr) : Ctx := ⟨T, G0 bs, 71, [0, 1, 2, 5, 6, 7, 34, 49]⟩
def kt27 : List (Nat × Nat) := [(1, 22), (3, 10), (6, 6)]
theorem ok27 : okCode kt27 (Tryd.f27.body.getD .skip) = true := by kernel_rfl
/-- (*paternoster/trace.checker).claim -/
def cx28 (bs : Nat → Addr) : Ctx := ⟨T, G0 bs, 64, [0, 1, 2, 5, 6, 7, 8, 20, 29]⟩
def kt28 : List (Nat × Nat) := [(2, 5), (3, 6), (5, 16), (7, 8), (8, 6)]
theorem ok28 : okCode kt28 (Tryd.f28.body.getD .skip) = true := by kernel_rfl
/-- paternoster/trace.clears -/
def cx29 (bs : Nat → Addr) : Ctx := ⟨T, G0 bs, 59, [0, 1, 3, 4, 5, 12, 32, 43]⟩
def kt29 : List (Nat × Nat) := [(3, 16), (5, 8), (7, 6), (9, 6)]
theorem ok29 : okCode kt29 (Tryd.f29.body.getD .skip) = true := by kernel_rfl
/-- (*paternoster/trace.checker).moves -/
def cx30 (bs : Nat → Addr) : Ctx := ⟨T, G0 bs, 104, [0, 1, 2, 5, 6, 7, 21, 31, 51, 93]⟩
def kt30 : List (Nat × Nat) := [(1, 11), (2, 7), (4, 10), (13, 9)]
theorem ok30 : okCode kt30 (Tryd.f30.body.getD .skip) = true := by kernel_rfl
/-- slices.AppendSeq[[]paternoster/api.Latch,paternoster/api.Latch] -/
def cx31 (bs : Nat → Addr) : Ctx := ⟨T, G0 bs, 13, [0, 1, 2, 4, 5, 6]⟩
def kt31 : List (Nat × Nat) := []
theorem ok31 : okCode kt31 (Tryd.f31.body.getD .skip) = true := by kernel_rfl
/-- slices.pdqsortCmpFunc[paternoster/api.Latch] -/
def cx32 (bs : Nat → Addr) : Ctx := ⟨T, G0 bs, 148, [0, 1, 2, 3, 4, 10, 11, 12, 13, 14, 15, 16, 17, 18, 19, 20, 25, 32, 39, 56, 75, 80, 97, 125]⟩
def kt32 : List (Nat × Nat) := [(17, 13)]
theorem ok32 : okCode kt32 (Tryd.f32.body.getD .skip) = true := by kernel_rfl
/-- math/bits.Len -/
def cx33 (bs : Nat → Addr) : Ctx := ⟨T, G0 bs, 8, [0, 2]⟩
def kt33 : List (Nat × Nat) := []
theorem ok33 : okCode kt33 (Tryd.f33.body.getD .skip) = true := by kernel_rfl
/-- cmp.isNaN[int] -/
def cx34 (bs : Nat → Addr) : Ctx := ⟨T, G0 bs, 6, [0, 2]⟩
def kt34 : List (Nat × Nat) := []
theorem ok34 : okCode kt34 (Tryd.f34.body.getD .skip) = true := by kernel_rfl
/-- paternoster/paternostersee.sentinels -/
def cx35 (bs : Nat → Addr) : Ctx := ⟨T, G0 bs, 15, [0]⟩
def kt35 : List (Nat × Nat) := []
theorem ok35 : okCode kt35 (Tryd.f35.body.getD .skip) = true := by kernel_rfl
/-- paternoster/paternostersee.Alike -/
def cx36 (bs : Nat → Addr) : Ctx := ⟨T, G0 bs, 20, [0, 1, 4, 10]⟩
def kt36 : List (Nat × Nat) := []
theorem ok36 : okCode kt36 (Tryd.f36.body.getD .skip) = true := by kernel_rfl
/-- paternoster/epoch.Less -/
def cx37 (bs : Nat → Addr) : Ctx := ⟨T, G0 bs, 24, [0, 1, 2, 3, 4]⟩
def kt37 : List (Nat × Nat) := []
theorem ok37 : okCode kt37 (Tryd.f37.body.getD .skip) = true := by kernel_rfl
/-- slices.insertionSortCmpFunc[paternoster/api.Latch] -/
def cx38 (bs : Nat → Addr) : Ctx := ⟨T, G0 bs, 53, [0, 1, 2, 3, 8, 9, 14, 34]⟩
def kt38 : List (Nat × Nat) := [(4, 14), (6, 14)]
theorem ok38 : okCode kt38 (Tryd.f38.body.getD .skip) = true := by kernel_rfl
/-- slices.heapSortCmpFunc[paternoster/api.Latch] -/
def cx39 (bs : Nat → Addr) : Ctx := ⟨T, G0 bs, 60, [0, 1, 2, 3, 8, 9, 10, 11, 12, 21, 33]⟩
def kt39 : List (Nat × Nat) := [(10, 16)]
theorem ok39 : okCode kt39 (Tryd.f39.body.getD .skip) = true := by kernel_rfl
/-- slices.breakPatternsCmpFunc[paternoster/api.Latch] -/
def cx40 (bs : Nat → Addr) : Ctx := ⟨T, G0 bs, 67, [0, 1, 2, 8, 9, 10, 11, 12, 17, 35, 45]⟩
def kt40 : List (Nat × Nat) := [(10, 16)]
theorem ok40 : okCode kt40 (Tryd.f40.body.getD .skip) = true := by kernel_rfl
/-- slices.choosePivotCmpFunc[paternoster/api.Latch] -/
def cx41 (bs : Nat → Addr) : Ctx := ⟨T, G0 bs, 63, [0, 1, 2, 3, 8, 9, 10, 11, 12, 13, 14, 34, 36, 55, 57, 60]⟩
def kt41 : List (Nat × Nat) := []
theorem ok41 : okCode kt41 (Tryd.f41.body.getD .skip) = true := by kernel_rfl
/-- slices.reverseRangeCmpFunc[paternoster/api.Latch] -/
def cx42 (bs : Nat → Addr) : Ctx := ⟨T, G0 bs, 34, [0, 1, 2, 8, 9, 15]⟩
def kt42 : List (Nat × Nat) := [(3, 12)]
theorem ok42 : okCode kt42 (Tryd.f42.body.getD .skip) = true := by kernel_rfl
/-- slices.partialInsertionSortCmpFunc[paternoster/api.Latch] -/
def cx43 (bs : Nat → Addr) : Ctx := ⟨T, G0 bs, 141, [0, 1, 2, 3, 8, 9, 10, 11, 12, 16, 36, 41, 45, 65, 69, 84, 104, 109, 124]⟩
def kt43 : List (Nat × Nat) := [(5, 14), (11, 14), (16, 10), (17, 14), (22, 10), (23, 14)]
theorem ok43 : okCode kt43 (Tryd.f43.body.getD .skip) = true := by kernel_rfl
/-- slices.partitionEqualCmpFunc[paternoster/api.Latch] -/
def cx44 (bs : Nat → Addr) : Ctx := ⟨T, G0 bs, 90, [0, 1, 2, 3, 4, 10, 11, 12, 47, 65, 70]⟩
def kt44 : List (Nat × Nat) := [(1, 12), (3, 13), (5, 13), (8, 12)]
theorem ok44 : okCode kt44 (Tryd.f44.body.getD .skip) = true := by kernel_rfl
/-- slices.partitionCmpFunc[paternoster/api.Latch] -/
def cx45 (bs : Nat → Addr) : Ctx := ⟨T, G0 bs, 178, [0, 1, 2, 3, 4, 10, 11, 12, 13, 47, 66, 71, 120, 139, 144]⟩
def kt45 : List (Nat × Nat) := [(1, 12), (3, 13), (5, 13), (8, 12), (10, 12), (13, 13), (15, 13), (18, 12), (21, 12)]
theorem ok45 : okCode kt45 (Tryd.f45.body.getD .skip) = true := by kernel_rfl
/-- math/bits.Len32 -/
def cx46 (bs : Nat → Addr) : Ctx := ⟨T, G0 bs, 19, [0, 2, 4, 8]⟩
def kt46 : List (Nat × Nat) := []
theorem ok46 : okCode kt46 (Tryd.f46.body.getD .skip) = true := by kernel_rfl
/-- math/bits.Len64 -/
def cx47 (bs : Nat → Addr) : Ctx := ⟨T, G0 bs, 25, [0, 2, 4, 8, 14]⟩
def kt47 : List (Nat × Nat) := []
theorem ok47 : okCode kt47 (Tryd.f47.body.getD .skip) = true := by kernel_rfl
/-- slices.siftDownCmpFunc[paternoster/api.Latch] -/
def cx48 (bs : Nat → Addr) : Ctx := ⟨T, G0 bs, 82, [0, 1, 2, 3, 4, 10, 11, 18, 40, 58]⟩
def kt48 : List (Nat × Nat) := [(3, 19), (5, 13), (6, 20)]
theorem ok48 : okCode kt48 (Tryd.f48.body.getD .skip) = true := by kernel_rfl
/-- slices.nextPowerOfTwo -/
def cx49 (bs : Nat → Addr) : Ctx := ⟨T, G0 bs, 7, [0, 2]⟩
def kt49 : List (Nat × Nat) := []
theorem ok49 : okCode kt49 (Tryd.f49.body.getD .skip) = true := by kernel_rfl
/-- (*slices.xorshift).Next -/
def cx50 (bs : Nat → Addr) : Ctx := ⟨T, G0 bs, 33, [0, 2]⟩
def kt50 : List (Nat × Nat) := [(1, 7), (2, 7), (3, 7)]
theorem ok50 : okCode kt50 (Tryd.f50.body.getD .skip) = true := by kernel_rfl
/-- slices.medianAdjacentCmpFunc[paternoster/api.Latch] -/
def cx51 (bs : Nat → Addr) : Ctx := ⟨T, G0 bs, 18, [0, 1, 2, 3, 8]⟩
def kt51 : List (Nat × Nat) := []
theorem ok51 : okCode kt51 (Tryd.f51.body.getD .skip) = true := by kernel_rfl
/-- slices.medianCmpFunc[paternoster/api.Latch] -/
def cx52 (bs : Nat → Addr) : Ctx := ⟨T, G0 bs, 41, [0, 1, 2, 3, 4, 5, 12]⟩
def kt52 : List (Nat × Nat) := []
theorem ok52 : okCode kt52 (Tryd.f52.body.getD .skip) = true := by kernel_rfl
/-- slices.order2CmpFunc[paternoster/api.Latch] -/
def cx53 (bs : Nat → Addr) : Ctx := ⟨T, G0 bs, 32, [0, 1, 2, 3, 4, 10, 11, 22]⟩
def kt53 : List (Nat × Nat) := [(1, 9)]
theorem ok53 : okCode kt53 (Tryd.f53.body.getD .skip) = true := by kernel_rfl
/-- errors.New -/
def cx72 (bs : Nat → Addr) : Ctx := ⟨T, G0 bs, 7, [0, 2]⟩
def kt72 : List (Nat × Nat) := []
theorem ok72 : okCode kt72 (Tryd.f72.body.getD .skip) = true := by kernel_rfl
/-- gosem.cut.vars -/
def cx88 (bs : Nat → Addr) : Ctx := ⟨T, G0 bs, 13, []⟩
def kt88 : List (Nat × Nat) := []
theorem ok88 : okCode kt88 (Tryd.f88.body.getD .skip) = true := by kernel_rfl
end Go.Proofs.YtgadgajhahfabaaDoor

