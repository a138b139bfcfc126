/- A shell of a contract for each function of the program YtpfmnccocmgfmaaDoor. -/
import Derived.Test.YtpfmnccocmgfmaaDoorTab
import Derived.Test.YtpfmnccocmgfmaaDoorFrD
import Derived.Shelf.Abstract
namespace Go.Proofs.YtpfmnccocmgfmaaDoor
open Go.Pv Go.RowKit

/-- Nothing is asked of the program's variables. -/
def GN : Gl := fun _ => .none
theorem mixed : Tryd.prog.follows .mixedOrders = true := by kernel_rfl
/-- gosem.cut.init -/
def cx2 : Ctx := ⟨T, GN, 1, []⟩
def kt2 : List (Nat × Nat) := []
theorem ok2 : okCode kt2 (Tryd.f2.body.getD .skip) = true := by kernel_rfl
/-- paternoster/paternosterlaw24.TraceKinds -/
def cx3 : Ctx := ⟨T, GN, 78, [0, 1, 2, 6, 7, 8, 9, 10, 11, 14, 20, 43, 51, 52, 56, 61, 66]⟩
def kt3 : List (Nat × Nat) := [(26, 6)]
theorem ok3 : okCode kt3 (Tryd.f3.body.getD .skip) = true := by kernel_rfl
/-- paternoster/paternosterlaw24.TraceGoes -/
def cx4 : Ctx := ⟨T, GN, 71, [0, 2, 3, 4, 5, 6, 7, 8, 9, 12, 15, 26, 41, 45, 69]⟩
def kt4 : List (Nat × Nat) := [(17, 4)]
theorem ok4 : okCode kt4 (Tryd.f4.body.getD .skip) = true := by kernel_rfl
/-- paternoster/paternosterlaw24.TraceTwice -/
def cx5 : Ctx := ⟨T, GN, 108, [0, 1, 4, 5, 6, 7, 8, 9, 10, 11, 12, 13, 14, 17, 26, 52, 54, 57, 62, 67, 71, 74]⟩
def kt5 : List (Nat × Nat) := [(33, 7), (34, 9)]
theorem ok5 : okCode kt5 (Tryd.f5.body.getD .skip) = true := by kernel_rfl
/-- paternoster/paternosterlaw24.TraceBoots -/
def cx6 : Ctx := ⟨T, GN, 96, [0, 1, 2, 6, 7, 8, 9, 10, 11, 12, 13, 14, 17]⟩
def kt6 : List (Nat × Nat) := [(11, 6)]
theorem ok6 : okCode kt6 (Tryd.f6.body.getD .skip) = true := by kernel_rfl
/-- paternoster/paternosterlaw25.QuietSays -/
def cx7 : Ctx := ⟨T, GN, 36, [0, 1, 2, 3, 6, 9]⟩
def kt7 : List (Nat × Nat) := [(6, 21)]
theorem ok7 : okCode kt7 (Tryd.f7.body.getD .skip) = true := by kernel_rfl
/-- paternoster/paternosterlaw25.QuietGrows -/
def cx8 : Ctx := ⟨T, GN, 110, [0, 1, 2, 3, 4, 5, 8, 9, 10, 11, 12, 13, 14, 15, 16, 17, 18, 19, 20, 21, 22, 23, 24, 25, 26, 27, 28, 29, 30, 31, 32, 33, 34, 35, 36, 37, 38, 39, 40, 41, 42, 43, 44, 45, 46, 47, 48, 49, 50, 51, 52, 53, 54, 55, 56, 57, 58, 59, 60, 61, 62, 63, 64, 65, 66, 67, 68, 69, 70, 71, 72, 73, 74]⟩
def kt8 : List (Nat × Nat) := [(6, 21)]
theorem ok8 : okCode kt8 (Tryd.f8.body.getD .skip) = true := by kernel_rfl
/-- paternoster/paternosterlaw24.first -/
def cx9 : Ctx := ⟨T, GN, 17, [0, 1, 2]⟩
def kt9 : List (Nat × Nat) := []
theorem ok9 : okCode kt9 (Tryd.f9.body.getD .skip) = true := by kernel_rfl
/-- paternoster/paternosterworld.Number -/
def cx10 : Ctx := ⟨T, GN, 15, [0, 1, 4, 5, 10]⟩
def kt10 : List (Nat × Nat) := []
theorem ok10 : okCode kt10 (Tryd.f10.body.getD .skip) = true := by kernel_rfl
/-- paternoster/paternosterref.Placed -/
def cx11 : Ctx := ⟨T, GN, 11, [0, 1, 4, 6]⟩
def kt11 : List (Nat × Nat) := []
theorem ok11 : okCode kt11 (Tryd.f11.body.getD .skip) = true := by kernel_rfl
/-- paternoster/paternostersee.Same -/
def cx12 : Ctx := ⟨T, GN, 9, [0, 1, 3, 4]⟩
def kt12 : List (Nat × Nat) := [(1, 3)]
theorem ok12 : okCode kt12 (Tryd.f12.body.getD .skip) = true := by kernel_rfl
/-- paternoster/trace.Check -/
def cx13 : Ctx := ⟨T, GN, 14, [0, 1, 2, 4, 6]⟩
def kt13 : List (Nat × Nat) := []
theorem ok13 : okCode kt13 (Tryd.f13.body.getD .skip) = true := by kernel_rfl
/-- paternoster/paternostersee.Fault -/
def cx14 : Ctx := ⟨T, GN, 38, [0, 2, 3, 4, 6, 14, 26]⟩
def kt14 : List (Nat × Nat) := [(8, 9)]
theorem ok14 : okCode kt14 (Tryd.f14.body.getD .skip) = true := by kernel_rfl
/-- paternoster/paternosterlaw25.first -/
def cx15 : Ctx := ⟨T, GN, 24, [0, 1, 2]⟩
def kt15 : List (Nat × Nat) := []
theorem ok15 : okCode kt15 (Tryd.f15.body.getD .skip) = true := by kernel_rfl
/-- paternoster/paternosterref12.Valid -/
def cx16 : Ctx := ⟨T, GN, 41, [0, 1, 2]⟩
def kt16 : List (Nat × Nat) := []
theorem ok16 : okCode kt16 (Tryd.f16.body.getD .skip) = true := by kernel_rfl
/-- paternoster/quiet.Settle -/
def cx17 : Ctx := ⟨T, GN, 16, [0, 1, 2]⟩
def kt17 : List (Nat × Nat) := [(1, 11)]
theorem ok17 : okCode kt17 (Tryd.f17.body.getD .skip) = true := by kernel_rfl
/-- paternoster/paternosterref22.Settle -/
def cx18 : Ctx := ⟨T, GN, 16, [0, 1, 2]⟩
def kt18 : List (Nat × Nat) := [(1, 11)]
theorem ok18 : okCode kt18 (Tryd.f18.body.getD .skip) = true := by kernel_rfl
/-- paternoster/quiet.Serve -/
def cx19 : Ctx := ⟨T, GN, 18, [0, 1, 2]⟩
def kt19 : List (Nat × Nat) := []
theorem ok19 : okCode kt19 (Tryd.f19.body.getD .skip) = true := by kernel_rfl
/-- paternoster/paternosterref22.Serve -/
def cx20 : Ctx := ⟨T, GN, 18, [0, 1, 2]⟩
def kt20 : List (Nat × Nat) := []
theorem ok20 : okCode kt20 (Tryd.f20.body.getD .skip) = true := by kernel_rfl
/-- paternoster/quiet.Bound -/
def cx21 : Ctx := ⟨T, GN, 8, [0, 1, 2]⟩
def kt21 : List (Nat × Nat) := [(1, 3)]
theorem ok21 : okCode kt21 (Tryd.f21.body.getD .skip) = true := by kernel_rfl
/-- paternoster/paternosterref.NoFault -/
def cx22 : Ctx := ⟨T, GN, 2, [0]⟩
def kt22 : List (Nat × Nat) := []
theorem ok22 : okCode kt22 (Tryd.f22.body.getD .skip) = true := by kernel_rfl
/-- paternoster/paternosterref.SameFault -/
def cx23 : Ctx := ⟨T, GN, 24, [0, 1, 2, 3, 4]⟩
def kt23 : List (Nat × Nat) := []
theorem ok23 : okCode kt23 (Tryd.f23.body.getD .skip) = true := by kernel_rfl
/-- paternoster/trace.all -/
def cx24 : Ctx := ⟨T, GN, 31, [0, 1, 2, 4, 5, 6, 7, 8, 9, 12, 13, 14, 15, 23]⟩
def kt24 : List (Nat × Nat) := []
theorem ok24 : okCode kt24 (Tryd.f24.body.getD .skip) = true := by kernel_rfl
/-- paternoster/paternosterref.Bare -/
def cx25 : Ctx := ⟨T, GN, 5, [0, 2]⟩
def kt25 : List (Nat × Nat) := []
theorem ok25 : okCode kt25 (Tryd.f25.body.getD .skip) = true := by kernel_rfl
/-- paternoster/paternostersee.sentinel -/
def cx26 : Ctx := ⟨T, GN, 20, [0, 2, 3, 4, 9, 17]⟩
def kt26 : List (Nat × Nat) := []
theorem ok26 : okCode kt26 (Tryd.f26.body.getD .skip) = true := by kernel_rfl
/-- paternoster/world.New -/
def cx27 : Ctx := ⟨T, GN, 91, [0, 1, 2, 3, 4, 5, 6, 7, 8, 9, 10, 11, 14, 23, 37, 38, 39, 46, 64]⟩
def kt27 : List (Nat × Nat) := [(2, 2), (6, 11), (13, 15)]
theorem ok27 : okCode kt27 (Tryd.f27.body.getD .skip) = true := by kernel_rfl
/-- paternoster/quiet.Settled -/
def cx28 : Ctx := ⟨T, GN, 59, [0, 2, 3, 4, 5, 6, 7, 9, 12, 13, 14, 15, 26, 54]⟩
def kt28 : List (Nat × Nat) := [(10, 19)]
theorem ok28 : okCode kt28 (Tryd.f28.body.getD .skip) = true := by kernel_rfl
/-- paternoster/found.Patience -/
def cx29 : Ctx := ⟨T, GN, 6, [0, 2]⟩
def kt29 : List (Nat × Nat) := []
theorem ok29 : okCode kt29 (Tryd.f29.body.getD .skip) = true := by kernel_rfl
/-- paternoster/paternosterref18.Patience -/
def cx30 : Ctx := ⟨T, GN, 6, [0, 2]⟩
def kt30 : List (Nat × Nat) := []
theorem ok30 : okCode kt30 (Tryd.f30.body.getD .skip) = true := by kernel_rfl
/-- paternoster/trace.start -/
def cx31 : Ctx := ⟨T, GN, 33, [0, 1, 2, 3, 4, 19, 20, 21]⟩
def kt31 : List (Nat × Nat) := [(1, 10)]
theorem ok31 : okCode kt31 (Tryd.f31.body.getD .skip) = true := by kernel_rfl
/-- (*paternoster/trace.checker).event -/
def cx32 : Ctx := ⟨T, GN, 110, [0, 1, 3, 4, 5, 6, 7, 17, 40, 41, 46, 58, 65, 78, 85, 91, 96, 102]⟩
def kt32 : List (Nat × Nat) := [(3, 11), (5, 6), (17, 5), (19, 5)]
theorem ok32 : okCode kt32 (Tryd.f32.body.getD .skip) = true := by kernel_rfl
/-- paternoster/paternostersee.sentinels -/
def cx33 : Ctx := ⟨T, GN, 15, [0]⟩
def kt33 : List (Nat × Nat) := []
theorem ok33 : okCode kt33 (Tryd.f33.body.getD .skip) = true := by kernel_rfl
/-- paternoster/paternostersee.Alike -/
def cx34 : Ctx := ⟨T, GN, 20, [0, 1, 4, 10]⟩
def kt34 : List (Nat × Nat) := []
theorem ok34 : okCode kt34 (Tryd.f34.body.getD .skip) = true := by kernel_rfl
/-- paternoster/plant.Valid -/
def cx35 : Ctx := ⟨T, GN, 21, [0, 1, 2]⟩
def kt35 : List (Nat × Nat) := []
theorem ok35 : okCode kt35 (Tryd.f35.body.getD .skip) = true := by kernel_rfl
/-- paternoster/riser.New -/
def cx36 : Ctx := ⟨T, GN, 16, [0, 2, 3, 9]⟩
def kt36 : List (Nat × Nat) := [(2, 2)]
theorem ok36 : okCode kt36 (Tryd.f36.body.getD .skip) = true := by kernel_rfl
/-- paternoster/cell.New -/
def cx37 : Ctx := ⟨T, GN, 15, [0, 2, 3, 9]⟩
def kt37 : List (Nat × Nat) := [(2, 2)]
theorem ok37 : okCode kt37 (Tryd.f37.body.getD .skip) = true := by kernel_rfl
/-- paternoster/node.New -/
def cx38 : Ctx := ⟨T, GN, 76, [0, 1, 2, 3, 4, 8, 9, 10, 11, 12, 13, 14, 15, 16, 17, 35, 43, 55]⟩
def kt38 : List (Nat × Nat) := [(3, 3), (12, 15)]
theorem ok38 : okCode kt38 (Tryd.f38.body.getD .skip) = true := by kernel_rfl
/-- (*paternoster/world.World).note -/
def cx39 : Ctx := ⟨T, GN, 39, [0, 1, 4, 6, 7, 8, 9, 10, 25]⟩
def kt39 : List (Nat × Nat) := [(4, 6), (6, 7)]
theorem ok39 : okCode kt39 (Tryd.f39.body.getD .skip) = true := by kernel_rfl
/-- (*paternoster/world.World).Up -/
def cx40 : Ctx := ⟨T, GN, 6, [0, 1, 2]⟩
def kt40 : List (Nat × Nat) := []
theorem ok40 : okCode kt40 (Tryd.f40.body.getD .skip) = true := by kernel_rfl
/-- (*paternoster/world.World).Node -/
def cx41 : Ctx := ⟨T, GN, 17, [0, 1, 4, 5, 9]⟩
def kt41 : List (Nat × Nat) := []
theorem ok41 : okCode kt41 (Tryd.f41.body.getD .skip) = true := by kernel_rfl
/-- (*paternoster/node.Node).Epoch -/
def cx42 : Ctx := ⟨T, GN, 13, [0, 2, 6]⟩
def kt42 : List (Nat × Nat) := []
theorem ok42 : okCode kt42 (Tryd.f42.body.getD .skip) = true := by kernel_rfl
/-- slices.DeleteFunc[[]int,int] -/
def cx43 : Ctx := ⟨T, GN, 42, [0, 1, 4, 5, 6, 7, 12, 19, 29]⟩
def kt43 : List (Nat × Nat) := []
theorem ok43 : okCode kt43 (Tryd.f43.body.getD .skip) = true := by kernel_rfl
/-- slices.Clone[[]int,int] -/
def cx44 : Ctx := ⟨T, GN, 8, [0, 2, 4]⟩
def kt44 : List (Nat × Nat) := []
theorem ok44 : okCode kt44 (Tryd.f44.body.getD .skip) = true := by kernel_rfl
/-- paternoster/quiet.Settled$1 -/
def cx45 : Ctx := ⟨T, GN, 7, [0, 1, 3]⟩
def kt45 : List (Nat × Nat) := []
theorem ok45 : okCode kt45 (Tryd.f45.body.getD .skip) = true := by kernel_rfl
/-- paternoster/epoch.None -/
def cx46 : Ctx := ⟨T, GN, 6, [0, 1, 2]⟩
def kt46 : List (Nat × Nat) := []
theorem ok46 : okCode kt46 (Tryd.f46.body.getD .skip) = true := by kernel_rfl
/-- paternoster/order.Same -/
def cx47 : Ctx := ⟨T, GN, 8, [0, 1, 4]⟩
def kt47 : List (Nat × Nat) := []
theorem ok47 : okCode kt47 (Tryd.f47.body.getD .skip) = true := by kernel_rfl
/-- (*paternoster/node.Node).Members -/
def cx48 : Ctx := ⟨T, GN, 12, [0, 2, 6]⟩
def kt48 : List (Nat × Nat) := []
theorem ok48 : okCode kt48 (Tryd.f48.body.getD .skip) = true := by kernel_rfl
/-- (*paternoster/node.Node).Alive -/
def cx49 : Ctx := ⟨T, GN, 12, [0, 2, 6]⟩
def kt49 : List (Nat × Nat) := []
theorem ok49 : okCode kt49 (Tryd.f49.body.getD .skip) = true := by kernel_rfl
/-- (*paternoster/trace.checker).ring -/
def cx50 : Ctx := ⟨T, GN, 71, [0, 1, 2, 5, 6, 7, 34, 49]⟩
def kt50 : List (Nat × Nat) := [(1, 22), (3, 10), (6, 6)]
theorem ok50 : okCode kt50 (Tryd.f50.body.getD .skip) = true := by kernel_rfl
/-- (*paternoster/trace.checker).claim -/
def cx51 : Ctx := ⟨T, GN, 64, [0, 1, 2, 5, 6, 7, 8, 20, 29]⟩
def kt51 : List (Nat × Nat) := [(2, 5), (3, 6), (5, 16), (7, 8), (8, 6)]
theorem ok51 : okCode kt51 (Tryd.f51.body.getD .skip) = true := by kernel_rfl
/-- paternoster/trace.clears -/
def cx52 : Ctx := ⟨T, GN, 59, [0, 1, 3, 4, 5, 12, 32, 43]⟩
def kt52 : List (Nat × Nat) := [(3, 16), (5, 8), (7, 6), (9, 6)]
theorem ok52 : okCode kt52 (Tryd.f52.body.getD .skip) = true := by kernel_rfl
/-- (*paternoster/trace.checker).moves -/
def cx53 : Ctx := ⟨T, GN, 104, [0, 1, 2, 5, 6, 7, 21, 31, 51, 93]⟩
def kt53 : List (Nat × Nat) := [(1, 11), (2, 7), (4, 10), (13, 9)]
theorem ok53 : okCode kt53 (Tryd.f53.body.getD .skip) = true := by kernel_rfl
/-- paternoster/plant.between -/
def cx54 : Ctx := ⟨T, GN, 15, [0, 1, 2, 6]⟩
def kt54 : List (Nat × Nat) := []
theorem ok54 : okCode kt54 (Tryd.f54.body.getD .skip) = true := by kernel_rfl
/-- paternoster/car.Start -/
def cx55 : Ctx := ⟨T, GN, 27, [0, 1, 2, 4, 5, 18]⟩
def kt55 : List (Nat × Nat) := []
theorem ok55 : okCode kt55 (Tryd.f55.body.getD .skip) = true := by kernel_rfl
/-- paternoster/store.Open -/
def cx56 : Ctx := ⟨T, GN, 66, [0, 2, 3, 4, 5, 6, 7, 8, 11, 16, 17, 27, 55]⟩
def kt56 : List (Nat × Nat) := [(2, 2), (10, 24)]
theorem ok56 : okCode kt56 (Tryd.f56.body.getD .skip) = true := by kernel_rfl
/-- (*paternoster/store.Store).Record -/
def cx57 : Ctx := ⟨T, GN, 7, [0, 2]⟩
def kt57 : List (Nat × Nat) := []
theorem ok57 : okCode kt57 (Tryd.f57.body.getD .skip) = true := by kernel_rfl
/-- (*paternoster/store.Store).Save -/
def cx58 : Ctx := ⟨T, GN, 74, [0, 1, 3, 4, 5, 6, 7, 8, 9, 10, 11, 16, 27, 35, 36, 37, 38, 53, 64]⟩
def kt58 : List (Nat × Nat) := [(7, 6)]
theorem ok58 : okCode kt58 (Tryd.f58.body.getD .skip) = true := by kernel_rfl
/-- paternoster/gate.New -/
def cx59 : Ctx := ⟨T, GN, 7, [0, 2]⟩
def kt59 : List (Nat × Nat) := []
theorem ok59 : okCode kt59 (Tryd.f59.body.getD .skip) = true := by kernel_rfl
/-- (*paternoster/meter.Meter).Add -/
def cx60 : Ctx := ⟨T, GN, 14, [0, 1, 4, 7]⟩
def kt60 : List (Nat × Nat) := []
theorem ok60 : okCode kt60 (Tryd.f60.body.getD .skip) = true := by kernel_rfl
/-- (*paternoster/world.World).some -/
def cx61 : Ctx := ⟨T, GN, 24, [0, 1, 4, 5, 6, 11, 12, 13, 17]⟩
def kt61 : List (Nat × Nat) := []
theorem ok61 : okCode kt61 (Tryd.f61.body.getD .skip) = true := by kernel_rfl
/-- (*paternoster/world.World).Up$1 -/
def cx62 : Ctx := ⟨T, GN, 13, [0, 1, 3]⟩
def kt62 : List (Nat × Nat) := []
theorem ok62 : okCode kt62 (Tryd.f62.body.getD .skip) = true := by kernel_rfl
/-- (*paternoster/node.Node).Down -/
def cx63 : Ctx := ⟨T, GN, 7, [0, 2]⟩
def kt63 : List (Nat × Nat) := []
theorem ok63 : okCode kt63 (Tryd.f63.body.getD .skip) = true := by kernel_rfl
/-- (*paternoster/world.World).car -/
def cx64 : Ctx := ⟨T, GN, 16, [0, 1, 4]⟩
def kt64 : List (Nat × Nat) := []
theorem ok64 : okCode kt64 (Tryd.f64.body.getD .skip) = true := by kernel_rfl
/-- (*paternoster/gate.Gate).Epoch -/
def cx65 : Ctx := ⟨T, GN, 7, [0, 2]⟩
def kt65 : List (Nat × Nat) := []
theorem ok65 : okCode kt65 (Tryd.f65.body.getD .skip) = true := by kernel_rfl
/-- slices.IndexFunc[[]int,int] -/
def cx66 : Ctx := ⟨T, GN, 19, [0, 1, 4, 5, 7, 8, 9, 16]⟩
def kt66 : List (Nat × Nat) := []
theorem ok66 : okCode kt66 (Tryd.f66.body.getD .skip) = true := by kernel_rfl
/-- slices.Equal[[]int,int] -/
def cx67 : Ctx := ⟨T, GN, 26, [0, 1, 4, 5, 10, 12, 13, 14, 24]⟩
def kt67 : List (Nat × Nat) := [(6, 8)]
theorem ok67 : okCode kt67 (Tryd.f67.body.getD .skip) = true := by kernel_rfl
/-- (*paternoster/live.Table).Alive -/
def cx68 : Ctx := ⟨T, GN, 27, [0, 2, 3, 4, 5, 9, 10, 11, 20]⟩
def kt68 : List (Nat × Nat) := []
theorem ok68 : okCode kt68 (Tryd.f68.body.getD .skip) = true := by kernel_rfl
/-- paternoster/epoch.Less -/
def cx69 : Ctx := ⟨T, GN, 24, [0, 1, 2, 3, 4]⟩
def kt69 : List (Nat × Nat) := []
theorem ok69 : okCode kt69 (Tryd.f69.body.getD .skip) = true := by kernel_rfl
/-- paternoster/plant.Top -/
def cx70 : Ctx := ⟨T, GN, 12, [0, 1, 2, 5]⟩
def kt70 : List (Nat × Nat) := []
theorem ok70 : okCode kt70 (Tryd.f70.body.getD .skip) = true := by kernel_rfl
/-- paternoster/plant.Level -/
def cx71 : Ctx := ⟨T, GN, 20, [0, 1, 2, 4]⟩
def kt71 : List (Nat × Nat) := []
theorem ok71 : okCode kt71 (Tryd.f71.body.getD .skip) = true := by kernel_rfl
/-- (*paternoster/cell.Cell).Size -/
def cx72 : Ctx := ⟨T, GN, 8, [0, 2]⟩
def kt72 : List (Nat × Nat) := []
theorem ok72 : okCode kt72 (Tryd.f72.body.getD .skip) = true := by kernel_rfl
/-- paternoster/store.read -/
def cx73 : Ctx := ⟨T, GN, 54, [0, 1, 4, 5, 6, 7, 8, 9, 10, 23, 35, 48]⟩
def kt73 : List (Nat × Nat) := []
theorem ok73 : okCode kt73 (Tryd.f73.body.getD .skip) = true := by kernel_rfl
/-- (*paternoster/store.Store).bad -/
def cx74 : Ctx := ⟨T, GN, 53, [0, 1, 3, 4, 5, 25]⟩
def kt74 : List (Nat × Nat) := [(3, 24)]
theorem ok74 : okCode kt74 (Tryd.f74.body.getD .skip) = true := by kernel_rfl
/-- paternoster/store.put -/
def cx75 : Ctx := ⟨T, GN, 20, [0, 1, 4, 5, 6, 7]⟩
def kt75 : List (Nat × Nat) := []
theorem ok75 : okCode kt75 (Tryd.f75.body.getD .skip) = true := by kernel_rfl
/-- (*paternoster/cell.Cell).Put -/
def cx76 : Ctx := ⟨T, GN, 31, [0, 1, 2, 6, 7, 11]⟩
def kt76 : List (Nat × Nat) := []
theorem ok76 : okCode kt76 (Tryd.f76.body.getD .skip) = true := by kernel_rfl
/-- paternoster/meter.kind -/
def cx77 : Ctx := ⟨T, GN, 9, [0, 2]⟩
def kt77 : List (Nat × Nat) := []
theorem ok77 : okCode kt77 (Tryd.f77.body.getD .skip) = true := by kernel_rfl
/-- (*sync/atomic.Int64).Add -/
def cx78 : Ctx := ⟨T, GN, 10, [0, 1, 4]⟩
def kt78 : List (Nat × Nat) := []
theorem ok78 : okCode kt78 (Tryd.f78.body.getD .skip) = true := by kernel_rfl
/-- (*paternoster/cell.Cell).Get -/
def cx79 : Ctx := ⟨T, GN, 25, [0, 1, 4, 5, 6, 12]⟩
def kt79 : List (Nat × Nat) := [(2, 2), (4, 2)]
theorem ok79 : okCode kt79 (Tryd.f79.body.getD .skip) = true := by kernel_rfl
/-- paternoster/store.number -/
def cx80 : Ctx := ⟨T, GN, 31, [0, 1, 4, 5, 6, 7, 8, 9, 10, 11, 22]⟩
def kt80 : List (Nat × Nat) := []
theorem ok80 : okCode kt80 (Tryd.f80.body.getD .skip) = true := by kernel_rfl
/-- (*paternoster/cell.Cell).gone -/
def cx81 : Ctx := ⟨T, GN, 34, [0, 2, 14]⟩
def kt81 : List (Nat × Nat) := []
theorem ok81 : okCode kt81 (Tryd.f81.body.getD .skip) = true := by kernel_rfl
/-- (*paternoster/cell.Cell).is -/
def cx82 : Ctx := ⟨T, GN, 16, [0, 1, 4]⟩
def kt82 : List (Nat × Nat) := []
theorem ok82 : okCode kt82 (Tryd.f82.body.getD .skip) = true := by kernel_rfl
/-- errors.New -/
def cx112 : Ctx := ⟨T, GN, 7, [0, 2]⟩
def kt112 : List (Nat × Nat) := []
theorem ok112 : okCode kt112 (Tryd.f112.body.getD .skip) = true := by kernel_rfl
/-- gosem.cut.vars -/
def cx128 : Ctx := ⟨T, GN, 13, []⟩
def kt128 : List (Nat × Nat) := []
theorem ok128 : okCode kt128 (Tryd.f128.body.getD .skip) = true := by kernel_rfl
end Go.Proofs.YtpfmnccocmgfmaaDoor
