/- A shell of a contract for each function of the program YtkenimmellonjaaGreat. -/
import Derived.Test.YtkenimmellonjaaGreatTab
import Derived.Test.YtkenimmellonjaaGreatFrD
import Derived.Shelf.Abstract
namespace Go.Proofs.YtkenimmellonjaaGreat
open Go.Pv Go.RowKit

def G0 : Gl := fun _ => .none
theorem mixed : Tryz.prog.follows .mixedOrders = true := by kernel_rfl
/-- gosem.cut.init -/
def cx2 : Ctx := ⟨T, G0, 1, []⟩
def kt2 : List (Nat × Nat) := []
theorem ok2 : okCode kt2 (Tryz.f2.body.getD .skip) = true := by kernel_rfl
/-- paternoster/paternosterlaw19.LedgerSays -/
def cx3 : Ctx := ⟨T, G0, 181, [0, 1, 2, 3, 4, 5, 6, 7, 8, 11, 12, 14, 15, 16, 17, 18, 19, 20, 21, 22, 23, 24, 25, 26, 27, 28, 31, 49, 118]⟩
def kt3 : List (Nat × Nat) := [(15, 60)]
theorem ok3 : okCode kt3 (Tryz.f3.body.getD .skip) = true := by kernel_rfl
/-- paternoster/paternosterlaw19.first -/
def cx4 : Ctx := ⟨T, G0, 28, [0, 1, 3]⟩
def kt4 : List (Nat × Nat) := []
theorem ok4 : okCode kt4 (Tryz.f4.body.getD .skip) = true := by kernel_rfl
/-- paternoster/paternosterlaw19.light -/
def cx5 : Ctx := ⟨T, G0, 34, [0, 1, 2, 3, 8, 18]⟩
def kt5 : List (Nat × Nat) := []
theorem ok5 : okCode kt5 (Tryz.f5.body.getD .skip) = true := by kernel_rfl
/-- paternoster/paternosterref.CopyRing -/
def cx6 : Ctx := ⟨T, G0, 32, [0, 1, 2, 3, 4, 17]⟩
def kt6 : List (Nat × Nat) := [(1, 9), (5, 9)]
theorem ok6 : okCode kt6 (Tryz.f6.body.getD .skip) = true := by kernel_rfl
/-- paternoster/ledger.Bid -/
def cx7 : Ctx := ⟨T, G0, 65, [0, 1, 2, 3, 4, 5, 6, 7, 8, 9, 10, 44]⟩
def kt7 : List (Nat × Nat) := [(5, 11)]
theorem ok7 : okCode kt7 (Tryz.f7.body.getD .skip) = true := by kernel_rfl
/-- paternoster/paternosterref18.Bid -/
def cx8 : Ctx := ⟨T, G0, 66, [0, 1, 2, 3, 4, 5, 6, 7, 8, 9, 10, 11, 45]⟩
def kt8 : List (Nat × Nat) := [(5, 11)]
theorem ok8 : okCode kt8 (Tryz.f8.body.getD .skip) = true := by kernel_rfl
/-- paternoster/ledger.Award -/
def cx9 : Ctx := ⟨T, G0, 61, [0, 1, 2, 3, 4, 5, 6, 7, 8, 13, 14, 15, 45]⟩
def kt9 : List (Nat × Nat) := [(8, 15), (12, 3)]
theorem ok9 : okCode kt9 (Tryz.f9.body.getD .skip) = true := by kernel_rfl
/-- paternoster/paternosterref18.Award -/
def cx10 : Ctx := ⟨T, G0, 71, [0, 1, 2, 3, 4, 5, 6, 7, 14, 35, 44]⟩
def kt10 : List (Nat × Nat) := [(6, 16), (9, 13)]
theorem ok10 : okCode kt10 (Tryz.f10.body.getD .skip) = true := by kernel_rfl
/-- paternoster/ledger.Pass -/
def cx11 : Ctx := ⟨T, G0, 15, [0, 1, 2, 3, 8]⟩
def kt11 : List (Nat × Nat) := []
theorem ok11 : okCode kt11 (Tryz.f11.body.getD .skip) = true := by kernel_rfl
/-- paternoster/paternosterref18.Pass -/
def cx12 : Ctx := ⟨T, G0, 16, [0, 1, 2, 3, 4, 9]⟩
def kt12 : List (Nat × Nat) := []
theorem ok12 : okCode kt12 (Tryz.f12.body.getD .skip) = true := by kernel_rfl
/-- paternoster/paternosterref.SameRing -/
def cx13 : Ctx := ⟨T, G0, 31, [0, 1, 2, 3, 4]⟩
def kt13 : List (Nat × Nat) := []
theorem ok13 : okCode kt13 (Tryz.f13.body.getD .skip) = true := by kernel_rfl
/-- paternoster/paternosterref.SameEntrys -/
def cx14 : Ctx := ⟨T, G0, 29, [0, 1, 4, 5, 6, 11, 15, 28]⟩
def kt14 : List (Nat × Nat) := [(6, 8)]
theorem ok14 : okCode kt14 (Tryz.f14.body.getD .skip) = true := by kernel_rfl
/-- paternoster/ledger.Purge -/
def cx15 : Ctx := ⟨T, G0, 13, [0, 1, 2, 3, 4]⟩
def kt15 : List (Nat × Nat) := []
theorem ok15 : okCode kt15 (Tryz.f15.body.getD .skip) = true := by kernel_rfl
/-- paternoster/paternosterref18.Purge -/
def cx16 : Ctx := ⟨T, G0, 37, [0, 1, 2, 4, 5, 6, 14, 24]⟩
def kt16 : List (Nat × Nat) := [(7, 9)]
theorem ok16 : okCode kt16 (Tryz.f16.body.getD .skip) = true := by kernel_rfl
/-- paternoster/ledger.Add -/
def cx17 : Ctx := ⟨T, G0, 50, [0, 1, 2, 4, 6, 7, 14, 15, 16, 17, 30, 36]⟩
def kt17 : List (Nat × Nat) := []
theorem ok17 : okCode kt17 (Tryz.f17.body.getD .skip) = true := by kernel_rfl
/-- paternoster/paternosterref18.Add -/
def cx18 : Ctx := ⟨T, G0, 120, [0, 1, 2, 4, 5, 6, 7, 8, 9, 10, 11, 12, 18, 38, 65, 75, 95]⟩
def kt18 : List (Nat × Nat) := [(7, 15), (9, 9), (14, 6), (16, 18)]
theorem ok18 : okCode kt18 (Tryz.f18.body.getD .skip) = true := by kernel_rfl
/-- paternoster/paternosterref.SameCalls -/
def cx19 : Ctx := ⟨T, G0, 29, [0, 1, 4, 5, 6, 11, 15, 28]⟩
def kt19 : List (Nat × Nat) := [(6, 8)]
theorem ok19 : okCode kt19 (Tryz.f19.body.getD .skip) = true := by kernel_rfl
/-- paternoster/ledger.Wants -/
def cx20 : Ctx := ⟨T, G0, 44, [0, 1, 2, 4, 5, 7, 9, 14, 16, 17, 18, 19, 35]⟩
def kt20 : List (Nat × Nat) := []
theorem ok20 : okCode kt20 (Tryz.f20.body.getD .skip) = true := by kernel_rfl
/-- paternoster/paternosterref18.Wants -/
def cx21 : Ctx := ⟨T, G0, 49, [0, 1, 2, 4, 5, 6, 17, 37]⟩
def kt21 : List (Nat × Nat) := []
theorem ok21 : okCode kt21 (Tryz.f21.body.getD .skip) = true := by kernel_rfl
/-- paternoster/paternosterref.SameLatchs -/
def cx22 : Ctx := ⟨T, G0, 29, [0, 1, 4, 5, 6, 11, 15, 28]⟩
def kt22 : List (Nat × Nat) := [(6, 8)]
theorem ok22 : okCode kt22 (Tryz.f22.body.getD .skip) = true := by kernel_rfl
/-- paternoster/ledger.Mine -/
def cx23 : Ctx := ⟨T, G0, 31, [0, 1, 2, 4, 5, 7, 9, 10, 11, 12, 23]⟩
def kt23 : List (Nat × Nat) := []
theorem ok23 : okCode kt23 (Tryz.f23.body.getD .skip) = true := by kernel_rfl
/-- paternoster/paternosterref18.Mine -/
def cx24 : Ctx := ⟨T, G0, 36, [0, 1, 2, 4, 5, 6, 11, 25]⟩
def kt24 : List (Nat × Nat) := []
theorem ok24 : okCode kt24 (Tryz.f24.body.getD .skip) = true := by kernel_rfl
/-- paternoster/ledger.New -/
def cx25 : Ctx := ⟨T, G0, 9, [0, 1, 2, 4]⟩
def kt25 : List (Nat × Nat) := [(1, 3)]
theorem ok25 : okCode kt25 (Tryz.f25.body.getD .skip) = true := by kernel_rfl
/-- paternoster/paternosterref18.New -/
def cx26 : Ctx := ⟨T, G0, 9, [0, 1, 2, 4]⟩
def kt26 : List (Nat × Nat) := [(1, 3)]
theorem ok26 : okCode kt26 (Tryz.f26.body.getD .skip) = true := by kernel_rfl
/-- paternoster/ledger.Same -/
def cx27 : Ctx := ⟨T, G0, 31, [0, 1, 2, 3, 4]⟩
def kt27 : List (Nat × Nat) := []
theorem ok27 : okCode kt27 (Tryz.f27.body.getD .skip) = true := by kernel_rfl
/-- paternoster/paternosterref1.ValidRing -/
def cx28 : Ctx := ⟨T, G0, 149, [0, 1, 2, 3, 4, 5, 6, 7, 8, 9, 23, 38, 41, 50, 53, 67, 72, 125, 140, 147]⟩
def kt28 : List (Nat × Nat) := [(14, 11), (23, 12)]
theorem ok28 : okCode kt28 (Tryz.f28.body.getD .skip) = true := by kernel_rfl
/-- paternoster/paternosterref.Ints -/
def cx29 : Ctx := ⟨T, G0, 22, [0, 2, 3, 4, 11]⟩
def kt29 : List (Nat × Nat) := []
theorem ok29 : okCode kt29 (Tryz.f29.body.getD .skip) = true := by kernel_rfl
theorem conG29 {args : List AV} {s : List (Nat × AB)} {R : AV → List (Nat × AB) → Prop} (n : Nat) (hle : Nat.ble args.length 22 = true) (hb : belowB n s = true) (h : vc Tryz.prog cx29 n kt29 (Tryz.f29.body.getD .skip) (argEnv 0 args) s (KG cx29 Tryz.f29.results.toList n R)) : Contract Tryz.prog G0 29 args s R :=
  Contract.of_vG (cx := cx29) tabOK mixed Tryz.func29 rfl (enters_of Tryz.func29 (by kernel_rfl) rfl) rfl ok29 (Nat.le_of_ble_eq_true hle) hb h
/-- paternoster/paternosterref.CopyEntry -/
def cx30 : Ctx := ⟨T, G0, 11, [0, 1, 2]⟩
def kt30 : List (Nat × Nat) := [(1, 7)]
theorem ok30 : okCode kt30 (Tryz.f30.body.getD .skip) = true := by kernel_rfl
/-- paternoster/ledger.own -/
def cx31 : Ctx := ⟨T, G0, 12, [0, 1, 2]⟩
def kt31 : List (Nat × Nat) := []
theorem ok31 : okCode kt31 (Tryz.f31.body.getD .skip) = true := by kernel_rfl
/-- paternoster/ledger.at -/
def cx32 : Ctx := ⟨T, G0, 9, [0, 1, 2, 3, 4]⟩
def kt32 : List (Nat × Nat) := []
theorem ok32 : okCode kt32 (Tryz.f32.body.getD .skip) = true := by kernel_rfl
/-- paternoster/order.Has -/
def cx33 : Ctx := ⟨T, G0, 8, [0, 1, 4]⟩
def kt33 : List (Nat × Nat) := []
theorem ok33 : okCode kt33 (Tryz.f33.body.getD .skip) = true := by kernel_rfl
theorem con33 {args : List AV} {s : List (Nat × AB)} {R : AV → List (Nat × AB) → Prop} (n : Nat) (hle : Nat.ble args.length 8 = true) (hb : belowB n s = true) (h : vc Tryz.prog cx33 n kt33 (Tryz.f33.body.getD .skip) (argEnv 0 args) s (KV T Tryz.f33.results.toList n R)) : Contract Tryz.prog G0 33 args s R :=
  Contract.of_v (cx := cx33) tabOK mixed Tryz.func33 rfl (enters_of Tryz.func33 (by kernel_rfl) rfl) rfl ok33 (Nat.le_of_ble_eq_true hle) hb h
/-- paternoster/bid.Put -/
def cx34 : Ctx := ⟨T, G0, 28, [0, 1, 3, 4, 5, 6, 7, 14, 20]⟩
def kt34 : List (Nat × Nat) := []
theorem ok34 : okCode kt34 (Tryz.f34.body.getD .skip) = true := by kernel_rfl
/-- paternoster/paternosterref18.place -/
def cx35 : Ctx := ⟨T, G0, 23, [0, 1, 2, 3, 4, 5, 10, 21]⟩
def kt35 : List (Nat × Nat) := [(4, 8)]
theorem ok35 : okCode kt35 (Tryz.f35.body.getD .skip) = true := by kernel_rfl
/-- paternoster/paternosterref.Among -/
def cx36 : Ctx := ⟨T, G0, 18, [0, 1, 4, 5, 9, 17]⟩
def kt36 : List (Nat × Nat) := []
theorem ok36 : okCode kt36 (Tryz.f36.body.getD .skip) = true := by kernel_rfl
theorem con36 {args : List AV} {s : List (Nat × AB)} {R : AV → List (Nat × AB) → Prop} (n : Nat) (hle : Nat.ble args.length 18 = true) (hb : belowB n s = true) (h : vc Tryz.prog cx36 n kt36 (Tryz.f36.body.getD .skip) (argEnv 0 args) s (KV T Tryz.f36.results.toList n R)) : Contract Tryz.prog G0 36 args s R :=
  Contract.of_v (cx := cx36) tabOK mixed Tryz.func36 rfl (enters_of Tryz.func36 (by kernel_rfl) rfl) rfl ok36 (Nat.le_of_ble_eq_true hle) hb h
/-- paternoster/paternosterref18.Put -/
def cx37 : Ctx := ⟨T, G0, 43, [0, 1, 3, 4, 5, 6, 7, 12, 28]⟩
def kt37 : List (Nat × Nat) := [(4, 12), (6, 6)]
theorem ok37 : okCode kt37 (Tryz.f37.body.getD .skip) = true := by kernel_rfl
/-- paternoster/bid.Least -/
def cx38 : Ctx := ⟨T, G0, 26, [0, 2, 3, 4, 6, 9, 14, 15, 16, 17, 22]⟩
def kt38 : List (Nat × Nat) := []
theorem ok38 : okCode kt38 (Tryz.f38.body.getD .skip) = true := by kernel_rfl
/-- paternoster/bid.Full -/
def cx39 : Ctx := ⟨T, G0, 9, [0, 1, 3, 4]⟩
def kt39 : List (Nat × Nat) := []
theorem ok39 : okCode kt39 (Tryz.f39.body.getD .skip) = true := by kernel_rfl
/-- paternoster/ledger.entries -/
def cx40 : Ctx := ⟨T, G0, 24, [0, 2, 3, 4, 8, 9, 10]⟩
def kt40 : List (Nat × Nat) := []
theorem ok40 : okCode kt40 (Tryz.f40.body.getD .skip) = true := by kernel_rfl
/-- paternoster/paternosterref18.Full -/
def cx41 : Ctx := ⟨T, G0, 19, [0, 1, 4, 5, 9, 18]⟩
def kt41 : List (Nat × Nat) := []
theorem ok41 : okCode kt41 (Tryz.f41.body.getD .skip) = true := by kernel_rfl
/-- paternoster/paternosterref18.Least -/
def cx42 : Ctx := ⟨T, G0, 26, [0, 2, 3, 4, 8, 23]⟩
def kt42 : List (Nat × Nat) := [(5, 11)]
theorem ok42 : okCode kt42 (Tryz.f42.body.getD .skip) = true := by kernel_rfl
/-- paternoster/paternosterref.SameEpoch -/
def cx43 : Ctx := ⟨T, G0, 17, [0, 1, 2, 3, 4]⟩
def kt43 : List (Nat × Nat) := []
theorem ok43 : okCode kt43 (Tryz.f43.body.getD .skip) = true := by kernel_rfl
/-- paternoster/paternosterref.SameInts -/
def cx44 : Ctx := ⟨T, G0, 29, [0, 1, 4, 5, 6, 11, 15, 28]⟩
def kt44 : List (Nat × Nat) := [(6, 8)]
theorem ok44 : okCode kt44 (Tryz.f44.body.getD .skip) = true := by kernel_rfl
/-- paternoster/paternosterref.SameEntry -/
def cx45 : Ctx := ⟨T, G0, 24, [0, 1, 2, 3, 4]⟩
def kt45 : List (Nat × Nat) := []
theorem ok45 : okCode kt45 (Tryz.f45.body.getD .skip) = true := by kernel_rfl
/-- slices.DeleteFunc[[]paternoster/api.Entry,paternoster/api.Entry] -/
def cx46 : Ctx := ⟨T, G0, 42, [0, 1, 4, 5, 6, 7, 12, 19, 29]⟩
def kt46 : List (Nat × Nat) := []
theorem ok46 : okCode kt46 (Tryz.f46.body.getD .skip) = true := by kernel_rfl
/-- paternoster/ledger.Purge$1 -/
def cx47 : Ctx := ⟨T, G0, 9, [0, 1, 2, 3]⟩
def kt47 : List (Nat × Nat) := []
theorem ok47 : okCode kt47 (Tryz.f47.body.getD .skip) = true := by kernel_rfl
/-- slices.Contains[[]paternoster/api.Latch,paternoster/api.Latch] -/
def cx48 : Ctx := ⟨T, G0, 9, [0, 1, 3, 4]⟩
def kt48 : List (Nat × Nat) := []
theorem ok48 : okCode kt48 (Tryz.f48.body.getD .skip) = true := by kernel_rfl
/-- paternoster/paternosterref.HasLatch -/
def cx49 : Ctx := ⟨T, G0, 18, [0, 1, 3, 4, 5, 9, 17]⟩
def kt49 : List (Nat × Nat) := [(4, 5)]
theorem ok49 : okCode kt49 (Tryz.f49.body.getD .skip) = true := by kernel_rfl
/-- slices.Clone[[]paternoster/api.Latch,paternoster/api.Latch] -/
def cx50 : Ctx := ⟨T, G0, 8, [0, 2, 4]⟩
def kt50 : List (Nat × Nat) := []
theorem ok50 : okCode kt50 (Tryz.f50.body.getD .skip) = true := by kernel_rfl
/-- slices.SortStableFunc[[]paternoster/api.Latch,paternoster/api.Latch] -/
def cx51 : Ctx := ⟨T, G0, 9, [0, 1]⟩
def kt51 : List (Nat × Nat) := []
theorem ok51 : okCode kt51 (Tryz.f51.body.getD .skip) = true := by kernel_rfl
/-- paternoster/ledger.Add$1 -/
def cx52 : Ctx := ⟨T, G0, 21, [0, 1, 2, 3, 4]⟩
def kt52 : List (Nat × Nat) := [(1, 13)]
theorem ok52 : okCode kt52 (Tryz.f52.body.getD .skip) = true := by kernel_rfl
/-- cmp.Or[int] -/
def cx53 : Ctx := ⟨T, G0, 18, [0, 2, 3, 5, 6, 7, 8, 9, 14]⟩
def kt53 : List (Nat × Nat) := []
theorem ok53 : okCode kt53 (Tryz.f53.body.getD .skip) = true := by kernel_rfl
/-- cmp.Compare[int] -/
def cx54 : Ctx := ⟨T, G0, 20, [0, 1, 4, 5, 6, 11, 12, 13, 16, 19]⟩
def kt54 : List (Nat × Nat) := []
theorem ok54 : okCode kt54 (Tryz.f54.body.getD .skip) = true := by kernel_rfl
/-- slices.IndexFunc[[]paternoster/api.Entry,paternoster/api.Entry] -/
def cx55 : Ctx := ⟨T, G0, 19, [0, 1, 4, 5, 7, 8, 9, 16]⟩
def kt55 : List (Nat × Nat) := []
theorem ok55 : okCode kt55 (Tryz.f55.body.getD .skip) = true := by kernel_rfl
/-- paternoster/ledger.Add$2 -/
def cx56 : Ctx := ⟨T, G0, 10, [0, 1, 2, 3]⟩
def kt56 : List (Nat × Nat) := []
theorem ok56 : okCode kt56 (Tryz.f56.body.getD .skip) = true := by kernel_rfl
/-- paternoster/calls.Less -/
def cx57 : Ctx := ⟨T, G0, 9, [0, 1, 2, 3, 4]⟩
def kt57 : List (Nat × Nat) := []
theorem ok57 : okCode kt57 (Tryz.f57.body.getD .skip) = true := by kernel_rfl
/-- slices.Insert[[]paternoster/api.Entry,paternoster/api.Entry] -/
def cx58 : Ctx := ⟨T, G0, 95, [0, 1, 2, 6, 7, 8, 9, 16, 22, 31, 68]⟩
def kt58 : List (Nat × Nat) := [(11, 8), (15, 8)]
theorem ok58 : okCode kt58 (Tryz.f58.body.getD .skip) = true := by kernel_rfl
/-- paternoster/paternosterref1.LessCall -/
def cx59 : Ctx := ⟨T, G0, 24, [0, 1, 2, 3, 4]⟩
def kt59 : List (Nat × Nat) := []
theorem ok59 : okCode kt59 (Tryz.f59.body.getD .skip) = true := by kernel_rfl
/-- paternoster/paternosterref.Latchs -/
def cx60 : Ctx := ⟨T, G0, 22, [0, 2, 3, 4, 11]⟩
def kt60 : List (Nat × Nat) := []
theorem ok60 : okCode kt60 (Tryz.f60.body.getD .skip) = true := by kernel_rfl
/-- paternoster/paternosterref.SameCall -/
def cx61 : Ctx := ⟨T, G0, 17, [0, 1, 2, 3, 4]⟩
def kt61 : List (Nat × Nat) := []
theorem ok61 : okCode kt61 (Tryz.f61.body.getD .skip) = true := by kernel_rfl
/-- paternoster/bid.Of -/
def cx62 : Ctx := ⟨T, G0, 17, [0, 1, 4, 5, 6, 11]⟩
def kt62 : List (Nat × Nat) := []
theorem ok62 : okCode kt62 (Tryz.f62.body.getD .skip) = true := by kernel_rfl
/-- paternoster/paternosterref18.Find -/
def cx63 : Ctx := ⟨T, G0, 20, [0, 1, 4, 5, 9, 18]⟩
def kt63 : List (Nat × Nat) := []
theorem ok63 : okCode kt63 (Tryz.f63.body.getD .skip) = true := by kernel_rfl
/-- paternoster/paternosterref.SameLatch -/
def cx64 : Ctx := ⟨T, G0, 17, [0, 1, 2, 3, 4]⟩
def kt64 : List (Nat × Nat) := []
theorem ok64 : okCode kt64 (Tryz.f64.body.getD .skip) = true := by kernel_rfl
/-- paternoster/order.Set -/
def cx65 : Ctx := ⟨T, G0, 10, [0, 2, 3]⟩
def kt65 : List (Nat × Nat) := []
theorem ok65 : okCode kt65 (Tryz.f65.body.getD .skip) = true := by kernel_rfl
theorem conG65 {args : List AV} {s : List (Nat × AB)} {R : AV → List (Nat × AB) → Prop} (n : Nat) (hle : Nat.ble args.length 10 = true) (hb : belowB n s = true) (h : vc Tryz.prog cx65 n kt65 (Tryz.f65.body.getD .skip) (argEnv 0 args) s (KG cx65 Tryz.f65.results.toList n R)) : Contract Tryz.prog G0 65 args s R :=
  Contract.of_vG (cx := cx65) tabOK mixed Tryz.func65 rfl (enters_of Tryz.func65 (by kernel_rfl) rfl) rfl ok65 (Nat.le_of_ble_eq_true hle) hb h
/-- paternoster/paternosterref6.Set -/
def cx66 : Ctx := ⟨T, G0, 18, [0, 2, 3, 4, 8]⟩
def kt66 : List (Nat × Nat) := []
theorem ok66 : okCode kt66 (Tryz.f66.body.getD .skip) = true := by kernel_rfl
/-- slices.Equal[[]int,int] -/
def cx67 : Ctx := ⟨T, G0, 26, [0, 1, 4, 5, 10, 12, 13, 14, 24]⟩
def kt67 : List (Nat × Nat) := [(6, 8)]
theorem ok67 : okCode kt67 (Tryz.f67.body.getD .skip) = true := by kernel_rfl
theorem con67 {args : List AV} {s : List (Nat × AB)} {R : AV → List (Nat × AB) → Prop} (n : Nat) (hle : Nat.ble args.length 26 = true) (hb : belowB n s = true) (h : vc Tryz.prog cx67 n kt67 (Tryz.f67.body.getD .skip) (argEnv 0 args) s (KV T Tryz.f67.results.toList n R)) : Contract Tryz.prog G0 67 args s R :=
  Contract.of_v (cx := cx67) tabOK mixed Tryz.func67 rfl (enters_of Tryz.func67 (by kernel_rfl) rfl) rfl ok67 (Nat.le_of_ble_eq_true hle) hb h
/-- slices.EqualFunc[[]paternoster/api.Entry,[]paternoster/api.Entry,paternoster/api.Entry,paternoster/api.Entry] -/
def cx68 : Ctx := ⟨T, G0, 32, [0, 1, 2, 6, 7, 8, 9, 14, 15, 16, 17, 18, 30]⟩
def kt68 : List (Nat × Nat) := []
theorem ok68 : okCode kt68 (Tryz.f68.body.getD .skip) = true := by kernel_rfl
/-- paternoster/ledger.Same$1 -/
def cx69 : Ctx := ⟨T, G0, 24, [0, 1, 2, 3, 4]⟩
def kt69 : List (Nat × Nat) := []
theorem ok69 : okCode kt69 (Tryz.f69.body.getD .skip) = true := by kernel_rfl
/-- slices.Equal[[]paternoster/api.Bid,paternoster/api.Bid] -/
def cx70 : Ctx := ⟨T, G0, 26, [0, 1, 4, 5, 10, 12, 13, 14, 24]⟩
def kt70 : List (Nat × Nat) := [(6, 8)]
theorem ok70 : okCode kt70 (Tryz.f70.body.getD .skip) = true := by kernel_rfl
/-- paternoster/paternosterref1.ValidEpoch -/
def cx71 : Ctx := ⟨T, G0, 21, [0, 1, 2]⟩
def kt71 : List (Nat × Nat) := []
theorem ok71 : okCode kt71 (Tryz.f71.body.getD .skip) = true := by kernel_rfl
/-- paternoster/paternosterref1.car -/
def cx72 : Ctx := ⟨T, G0, 9, [0, 2]⟩
def kt72 : List (Nat × Nat) := []
theorem ok72 : okCode kt72 (Tryz.f72.body.getD .skip) = true := by kernel_rfl
/-- paternoster/paternosterref1.validBids -/
def cx73 : Ctx := ⟨T, G0, 60, [0, 1, 4, 5, 6, 11, 15, 41, 45, 59]⟩
def kt73 : List (Nat × Nat) := [(11, 11)]
theorem ok73 : okCode kt73 (Tryz.f73.body.getD .skip) = true := by kernel_rfl
/-- paternoster/paternosterref.Bids -/
def cx74 : Ctx := ⟨T, G0, 22, [0, 2, 3, 4, 11]⟩
def kt74 : List (Nat × Nat) := []
theorem ok74 : okCode kt74 (Tryz.f74.body.getD .skip) = true := by kernel_rfl
/-- slices.Clone[[]int,int] -/
def cx75 : Ctx := ⟨T, G0, 8, [0, 2, 4]⟩
def kt75 : List (Nat × Nat) := []
theorem ok75 : okCode kt75 (Tryz.f75.body.getD .skip) = true := by kernel_rfl
theorem con75 {args : List AV} {s : List (Nat × AB)} {R : AV → List (Nat × AB) → Prop} (n : Nat) (hle : Nat.ble args.length 8 = true) (hb : belowB n s = true) (h : vc Tryz.prog cx75 n kt75 (Tryz.f75.body.getD .skip) (argEnv 0 args) s (KV T Tryz.f75.results.toList n R)) : Contract Tryz.prog G0 75 args s R :=
  Contract.of_v (cx := cx75) tabOK mixed Tryz.func75 rfl (enters_of Tryz.func75 (by kernel_rfl) rfl) rfl ok75 (Nat.le_of_ble_eq_true hle) hb h
/-- paternoster/ledger.at$1 -/
def cx76 : Ctx := ⟨T, G0, 9, [0, 1, 2, 3]⟩
def kt76 : List (Nat × Nat) := []
theorem ok76 : okCode kt76 (Tryz.f76.body.getD .skip) = true := by kernel_rfl
/-- slices.Contains[[]int,int] -/
def cx77 : Ctx := ⟨T, G0, 9, [0, 1, 4]⟩
def kt77 : List (Nat × Nat) := []
theorem ok77 : okCode kt77 (Tryz.f77.body.getD .skip) = true := by kernel_rfl
theorem con77 {args : List AV} {s : List (Nat × AB)} {R : AV → List (Nat × AB) → Prop} (n : Nat) (hle : Nat.ble args.length 9 = true) (hb : belowB n s = true) (h : vc Tryz.prog cx77 n kt77 (Tryz.f77.body.getD .skip) (argEnv 0 args) s (KV T Tryz.f77.results.toList n R)) : Contract Tryz.prog G0 77 args s R :=
  Contract.of_v (cx := cx77) tabOK mixed Tryz.func77 rfl (enters_of Tryz.func77 (by kernel_rfl) rfl) rfl ok77 (Nat.le_of_ble_eq_true hle) hb h
/-- slices.Clone[[]paternoster/api.Bid,paternoster/api.Bid] -/
def cx78 : Ctx := ⟨T, G0, 8, [0, 2, 4]⟩
def kt78 : List (Nat × Nat) := []
theorem ok78 : okCode kt78 (Tryz.f78.body.getD .skip) = true := by kernel_rfl
/-- paternoster/bid.at -/
def cx79 : Ctx := ⟨T, G0, 8, [0, 1, 3, 4]⟩
def kt79 : List (Nat × Nat) := []
theorem ok79 : okCode kt79 (Tryz.f79.body.getD .skip) = true := by kernel_rfl
/-- slices.IndexFunc[[]paternoster/api.Bid,paternoster/api.Bid] -/
def cx80 : Ctx := ⟨T, G0, 19, [0, 1, 4, 5, 7, 8, 9, 16]⟩
def kt80 : List (Nat × Nat) := []
theorem ok80 : okCode kt80 (Tryz.f80.body.getD .skip) = true := by kernel_rfl
/-- paternoster/bid.Put$1 -/
def cx81 : Ctx := ⟨T, G0, 9, [0, 1, 2, 3]⟩
def kt81 : List (Nat × Nat) := []
theorem ok81 : okCode kt81 (Tryz.f81.body.getD .skip) = true := by kernel_rfl
/-- slices.Insert[[]paternoster/api.Bid,paternoster/api.Bid] -/
def cx82 : Ctx := ⟨T, G0, 95, [0, 1, 2, 6, 7, 8, 9, 16, 22, 31, 68]⟩
def kt82 : List (Nat × Nat) := [(11, 8), (15, 8)]
theorem ok82 : okCode kt82 (Tryz.f82.body.getD .skip) = true := by kernel_rfl
/-- paternoster/bid.Less -/
def cx83 : Ctx := ⟨T, G0, 24, [0, 1, 2, 3, 4]⟩
def kt83 : List (Nat × Nat) := []
theorem ok83 : okCode kt83 (Tryz.f83.body.getD .skip) = true := by kernel_rfl
/-- slices.ContainsFunc[[]int,int] -/
def cx84 : Ctx := ⟨T, G0, 9, [0, 1, 4]⟩
def kt84 : List (Nat × Nat) := []
theorem ok84 : okCode kt84 (Tryz.f84.body.getD .skip) = true := by kernel_rfl
/-- paternoster/bid.Full$1 -/
def cx85 : Ctx := ⟨T, G0, 8, [0, 1, 3]⟩
def kt85 : List (Nat × Nat) := []
theorem ok85 : okCode kt85 (Tryz.f85.body.getD .skip) = true := by kernel_rfl
/-- slices.Clone[[]paternoster/api.Entry,paternoster/api.Entry] -/
def cx86 : Ctx := ⟨T, G0, 8, [0, 2, 4]⟩
def kt86 : List (Nat × Nat) := []
theorem ok86 : okCode kt86 (Tryz.f86.body.getD .skip) = true := by kernel_rfl
/-- paternoster/paternosterref18.Less -/
def cx87 : Ctx := ⟨T, G0, 24, [0, 1, 2, 3, 4]⟩
def kt87 : List (Nat × Nat) := []
theorem ok87 : okCode kt87 (Tryz.f87.body.getD .skip) = true := by kernel_rfl
/-- paternoster/paternosterref.SameBids -/
def cx88 : Ctx := ⟨T, G0, 29, [0, 1, 4, 5, 6, 11, 15, 28]⟩
def kt88 : List (Nat × Nat) := [(6, 8)]
theorem ok88 : okCode kt88 (Tryz.f88.body.getD .skip) = true := by kernel_rfl
/-- slices.Index[[]paternoster/api.Latch,paternoster/api.Latch] -/
def cx89 : Ctx := ⟨T, G0, 19, [0, 1, 3, 4, 5, 7, 8, 9, 16]⟩
def kt89 : List (Nat × Nat) := [(4, 5)]
theorem ok89 : okCode kt89 (Tryz.f89.body.getD .skip) = true := by kernel_rfl
/-- slices.stableCmpFunc[paternoster/api.Latch] -/
def cx90 : Ctx := ⟨T, G0, 63, [0, 1, 2, 6, 7, 8, 9, 13, 30, 35, 54]⟩
def kt90 : List (Nat × Nat) := []
theorem ok90 : okCode kt90 (Tryz.f90.body.getD .skip) = true := by kernel_rfl
/-- cmp.isNaN[int] -/
def cx91 : Ctx := ⟨T, G0, 6, [0, 2]⟩
def kt91 : List (Nat × Nat) := []
theorem ok91 : okCode kt91 (Tryz.f91.body.getD .skip) = true := by kernel_rfl
/-- paternoster/calls.compare -/
def cx92 : Ctx := ⟨T, G0, 17, [0, 1, 2, 3, 4]⟩
def kt92 : List (Nat × Nat) := [(1, 9)]
theorem ok92 : okCode kt92 (Tryz.f92.body.getD .skip) = true := by kernel_rfl
/-- slices.rotateRight[paternoster/api.Entry] -/
def cx94 : Ctx := ⟨T, G0, 10, [0, 1]⟩
def kt94 : List (Nat × Nat) := []
theorem ok94 : okCode kt94 (Tryz.f94.body.getD .skip) = true := by kernel_rfl
/-- slices.Sort[[]int,int] -/
def cx95 : Ctx := ⟨T, G0, 11, [0, 2]⟩
def kt95 : List (Nat × Nat) := []
theorem ok95 : okCode kt95 (Tryz.f95.body.getD .skip) = true := by kernel_rfl
/-- slices.Compact[[]int,int] -/
def cx96 : Ctx := ⟨T, G0, 61, [0, 2, 3, 4, 5, 8, 13, 25, 32, 44]⟩
def kt96 : List (Nat × Nat) := [(6, 9), (11, 9)]
theorem ok96 : okCode kt96 (Tryz.f96.body.getD .skip) = true := by kernel_rfl
theorem con96 {args : List AV} {s : List (Nat × AB)} {R : AV → List (Nat × AB) → Prop} (n : Nat) (hle : Nat.ble args.length 61 = true) (hb : belowB n s = true) (h : vc Tryz.prog cx96 n kt96 (Tryz.f96.body.getD .skip) (argEnv 0 args) s (KV T Tryz.f96.results.toList n R)) : Contract Tryz.prog G0 96 args s R :=
  Contract.of_v (cx := cx96) tabOK mixed Tryz.func96 rfl (enters_of Tryz.func96 (by kernel_rfl) rfl) rfl ok96 (Nat.le_of_ble_eq_true hle) hb h
/-- paternoster/paternosterref.Put -/
def cx97 : Ctx := ⟨T, G0, 47, [0, 1, 4, 5, 6, 18, 32]⟩
def kt97 : List (Nat × Nat) := []
theorem ok97 : okCode kt97 (Tryz.f97.body.getD .skip) = true := by kernel_rfl
/-- slices.Index[[]int,int] -/
def cx98 : Ctx := ⟨T, G0, 19, [0, 1, 4, 5, 7, 8, 9, 16]⟩
def kt98 : List (Nat × Nat) := []
theorem ok98 : okCode kt98 (Tryz.f98.body.getD .skip) = true := by kernel_rfl
theorem con98 {args : List AV} {s : List (Nat × AB)} {R : AV → List (Nat × AB) → Prop} (n : Nat) (hle : Nat.ble args.length 19 = true) (hb : belowB n s = true) (h : vc Tryz.prog cx98 n kt98 (Tryz.f98.body.getD .skip) (argEnv 0 args) s (KV T Tryz.f98.results.toList n R)) : Contract Tryz.prog G0 98 args s R :=
  Contract.of_v (cx := cx98) tabOK mixed Tryz.func98 rfl (enters_of Tryz.func98 (by kernel_rfl) rfl) rfl ok98 (Nat.le_of_ble_eq_true hle) hb h
/-- paternoster/bid.at$1 -/
def cx99 : Ctx := ⟨T, G0, 8, [0, 1, 2, 3]⟩
def kt99 : List (Nat × Nat) := []
theorem ok99 : okCode kt99 (Tryz.f99.body.getD .skip) = true := by kernel_rfl
/-- slices.rotateRight[paternoster/api.Bid] -/
def cx101 : Ctx := ⟨T, G0, 10, [0, 1]⟩
def kt101 : List (Nat × Nat) := []
theorem ok101 : okCode kt101 (Tryz.f101.body.getD .skip) = true := by kernel_rfl
/-- slices.IndexFunc[[]int,int] -/
def cx102 : Ctx := ⟨T, G0, 19, [0, 1, 4, 5, 7, 8, 9, 16]⟩
def kt102 : List (Nat × Nat) := []
theorem ok102 : okCode kt102 (Tryz.f102.body.getD .skip) = true := by kernel_rfl
/-- paternoster/paternosterref.SameBid -/
def cx103 : Ctx := ⟨T, G0, 17, [0, 1, 2, 3, 4]⟩
def kt103 : List (Nat × Nat) := []
theorem ok103 : okCode kt103 (Tryz.f103.body.getD .skip) = true := by kernel_rfl
/-- slices.insertionSortCmpFunc[paternoster/api.Latch] -/
def cx104 : Ctx := ⟨T, G0, 53, [0, 1, 2, 3, 8, 9, 14, 34]⟩
def kt104 : List (Nat × Nat) := [(4, 14), (6, 14)]
theorem ok104 : okCode kt104 (Tryz.f104.body.getD .skip) = true := by kernel_rfl
/-- slices.symMergeCmpFunc[paternoster/api.Latch] -/
def cx105 : Ctx := ⟨T, G0, 220, [0, 1, 2, 3, 4, 10, 11, 12, 13, 14, 15, 16, 17, 18, 19, 20, 21, 22, 23, 24, 28, 33, 50, 58, 80, 85, 103, 110, 140, 151, 171, 185, 199, 213]⟩
def kt105 : List (Nat × Nat) := [(5, 9), (11, 14), (17, 9), (23, 14), (35, 11)]
theorem ok105 : okCode kt105 (Tryz.f105.body.getD .skip) = true := by kernel_rfl
/-- slices.rotateLeft[paternoster/api.Entry] -/
def cx106 : Ctx := ⟨T, G0, 14, [0, 1]⟩
def kt106 : List (Nat × Nat) := []
theorem ok106 : okCode kt106 (Tryz.f106.body.getD .skip) = true := by kernel_rfl
/-- slices.pdqsortOrdered[int] -/
def cx107 : Ctx := ⟨T, G0, 134, [0, 1, 2, 3, 8, 9, 10, 11, 12, 13, 14, 15, 16, 17, 18, 23, 29, 35, 50, 68, 72, 87, 113]⟩
def kt107 : List (Nat × Nat) := [(17, 12)]
theorem ok107 : okCode kt107 (Tryz.f107.body.getD .skip) = true := by kernel_rfl
/-- math/bits.Len -/
def cx108 : Ctx := ⟨T, G0, 8, [0, 2]⟩
def kt108 : List (Nat × Nat) := []
theorem ok108 : okCode kt108 (Tryz.f108.body.getD .skip) = true := by kernel_rfl
/-- slices.rotateLeft[paternoster/api.Bid] -/
def cx109 : Ctx := ⟨T, G0, 14, [0, 1]⟩
def kt109 : List (Nat × Nat) := []
theorem ok109 : okCode kt109 (Tryz.f109.body.getD .skip) = true := by kernel_rfl
/-- slices.rotateCmpFunc[paternoster/api.Latch] -/
def cx110 : Ctx := ⟨T, G0, 58, [0, 1, 2, 3, 4, 10, 11, 20, 23]⟩
def kt110 : List (Nat × Nat) := []
theorem ok110 : okCode kt110 (Tryz.f110.body.getD .skip) = true := by kernel_rfl
/-- slices.Reverse[[]paternoster/api.Entry,paternoster/api.Entry] -/
def cx111 : Ctx := ⟨T, G0, 28, [0, 2, 3, 9]⟩
def kt111 : List (Nat × Nat) := [(3, 12)]
theorem ok111 : okCode kt111 (Tryz.f111.body.getD .skip) = true := by kernel_rfl
/-- slices.insertionSortOrdered[int] -/
def cx112 : Ctx := ⟨T, G0, 49, [0, 1, 2, 6, 7, 12, 30]⟩
def kt112 : List (Nat × Nat) := [(4, 13), (6, 16)]
theorem ok112 : okCode kt112 (Tryz.f112.body.getD .skip) = true := by kernel_rfl
/-- slices.heapSortOrdered[int] -/
def cx113 : Ctx := ⟨T, G0, 56, [0, 1, 2, 6, 7, 8, 9, 10, 19, 30]⟩
def kt113 : List (Nat × Nat) := [(10, 18)]
theorem ok113 : okCode kt113 (Tryz.f113.body.getD .skip) = true := by kernel_rfl
/-- slices.breakPatternsOrdered[int] -/
def cx114 : Ctx := ⟨T, G0, 65, [0, 1, 2, 6, 7, 8, 9, 10, 15, 33, 43]⟩
def kt114 : List (Nat × Nat) := [(10, 18)]
theorem ok114 : okCode kt114 (Tryz.f114.body.getD .skip) = true := by kernel_rfl
/-- slices.choosePivotOrdered[int] -/
def cx115 : Ctx := ⟨T, G0, 57, [0, 1, 2, 6, 7, 8, 9, 10, 11, 12, 32, 34, 49, 51, 54]⟩
def kt115 : List (Nat × Nat) := []
theorem ok115 : okCode kt115 (Tryz.f115.body.getD .skip) = true := by kernel_rfl
/-- slices.reverseRangeOrdered[int] -/
def cx116 : Ctx := ⟨T, G0, 32, [0, 1, 2, 6, 7, 13]⟩
def kt116 : List (Nat × Nat) := [(3, 12)]
theorem ok116 : okCode kt116 (Tryz.f116.body.getD .skip) = true := by kernel_rfl
/-- slices.partialInsertionSortOrdered[int] -/
def cx117 : Ctx := ⟨T, G0, 133, [0, 1, 2, 6, 7, 8, 9, 10, 14, 32, 37, 41, 61, 65, 78, 98, 103, 116]⟩
def kt117 : List (Nat × Nat) := [(5, 13), (11, 16), (16, 9), (17, 16), (22, 9), (23, 16)]
theorem ok117 : okCode kt117 (Tryz.f117.body.getD .skip) = true := by kernel_rfl
/-- cmp.Less[int] -/
def cx118 : Ctx := ⟨T, G0, 17, [0, 1, 4]⟩
def kt118 : List (Nat × Nat) := []
theorem ok118 : okCode kt118 (Tryz.f118.body.getD .skip) = true := by kernel_rfl
/-- slices.partitionEqualOrdered[int] -/
def cx119 : Ctx := ⟨T, G0, 84, [0, 1, 2, 3, 8, 9, 10, 43, 59, 64]⟩
def kt119 : List (Nat × Nat) := [(1, 12), (3, 12), (5, 12), (8, 12)]
theorem ok119 : okCode kt119 (Tryz.f119.body.getD .skip) = true := by kernel_rfl
/-- slices.partitionOrdered[int] -/
def cx120 : Ctx := ⟨T, G0, 168, [0, 1, 2, 3, 8, 9, 10, 11, 43, 60, 65, 112, 129, 134]⟩
def kt120 : List (Nat × Nat) := [(1, 12), (3, 12), (5, 12), (8, 12), (10, 12), (13, 12), (15, 12), (18, 12), (21, 12)]
theorem ok120 : okCode kt120 (Tryz.f120.body.getD .skip) = true := by kernel_rfl
/-- math/bits.Len32 -/
def cx121 : Ctx := ⟨T, G0, 19, [0, 2, 4, 8]⟩
def kt121 : List (Nat × Nat) := []
theorem ok121 : okCode kt121 (Tryz.f121.body.getD .skip) = true := by kernel_rfl
/-- math/bits.Len64 -/
def cx122 : Ctx := ⟨T, G0, 25, [0, 2, 4, 8, 14]⟩
def kt122 : List (Nat × Nat) := []
theorem ok122 : okCode kt122 (Tryz.f122.body.getD .skip) = true := by kernel_rfl
/-- slices.Reverse[[]paternoster/api.Bid,paternoster/api.Bid] -/
def cx123 : Ctx := ⟨T, G0, 28, [0, 2, 3, 9]⟩
def kt123 : List (Nat × Nat) := [(3, 12)]
theorem ok123 : okCode kt123 (Tryz.f123.body.getD .skip) = true := by kernel_rfl
/-- slices.swapRangeCmpFunc[paternoster/api.Latch] -/
def cx124 : Ctx := ⟨T, G0, 38, [0, 1, 2, 3, 10, 13]⟩
def kt124 : List (Nat × Nat) := [(3, 20)]
theorem ok124 : okCode kt124 (Tryz.f124.body.getD .skip) = true := by kernel_rfl
/-- slices.siftDownOrdered[int] -/
def cx125 : Ctx := ⟨T, G0, 76, [0, 1, 2, 3, 8, 9, 16, 36, 52]⟩
def kt125 : List (Nat × Nat) := [(3, 18), (5, 12), (6, 22)]
theorem ok125 : okCode kt125 (Tryz.f125.body.getD .skip) = true := by kernel_rfl
/-- slices.nextPowerOfTwo -/
def cx126 : Ctx := ⟨T, G0, 7, [0, 2]⟩
def kt126 : List (Nat × Nat) := []
theorem ok126 : okCode kt126 (Tryz.f126.body.getD .skip) = true := by kernel_rfl
/-- (*slices.xorshift).Next -/
def cx127 : Ctx := ⟨T, G0, 33, [0, 2]⟩
def kt127 : List (Nat × Nat) := [(1, 7), (2, 7), (3, 7)]
theorem ok127 : okCode kt127 (Tryz.f127.body.getD .skip) = true := by kernel_rfl
/-- slices.medianAdjacentOrdered[int] -/
def cx128 : Ctx := ⟨T, G0, 15, [0, 1, 2, 6]⟩
def kt128 : List (Nat × Nat) := []
theorem ok128 : okCode kt128 (Tryz.f128.body.getD .skip) = true := by kernel_rfl
/-- slices.medianOrdered[int] -/
def cx129 : Ctx := ⟨T, G0, 36, [0, 1, 2, 3, 4, 10]⟩
def kt129 : List (Nat × Nat) := []
theorem ok129 : okCode kt129 (Tryz.f129.body.getD .skip) = true := by kernel_rfl
/-- slices.order2Ordered[int] -/
def cx130 : Ctx := ⟨T, G0, 28, [0, 1, 2, 3, 8, 9, 18]⟩
def kt130 : List (Nat × Nat) := [(1, 8)]
theorem ok130 : okCode kt130 (Tryz.f130.body.getD .skip) = true := by kernel_rfl
end Go.Proofs.YtkenimmellonjaaGreat
