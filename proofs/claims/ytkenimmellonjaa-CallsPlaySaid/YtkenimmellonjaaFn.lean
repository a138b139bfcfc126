/- A shell of a contract for each function of the program Ytkenimmellonjaa. -/
import Derived.Test.YtkenimmellonjaaTab
import Derived.Test.YtkenimmellonjaaFrD
import Derived.Shelf.Abstract
namespace Go.Proofs.Ytkenimmellonjaa
open Go.Pv Go.RowKit

def G0 : Gl := fun _ => .none
theorem mixed : Try.prog.follows .mixedOrders = true := by kernel_rfl
/-- gosem.cut.init -/
def cx2 : Ctx := ⟨T, G0, 1, []⟩
def kt2 : List (Nat × Nat) := []
theorem ok2 : okCode kt2 (Try.f2.body.getD .skip) = true := by kernel_rfl
/-- paternoster/paternosterlaw8.OrderTurns -/
def cx3 : Ctx := ⟨T, G0, 83, [0, 1, 4, 5, 6, 7, 8, 9, 10, 12, 14, 17, 20, 27, 45]⟩
def kt3 : List (Nat × Nat) := []
theorem ok3 : okCode kt3 (Try.f3.body.getD .skip) = true := by kernel_rfl
theorem con3 {args : List AV} {s : List (Nat × AB)} {R : AV → List (Nat × AB) → Prop} (n : Nat) (hle : Nat.ble args.length 83 = true) (hb : belowB n s = true) (h : vc Try.prog cx3 n kt3 (Try.f3.body.getD .skip) (argEnv 0 args) s (KV T Try.f3.results.toList n R)) : Contract Try.prog G0 3 args s R :=
  Contract.of_v (cx := cx3) tabOK mixed Try.func3 rfl (enters_of Try.func3 (by kernel_rfl) rfl) rfl ok3 (Nat.le_of_ble_eq_true hle) hb h
/-- paternoster/paternosterlaw8.OrderRing -/
def cx4 : Ctx := ⟨T, G0, 85, [0, 1, 4, 5, 6, 7, 8, 9, 10, 11, 12, 15, 23, 36, 48, 59, 71]⟩
def kt4 : List (Nat × Nat) := []
theorem ok4 : okCode kt4 (Try.f4.body.getD .skip) = true := by kernel_rfl
theorem con4 {args : List AV} {s : List (Nat × AB)} {R : AV → List (Nat × AB) → Prop} (n : Nat) (hle : Nat.ble args.length 85 = true) (hb : belowB n s = true) (h : vc Try.prog cx4 n kt4 (Try.f4.body.getD .skip) (argEnv 0 args) s (KV T Try.f4.results.toList n R)) : Contract Try.prog G0 4 args s R :=
  Contract.of_v (cx := cx4) tabOK mixed Try.func4 rfl (enters_of Try.func4 (by kernel_rfl) rfl) rfl ok4 (Nat.le_of_ble_eq_true hle) hb h
/-- paternoster/paternosterlaw11.CallsOrder -/
def cx5 : Ctx := ⟨T, G0, 106, [0, 1, 4, 5, 6, 7, 8, 9, 10, 11, 12, 15, 18, 28, 54, 81, 85, 94]⟩
def kt5 : List (Nat × Nat) := [(17, 20)]
theorem ok5 : okCode kt5 (Try.f5.body.getD .skip) = true := by kernel_rfl
/-- paternoster/paternosterlaw21.FoundSays -/
def cx6 : Ctx := ⟨T, G0, 70, [0, 1, 2, 3, 4, 7, 27]⟩
def kt6 : List (Nat × Nat) := [(7, 21)]
theorem ok6 : okCode kt6 (Try.f6.body.getD .skip) = true := by kernel_rfl
/-- paternoster/paternosterlaw21.FoundLeast -/
def cx7 : Ctx := ⟨T, G0, 118, [0, 1, 2, 3, 8, 9, 10, 11, 12, 13, 14, 15, 16, 17, 18, 21, 29, 38, 52, 58, 63, 81, 85, 89]⟩
def kt7 : List (Nat × Nat) := []
theorem ok7 : okCode kt7 (Try.f7.body.getD .skip) = true := by kernel_rfl
/-- paternoster/paternosterlaw21.FoundWaits -/
def cx8 : Ctx := ⟨T, G0, 115, [0, 1, 2, 3, 8, 9, 10, 11, 12, 13, 14, 15, 16, 19, 32, 74, 83, 95]⟩
def kt8 : List (Nat × Nat) := []
theorem ok8 : okCode kt8 (Try.f8.body.getD .skip) = true := by kernel_rfl
/-- paternoster/paternosterlaw8.OrderSays -/
def cx9 : Ctx := ⟨T, G0, 115, [0, 1, 2, 6, 7, 8, 9, 10, 11, 12, 13, 14, 15, 16, 19, 27, 51, 63]⟩
def kt9 : List (Nat × Nat) := []
theorem ok9 : okCode kt9 (Try.f9.body.getD .skip) = true := by kernel_rfl
/-- paternoster/paternosterlaw8.OrderSets -/
def cx10 : Ctx := ⟨T, G0, 123, [0, 1, 4, 5, 6, 7, 8, 9, 10, 11, 12, 15, 18, 25, 50, 54, 63, 75]⟩
def kt10 : List (Nat × Nat) := [(10, 20)]
theorem ok10 : okCode kt10 (Try.f10.body.getD .skip) = true := by kernel_rfl
/-- paternoster/paternosterlaw11.CallsKeep -/
def cx11 : Ctx := ⟨T, G0, 120, [0, 1, 4, 5, 6, 7, 8, 9, 10, 11, 12, 13, 14, 15, 16, 19, 27, 32, 47, 63, 64, 70, 81, 90]⟩
def kt11 : List (Nat × Nat) := []
theorem ok11 : okCode kt11 (Try.f11.body.getD .skip) = true := by kernel_rfl
/-- paternoster/paternosterlaw19.LedgerMine -/
def cx12 : Ctx := ⟨T, G0, 157, [0, 1, 2, 3, 4, 5, 6, 7, 8, 9, 10, 11, 12, 13, 15, 18, 21, 32, 49, 56, 75, 82, 87, 96, 105, 120]⟩
def kt12 : List (Nat × Nat) := [(11, 6), (19, 15), (32, 12)]
theorem ok12 : okCode kt12 (Try.f12.body.getD .skip) = true := by kernel_rfl
/-- paternoster/paternosterlaw11.CallsPlay -/
def cx13 : Ctx := ⟨T, G0, 169, [0, 1, 2, 4, 5, 6, 7, 8, 9, 10, 11, 12, 13, 14, 15, 16, 17, 18, 19, 20, 21, 22, 25, 28, 35, 45, 52, 53, 67, 69, 85, 87, 102, 121, 131, 140]⟩
def kt13 : List (Nat × Nat) := [(39, 6), (40, 5), (41, 19)]
theorem ok13 : okCode kt13 (Try.f13.body.getD .skip) = true := by kernel_rfl
/-- paternoster/paternosterlaw19.LedgerWants -/
def cx14 : Ctx := ⟨T, G0, 148, [0, 1, 2, 4, 5, 6, 7, 8, 9, 10, 11, 12, 13, 14, 15, 18, 21, 36, 47, 78, 97, 103, 108, 136]⟩
def kt14 : List (Nat × Nat) := [(19, 16), (28, 13)]
theorem ok14 : okCode kt14 (Try.f14.body.getD .skip) = true := by kernel_rfl
/-- paternoster/paternosterlaw19.LedgerPurges -/
def cx15 : Ctx := ⟨T, G0, 185, [0, 1, 2, 4, 5, 6, 7, 8, 9, 10, 11, 12, 13, 16, 25, 36, 47, 58, 92, 97, 102, 137, 141, 169]⟩
def kt15 : List (Nat × Nat) := [(27, 33), (32, 23)]
theorem ok15 : okCode kt15 (Try.f15.body.getD .skip) = true := by kernel_rfl
/-- paternoster/paternosterlaw19.LedgerFull -/
def cx16 : Ctx := ⟨T, G0, 130, [0, 1, 4, 5, 6, 7, 8, 9, 10, 13, 22, 48, 53, 95]⟩
def kt16 : List (Nat × Nat) := [(18, 33), (20, 26)]
theorem ok16 : okCode kt16 (Try.f16.body.getD .skip) = true := by kernel_rfl
/-- paternoster/paternosterlaw19.LedgerOnce -/
def cx17 : Ctx := ⟨T, G0, 388, [0, 1, 2, 3, 8, 9, 10, 11, 12, 13, 14, 15, 16, 17, 18, 19, 20, 21, 23, 24, 25, 26, 27, 28, 29, 30, 31, 32, 33, 36, 54, 59, 73, 78, 130, 142, 165, 171, 207, 217, 237, 245, 263, 271, 310, 315, 324, 361, 385]⟩
def kt17 : List (Nat × Nat) := [(19, 6), (21, 7), (31, 13), (32, 13), (40, 16), (46, 7), (51, 25), (57, 35)]
theorem ok17 : okCode kt17 (Try.f17.body.getD .skip) = true := by kernel_rfl
/-- paternoster/paternosterlaw8.first -/
def cx18 : Ctx := ⟨T, G0, 13, [0, 1, 2]⟩
def kt18 : List (Nat × Nat) := []
theorem ok18 : okCode kt18 (Try.f18.body.getD .skip) = true := by kernel_rfl
theorem con18 {args : List AV} {s : List (Nat × AB)} {R : AV → List (Nat × AB) → Prop} (n : Nat) (hle : Nat.ble args.length 13 = true) (hb : belowB n s = true) (h : vc Try.prog cx18 n kt18 (Try.f18.body.getD .skip) (argEnv 0 args) s (KV T Try.f18.results.toList n R)) : Contract Try.prog G0 18 args s R :=
  Contract.of_v (cx := cx18) tabOK mixed Try.func18 rfl (enters_of Try.func18 (by kernel_rfl) rfl) rfl ok18 (Nat.le_of_ble_eq_true hle) hb h
/-- paternoster/order.Set -/
def cx19 : Ctx := ⟨T, G0, 10, [0, 2, 3]⟩
def kt19 : List (Nat × Nat) := []
theorem ok19 : okCode kt19 (Try.f19.body.getD .skip) = true := by kernel_rfl
theorem conG19 {args : List AV} {s : List (Nat × AB)} {R : AV → List (Nat × AB) → Prop} (n : Nat) (hle : Nat.ble args.length 10 = true) (hb : belowB n s = true) (h : vc Try.prog cx19 n kt19 (Try.f19.body.getD .skip) (argEnv 0 args) s (KG cx19 Try.f19.results.toList n R)) : Contract Try.prog G0 19 args s R :=
  Contract.of_vG (cx := cx19) tabOK mixed Try.func19 rfl (enters_of Try.func19 (by kernel_rfl) rfl) rfl ok19 (Nat.le_of_ble_eq_true hle) hb h
/-- paternoster/order.Next -/
def cx20 : Ctx := ⟨T, G0, 20, [0, 1, 4, 5, 6, 11]⟩
def kt20 : List (Nat × Nat) := []
theorem ok20 : okCode kt20 (Try.f20.body.getD .skip) = true := by kernel_rfl
theorem con20 {args : List AV} {s : List (Nat × AB)} {R : AV → List (Nat × AB) → Prop} (n : Nat) (hle : Nat.ble args.length 20 = true) (hb : belowB n s = true) (h : vc Try.prog cx20 n kt20 (Try.f20.body.getD .skip) (argEnv 0 args) s (KV T Try.f20.results.toList n R)) : Contract Try.prog G0 20 args s R :=
  Contract.of_v (cx := cx20) tabOK mixed Try.func20 rfl (enters_of Try.func20 (by kernel_rfl) rfl) rfl ok20 (Nat.le_of_ble_eq_true hle) hb h
/-- paternoster/paternosterref.Among -/
def cx21 : Ctx := ⟨T, G0, 18, [0, 1, 4, 5, 9, 17]⟩
def kt21 : List (Nat × Nat) := []
theorem ok21 : okCode kt21 (Try.f21.body.getD .skip) = true := by kernel_rfl
theorem con21 {args : List AV} {s : List (Nat × AB)} {R : AV → List (Nat × AB) → Prop} (n : Nat) (hle : Nat.ble args.length 18 = true) (hb : belowB n s = true) (h : vc Try.prog cx21 n kt21 (Try.f21.body.getD .skip) (argEnv 0 args) s (KV T Try.f21.results.toList n R)) : Contract Try.prog G0 21 args s R :=
  Contract.of_v (cx := cx21) tabOK mixed Try.func21 rfl (enters_of Try.func21 (by kernel_rfl) rfl) rfl ok21 (Nat.le_of_ble_eq_true hle) hb h
/-- paternoster/order.Same -/
def cx22 : Ctx := ⟨T, G0, 8, [0, 1, 4]⟩
def kt22 : List (Nat × Nat) := []
theorem ok22 : okCode kt22 (Try.f22.body.getD .skip) = true := by kernel_rfl
theorem con22 {args : List AV} {s : List (Nat × AB)} {R : AV → List (Nat × AB) → Prop} (n : Nat) (hle : Nat.ble args.length 8 = true) (hb : belowB n s = true) (h : vc Try.prog cx22 n kt22 (Try.f22.body.getD .skip) (argEnv 0 args) s (KV T Try.f22.results.toList n R)) : Contract Try.prog G0 22 args s R :=
  Contract.of_v (cx := cx22) tabOK mixed Try.func22 rfl (enters_of Try.func22 (by kernel_rfl) rfl) rfl ok22 (Nat.le_of_ble_eq_true hle) hb h
/-- paternoster/order.Has -/
def cx23 : Ctx := ⟨T, G0, 8, [0, 1, 4]⟩
def kt23 : List (Nat × Nat) := []
theorem ok23 : okCode kt23 (Try.f23.body.getD .skip) = true := by kernel_rfl
theorem con23 {args : List AV} {s : List (Nat × AB)} {R : AV → List (Nat × AB) → Prop} (n : Nat) (hle : Nat.ble args.length 8 = true) (hb : belowB n s = true) (h : vc Try.prog cx23 n kt23 (Try.f23.body.getD .skip) (argEnv 0 args) s (KV T Try.f23.results.toList n R)) : Contract Try.prog G0 23 args s R :=
  Contract.of_v (cx := cx23) tabOK mixed Try.func23 rfl (enters_of Try.func23 (by kernel_rfl) rfl) rfl ok23 (Nat.le_of_ble_eq_true hle) hb h
/-- paternoster/paternosterworld.Number -/
def cx24 : Ctx := ⟨T, G0, 15, [0, 1, 4, 5, 10]⟩
def kt24 : List (Nat × Nat) := []
theorem ok24 : okCode kt24 (Try.f24.body.getD .skip) = true := by kernel_rfl
theorem con24 {args : List AV} {s : List (Nat × AB)} {R : AV → List (Nat × AB) → Prop} (n : Nat) (hle : Nat.ble args.length 15 = true) (hb : belowB n s = true) (h : vc Try.prog cx24 n kt24 (Try.f24.body.getD .skip) (argEnv 0 args) s (KV T Try.f24.results.toList n R)) : Contract Try.prog G0 24 args s R :=
  Contract.of_v (cx := cx24) tabOK mixed Try.func24 rfl (enters_of Try.func24 (by kernel_rfl) rfl) rfl ok24 (Nat.le_of_ble_eq_true hle) hb h
/-- paternoster/paternosterlaw11.first -/
def cx25 : Ctx := ⟨T, G0, 16, [0, 1, 2]⟩
def kt25 : List (Nat × Nat) := []
theorem ok25 : okCode kt25 (Try.f25.body.getD .skip) = true := by kernel_rfl
/-- (*paternoster/calls.Set).Put -/
def cx26 : Ctx := ⟨T, G0, 29, [0, 1, 3, 4, 5, 15]⟩
def kt26 : List (Nat × Nat) := [(4, 7)]
theorem ok26 : okCode kt26 (Try.f26.body.getD .skip) = true := by kernel_rfl
/-- (*paternoster/calls.Set).All -/
def cx27 : Ctx := ⟨T, G0, 9, [0, 2]⟩
def kt27 : List (Nat × Nat) := []
theorem ok27 : okCode kt27 (Try.f27.body.getD .skip) = true := by kernel_rfl
/-- paternoster/calls.Less -/
def cx28 : Ctx := ⟨T, G0, 9, [0, 1, 2, 3, 4]⟩
def kt28 : List (Nat × Nat) := []
theorem ok28 : okCode kt28 (Try.f28.body.getD .skip) = true := by kernel_rfl
/-- (*paternoster/calls.Set).Has -/
def cx29 : Ctx := ⟨T, G0, 17, [0, 1, 3, 4, 6]⟩
def kt29 : List (Nat × Nat) := [(1, 10)]
theorem ok29 : okCode kt29 (Try.f29.body.getD .skip) = true := by kernel_rfl
/-- paternoster/paternosterref.SameLatchs -/
def cx30 : Ctx := ⟨T, G0, 29, [0, 1, 4, 5, 6, 11, 15, 28]⟩
def kt30 : List (Nat × Nat) := [(6, 8)]
theorem ok30 : okCode kt30 (Try.f30.body.getD .skip) = true := by kernel_rfl
/-- paternoster/paternosterlaw21.first -/
def cx31 : Ctx := ⟨T, G0, 8, [0]⟩
def kt31 : List (Nat × Nat) := []
theorem ok31 : okCode kt31 (Try.f31.body.getD .skip) = true := by kernel_rfl
/-- paternoster/found.Should -/
def cx32 : Ctx := ⟨T, G0, 47, [0, 1, 2, 3, 4, 28]⟩
def kt32 : List (Nat × Nat) := [(3, 14), (5, 16)]
theorem ok32 : okCode kt32 (Try.f32.body.getD .skip) = true := by kernel_rfl
/-- paternoster/paternosterref18.Should -/
def cx33 : Ctx := ⟨T, G0, 42, [0, 1, 2, 3, 23]⟩
def kt33 : List (Nat × Nat) := [(2, 16), (4, 16)]
theorem ok33 : okCode kt33 (Try.f33.body.getD .skip) = true := by kernel_rfl
/-- paternoster/paternosterref.SameInts -/
def cx34 : Ctx := ⟨T, G0, 29, [0, 1, 4, 5, 6, 11, 15, 28]⟩
def kt34 : List (Nat × Nat) := [(6, 8)]
theorem ok34 : okCode kt34 (Try.f34.body.getD .skip) = true := by kernel_rfl
/-- paternoster/found.Members -/
def cx35 : Ctx := ⟨T, G0, 11, [0, 1, 2]⟩
def kt35 : List (Nat × Nat) := [(1, 6)]
theorem ok35 : okCode kt35 (Try.f35.body.getD .skip) = true := by kernel_rfl
/-- paternoster/paternosterref18.Members -/
def cx36 : Ctx := ⟨T, G0, 9, [0, 1, 2]⟩
def kt36 : List (Nat × Nat) := [(1, 5)]
theorem ok36 : okCode kt36 (Try.f36.body.getD .skip) = true := by kernel_rfl
/-- paternoster/found.Patience -/
def cx37 : Ctx := ⟨T, G0, 6, [0, 2]⟩
def kt37 : List (Nat × Nat) := []
theorem ok37 : okCode kt37 (Try.f37.body.getD .skip) = true := by kernel_rfl
/-- paternoster/paternosterref18.Patience -/
def cx38 : Ctx := ⟨T, G0, 6, [0, 2]⟩
def kt38 : List (Nat × Nat) := []
theorem ok38 : okCode kt38 (Try.f38.body.getD .skip) = true := by kernel_rfl
/-- paternoster/paternosterref.Put -/
def cx39 : Ctx := ⟨T, G0, 47, [0, 1, 4, 5, 6, 18, 32]⟩
def kt39 : List (Nat × Nat) := []
theorem ok39 : okCode kt39 (Try.f39.body.getD .skip) = true := by kernel_rfl
/-- paternoster/paternosterref6.Set -/
def cx40 : Ctx := ⟨T, G0, 18, [0, 2, 3, 4, 8]⟩
def kt40 : List (Nat × Nat) := []
theorem ok40 : okCode kt40 (Try.f40.body.getD .skip) = true := by kernel_rfl
/-- paternoster/paternosterref6.Next -/
def cx41 : Ctx := ⟨T, G0, 30, [0, 1, 4, 5, 6, 10, 14, 22]⟩
def kt41 : List (Nat × Nat) := []
theorem ok41 : okCode kt41 (Try.f41.body.getD .skip) = true := by kernel_rfl
/-- paternoster/order.Least -/
def cx42 : Ctx := ⟨T, G0, 9, [0, 2, 3, 6]⟩
def kt42 : List (Nat × Nat) := []
theorem ok42 : okCode kt42 (Try.f42.body.getD .skip) = true := by kernel_rfl
theorem con42 {args : List AV} {s : List (Nat × AB)} {R : AV → List (Nat × AB) → Prop} (n : Nat) (hle : Nat.ble args.length 9 = true) (hb : belowB n s = true) (h : vc Try.prog cx42 n kt42 (Try.f42.body.getD .skip) (argEnv 0 args) s (KV T Try.f42.results.toList n R)) : Contract Try.prog G0 42 args s R :=
  Contract.of_v (cx := cx42) tabOK mixed Try.func42 rfl (enters_of Try.func42 (by kernel_rfl) rfl) rfl ok42 (Nat.le_of_ble_eq_true hle) hb h
/-- paternoster/paternosterref.Ints -/
def cx43 : Ctx := ⟨T, G0, 22, [0, 2, 3, 4, 11]⟩
def kt43 : List (Nat × Nat) := []
theorem ok43 : okCode kt43 (Try.f43.body.getD .skip) = true := by kernel_rfl
theorem conG43 {args : List AV} {s : List (Nat × AB)} {R : AV → List (Nat × AB) → Prop} (n : Nat) (hle : Nat.ble args.length 22 = true) (hb : belowB n s = true) (h : vc Try.prog cx43 n kt43 (Try.f43.body.getD .skip) (argEnv 0 args) s (KG cx43 Try.f43.results.toList n R)) : Contract Try.prog G0 43 args s R :=
  Contract.of_vG (cx := cx43) tabOK mixed Try.func43 rfl (enters_of Try.func43 (by kernel_rfl) rfl) rfl ok43 (Nat.le_of_ble_eq_true hle) hb h
/-- (*paternoster/calls.Set).Keep -/
def cx44 : Ctx := ⟨T, G0, 30, [0, 1, 4, 5, 6, 7, 12, 14, 21]⟩
def kt44 : List (Nat × Nat) := [(6, 5)]
theorem ok44 : okCode kt44 (Try.f44.body.getD .skip) = true := by kernel_rfl
/-- paternoster/paternosterref.HasLatch -/
def cx45 : Ctx := ⟨T, G0, 18, [0, 1, 3, 4, 5, 9, 17]⟩
def kt45 : List (Nat × Nat) := [(4, 5)]
theorem ok45 : okCode kt45 (Try.f45.body.getD .skip) = true := by kernel_rfl
/-- (*paternoster/calls.Set).Len -/
def cx46 : Ctx := ⟨T, G0, 8, [0, 2]⟩
def kt46 : List (Nat × Nat) := []
theorem ok46 : okCode kt46 (Try.f46.body.getD .skip) = true := by kernel_rfl
/-- paternoster/paternosterlaw19.first -/
def cx47 : Ctx := ⟨T, G0, 28, [0, 1, 3]⟩
def kt47 : List (Nat × Nat) := []
theorem ok47 : okCode kt47 (Try.f47.body.getD .skip) = true := by kernel_rfl
/-- paternoster/paternosterlaw19.light -/
def cx48 : Ctx := ⟨T, G0, 34, [0, 1, 2, 3, 8, 18]⟩
def kt48 : List (Nat × Nat) := []
theorem ok48 : okCode kt48 (Try.f48.body.getD .skip) = true := by kernel_rfl
/-- paternoster/ledger.Award -/
def cx49 : Ctx := ⟨T, G0, 61, [0, 1, 2, 3, 4, 5, 6, 7, 8, 13, 14, 15, 45]⟩
def kt49 : List (Nat × Nat) := [(8, 15), (12, 3)]
theorem ok49 : okCode kt49 (Try.f49.body.getD .skip) = true := by kernel_rfl
/-- paternoster/ledger.Mine -/
def cx50 : Ctx := ⟨T, G0, 31, [0, 1, 2, 4, 5, 7, 9, 10, 11, 12, 23]⟩
def kt50 : List (Nat × Nat) := []
theorem ok50 : okCode kt50 (Try.f50.body.getD .skip) = true := by kernel_rfl
/-- (*paternoster/calls.Set).Clone -/
def cx51 : Ctx := ⟨T, G0, 10, [0, 2]⟩
def kt51 : List (Nat × Nat) := []
theorem ok51 : okCode kt51 (Try.f51.body.getD .skip) = true := by kernel_rfl
/-- paternoster/paternosterref6.PutLatch -/
def cx52 : Ctx := ⟨T, G0, 57, [0, 1, 3, 4, 5, 6, 7, 8, 22, 48]⟩
def kt52 : List (Nat × Nat) := [(2, 12), (4, 6), (5, 12)]
theorem ok52 : okCode kt52 (Try.f52.body.getD .skip) = true := by kernel_rfl
/-- paternoster/paternosterref6.DelLatch -/
def cx53 : Ctx := ⟨T, G0, 35, [0, 1, 3, 4, 5, 6, 7, 11, 21]⟩
def kt53 : List (Nat × Nat) := [(5, 6)]
theorem ok53 : okCode kt53 (Try.f53.body.getD .skip) = true := by kernel_rfl
/-- (*paternoster/calls.Set).Del -/
def cx54 : Ctx := ⟨T, G0, 15, [0, 1, 3, 4, 5]⟩
def kt54 : List (Nat × Nat) := [(2, 5)]
theorem ok54 : okCode kt54 (Try.f54.body.getD .skip) = true := by kernel_rfl
/-- paternoster/paternosterref6.KeepLatch -/
def cx55 : Ctx := ⟨T, G0, 27, [0, 1, 4, 5, 6, 10, 18]⟩
def kt55 : List (Nat × Nat) := []
theorem ok55 : okCode kt55 (Try.f55.body.getD .skip) = true := by kernel_rfl
/-- (*paternoster/calls.Set).Get -/
def cx56 : Ctx := ⟨T, G0, 19, [0, 1, 3, 4, 5, 6, 7]⟩
def kt56 : List (Nat × Nat) := [(1, 10)]
theorem ok56 : okCode kt56 (Try.f56.body.getD .skip) = true := by kernel_rfl
/-- paternoster/paternosterref.SameCall -/
def cx57 : Ctx := ⟨T, G0, 17, [0, 1, 2, 3, 4]⟩
def kt57 : List (Nat × Nat) := []
theorem ok57 : okCode kt57 (Try.f57.body.getD .skip) = true := by kernel_rfl
/-- paternoster/paternosterref.SameLatch -/
def cx58 : Ctx := ⟨T, G0, 17, [0, 1, 2, 3, 4]⟩
def kt58 : List (Nat × Nat) := []
theorem ok58 : okCode kt58 (Try.f58.body.getD .skip) = true := by kernel_rfl
/-- paternoster/paternosterref1.LessCall -/
def cx59 : Ctx := ⟨T, G0, 24, [0, 1, 2, 3, 4]⟩
def kt59 : List (Nat × Nat) := []
theorem ok59 : okCode kt59 (Try.f59.body.getD .skip) = true := by kernel_rfl
/-- paternoster/ledger.Wants -/
def cx60 : Ctx := ⟨T, G0, 44, [0, 1, 2, 4, 5, 7, 9, 14, 16, 17, 18, 19, 35]⟩
def kt60 : List (Nat × Nat) := []
theorem ok60 : okCode kt60 (Try.f60.body.getD .skip) = true := by kernel_rfl
/-- paternoster/ledger.Bid -/
def cx61 : Ctx := ⟨T, G0, 65, [0, 1, 2, 3, 4, 5, 6, 7, 8, 9, 10, 44]⟩
def kt61 : List (Nat × Nat) := [(5, 11)]
theorem ok61 : okCode kt61 (Try.f61.body.getD .skip) = true := by kernel_rfl
/-- paternoster/ledger.Purge -/
def cx62 : Ctx := ⟨T, G0, 13, [0, 1, 2, 3, 4]⟩
def kt62 : List (Nat × Nat) := []
theorem ok62 : okCode kt62 (Try.f62.body.getD .skip) = true := by kernel_rfl
/-- paternoster/ledger.Add -/
def cx63 : Ctx := ⟨T, G0, 50, [0, 1, 2, 4, 6, 7, 14, 15, 16, 17, 30, 36]⟩
def kt63 : List (Nat × Nat) := []
theorem ok63 : okCode kt63 (Try.f63.body.getD .skip) = true := by kernel_rfl
/-- paternoster/paternosterref.SameEntry -/
def cx64 : Ctx := ⟨T, G0, 24, [0, 1, 2, 3, 4]⟩
def kt64 : List (Nat × Nat) := []
theorem ok64 : okCode kt64 (Try.f64.body.getD .skip) = true := by kernel_rfl
/-- paternoster/ledger.New -/
def cx65 : Ctx := ⟨T, G0, 9, [0, 1, 2, 4]⟩
def kt65 : List (Nat × Nat) := [(1, 3)]
theorem ok65 : okCode kt65 (Try.f65.body.getD .skip) = true := by kernel_rfl
/-- paternoster/ledger.Pass -/
def cx66 : Ctx := ⟨T, G0, 15, [0, 1, 2, 3, 8]⟩
def kt66 : List (Nat × Nat) := []
theorem ok66 : okCode kt66 (Try.f66.body.getD .skip) = true := by kernel_rfl
/-- slices.Clone[[]int,int] -/
def cx67 : Ctx := ⟨T, G0, 8, [0, 2, 4]⟩
def kt67 : List (Nat × Nat) := []
theorem ok67 : okCode kt67 (Try.f67.body.getD .skip) = true := by kernel_rfl
theorem con67 {args : List AV} {s : List (Nat × AB)} {R : AV → List (Nat × AB) → Prop} (n : Nat) (hle : Nat.ble args.length 8 = true) (hb : belowB n s = true) (h : vc Try.prog cx67 n kt67 (Try.f67.body.getD .skip) (argEnv 0 args) s (KV T Try.f67.results.toList n R)) : Contract Try.prog G0 67 args s R :=
  Contract.of_v (cx := cx67) tabOK mixed Try.func67 rfl (enters_of Try.func67 (by kernel_rfl) rfl) rfl ok67 (Nat.le_of_ble_eq_true hle) hb h
/-- slices.Sort[[]int,int] -/
def cx68 : Ctx := ⟨T, G0, 11, [0, 2]⟩
def kt68 : List (Nat × Nat) := []
theorem ok68 : okCode kt68 (Try.f68.body.getD .skip) = true := by kernel_rfl
/-- slices.Compact[[]int,int] -/
def cx69 : Ctx := ⟨T, G0, 61, [0, 2, 3, 4, 5, 8, 13, 25, 32, 44]⟩
def kt69 : List (Nat × Nat) := [(6, 9), (11, 9)]
theorem ok69 : okCode kt69 (Try.f69.body.getD .skip) = true := by kernel_rfl
theorem con69 {args : List AV} {s : List (Nat × AB)} {R : AV → List (Nat × AB) → Prop} (n : Nat) (hle : Nat.ble args.length 61 = true) (hb : belowB n s = true) (h : vc Try.prog cx69 n kt69 (Try.f69.body.getD .skip) (argEnv 0 args) s (KV T Try.f69.results.toList n R)) : Contract Try.prog G0 69 args s R :=
  Contract.of_v (cx := cx69) tabOK mixed Try.func69 rfl (enters_of Try.func69 (by kernel_rfl) rfl) rfl ok69 (Nat.le_of_ble_eq_true hle) hb h
/-- slices.Index[[]int,int] -/
def cx70 : Ctx := ⟨T, G0, 19, [0, 1, 4, 5, 7, 8, 9, 16]⟩
def kt70 : List (Nat × Nat) := []
theorem ok70 : okCode kt70 (Try.f70.body.getD .skip) = true := by kernel_rfl
theorem con70 {args : List AV} {s : List (Nat × AB)} {R : AV → List (Nat × AB) → Prop} (n : Nat) (hle : Nat.ble args.length 19 = true) (hb : belowB n s = true) (h : vc Try.prog cx70 n kt70 (Try.f70.body.getD .skip) (argEnv 0 args) s (KV T Try.f70.results.toList n R)) : Contract Try.prog G0 70 args s R :=
  Contract.of_v (cx := cx70) tabOK mixed Try.func70 rfl (enters_of Try.func70 (by kernel_rfl) rfl) rfl ok70 (Nat.le_of_ble_eq_true hle) hb h
/-- slices.Equal[[]int,int] -/
def cx71 : Ctx := ⟨T, G0, 26, [0, 1, 4, 5, 10, 12, 13, 14, 24]⟩
def kt71 : List (Nat × Nat) := [(6, 8)]
theorem ok71 : okCode kt71 (Try.f71.body.getD .skip) = true := by kernel_rfl
theorem con71 {args : List AV} {s : List (Nat × AB)} {R : AV → List (Nat × AB) → Prop} (n : Nat) (hle : Nat.ble args.length 26 = true) (hb : belowB n s = true) (h : vc Try.prog cx71 n kt71 (Try.f71.body.getD .skip) (argEnv 0 args) s (KV T Try.f71.results.toList n R)) : Contract Try.prog G0 71 args s R :=
  Contract.of_v (cx := cx71) tabOK mixed Try.func71 rfl (enters_of Try.func71 (by kernel_rfl) rfl) rfl ok71 (Nat.le_of_ble_eq_true hle) hb h
/-- slices.Contains[[]int,int] -/
def cx72 : Ctx := ⟨T, G0, 9, [0, 1, 4]⟩
def kt72 : List (Nat × Nat) := []
theorem ok72 : okCode kt72 (Try.f72.body.getD .skip) = true := by kernel_rfl
theorem con72 {args : List AV} {s : List (Nat × AB)} {R : AV → List (Nat × AB) → Prop} (n : Nat) (hle : Nat.ble args.length 9 = true) (hb : belowB n s = true) (h : vc Try.prog cx72 n kt72 (Try.f72.body.getD .skip) (argEnv 0 args) s (KV T Try.f72.results.toList n R)) : Contract Try.prog G0 72 args s R :=
  Contract.of_v (cx := cx72) tabOK mixed Try.func72 rfl (enters_of Try.func72 (by kernel_rfl) rfl) rfl ok72 (Nat.le_of_ble_eq_true hle) hb h
/-- slices.SortedFunc[paternoster/api.Latch] -/
def cx73 : Ctx := ⟨T, G0, 12, [0, 1, 4, 5]⟩
def kt73 : List (Nat × Nat) := []
theorem ok73 : okCode kt73 (Try.f73.body.getD .skip) = true := by kernel_rfl
/-- maps.Values[map[paternoster/api.Call]paternoster/api.Latch,paternoster/api.Call,paternoster/api.Latch] -/
def cx74 : Ctx := ⟨T, G0, 4, [0, 1, 2]⟩
def kt74 : List (Nat × Nat) := []
theorem ok74 : okCode kt74 (Try.f74.body.getD .skip) = true := by kernel_rfl
/-- (*paternoster/calls.Set).All$1 -/
def cx75 : Ctx := ⟨T, G0, 10, [0, 1, 2, 3, 4]⟩
def kt75 : List (Nat × Nat) := []
theorem ok75 : okCode kt75 (Try.f75.body.getD .skip) = true := by kernel_rfl
/-- paternoster/calls.compare -/
def cx76 : Ctx := ⟨T, G0, 17, [0, 1, 2, 3, 4]⟩
def kt76 : List (Nat × Nat) := [(1, 9)]
theorem ok76 : okCode kt76 (Try.f76.body.getD .skip) = true := by kernel_rfl
/-- slices.Min[[]int,int] -/
def cx77 : Ctx := ⟨T, G0, 25, [0, 2, 3, 4, 7, 15]⟩
def kt77 : List (Nat × Nat) := []
theorem ok77 : okCode kt77 (Try.f77.body.getD .skip) = true := by kernel_rfl
theorem con77 {args : List AV} {s : List (Nat × AB)} {R : AV → List (Nat × AB) → Prop} (n : Nat) (hle : Nat.ble args.length 25 = true) (hb : belowB n s = true) (h : vc Try.prog cx77 n kt77 (Try.f77.body.getD .skip) (argEnv 0 args) s (KV T Try.f77.results.toList n R)) : Contract Try.prog G0 77 args s R :=
  Contract.of_v (cx := cx77) tabOK mixed Try.func77 rfl (enters_of Try.func77 (by kernel_rfl) rfl) rfl ok77 (Nat.le_of_ble_eq_true hle) hb h
/-- slices.Contains[[]paternoster/api.Latch,paternoster/api.Latch] -/
def cx78 : Ctx := ⟨T, G0, 9, [0, 1, 3, 4]⟩
def kt78 : List (Nat × Nat) := []
theorem ok78 : okCode kt78 (Try.f78.body.getD .skip) = true := by kernel_rfl
/-- paternoster/paternosterref1.ValidRing -/
def cx79 : Ctx := ⟨T, G0, 149, [0, 1, 2, 3, 4, 5, 6, 7, 8, 9, 23, 38, 41, 50, 53, 67, 72, 125, 140, 147]⟩
def kt79 : List (Nat × Nat) := [(14, 11), (23, 12)]
theorem ok79 : okCode kt79 (Try.f79.body.getD .skip) = true := by kernel_rfl
/-- paternoster/ledger.own -/
def cx80 : Ctx := ⟨T, G0, 12, [0, 1, 2]⟩
def kt80 : List (Nat × Nat) := []
theorem ok80 : okCode kt80 (Try.f80.body.getD .skip) = true := by kernel_rfl
/-- paternoster/bid.Least -/
def cx81 : Ctx := ⟨T, G0, 26, [0, 2, 3, 4, 6, 9, 14, 15, 16, 17, 22]⟩
def kt81 : List (Nat × Nat) := []
theorem ok81 : okCode kt81 (Try.f81.body.getD .skip) = true := by kernel_rfl
/-- paternoster/bid.Full -/
def cx82 : Ctx := ⟨T, G0, 9, [0, 1, 3, 4]⟩
def kt82 : List (Nat × Nat) := []
theorem ok82 : okCode kt82 (Try.f82.body.getD .skip) = true := by kernel_rfl
/-- paternoster/ledger.entries -/
def cx83 : Ctx := ⟨T, G0, 24, [0, 2, 3, 4, 8, 9, 10]⟩
def kt83 : List (Nat × Nat) := []
theorem ok83 : okCode kt83 (Try.f83.body.getD .skip) = true := by kernel_rfl
/-- maps.Clone[map[paternoster/api.Call]paternoster/api.Latch,paternoster/api.Call,paternoster/api.Latch] -/
def cx84 : Ctx := ⟨T, G0, 9, [0, 2, 4]⟩
def kt84 : List (Nat × Nat) := []
theorem ok84 : okCode kt84 (Try.f84.body.getD .skip) = true := by kernel_rfl
/-- paternoster/paternosterref.Latchs -/
def cx85 : Ctx := ⟨T, G0, 22, [0, 2, 3, 4, 11]⟩
def kt85 : List (Nat × Nat) := []
theorem ok85 : okCode kt85 (Try.f85.body.getD .skip) = true := by kernel_rfl
/-- paternoster/bid.Of -/
def cx86 : Ctx := ⟨T, G0, 17, [0, 1, 4, 5, 6, 11]⟩
def kt86 : List (Nat × Nat) := []
theorem ok86 : okCode kt86 (Try.f86.body.getD .skip) = true := by kernel_rfl
/-- paternoster/ledger.at -/
def cx87 : Ctx := ⟨T, G0, 9, [0, 1, 2, 3, 4]⟩
def kt87 : List (Nat × Nat) := []
theorem ok87 : okCode kt87 (Try.f87.body.getD .skip) = true := by kernel_rfl
/-- paternoster/bid.Put -/
def cx88 : Ctx := ⟨T, G0, 28, [0, 1, 3, 4, 5, 6, 7, 14, 20]⟩
def kt88 : List (Nat × Nat) := []
theorem ok88 : okCode kt88 (Try.f88.body.getD .skip) = true := by kernel_rfl
/-- slices.DeleteFunc[[]paternoster/api.Entry,paternoster/api.Entry] -/
def cx89 : Ctx := ⟨T, G0, 42, [0, 1, 4, 5, 6, 7, 12, 19, 29]⟩
def kt89 : List (Nat × Nat) := []
theorem ok89 : okCode kt89 (Try.f89.body.getD .skip) = true := by kernel_rfl
/-- paternoster/ledger.Purge$1 -/
def cx90 : Ctx := ⟨T, G0, 9, [0, 1, 2, 3]⟩
def kt90 : List (Nat × Nat) := []
theorem ok90 : okCode kt90 (Try.f90.body.getD .skip) = true := by kernel_rfl
/-- slices.Clone[[]paternoster/api.Latch,paternoster/api.Latch] -/
def cx91 : Ctx := ⟨T, G0, 8, [0, 2, 4]⟩
def kt91 : List (Nat × Nat) := []
theorem ok91 : okCode kt91 (Try.f91.body.getD .skip) = true := by kernel_rfl
/-- slices.SortStableFunc[[]paternoster/api.Latch,paternoster/api.Latch] -/
def cx92 : Ctx := ⟨T, G0, 9, [0, 1]⟩
def kt92 : List (Nat × Nat) := []
theorem ok92 : okCode kt92 (Try.f92.body.getD .skip) = true := by kernel_rfl
/-- paternoster/ledger.Add$1 -/
def cx93 : Ctx := ⟨T, G0, 21, [0, 1, 2, 3, 4]⟩
def kt93 : List (Nat × Nat) := [(1, 13)]
theorem ok93 : okCode kt93 (Try.f93.body.getD .skip) = true := by kernel_rfl
/-- cmp.Or[int] -/
def cx94 : Ctx := ⟨T, G0, 18, [0, 2, 3, 5, 6, 7, 8, 9, 14]⟩
def kt94 : List (Nat × Nat) := []
theorem ok94 : okCode kt94 (Try.f94.body.getD .skip) = true := by kernel_rfl
/-- cmp.Compare[int] -/
def cx95 : Ctx := ⟨T, G0, 20, [0, 1, 4, 5, 6, 11, 12, 13, 16, 19]⟩
def kt95 : List (Nat × Nat) := []
theorem ok95 : okCode kt95 (Try.f95.body.getD .skip) = true := by kernel_rfl
/-- slices.IndexFunc[[]paternoster/api.Entry,paternoster/api.Entry] -/
def cx96 : Ctx := ⟨T, G0, 19, [0, 1, 4, 5, 7, 8, 9, 16]⟩
def kt96 : List (Nat × Nat) := []
theorem ok96 : okCode kt96 (Try.f96.body.getD .skip) = true := by kernel_rfl
/-- paternoster/ledger.Add$2 -/
def cx97 : Ctx := ⟨T, G0, 10, [0, 1, 2, 3]⟩
def kt97 : List (Nat × Nat) := []
theorem ok97 : okCode kt97 (Try.f97.body.getD .skip) = true := by kernel_rfl
/-- slices.Insert[[]paternoster/api.Entry,paternoster/api.Entry] -/
def cx98 : Ctx := ⟨T, G0, 95, [0, 1, 2, 6, 7, 8, 9, 16, 22, 31, 68]⟩
def kt98 : List (Nat × Nat) := [(11, 8), (15, 8)]
theorem ok98 : okCode kt98 (Try.f98.body.getD .skip) = true := by kernel_rfl
/-- paternoster/paternosterref.SameBids -/
def cx99 : Ctx := ⟨T, G0, 29, [0, 1, 4, 5, 6, 11, 15, 28]⟩
def kt99 : List (Nat × Nat) := [(6, 8)]
theorem ok99 : okCode kt99 (Try.f99.body.getD .skip) = true := by kernel_rfl
/-- slices.pdqsortOrdered[int] -/
def cx100 : Ctx := ⟨T, G0, 134, [0, 1, 2, 3, 8, 9, 10, 11, 12, 13, 14, 15, 16, 17, 18, 23, 29, 35, 50, 68, 72, 87, 113]⟩
def kt100 : List (Nat × Nat) := [(17, 12)]
theorem ok100 : okCode kt100 (Try.f100.body.getD .skip) = true := by kernel_rfl
/-- math/bits.Len -/
def cx101 : Ctx := ⟨T, G0, 8, [0, 2]⟩
def kt101 : List (Nat × Nat) := []
theorem ok101 : okCode kt101 (Try.f101.body.getD .skip) = true := by kernel_rfl
/-- slices.Collect[paternoster/api.Latch] -/
def cx102 : Ctx := ⟨T, G0, 5, [0, 2]⟩
def kt102 : List (Nat × Nat) := []
theorem ok102 : okCode kt102 (Try.f102.body.getD .skip) = true := by kernel_rfl
/-- slices.SortFunc[[]paternoster/api.Latch,paternoster/api.Latch] -/
def cx103 : Ctx := ⟨T, G0, 14, [0, 1, 4]⟩
def kt103 : List (Nat × Nat) := []
theorem ok103 : okCode kt103 (Try.f103.body.getD .skip) = true := by kernel_rfl
/-- maps.Values[map[paternoster/api.Call]paternoster/api.Latch,paternoster/api.Call,paternoster/api.Latch]$1 -/
def cx104 : Ctx := ⟨T, G0, 15, [0, 1, 4, 6, 8, 14]⟩
def kt104 : List (Nat × Nat) := []
theorem ok104 : okCode kt104 (Try.f104.body.getD .skip) = true := by kernel_rfl
/-- slices.Index[[]paternoster/api.Latch,paternoster/api.Latch] -/
def cx105 : Ctx := ⟨T, G0, 19, [0, 1, 3, 4, 5, 7, 8, 9, 16]⟩
def kt105 : List (Nat × Nat) := [(4, 5)]
theorem ok105 : okCode kt105 (Try.f105.body.getD .skip) = true := by kernel_rfl
/-- paternoster/paternosterref1.ValidEpoch -/
def cx106 : Ctx := ⟨T, G0, 21, [0, 1, 2]⟩
def kt106 : List (Nat × Nat) := []
theorem ok106 : okCode kt106 (Try.f106.body.getD .skip) = true := by kernel_rfl
/-- paternoster/paternosterref1.car -/
def cx107 : Ctx := ⟨T, G0, 9, [0, 2]⟩
def kt107 : List (Nat × Nat) := []
theorem ok107 : okCode kt107 (Try.f107.body.getD .skip) = true := by kernel_rfl
/-- paternoster/paternosterref1.validBids -/
def cx108 : Ctx := ⟨T, G0, 60, [0, 1, 4, 5, 6, 11, 15, 41, 45, 59]⟩
def kt108 : List (Nat × Nat) := [(11, 11)]
theorem ok108 : okCode kt108 (Try.f108.body.getD .skip) = true := by kernel_rfl
/-- paternoster/bid.Less -/
def cx109 : Ctx := ⟨T, G0, 24, [0, 1, 2, 3, 4]⟩
def kt109 : List (Nat × Nat) := []
theorem ok109 : okCode kt109 (Try.f109.body.getD .skip) = true := by kernel_rfl
/-- slices.ContainsFunc[[]int,int] -/
def cx110 : Ctx := ⟨T, G0, 9, [0, 1, 4]⟩
def kt110 : List (Nat × Nat) := []
theorem ok110 : okCode kt110 (Try.f110.body.getD .skip) = true := by kernel_rfl
/-- paternoster/bid.Full$1 -/
def cx111 : Ctx := ⟨T, G0, 8, [0, 1, 3]⟩
def kt111 : List (Nat × Nat) := []
theorem ok111 : okCode kt111 (Try.f111.body.getD .skip) = true := by kernel_rfl
/-- paternoster/bid.at -/
def cx112 : Ctx := ⟨T, G0, 8, [0, 1, 3, 4]⟩
def kt112 : List (Nat × Nat) := []
theorem ok112 : okCode kt112 (Try.f112.body.getD .skip) = true := by kernel_rfl
/-- slices.Clone[[]paternoster/api.Entry,paternoster/api.Entry] -/
def cx113 : Ctx := ⟨T, G0, 8, [0, 2, 4]⟩
def kt113 : List (Nat × Nat) := []
theorem ok113 : okCode kt113 (Try.f113.body.getD .skip) = true := by kernel_rfl
/-- slices.Clone[[]paternoster/api.Bid,paternoster/api.Bid] -/
def cx114 : Ctx := ⟨T, G0, 8, [0, 2, 4]⟩
def kt114 : List (Nat × Nat) := []
theorem ok114 : okCode kt114 (Try.f114.body.getD .skip) = true := by kernel_rfl
/-- paternoster/ledger.at$1 -/
def cx116 : Ctx := ⟨T, G0, 9, [0, 1, 2, 3]⟩
def kt116 : List (Nat × Nat) := []
theorem ok116 : okCode kt116 (Try.f116.body.getD .skip) = true := by kernel_rfl
/-- slices.IndexFunc[[]paternoster/api.Bid,paternoster/api.Bid] -/
def cx117 : Ctx := ⟨T, G0, 19, [0, 1, 4, 5, 7, 8, 9, 16]⟩
def kt117 : List (Nat × Nat) := []
theorem ok117 : okCode kt117 (Try.f117.body.getD .skip) = true := by kernel_rfl
/-- paternoster/bid.Put$1 -/
def cx118 : Ctx := ⟨T, G0, 9, [0, 1, 2, 3]⟩
def kt118 : List (Nat × Nat) := []
theorem ok118 : okCode kt118 (Try.f118.body.getD .skip) = true := by kernel_rfl
/-- slices.Insert[[]paternoster/api.Bid,paternoster/api.Bid] -/
def cx119 : Ctx := ⟨T, G0, 95, [0, 1, 2, 6, 7, 8, 9, 16, 22, 31, 68]⟩
def kt119 : List (Nat × Nat) := [(11, 8), (15, 8)]
theorem ok119 : okCode kt119 (Try.f119.body.getD .skip) = true := by kernel_rfl
/-- slices.stableCmpFunc[paternoster/api.Latch] -/
def cx120 : Ctx := ⟨T, G0, 63, [0, 1, 2, 6, 7, 8, 9, 13, 30, 35, 54]⟩
def kt120 : List (Nat × Nat) := []
theorem ok120 : okCode kt120 (Try.f120.body.getD .skip) = true := by kernel_rfl
/-- cmp.isNaN[int] -/
def cx121 : Ctx := ⟨T, G0, 6, [0, 2]⟩
def kt121 : List (Nat × Nat) := []
theorem ok121 : okCode kt121 (Try.f121.body.getD .skip) = true := by kernel_rfl
/-- slices.rotateRight[paternoster/api.Entry] -/
def cx123 : Ctx := ⟨T, G0, 10, [0, 1]⟩
def kt123 : List (Nat × Nat) := []
theorem ok123 : okCode kt123 (Try.f123.body.getD .skip) = true := by kernel_rfl
/-- paternoster/paternosterref.SameBid -/
def cx124 : Ctx := ⟨T, G0, 17, [0, 1, 2, 3, 4]⟩
def kt124 : List (Nat × Nat) := []
theorem ok124 : okCode kt124 (Try.f124.body.getD .skip) = true := by kernel_rfl
/-- slices.insertionSortOrdered[int] -/
def cx125 : Ctx := ⟨T, G0, 49, [0, 1, 2, 6, 7, 12, 30]⟩
def kt125 : List (Nat × Nat) := [(4, 13), (6, 16)]
theorem ok125 : okCode kt125 (Try.f125.body.getD .skip) = true := by kernel_rfl
/-- slices.heapSortOrdered[int] -/
def cx126 : Ctx := ⟨T, G0, 56, [0, 1, 2, 6, 7, 8, 9, 10, 19, 30]⟩
def kt126 : List (Nat × Nat) := [(10, 18)]
theorem ok126 : okCode kt126 (Try.f126.body.getD .skip) = true := by kernel_rfl
/-- slices.breakPatternsOrdered[int] -/
def cx127 : Ctx := ⟨T, G0, 65, [0, 1, 2, 6, 7, 8, 9, 10, 15, 33, 43]⟩
def kt127 : List (Nat × Nat) := [(10, 18)]
theorem ok127 : okCode kt127 (Try.f127.body.getD .skip) = true := by kernel_rfl
/-- slices.choosePivotOrdered[int] -/
def cx128 : Ctx := ⟨T, G0, 57, [0, 1, 2, 6, 7, 8, 9, 10, 11, 12, 32, 34, 49, 51, 54]⟩
def kt128 : List (Nat × Nat) := []
theorem ok128 : okCode kt128 (Try.f128.body.getD .skip) = true := by kernel_rfl
/-- slices.reverseRangeOrdered[int] -/
def cx129 : Ctx := ⟨T, G0, 32, [0, 1, 2, 6, 7, 13]⟩
def kt129 : List (Nat × Nat) := [(3, 12)]
theorem ok129 : okCode kt129 (Try.f129.body.getD .skip) = true := by kernel_rfl
/-- slices.partialInsertionSortOrdered[int] -/
def cx130 : Ctx := ⟨T, G0, 133, [0, 1, 2, 6, 7, 8, 9, 10, 14, 32, 37, 41, 61, 65, 78, 98, 103, 116]⟩
def kt130 : List (Nat × Nat) := [(5, 13), (11, 16), (16, 9), (17, 16), (22, 9), (23, 16)]
theorem ok130 : okCode kt130 (Try.f130.body.getD .skip) = true := by kernel_rfl
/-- cmp.Less[int] -/
def cx131 : Ctx := ⟨T, G0, 17, [0, 1, 4]⟩
def kt131 : List (Nat × Nat) := []
theorem ok131 : okCode kt131 (Try.f131.body.getD .skip) = true := by kernel_rfl
/-- slices.partitionEqualOrdered[int] -/
def cx132 : Ctx := ⟨T, G0, 84, [0, 1, 2, 3, 8, 9, 10, 43, 59, 64]⟩
def kt132 : List (Nat × Nat) := [(1, 12), (3, 12), (5, 12), (8, 12)]
theorem ok132 : okCode kt132 (Try.f132.body.getD .skip) = true := by kernel_rfl
/-- slices.partitionOrdered[int] -/
def cx133 : Ctx := ⟨T, G0, 168, [0, 1, 2, 3, 8, 9, 10, 11, 43, 60, 65, 112, 129, 134]⟩
def kt133 : List (Nat × Nat) := [(1, 12), (3, 12), (5, 12), (8, 12), (10, 12), (13, 12), (15, 12), (18, 12), (21, 12)]
theorem ok133 : okCode kt133 (Try.f133.body.getD .skip) = true := by kernel_rfl
/-- math/bits.Len32 -/
def cx134 : Ctx := ⟨T, G0, 19, [0, 2, 4, 8]⟩
def kt134 : List (Nat × Nat) := []
theorem ok134 : okCode kt134 (Try.f134.body.getD .skip) = true := by kernel_rfl
/-- math/bits.Len64 -/
def cx135 : Ctx := ⟨T, G0, 25, [0, 2, 4, 8, 14]⟩
def kt135 : List (Nat × Nat) := []
theorem ok135 : okCode kt135 (Try.f135.body.getD .skip) = true := by kernel_rfl
/-- slices.AppendSeq[[]paternoster/api.Latch,paternoster/api.Latch] -/
def cx136 : Ctx := ⟨T, G0, 13, [0, 1, 2, 4, 5, 6]⟩
def kt136 : List (Nat × Nat) := []
theorem ok136 : okCode kt136 (Try.f136.body.getD .skip) = true := by kernel_rfl
/-- slices.pdqsortCmpFunc[paternoster/api.Latch] -/
def cx137 : Ctx := ⟨T, G0, 148, [0, 1, 2, 3, 4, 10, 11, 12, 13, 14, 15, 16, 17, 18, 19, 20, 25, 32, 39, 56, 75, 80, 97, 125]⟩
def kt137 : List (Nat × Nat) := [(17, 13)]
theorem ok137 : okCode kt137 (Try.f137.body.getD .skip) = true := by kernel_rfl
/-- slices.IndexFunc[[]int,int] -/
def cx138 : Ctx := ⟨T, G0, 19, [0, 1, 4, 5, 7, 8, 9, 16]⟩
def kt138 : List (Nat × Nat) := []
theorem ok138 : okCode kt138 (Try.f138.body.getD .skip) = true := by kernel_rfl
/-- paternoster/bid.at$1 -/
def cx139 : Ctx := ⟨T, G0, 8, [0, 1, 2, 3]⟩
def kt139 : List (Nat × Nat) := []
theorem ok139 : okCode kt139 (Try.f139.body.getD .skip) = true := by kernel_rfl
/-- slices.rotateRight[paternoster/api.Bid] -/
def cx141 : Ctx := ⟨T, G0, 10, [0, 1]⟩
def kt141 : List (Nat × Nat) := []
theorem ok141 : okCode kt141 (Try.f141.body.getD .skip) = true := by kernel_rfl
/-- slices.insertionSortCmpFunc[paternoster/api.Latch] -/
def cx142 : Ctx := ⟨T, G0, 53, [0, 1, 2, 3, 8, 9, 14, 34]⟩
def kt142 : List (Nat × Nat) := [(4, 14), (6, 14)]
theorem ok142 : okCode kt142 (Try.f142.body.getD .skip) = true := by kernel_rfl
/-- slices.symMergeCmpFunc[paternoster/api.Latch] -/
def cx143 : Ctx := ⟨T, G0, 220, [0, 1, 2, 3, 4, 10, 11, 12, 13, 14, 15, 16, 17, 18, 19, 20, 21, 22, 23, 24, 28, 33, 50, 58, 80, 85, 103, 110, 140, 151, 171, 185, 199, 213]⟩
def kt143 : List (Nat × Nat) := [(5, 9), (11, 14), (17, 9), (23, 14), (35, 11)]
theorem ok143 : okCode kt143 (Try.f143.body.getD .skip) = true := by kernel_rfl
/-- slices.rotateLeft[paternoster/api.Entry] -/
def cx144 : Ctx := ⟨T, G0, 14, [0, 1]⟩
def kt144 : List (Nat × Nat) := []
theorem ok144 : okCode kt144 (Try.f144.body.getD .skip) = true := by kernel_rfl
/-- slices.siftDownOrdered[int] -/
def cx145 : Ctx := ⟨T, G0, 76, [0, 1, 2, 3, 8, 9, 16, 36, 52]⟩
def kt145 : List (Nat × Nat) := [(3, 18), (5, 12), (6, 22)]
theorem ok145 : okCode kt145 (Try.f145.body.getD .skip) = true := by kernel_rfl
/-- slices.nextPowerOfTwo -/
def cx146 : Ctx := ⟨T, G0, 7, [0, 2]⟩
def kt146 : List (Nat × Nat) := []
theorem ok146 : okCode kt146 (Try.f146.body.getD .skip) = true := by kernel_rfl
/-- (*slices.xorshift).Next -/
def cx147 : Ctx := ⟨T, G0, 33, [0, 2]⟩
def kt147 : List (Nat × Nat) := [(1, 7), (2, 7), (3, 7)]
theorem ok147 : okCode kt147 (Try.f147.body.getD .skip) = true := by kernel_rfl
/-- slices.medianAdjacentOrdered[int] -/
def cx148 : Ctx := ⟨T, G0, 15, [0, 1, 2, 6]⟩
def kt148 : List (Nat × Nat) := []
theorem ok148 : okCode kt148 (Try.f148.body.getD .skip) = true := by kernel_rfl
/-- slices.medianOrdered[int] -/
def cx149 : Ctx := ⟨T, G0, 36, [0, 1, 2, 3, 4, 10]⟩
def kt149 : List (Nat × Nat) := []
theorem ok149 : okCode kt149 (Try.f149.body.getD .skip) = true := by kernel_rfl
/-- slices.heapSortCmpFunc[paternoster/api.Latch] -/
def cx150 : Ctx := ⟨T, G0, 60, [0, 1, 2, 3, 8, 9, 10, 11, 12, 21, 33]⟩
def kt150 : List (Nat × Nat) := [(10, 18)]
theorem ok150 : okCode kt150 (Try.f150.body.getD .skip) = true := by kernel_rfl
/-- slices.breakPatternsCmpFunc[paternoster/api.Latch] -/
def cx151 : Ctx := ⟨T, G0, 67, [0, 1, 2, 8, 9, 10, 11, 12, 17, 35, 45]⟩
def kt151 : List (Nat × Nat) := [(10, 18)]
theorem ok151 : okCode kt151 (Try.f151.body.getD .skip) = true := by kernel_rfl
/-- slices.choosePivotCmpFunc[paternoster/api.Latch] -/
def cx152 : Ctx := ⟨T, G0, 63, [0, 1, 2, 3, 8, 9, 10, 11, 12, 13, 14, 34, 36, 55, 57, 60]⟩
def kt152 : List (Nat × Nat) := []
theorem ok152 : okCode kt152 (Try.f152.body.getD .skip) = true := by kernel_rfl
/-- slices.reverseRangeCmpFunc[paternoster/api.Latch] -/
def cx153 : Ctx := ⟨T, G0, 34, [0, 1, 2, 8, 9, 15]⟩
def kt153 : List (Nat × Nat) := [(3, 12)]
theorem ok153 : okCode kt153 (Try.f153.body.getD .skip) = true := by kernel_rfl
/-- slices.partialInsertionSortCmpFunc[paternoster/api.Latch] -/
def cx154 : Ctx := ⟨T, G0, 141, [0, 1, 2, 3, 8, 9, 10, 11, 12, 16, 36, 41, 45, 65, 69, 84, 104, 109, 124]⟩
def kt154 : List (Nat × Nat) := [(5, 14), (11, 16), (16, 10), (17, 16), (22, 10), (23, 16)]
theorem ok154 : okCode kt154 (Try.f154.body.getD .skip) = true := by kernel_rfl
/-- slices.partitionEqualCmpFunc[paternoster/api.Latch] -/
def cx155 : Ctx := ⟨T, G0, 90, [0, 1, 2, 3, 4, 10, 11, 12, 47, 65, 70]⟩
def kt155 : List (Nat × Nat) := [(1, 12), (3, 13), (5, 13), (8, 12)]
theorem ok155 : okCode kt155 (Try.f155.body.getD .skip) = true := by kernel_rfl
/-- slices.partitionCmpFunc[paternoster/api.Latch] -/
def cx156 : Ctx := ⟨T, G0, 178, [0, 1, 2, 3, 4, 10, 11, 12, 13, 47, 66, 71, 120, 139, 144]⟩
def kt156 : List (Nat × Nat) := [(1, 12), (3, 13), (5, 13), (8, 12), (10, 12), (13, 13), (15, 13), (18, 12), (21, 12)]
theorem ok156 : okCode kt156 (Try.f156.body.getD .skip) = true := by kernel_rfl
/-- slices.rotateLeft[paternoster/api.Bid] -/
def cx157 : Ctx := ⟨T, G0, 14, [0, 1]⟩
def kt157 : List (Nat × Nat) := []
theorem ok157 : okCode kt157 (Try.f157.body.getD .skip) = true := by kernel_rfl
/-- slices.rotateCmpFunc[paternoster/api.Latch] -/
def cx158 : Ctx := ⟨T, G0, 58, [0, 1, 2, 3, 4, 10, 11, 20, 23]⟩
def kt158 : List (Nat × Nat) := []
theorem ok158 : okCode kt158 (Try.f158.body.getD .skip) = true := by kernel_rfl
/-- slices.Reverse[[]paternoster/api.Entry,paternoster/api.Entry] -/
def cx159 : Ctx := ⟨T, G0, 28, [0, 2, 3, 9]⟩
def kt159 : List (Nat × Nat) := [(3, 12)]
theorem ok159 : okCode kt159 (Try.f159.body.getD .skip) = true := by kernel_rfl
/-- slices.order2Ordered[int] -/
def cx160 : Ctx := ⟨T, G0, 28, [0, 1, 2, 3, 8, 9, 18]⟩
def kt160 : List (Nat × Nat) := [(1, 8)]
theorem ok160 : okCode kt160 (Try.f160.body.getD .skip) = true := by kernel_rfl
/-- slices.siftDownCmpFunc[paternoster/api.Latch] -/
def cx161 : Ctx := ⟨T, G0, 82, [0, 1, 2, 3, 4, 10, 11, 18, 40, 58]⟩
def kt161 : List (Nat × Nat) := [(3, 19), (5, 13), (6, 22)]
theorem ok161 : okCode kt161 (Try.f161.body.getD .skip) = true := by kernel_rfl
/-- slices.medianAdjacentCmpFunc[paternoster/api.Latch] -/
def cx162 : Ctx := ⟨T, G0, 18, [0, 1, 2, 3, 8]⟩
def kt162 : List (Nat × Nat) := []
theorem ok162 : okCode kt162 (Try.f162.body.getD .skip) = true := by kernel_rfl
/-- slices.medianCmpFunc[paternoster/api.Latch] -/
def cx163 : Ctx := ⟨T, G0, 41, [0, 1, 2, 3, 4, 5, 12]⟩
def kt163 : List (Nat × Nat) := []
theorem ok163 : okCode kt163 (Try.f163.body.getD .skip) = true := by kernel_rfl
/-- slices.Reverse[[]paternoster/api.Bid,paternoster/api.Bid] -/
def cx164 : Ctx := ⟨T, G0, 28, [0, 2, 3, 9]⟩
def kt164 : List (Nat × Nat) := [(3, 12)]
theorem ok164 : okCode kt164 (Try.f164.body.getD .skip) = true := by kernel_rfl
/-- slices.swapRangeCmpFunc[paternoster/api.Latch] -/
def cx165 : Ctx := ⟨T, G0, 38, [0, 1, 2, 3, 10, 13]⟩
def kt165 : List (Nat × Nat) := [(3, 20)]
theorem ok165 : okCode kt165 (Try.f165.body.getD .skip) = true := by kernel_rfl
/-- slices.order2CmpFunc[paternoster/api.Latch] -/
def cx166 : Ctx := ⟨T, G0, 32, [0, 1, 2, 3, 4, 10, 11, 22]⟩
def kt166 : List (Nat × Nat) := [(1, 9)]
theorem ok166 : okCode kt166 (Try.f166.body.getD .skip) = true := by kernel_rfl
end Go.Proofs.Ytkenimmellonjaa
