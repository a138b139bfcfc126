/- A shell of a contract for each function of the program Ytkenimmellonjaa. -/
import Derived.Test.YtkenimmellonjaaTab
import Derived.Test.YtkenimmellonjaaFrC
import Derived.Shelf.Abstract
namespace Go.Proofs.Ytkenimmellonjaa
open Go.Pv Go.RowKit

def G0 : Gl := fun _ => .none
theorem mixed : Try.prog.follows .mixedOrders = true := by kernel_rfl
/-- gosem.cut.init -/
def cx2 : Ctx := ⟨T, G0, 1, []⟩
def kt2 : List (Nat × Nat) := []
theorem ok2 : okCode kt2 (Try.f2.body.getD .skip) = true := by kernel_rfl
theorem con2 {args : List AV} {s : List (Nat × AB)} {R : AV → List (Nat × AB) → Prop} (n : Nat) (hle : Nat.ble args.length 1 = true) (hb : belowB n s = true) (h : vc Try.prog cx2 n kt2 (Try.f2.body.getD .skip) (argEnv 0 args) s (KV T Try.f2.results.toList n R)) : Contract Try.prog G0 2 args s R :=
  Contract.of_v (cx := cx2) tabOK mixed Try.func2 rfl (enters_of Try.func2 (by kernel_rfl) rfl) rfl ok2 (Nat.le_of_ble_eq_true hle) hb h
theorem conG2 {args : List AV} {s : List (Nat × AB)} {R : AV → List (Nat × AB) → Prop} (n : Nat) (hle : Nat.ble args.length 1 = true) (hb : belowB n s = true) (h : vc Try.prog cx2 n kt2 (Try.f2.body.getD .skip) (argEnv 0 args) s (KG cx2 Try.f2.results.toList n R)) : Contract Try.prog G0 2 args s R :=
  Contract.of_vG (cx := cx2) tabOK mixed Try.func2 rfl (enters_of Try.func2 (by kernel_rfl) rfl) rfl ok2 (Nat.le_of_ble_eq_true hle) hb h
/-- paternoster/paternosterlaw8.OrderTurns -/
def cx3 : Ctx := ⟨T, G0, 83, [0, 1, 4, 5, 6, 7, 8, 9, 10, 12, 14, 17, 20, 27, 45]⟩
def kt3 : List (Nat × Nat) := []
theorem ok3 : okCode kt3 (Try.f3.body.getD .skip) = true := by kernel_rfl
theorem con3 {args : List AV} {s : List (Nat × AB)} {R : AV → List (Nat × AB) → Prop} (n : Nat) (hle : Nat.ble args.length 83 = true) (hb : belowB n s = true) (h : vc Try.prog cx3 n kt3 (Try.f3.body.getD .skip) (argEnv 0 args) s (KV T Try.f3.results.toList n R)) : Contract Try.prog G0 3 args s R :=
  Contract.of_v (cx := cx3) tabOK mixed Try.func3 rfl (enters_of Try.func3 (by kernel_rfl) rfl) rfl ok3 (Nat.le_of_ble_eq_true hle) hb h
theorem conG3 {args : List AV} {s : List (Nat × AB)} {R : AV → List (Nat × AB) → Prop} (n : Nat) (hle : Nat.ble args.length 83 = true) (hb : belowB n s = true) (h : vc Try.prog cx3 n kt3 (Try.f3.body.getD .skip) (argEnv 0 args) s (KG cx3 Try.f3.results.toList n R)) : Contract Try.prog G0 3 args s R :=
  Contract.of_vG (cx := cx3) tabOK mixed Try.func3 rfl (enters_of Try.func3 (by kernel_rfl) rfl) rfl ok3 (Nat.le_of_ble_eq_true hle) hb h
/-- paternoster/paternosterlaw8.OrderRing -/
def cx4 : Ctx := ⟨T, G0, 85, [0, 1, 4, 5, 6, 7, 8, 9, 10, 11, 12, 15, 23, 36, 48, 59, 71]⟩
def kt4 : List (Nat × Nat) := []
theorem ok4 : okCode kt4 (Try.f4.body.getD .skip) = true := by kernel_rfl
theorem con4 {args : List AV} {s : List (Nat × AB)} {R : AV → List (Nat × AB) → Prop} (n : Nat) (hle : Nat.ble args.length 85 = true) (hb : belowB n s = true) (h : vc Try.prog cx4 n kt4 (Try.f4.body.getD .skip) (argEnv 0 args) s (KV T Try.f4.results.toList n R)) : Contract Try.prog G0 4 args s R :=
  Contract.of_v (cx := cx4) tabOK mixed Try.func4 rfl (enters_of Try.func4 (by kernel_rfl) rfl) rfl ok4 (Nat.le_of_ble_eq_true hle) hb h
theorem conG4 {args : List AV} {s : List (Nat × AB)} {R : AV → List (Nat × AB) → Prop} (n : Nat) (hle : Nat.ble args.length 85 = true) (hb : belowB n s = true) (h : vc Try.prog cx4 n kt4 (Try.f4.body.getD .skip) (argEnv 0 args) s (KG cx4 Try.f4.results.toList n R)) : Contract Try.prog G0 4 args s R :=
  Contract.of_vG (cx := cx4) tabOK mixed Try.func4 rfl (enters_of Try.func4 (by kernel_rfl) rfl) rfl ok4 (Nat.le_of_ble_eq_true hle) hb h
/-- paternoster/paternosterlaw11.CallsOrder -/
def cx5 : Ctx := ⟨T, G0, 106, [0, 1, 4, 5, 6, 7, 8, 9, 10, 11, 12, 15, 18, 28, 54, 81, 85, 94]⟩
def kt5 : List (Nat × Nat) := [(17, 20)]
theorem ok5 : okCode kt5 (Try.f5.body.getD .skip) = true := by kernel_rfl
theorem con5 {args : List AV} {s : List (Nat × AB)} {R : AV → List (Nat × AB) → Prop} (n : Nat) (hle : Nat.ble args.length 106 = true) (hb : belowB n s = true) (h : vc Try.prog cx5 n kt5 (Try.f5.body.getD .skip) (argEnv 0 args) s (KV T Try.f5.results.toList n R)) : Contract Try.prog G0 5 args s R :=
  Contract.of_v (cx := cx5) tabOK mixed Try.func5 rfl (enters_of Try.func5 (by kernel_rfl) rfl) rfl ok5 (Nat.le_of_ble_eq_true hle) hb h
theorem conG5 {args : List AV} {s : List (Nat × AB)} {R : AV → List (Nat × AB) → Prop} (n : Nat) (hle : Nat.ble args.length 106 = true) (hb : belowB n s = true) (h : vc Try.prog cx5 n kt5 (Try.f5.body.getD .skip) (argEnv 0 args) s (KG cx5 Try.f5.results.toList n R)) : Contract Try.prog G0 5 args s R :=
  Contract.of_vG (cx := cx5) tabOK mixed Try.func5 rfl (enters_of Try.func5 (by kernel_rfl) rfl) rfl ok5 (Nat.le_of_ble_eq_true hle) hb h
/-- paternoster/paternosterlaw21.FoundSays -/
def cx6 : Ctx := ⟨T, G0, 70, [0, 1, 2, 3, 4, 7, 27]⟩
def kt6 : List (Nat × Nat) := [(7, 21)]
theorem ok6 : okCode kt6 (Try.f6.body.getD .skip) = true := by kernel_rfl
theorem con6 {args : List AV} {s : List (Nat × AB)} {R : AV → List (Nat × AB) → Prop} (n : Nat) (hle : Nat.ble args.length 70 = true) (hb : belowB n s = true) (h : vc Try.prog cx6 n kt6 (Try.f6.body.getD .skip) (argEnv 0 args) s (KV T Try.f6.results.toList n R)) : Contract Try.prog G0 6 args s R :=
  Contract.of_v (cx := cx6) tabOK mixed Try.func6 rfl (enters_of Try.func6 (by kernel_rfl) rfl) rfl ok6 (Nat.le_of_ble_eq_true hle) hb h
theorem conG6 {args : List AV} {s : List (Nat × AB)} {R : AV → List (Nat × AB) → Prop} (n : Nat) (hle : Nat.ble args.length 70 = true) (hb : belowB n s = true) (h : vc Try.prog cx6 n kt6 (Try.f6.body.getD .skip) (argEnv 0 args) s (KG cx6 Try.f6.results.toList n R)) : Contract Try.prog G0 6 args s R :=
  Contract.of_vG (cx := cx6) tabOK mixed Try.func6 rfl (enters_of Try.func6 (by kernel_rfl) rfl) rfl ok6 (Nat.le_of_ble_eq_true hle) hb h
/-- paternoster/paternosterlaw21.FoundLeast -/
def cx7 : Ctx := ⟨T, G0, 118, [0, 1, 2, 3, 8, 9, 10, 11, 12, 13, 14, 15, 16, 17, 18, 21, 29, 38, 52, 58, 63, 81, 85, 89]⟩
def kt7 : List (Nat × Nat) := []
theorem ok7 : okCode kt7 (Try.f7.body.getD .skip) = true := by kernel_rfl
theorem con7 {args : List AV} {s : List (Nat × AB)} {R : AV → List (Nat × AB) → Prop} (n : Nat) (hle : Nat.ble args.length 118 = true) (hb : belowB n s = true) (h : vc Try.prog cx7 n kt7 (Try.f7.body.getD .skip) (argEnv 0 args) s (KV T Try.f7.results.toList n R)) : Contract Try.prog G0 7 args s R :=
  Contract.of_v (cx := cx7) tabOK mixed Try.func7 rfl (enters_of Try.func7 (by kernel_rfl) rfl) rfl ok7 (Nat.le_of_ble_eq_true hle) hb h
theorem conG7 {args : List AV} {s : List (Nat × AB)} {R : AV → List (Nat × AB) → Prop} (n : Nat) (hle : Nat.ble args.length 118 = true) (hb : belowB n s = true) (h : vc Try.prog cx7 n kt7 (Try.f7.body.getD .skip) (argEnv 0 args) s (KG cx7 Try.f7.results.toList n R)) : Contract Try.prog G0 7 args s R :=
  Contract.of_vG (cx := cx7) tabOK mixed Try.func7 rfl (enters_of Try.func7 (by kernel_rfl) rfl) rfl ok7 (Nat.le_of_ble_eq_true hle) hb h
/-- paternoster/paternosterlaw21.FoundWaits -/
def cx8 : Ctx := ⟨T, G0, 115, [0, 1, 2, 3, 8, 9, 10, 11, 12, 13, 14, 15, 16, 19, 32, 74, 83, 95]⟩
def kt8 : List (Nat × Nat) := []
theorem ok8 : okCode kt8 (Try.f8.body.getD .skip) = true := by kernel_rfl
theorem con8 {args : List AV} {s : List (Nat × AB)} {R : AV → List (Nat × AB) → Prop} (n : Nat) (hle : Nat.ble args.length 115 = true) (hb : belowB n s = true) (h : vc Try.prog cx8 n kt8 (Try.f8.body.getD .skip) (argEnv 0 args) s (KV T Try.f8.results.toList n R)) : Contract Try.prog G0 8 args s R :=
  Contract.of_v (cx := cx8) tabOK mixed Try.func8 rfl (enters_of Try.func8 (by kernel_rfl) rfl) rfl ok8 (Nat.le_of_ble_eq_true hle) hb h
theorem conG8 {args : List AV} {s : List (Nat × AB)} {R : AV → List (Nat × AB) → Prop} (n : Nat) (hle : Nat.ble args.length 115 = true) (hb : belowB n s = true) (h : vc Try.prog cx8 n kt8 (Try.f8.body.getD .skip) (argEnv 0 args) s (KG cx8 Try.f8.results.toList n R)) : Contract Try.prog G0 8 args s R :=
  Contract.of_vG (cx := cx8) tabOK mixed Try.func8 rfl (enters_of Try.func8 (by kernel_rfl) rfl) rfl ok8 (Nat.le_of_ble_eq_true hle) hb h
/-- paternoster/paternosterlaw8.OrderSays -/
def cx9 : Ctx := ⟨T, G0, 115, [0, 1, 2, 6, 7, 8, 9, 10, 11, 12, 13, 14, 15, 16, 19, 27, 51, 63]⟩
def kt9 : List (Nat × Nat) := []
theorem ok9 : okCode kt9 (Try.f9.body.getD .skip) = true := by kernel_rfl
theorem con9 {args : List AV} {s : List (Nat × AB)} {R : AV → List (Nat × AB) → Prop} (n : Nat) (hle : Nat.ble args.length 115 = true) (hb : belowB n s = true) (h : vc Try.prog cx9 n kt9 (Try.f9.body.getD .skip) (argEnv 0 args) s (KV T Try.f9.results.toList n R)) : Contract Try.prog G0 9 args s R :=
  Contract.of_v (cx := cx9) tabOK mixed Try.func9 rfl (enters_of Try.func9 (by kernel_rfl) rfl) rfl ok9 (Nat.le_of_ble_eq_true hle) hb h
theorem conG9 {args : List AV} {s : List (Nat × AB)} {R : AV → List (Nat × AB) → Prop} (n : Nat) (hle : Nat.ble args.length 115 = true) (hb : belowB n s = true) (h : vc Try.prog cx9 n kt9 (Try.f9.body.getD .skip) (argEnv 0 args) s (KG cx9 Try.f9.results.toList n R)) : Contract Try.prog G0 9 args s R :=
  Contract.of_vG (cx := cx9) tabOK mixed Try.func9 rfl (enters_of Try.func9 (by kernel_rfl) rfl) rfl ok9 (Nat.le_of_ble_eq_true hle) hb h
/-- paternoster/paternosterlaw8.OrderSets -/
def cx10 : Ctx := ⟨T, G0, 123, [0, 1, 4, 5, 6, 7, 8, 9, 10, 11, 12, 15, 18, 25, 50, 54, 63, 75]⟩
def kt10 : List (Nat × Nat) := [(10, 20)]
theorem ok10 : okCode kt10 (Try.f10.body.getD .skip) = true := by kernel_rfl
theorem con10 {args : List AV} {s : List (Nat × AB)} {R : AV → List (Nat × AB) → Prop} (n : Nat) (hle : Nat.ble args.length 123 = true) (hb : belowB n s = true) (h : vc Try.prog cx10 n kt10 (Try.f10.body.getD .skip) (argEnv 0 args) s (KV T Try.f10.results.toList n R)) : Contract Try.prog G0 10 args s R :=
  Contract.of_v (cx := cx10) tabOK mixed Try.func10 rfl (enters_of Try.func10 (by kernel_rfl) rfl) rfl ok10 (Nat.le_of_ble_eq_true hle) hb h
theorem conG10 {args : List AV} {s : List (Nat × AB)} {R : AV → List (Nat × AB) → Prop} (n : Nat) (hle : Nat.ble args.length 123 = true) (hb : belowB n s = true) (h : vc Try.prog cx10 n kt10 (Try.f10.body.getD .skip) (argEnv 0 args) s (KG cx10 Try.f10.results.toList n R)) : Contract Try.prog G0 10 args s R :=
  Contract.of_vG (cx := cx10) tabOK mixed Try.func10 rfl (enters_of Try.func10 (by kernel_rfl) rfl) rfl ok10 (Nat.le_of_ble_eq_true hle) hb h
/-- paternoster/paternosterlaw11.CallsKeep -/
def cx11 : Ctx := ⟨T, G0, 120, [0, 1, 4, 5, 6, 7, 8, 9, 10, 11, 12, 13, 14, 15, 16, 19, 27, 32, 47, 63, 64, 70, 81, 90]⟩
def kt11 : List (Nat × Nat) := []
theorem ok11 : okCode kt11 (Try.f11.body.getD .skip) = true := by kernel_rfl
theorem con11 {args : List AV} {s : List (Nat × AB)} {R : AV → List (Nat × AB) → Prop} (n : Nat) (hle : Nat.ble args.length 120 = true) (hb : belowB n s = true) (h : vc Try.prog cx11 n kt11 (Try.f11.body.getD .skip) (argEnv 0 args) s (KV T Try.f11.results.toList n R)) : Contract Try.prog G0 11 args s R :=
  Contract.of_v (cx := cx11) tabOK mixed Try.func11 rfl (enters_of Try.func11 (by kernel_rfl) rfl) rfl ok11 (Nat.le_of_ble_eq_true hle) hb h
theorem conG11 {args : List AV} {s : List (Nat × AB)} {R : AV → List (Nat × AB) → Prop} (n : Nat) (hle : Nat.ble args.length 120 = true) (hb : belowB n s = true) (h : vc Try.prog cx11 n kt11 (Try.f11.body.getD .skip) (argEnv 0 args) s (KG cx11 Try.f11.results.toList n R)) : Contract Try.prog G0 11 args s R :=
  Contract.of_vG (cx := cx11) tabOK mixed Try.func11 rfl (enters_of Try.func11 (by kernel_rfl) rfl) rfl ok11 (Nat.le_of_ble_eq_true hle) hb h
/-- paternoster/paternosterlaw19.LedgerMine -/
def cx12 : Ctx := ⟨T, G0, 157, [0, 1, 2, 3, 4, 5, 6, 7, 8, 9, 10, 11, 12, 13, 15, 18, 21, 32, 49, 56, 75, 82, 87, 96, 105, 120]⟩
def kt12 : List (Nat × Nat) := [(11, 6), (19, 15), (32, 12)]
theorem ok12 : okCode kt12 (Try.f12.body.getD .skip) = true := by kernel_rfl
theorem con12 {args : List AV} {s : List (Nat × AB)} {R : AV → List (Nat × AB) → Prop} (n : Nat) (hle : Nat.ble args.length 157 = true) (hb : belowB n s = true) (h : vc Try.prog cx12 n kt12 (Try.f12.body.getD .skip) (argEnv 0 args) s (KV T Try.f12.results.toList n R)) : Contract Try.prog G0 12 args s R :=
  Contract.of_v (cx := cx12) tabOK mixed Try.func12 rfl (enters_of Try.func12 (by kernel_rfl) rfl) rfl ok12 (Nat.le_of_ble_eq_true hle) hb h
theorem conG12 {args : List AV} {s : List (Nat × AB)} {R : AV → List (Nat × AB) → Prop} (n : Nat) (hle : Nat.ble args.length 157 = true) (hb : belowB n s = true) (h : vc Try.prog cx12 n kt12 (Try.f12.body.getD .skip) (argEnv 0 args) s (KG cx12 Try.f12.results.toList n R)) : Contract Try.prog G0 12 args s R :=
  Contract.of_vG (cx := cx12) tabOK mixed Try.func12 rfl (enters_of Try.func12 (by kernel_rfl) rfl) rfl ok12 (Nat.le_of_ble_eq_true hle) hb h
/-- paternoster/paternosterlaw11.CallsPlay -/
def cx13 : Ctx := ⟨T, G0, 169, [0, 1, 2, 4, 5, 6, 7, 8, 9, 10, 11, 12, 13, 14, 15, 16, 17, 18, 19, 20, 21, 22, 25, 28, 35, 45, 52, 53, 67, 69, 85, 87, 102, 121, 131, 140]⟩
def kt13 : List (Nat × Nat) := [(39, 6), (40, 5), (41, 19)]
theorem ok13 : okCode kt13 (Try.f13.body.getD .skip) = true := by kernel_rfl
theorem con13 {args : List AV} {s : List (Nat × AB)} {R : AV → List (Nat × AB) → Prop} (n : Nat) (hle : Nat.ble args.length 169 = true) (hb : belowB n s = true) (h : vc Try.prog cx13 n kt13 (Try.f13.body.getD .skip) (argEnv 0 args) s (KV T Try.f13.results.toList n R)) : Contract Try.prog G0 13 args s R :=
  Contract.of_v (cx := cx13) tabOK mixed Try.func13 rfl (enters_of Try.func13 (by kernel_rfl) rfl) rfl ok13 (Nat.le_of_ble_eq_true hle) hb h
theorem conG13 {args : List AV} {s : List (Nat × AB)} {R : AV → List (Nat × AB) → Prop} (n : Nat) (hle : Nat.ble args.length 169 = true) (hb : belowB n s = true) (h : vc Try.prog cx13 n kt13 (Try.f13.body.getD .skip) (argEnv 0 args) s (KG cx13 Try.f13.results.toList n R)) : Contract Try.prog G0 13 args s R :=
  Contract.of_vG (cx := cx13) tabOK mixed Try.func13 rfl (enters_of Try.func13 (by kernel_rfl) rfl) rfl ok13 (Nat.le_of_ble_eq_true hle) hb h
/-- paternoster/paternosterlaw19.LedgerWants -/
def cx14 : Ctx := ⟨T, G0, 148, [0, 1, 2, 4, 5, 6, 7, 8, 9, 10, 11, 12, 13, 14, 15, 18, 21, 36, 47, 78, 97, 103, 108, 136]⟩
def kt14 : List (Nat × Nat) := [(19, 16), (28, 13)]
theorem ok14 : okCode kt14 (Try.f14.body.getD .skip) = true := by kernel_rfl
theorem con14 {args : List AV} {s : List (Nat × AB)} {R : AV → List (Nat × AB) → Prop} (n : Nat) (hle : Nat.ble args.length 148 = true) (hb : belowB n s = true) (h : vc Try.prog cx14 n kt14 (Try.f14.body.getD .skip) (argEnv 0 args) s (KV T Try.f14.results.toList n R)) : Contract Try.prog G0 14 args s R :=
  Contract.of_v (cx := cx14) tabOK mixed Try.func14 rfl (enters_of Try.func14 (by kernel_rfl) rfl) rfl ok14 (Nat.le_of_ble_eq_true hle) hb h
theorem conG14 {args : List AV} {s : List (Nat × AB)} {R : AV → List (Nat × AB) → Prop} (n : Nat) (hle : Nat.ble args.length 148 = true) (hb : belowB n s = true) (h : vc Try.prog cx14 n kt14 (Try.f14.body.getD .skip) (argEnv 0 args) s (KG cx14 Try.f14.results.toList n R)) : Contract Try.prog G0 14 args s R :=
  Contract.of_vG (cx := cx14) tabOK mixed Try.func14 rfl (enters_of Try.func14 (by kernel_rfl) rfl) rfl ok14 (Nat.le_of_ble_eq_true hle) hb h
/-- paternoster/paternosterlaw19.LedgerPurges -/
def cx15 : Ctx := ⟨T, G0, 185, [0, 1, 2, 4, 5, 6, 7, 8, 9, 10, 11, 12, 13, 16, 25, 36, 47, 58, 92, 97, 102, 137, 141, 169]⟩
def kt15 : List (Nat × Nat) := [(27, 33), (32, 23)]
theorem ok15 : okCode kt15 (Try.f15.body.getD .skip) = true := by kernel_rfl
theorem con15 {args : List AV} {s : List (Nat × AB)} {R : AV → List (Nat × AB) → Prop} (n : Nat) (hle : Nat.ble args.length 185 = true) (hb : belowB n s = true) (h : vc Try.prog cx15 n kt15 (Try.f15.body.getD .skip) (argEnv 0 args) s (KV T Try.f15.results.toList n R)) : Contract Try.prog G0 15 args s R :=
  Contract.of_v (cx := cx15) tabOK mixed Try.func15 rfl (enters_of Try.func15 (by kernel_rfl) rfl) rfl ok15 (Nat.le_of_ble_eq_true hle) hb h
theorem conG15 {args : List AV} {s : List (Nat × AB)} {R : AV → List (Nat × AB) → Prop} (n : Nat) (hle : Nat.ble args.length 185 = true) (hb : belowB n s = true) (h : vc Try.prog cx15 n kt15 (Try.f15.body.getD .skip) (argEnv 0 args) s (KG cx15 Try.f15.results.toList n R)) : Contract Try.prog G0 15 args s R :=
  Contract.of_vG (cx := cx15) tabOK mixed Try.func15 rfl (enters_of Try.func15 (by kernel_rfl) rfl) rfl ok15 (Nat.le_of_ble_eq_true hle) hb h
/-- paternoster/paternosterlaw19.LedgerFull -/
def cx16 : Ctx := ⟨T, G0, 130, [0, 1, 4, 5, 6, 7, 8, 9, 10, 13, 22, 48, 53, 95]⟩
def kt16 : List (Nat × Nat) := [(18, 33), (20, 26)]
theorem ok16 : okCode kt16 (Try.f16.body.getD .skip) = true := by kernel_rfl
theorem con16 {args : List AV} {s : List (Nat × AB)} {R : AV → List (Nat × AB) → Prop} (n : Nat) (hle : Nat.ble args.length 130 = true) (hb : belowB n s = true) (h : vc Try.prog cx16 n kt16 (Try.f16.body.getD .skip) (argEnv 0 args) s (KV T Try.f16.results.toList n R)) : Contract Try.prog G0 16 args s R :=
  Contract.of_v (cx := cx16) tabOK mixed Try.func16 rfl (enters_of Try.func16 (by kernel_rfl) rfl) rfl ok16 (Nat.le_of_ble_eq_true hle) hb h
theorem conG16 {args : List AV} {s : List (Nat × AB)} {R : AV → List (Nat × AB) → Prop} (n : Nat) (hle : Nat.ble args.length 130 = true) (hb : belowB n s = true) (h : vc Try.prog cx16 n kt16 (Try.f16.body.getD .skip) (argEnv 0 args) s (KG cx16 Try.f16.results.toList n R)) : Contract Try.prog G0 16 args s R :=
  Contract.of_vG (cx := cx16) tabOK mixed Try.func16 rfl (enters_of Try.func16 (by kernel_rfl) rfl) rfl ok16 (Nat.le_of_ble_eq_true hle) hb h
/-- paternoster/paternosterlaw19.LedgerOnce -/
def cx17 : Ctx := ⟨T, G0, 388, [0, 1, 2, 3, 8, 9, 10, 11, 12, 13, 14, 15, 16, 17, 18, 19, 20, 21, 23, 24, 25, 26, 27, 28, 29, 30, 31, 32, 33, 36, 54, 59, 73, 78, 130, 142, 165, 171, 207, 217, 237, 245, 263, 271, 310, 315, 324, 361, 385]⟩
def kt17 : List (Nat × Nat) := [(19, 6), (21, 7), (31, 13), (32, 13), (40, 16), (46, 7), (51, 25), (57, 35)]
theorem ok17 : okCode kt17 (Try.f17.body.getD .skip) = true := by kernel_rfl
theorem con17 {args : List AV} {s : List (Nat × AB)} {R : AV → List (Nat × AB) → Prop} (n : Nat) (hle : Nat.ble args.length 388 = true) (hb : belowB n s = true) (h : vc Try.prog cx17 n kt17 (Try.f17.body.getD .skip) (argEnv 0 args) s (KV T Try.f17.results.toList n R)) : Contract Try.prog G0 17 args s R :=
  Contract.of_v (cx := cx17) tabOK mixed Try.func17 rfl (enters_of Try.func17 (by kernel_rfl) rfl) rfl ok17 (Nat.le_of_ble_eq_true hle) hb h
theorem conG17 {args : List AV} {s : List (Nat × AB)} {R : AV → List (Nat × AB) → Prop} (n : Nat) (hle : Nat.ble args.length 388 = true) (hb : belowB n s = true) (h : vc Try.prog cx17 n kt17 (Try.f17.body.getD .skip) (argEnv 0 args) s (KG cx17 Try.f17.results.toList n R)) : Contract Try.prog G0 17 args s R :=
  Contract.of_vG (cx := cx17) tabOK mixed Try.func17 rfl (enters_of Try.func17 (by kernel_rfl) rfl) rfl ok17 (Nat.le_of_ble_eq_true hle) hb h
/-- paternoster/paternosterlaw8.first -/
def cx18 : Ctx := ⟨T, G0, 13, [0, 1, 2]⟩
def kt18 : List (Nat × Nat) := []
theorem ok18 : okCode kt18 (Try.f18.body.getD .skip) = true := by kernel_rfl
theorem con18 {args : List AV} {s : List (Nat × AB)} {R : AV → List (Nat × AB) → Prop} (n : Nat) (hle : Nat.ble args.length 13 = true) (hb : belowB n s = true) (h : vc Try.prog cx18 n kt18 (Try.f18.body.getD .skip) (argEnv 0 args) s (KV T Try.f18.results.toList n R)) : Contract Try.prog G0 18 args s R :=
  Contract.of_v (cx := cx18) tabOK mixed Try.func18 rfl (enters_of Try.func18 (by kernel_rfl) rfl) rfl ok18 (Nat.le_of_ble_eq_true hle) hb h
theorem conG18 {args : List AV} {s : List (Nat × AB)} {R : AV → List (Nat × AB) → Prop} (n : Nat) (hle : Nat.ble args.length 13 = true) (hb : belowB n s = true) (h : vc Try.prog cx18 n kt18 (Try.f18.body.getD .skip) (argEnv 0 args) s (KG cx18 Try.f18.results.toList n R)) : Contract Try.prog G0 18 args s R :=
  Contract.of_vG (cx := cx18) tabOK mixed Try.func18 rfl (enters_of Try.func18 (by kernel_rfl) rfl) rfl ok18 (Nat.le_of_ble_eq_true hle) hb h
/-- paternoster/order.Set -/
def cx19 : Ctx := ⟨T, G0, 10, [0, 2, 3]⟩
def kt19 : List (Nat × Nat) := []
theorem ok19 : okCode kt19 (Try.f19.body.getD .skip) = true := by kernel_rfl
theorem con19 {args : List AV} {s : List (Nat × AB)} {R : AV → List (Nat × AB) → Prop} (n : Nat) (hle : Nat.ble args.length 10 = true) (hb : belowB n s = true) (h : vc Try.prog cx19 n kt19 (Try.f19.body.getD .skip) (argEnv 0 args) s (KV T Try.f19.results.toList n R)) : Contract Try.prog G0 19 args s R :=
  Contract.of_v (cx := cx19) tabOK mixed Try.func19 rfl (enters_of Try.func19 (by kernel_rfl) rfl) rfl ok19 (Nat.le_of_ble_eq_true hle) hb h
theorem conG19 {args : List AV} {s : List (Nat × AB)} {R : AV → List (Nat × AB) → Prop} (n : Nat) (hle : Nat.ble args.length 10 = true) (hb : belowB n s = true) (h : vc Try.prog cx19 n kt19 (Try.f19.body.getD .skip) (argEnv 0 args) s (KG cx19 Try.f19.results.toList n R)) : Contract Try.prog G0 19 args s R :=
  Contract.of_vG (cx := cx19) tabOK mixed Try.func19 rfl (enters_of Try.func19 (by kernel_rfl) rfl) rfl ok19 (Nat.le_of_ble_eq_true hle) hb h
/-- paternoster/order.Next -/
def cx20 : Ctx := ⟨T, G0, 20, [0, 1, 4, 5, 6, 11]⟩
def kt20 : List (Nat × Nat) := []
theorem ok20 : okCode kt20 (Try.f20.body.getD .skip) = true := by kernel_rfl
theorem con20 {args : List AV} {s : List (Nat × AB)} {R : AV → List (Nat × AB) → Prop} (n : Nat) (hle : Nat.ble args.length 20 = true) (hb : belowB n s = true) (h : vc Try.prog cx20 n kt20 (Try.f20.body.getD .skip) (argEnv 0 args) s (KV T Try.f20.results.toList n R)) : Contract Try.prog G0 20 args s R :=
  Contract.of_v (cx := cx20) tabOK mixed Try.func20 rfl (enters_of Try.func20 (by kernel_rfl) rfl) rfl ok20 (Nat.le_of_ble_eq_true hle) hb h
theorem conG20 {args : List AV} {s : List (Nat × AB)} {R : AV → List (Nat × AB) → Prop} (n : Nat) (hle : Nat.ble args.length 20 = true) (hb : belowB n s = true) (h : vc Try.prog cx20 n kt20 (Try.f20.body.getD .skip) (argEnv 0 args) s (KG cx20 Try.f20.results.toList n R)) : Contract Try.prog G0 20 args s R :=
  Contract.of_vG (cx := cx20) tabOK mixed Try.func20 rfl (enters_of Try.func20 (by kernel_rfl) rfl) rfl ok20 (Nat.le_of_ble_eq_true hle) hb h
/-- paternoster/paternosterref.Among -/
def cx21 : Ctx := ⟨T, G0, 18, [0, 1, 4, 5, 9, 17]⟩
def kt21 : List (Nat × Nat) := []
theorem ok21 : okCode kt21 (Try.f21.body.getD .skip) = true := by kernel_rfl
theorem con21 {args : List AV} {s : List (Nat × AB)} {R : AV → List (Nat × AB) → Prop} (n : Nat) (hle : Nat.ble args.length 18 = true) (hb : belowB n s = true) (h : vc Try.prog cx21 n kt21 (Try.f21.body.getD .skip) (argEnv 0 args) s (KV T Try.f21.results.toList n R)) : Contract Try.prog G0 21 args s R :=
  Contract.of_v (cx := cx21) tabOK mixed Try.func21 rfl (enters_of Try.func21 (by kernel_rfl) rfl) rfl ok21 (Nat.le_of_ble_eq_true hle) hb h
theorem conG21 {args : List AV} {s : List (Nat × AB)} {R : AV → List (Nat × AB) → Prop} (n : Nat) (hle : Nat.ble args.length 18 = true) (hb : belowB n s = true) (h : vc Try.prog cx21 n kt21 (Try.f21.body.getD .skip) (argEnv 0 args) s (KG cx21 Try.f21.results.toList n R)) : Contract Try.prog G0 21 args s R :=
  Contract.of_vG (cx := cx21) tabOK mixed Try.func21 rfl (enters_of Try.func21 (by kernel_rfl) rfl) rfl ok21 (Nat.le_of_ble_eq_true hle) hb h
/-- paternoster/order.Same -/
def cx22 : Ctx := ⟨T, G0, 8, [0, 1, 4]⟩
def kt22 : List (Nat × Nat) := []
theorem ok22 : okCode kt22 (Try.f22.body.getD .skip) = true := by kernel_rfl
theorem con22 {args : List AV} {s : List (Nat × AB)} {R : AV → List (Nat × AB) → Prop} (n : Nat) (hle : Nat.ble args.length 8 = true) (hb : belowB n s = true) (h : vc Try.prog cx22 n kt22 (Try.f22.body.getD .skip) (argEnv 0 args) s (KV T Try.f22.results.toList n R)) : Contract Try.prog G0 22 args s R :=
  Contract.of_v (cx := cx22) tabOK mixed Try.func22 rfl (enters_of Try.func22 (by kernel_rfl) rfl) rfl ok22 (Nat.le_of_ble_eq_true hle) hb h
theorem conG22 {args : List AV} {s : List (Nat × AB)} {R : AV → List (Nat × AB) → Prop} (n : Nat) (hle : Nat.ble args.length 8 = true) (hb : belowB n s = true) (h : vc Try.prog cx22 n kt22 (Try.f22.body.getD .skip) (argEnv 0 args) s (KG cx22 Try.f22.results.toList n R)) : Contract Try.prog G0 22 args s R :=
  Contract.of_vG (cx := cx22) tabOK mixed Try.func22 rfl (enters_of Try.func22 (by kernel_rfl) rfl) rfl ok22 (Nat.le_of_ble_eq_true hle) hb h
/-- paternoster/order.Has -/
def cx23 : Ctx := ⟨T, G0, 8, [0, 1, 4]⟩
def kt23 : List (Nat × Nat) := []
theorem ok23 : okCode kt23 (Try.f23.body.getD .skip) = true := by kernel_rfl
theorem con23 {args : List AV} {s : List (Nat × AB)} {R : AV → List (Nat × AB) → Prop} (n : Nat) (hle : Nat.ble args.length 8 = true) (hb : belowB n s = true) (h : vc Try.prog cx23 n kt23 (Try.f23.body.getD .skip) (argEnv 0 args) s (KV T Try.f23.results.toList n R)) : Contract Try.prog G0 23 args s R :=
  Contract.of_v (cx := cx23) tabOK mixed Try.func23 rfl (enters_of Try.func23 (by kernel_rfl) rfl) rfl ok23 (Nat.le_of_ble_eq_true hle) hb h
theorem conG23 {args : List AV} {s : List (Nat × AB)} {R : AV → List (Nat × AB) → Prop} (n : Nat) (hle : Nat.ble args.length 8 = true) (hb : belowB n s = true) (h : vc Try.prog cx23 n kt23 (Try.f23.body.getD .skip) (argEnv 0 args) s (KG cx23 Try.f23.results.toList n R)) : Contract Try.prog G0 23 args s R :=
  Contract.of_vG (cx := cx23) tabOK mixed Try.func23 rfl (enters_of Try.func23 (by kernel_rfl) rfl) rfl ok23 (Nat.le_of_ble_eq_true hle) hb h
/-- paternoster/paternosterworld.Number -/
def cx24 : Ctx := ⟨T, G0, 15, [0, 1, 4, 5, 10]⟩
def kt24 : List (Nat × Nat) := []
theorem ok24 : okCode kt24 (Try.f24.body.getD .skip) = true := by kernel_rfl
theorem con24 {args : List AV} {s : List (Nat × AB)} {R : AV → List (Nat × AB) → Prop} (n : Nat) (hle : Nat.ble args.length 15 = true) (hb : belowB n s = true) (h : vc Try.prog cx24 n kt24 (Try.f24.body.getD .skip) (argEnv 0 args) s (KV T Try.f24.results.toList n R)) : Contract Try.prog G0 24 args s R :=
  Contract.of_v (cx := cx24) tabOK mixed Try.func24 rfl (enters_of Try.func24 (by kernel_rfl) rfl) rfl ok24 (Nat.le_of_ble_eq_true hle) hb h
theorem conG24 {args : List AV} {s : List (Nat × AB)} {R : AV → List (Nat × AB) → Prop} (n : Nat) (hle : Nat.ble args.length 15 = true) (hb : belowB n s = true) (h : vc Try.prog cx24 n kt24 (Try.f24.body.getD .skip) (argEnv 0 args) s (KG cx24 Try.f24.results.toList n R)) : Contract Try.prog G0 24 args s R :=
  Contract.of_vG (cx := cx24) tabOK mixed Try.func24 rfl (enters_of Try.func24 (by kernel_rfl) rfl) rfl ok24 (Nat.le_of_ble_eq_true hle) hb h
/-- paternoster/paternosterlaw11.first -/
def cx25 : Ctx := ⟨T, G0, 16, [0, 1, 2]⟩
def kt25 : List (Nat × Nat) := []
theorem ok25 : okCode kt25 (Try.f25.body.getD .skip) = true := by kernel_rfl
theorem con25 {args : List AV} {s : List (Nat × AB)} {R : AV → List (Nat × AB) → Prop} (n : Nat) (hle : Nat.ble args.length 16 = true) (hb : belowB n s = true) (h : vc Try.prog cx25 n kt25 (Try.f25.body.getD .skip) (argEnv 0 args) s (KV T Try.f25.results.toList n R)) : Contract Try.prog G0 25 args s R :=
  Contract.of_v (cx := cx25) tabOK mixed Try.func25 rfl (enters_of Try.func25 (by kernel_rfl) rfl) rfl ok25 (Nat.le_of_ble_eq_true hle) hb h
theorem conG25 {args : List AV} {s : List (Nat × AB)} {R : AV → List (Nat × AB) → Prop} (n : Nat) (hle : Nat.ble args.length 16 = true) (hb : belowB n s = true) (h : vc Try.prog cx25 n kt25 (Try.f25.body.getD .skip) (argEnv 0 args) s (KG cx25 Try.f25.results.toList n R)) : Contract Try.prog G0 25 args s R :=
  Contract.of_vG (cx := cx25) tabOK mixed Try.func25 rfl (enters_of Try.func25 (by kernel_rfl) rfl) rfl ok25 (Nat.le_of_ble_eq_true hle) hb h
/-- (*paternoster/calls.Set).Put -/
def cx26 : Ctx := ⟨T, G0, 29, [0, 1, 3, 4, 5, 15]⟩
def kt26 : List (Nat × Nat) := [(4, 7)]
theorem ok26 : okCode kt26 (Try.f26.body.getD .skip) = true := by kernel_rfl
theorem con26 {args : List AV} {s : List (Nat × AB)} {R : AV → List (Nat × AB) → Prop} (n : Nat) (hle : Nat.ble args.length 29 = true) (hb : belowB n s = true) (h : vc Try.prog cx26 n kt26 (Try.f26.body.getD .skip) (argEnv 0 args) s (KV T Try.f26.results.toList n R)) : Contract Try.prog G0 26 args s R :=
  Contract.of_v (cx := cx26) tabOK mixed Try.func26 rfl (enters_of Try.func26 (by kernel_rfl) rfl) rfl ok26 (Nat.le_of_ble_eq_true hle) hb h
theorem conG26 {args : List AV} {s : List (Nat × AB)} {R : AV → List (Nat × AB) → Prop} (n : Nat) (hle : Nat.ble args.length 29 = true) (hb : belowB n s = true) (h : vc Try.prog cx26 n kt26 (Try.f26.body.getD .skip) (argEnv 0 args) s (KG cx26 Try.f26.results.toList n R)) : Contract Try.prog G0 26 args s R :=
  Contract.of_vG (cx := cx26) tabOK mixed Try.func26 rfl (enters_of Try.func26 (by kernel_rfl) rfl) rfl ok26 (Nat.le_of_ble_eq_true hle) hb h
/-- (*paternoster/calls.Set).All -/
def cx27 : Ctx := ⟨T, G0, 9, [0, 2]⟩
def kt27 : List (Nat × Nat) := []
theorem ok27 : okCode kt27 (Try.f27.body.getD .skip) = true := by kernel_rfl
theorem con27 {args : List AV} {s : List (Nat × AB)} {R : AV → List (Nat × AB) → Prop} (n : Nat) (hle : Nat.ble args.length 9 = true) (hb : belowB n s = true) (h : vc Try.prog cx27 n kt27 (Try.f27.body.getD .skip) (argEnv 0 args) s (KV T Try.f27.results.toList n R)) : Contract Try.prog G0 27 args s R :=
  Contract.of_v (cx := cx27) tabOK mixed Try.func27 rfl (enters_of Try.func27 (by kernel_rfl) rfl) rfl ok27 (Nat.le_of_ble_eq_true hle) hb h
theorem conG27 {args : List AV} {s : List (Nat × AB)} {R : AV → List (Nat × AB) → Prop} (n : Nat) (hle : Nat.ble args.length 9 = true) (hb : belowB n s = true) (h : vc Try.prog cx27 n kt27 (Try.f27.body.getD .skip) (argEnv 0 args) s (KG cx27 Try.f27.results.toList n R)) : Contract Try.prog G0 27 args s R :=
  Contract.of_vG (cx := cx27) tabOK mixed Try.func27 rfl (enters_of Try.func27 (by kernel_rfl) rfl) rfl ok27 (Nat.le_of_ble_eq_true hle) hb h
/-- paternoster/calls.Less -/
def cx28 : Ctx := ⟨T, G0, 9, [0, 1, 2, 3, 4]⟩
def kt28 : List (Nat × Nat) := []
theorem ok28 : okCode kt28 (Try.f28.body.getD .skip) = true := by kernel_rfl
theorem con28 {args : List AV} {s : List (Nat × AB)} {R : AV → List (Nat × AB) → Prop} (n : Nat) (hle : Nat.ble args.length 9 = true) (hb : belowB n s = true) (h : vc Try.prog cx28 n kt28 (Try.f28.body.getD .skip) (argEnv 0 args) s (KV T Try.f28.results.toList n R)) : Contract Try.prog G0 28 args s R :=
  Contract.of_v (cx := cx28) tabOK mixed Try.func28 rfl (enters_of Try.func28 (by kernel_rfl) rfl) rfl ok28 (Nat.le_of_ble_eq_true hle) hb h
theorem conG28 {args : List AV} {s : List (Nat × AB)} {R : AV → List (Nat × AB) → Prop} (n : Nat) (hle : Nat.ble args.length 9 = true) (hb : belowB n s = true) (h : vc Try.prog cx28 n kt28 (Try.f28.body.getD .skip) (argEnv 0 args) s (KG cx28 Try.f28.results.toList n R)) : Contract Try.prog G0 28 args s R :=
  Contract.of_vG (cx := cx28) tabOK mixed Try.func28 rfl (enters_of Try.func28 (by kernel_rfl) rfl) rfl ok28 (Nat.le_of_ble_eq_true hle) hb h
/-- (*paternoster/calls.Set).Has -/
def cx29 : Ctx := ⟨T, G0, 17, [0, 1, 3, 4, 6]⟩
def kt29 : List (Nat × Nat) := [(1, 10)]
theorem ok29 : okCode kt29 (Try.f29.body.getD .skip) = true := by kernel_rfl
theorem con29 {args : List AV} {s : List (Nat × AB)} {R : AV → List (Nat × AB) → Prop} (n : Nat) (hle : Nat.ble args.length 17 = true) (hb : belowB n s = true) (h : vc Try.prog cx29 n kt29 (Try.f29.body.getD .skip) (argEnv 0 args) s (KV T Try.f29.results.toList n R)) : Contract Try.prog G0 29 args s R :=
  Contract.of_v (cx := cx29) tabOK mixed Try.func29 rfl (enters_of Try.func29 (by kernel_rfl) rfl) rfl ok29 (Nat.le_of_ble_eq_true hle) hb h
theorem conG29 {args : List AV} {s : List (Nat × AB)} {R : AV → List (Nat × AB) → Prop} (n : Nat) (hle : Nat.ble args.length 17 = true) (hb : belowB n s = true) (h : vc Try.prog cx29 n kt29 (Try.f29.body.getD .skip) (argEnv 0 args) s (KG cx29 Try.f29.results.toList n R)) : Contract Try.prog G0 29 args s R :=
  Contract.of_vG (cx := cx29) tabOK mixed Try.func29 rfl (enters_of Try.func29 (by kernel_rfl) rfl) rfl ok29 (Nat.le_of_ble_eq_true hle) hb h
/-- paternoster/paternosterref.SameLatchs -/
def cx30 : Ctx := ⟨T, G0, 29, [0, 1, 4, 5, 6, 11, 15, 28]⟩
def kt30 : List (Nat × Nat) := [(6, 8)]
theorem ok30 : okCode kt30 (Try.f30.body.getD .skip) = true := by kernel_rfl
theorem con30 {args : List AV} {s : List (Nat × AB)} {R : AV → List (Nat × AB) → Prop} (n : Nat) (hle : Nat.ble args.length 29 = true) (hb : belowB n s = true) (h : vc Try.prog cx30 n kt30 (Try.f30.body.getD .skip) (argEnv 0 args) s (KV T Try.f30.results.toList n R)) : Contract Try.prog G0 30 args s R :=
  Contract.of_v (cx := cx30) tabOK mixed Try.func30 rfl (enters_of Try.func30 (by kernel_rfl) rfl) rfl ok30 (Nat.le_of_ble_eq_true hle) hb h
theorem conG30 {args : List AV} {s : List (Nat × AB)} {R : AV → List (Nat × AB) → Prop} (n : Nat) (hle : Nat.ble args.length 29 = true) (hb : belowB n s = true) (h : vc Try.prog cx30 n kt30 (Try.f30.body.getD .skip) (argEnv 0 args) s (KG cx30 Try.f30.results.toList n R)) : Contract Try.prog G0 30 args s R :=
  Contract.of_vG (cx := cx30) tabOK mixed Try.func30 rfl (enters_of Try.func30 (by kernel_rfl) rfl) rfl ok30 (Nat.le_of_ble_eq_true hle) hb h
/-- paternoster/paternosterlaw21.first -/
def cx31 : Ctx := ⟨T, G0, 8, [0]⟩
def kt31 : List (Nat × Nat) := []
theorem ok31 : okCode kt31 (Try.f31.body.getD .skip) = true := by kernel_rfl
theorem con31 {args : List AV} {s : List (Nat × AB)} {R : AV → List (Nat × AB) → Prop} (n : Nat) (hle : Nat.ble args.length 8 = true) (hb : belowB n s = true) (h : vc Try.prog cx31 n kt31 (Try.f31.body.getD .skip) (argEnv 0 args) s (KV T Try.f31.results.toList n R)) : Contract Try.prog G0 31 args s R :=
  Contract.of_v (cx := cx31) tabOK mixed Try.func31 rfl (enters_of Try.func31 (by kernel_rfl) rfl) rfl ok31 (Nat.le_of_ble_eq_true hle) hb h
theorem conG31 {args : List AV} {s : List (Nat × AB)} {R : AV → List (Nat × AB) → Prop} (n : Nat) (hle : Nat.ble args.length 8 = true) (hb : belowB n s = true) (h : vc Try.prog cx31 n kt31 (Try.f31.body.getD .skip) (argEnv 0 args) s (KG cx31 Try.f31.results.toList n R)) : Contract Try.prog G0 31 args s R :=
  Contract.of_vG (cx := cx31) tabOK mixed Try.func31 rfl (enters_of Try.func31 (by kernel_rfl) rfl) rfl ok31 (Nat.le_of_ble_eq_true hle) hb h
/-- paternoster/found.Should -/
def cx32 : Ctx := ⟨T, G0, 47, [0, 1, 2, 3, 4, 28]⟩
def kt32 : List (Nat × Nat) := [(3, 14), (5, 16)]
theorem ok32 : okCode kt32 (Try.f32.body.getD .skip) = true := by kernel_rfl
theorem con32 {args : List AV} {s : List (Nat × AB)} {R : AV → List (Nat × AB) → Prop} (n : Nat) (hle : Nat.ble args.length 47 = true) (hb : belowB n s = true) (h : vc Try.prog cx32 n kt32 (Try.f32.body.getD .skip) (argEnv 0 args) s (KV T Try.f32.results.toList n R)) : Contract Try.prog G0 32 args s R :=
  Contract.of_v (cx := cx32) tabOK mixed Try.func32 rfl (enters_of Try.func32 (by kernel_rfl) rfl) rfl ok32 (Nat.le_of_ble_eq_true hle) hb h
theorem conG32 {args : List AV} {s : List (Nat × AB)} {R : AV → List (Nat × AB) → Prop} (n : Nat) (hle : Nat.ble args.length 47 = true) (hb : belowB n s = true) (h : vc Try.prog cx32 n kt32 (Try.f32.body.getD .skip) (argEnv 0 args) s (KG cx32 Try.f32.results.toList n R)) : Contract Try.prog G0 32 args s R :=
  Contract.of_vG (cx := cx32) tabOK mixed Try.func32 rfl (enters_of Try.func32 (by kernel_rfl) rfl) rfl ok32 (Nat.le_of_ble_eq_true hle) hb h
/-- paternoster/paternosterref18.Should -/
def cx33 : Ctx := ⟨T, G0, 42, [0, 1, 2, 3, 23]⟩
def kt33 : List (Nat × Nat) := [(2, 16), (4, 16)]
theorem ok33 : okCode kt33 (Try.f33.body.getD .skip) = true := by kernel_rfl
theorem con33 {args : List AV} {s : List (Nat × AB)} {R : AV → List (Nat × AB) → Prop} (n : Nat) (hle : Nat.ble args.length 42 = true) (hb : belowB n s = true) (h : vc Try.prog cx33 n kt33 (Try.f33.body.getD .skip) (argEnv 0 args) s (KV T Try.f33.results.toList n R)) : Contract Try.prog G0 33 args s R :=
  Contract.of_v (cx := cx33) tabOK mixed Try.func33 rfl (enters_of Try.func33 (by kernel_rfl) rfl) rfl ok33 (Nat.le_of_ble_eq_true hle) hb h
theorem conG33 {args : List AV} {s : List (Nat × AB)} {R : AV → List (Nat × AB) → Prop} (n : Nat) (hle : Nat.ble args.length 42 = true) (hb : belowB n s = true) (h : vc Try.prog cx33 n kt33 (Try.f33.body.getD .skip) (argEnv 0 args) s (KG cx33 Try.f33.results.toList n R)) : Contract Try.prog G0 33 args s R :=
  Contract.of_vG (cx := cx33) tabOK mixed Try.func33 rfl (enters_of Try.func33 (by kernel_rfl) rfl) rfl ok33 (Nat.le_of_ble_eq_true hle) hb h
/-- paternoster/paternosterref.SameInts -/
def cx34 : Ctx := ⟨T, G0, 29, [0, 1, 4, 5, 6, 11, 15, 28]⟩
def kt34 : List (Nat × Nat) := [(6, 8)]
theorem ok34 : okCode kt34 (Try.f34.body.getD .skip) = true := by kernel_rfl
theorem con34 {args : List AV} {s : List (Nat × AB)} {R : AV → List (Nat × AB) → Prop} (n : Nat) (hle : Nat.ble args.length 29 = true) (hb : belowB n s = true) (h : vc Try.prog cx34 n kt34 (Try.f34.body.getD .skip) (argEnv 0 args) s (KV T Try.f34.results.toList n R)) : Contract Try.prog G0 34 args s R :=
  Contract.of_v (cx := cx34) tabOK mixed Try.func34 rfl (enters_of Try.func34 (by kernel_rfl) rfl) rfl ok34 (Nat.le_of_ble_eq_true hle) hb h
theorem conG34 {args : List AV} {s : List (Nat × AB)} {R : AV → List (Nat × AB) → Prop} (n : Nat) (hle : Nat.ble args.length 29 = true) (hb : belowB n s = true) (h : vc Try.prog cx34 n kt34 (Try.f34.body.getD .skip) (argEnv 0 args) s (KG cx34 Try.f34.results.toList n R)) : Contract Try.prog G0 34 args s R :=
  Contract.of_vG (cx := cx34) tabOK mixed Try.func34 rfl (enters_of Try.func34 (by kernel_rfl) rfl) rfl ok34 (Nat.le_of_ble_eq_true hle) hb h
/-- paternoster/found.Members -/
def cx35 : Ctx := ⟨T, G0, 11, [0, 1, 2]⟩
def kt35 : List (Nat × Nat) := [(1, 6)]
theorem ok35 : okCode kt35 (Try.f35.body.getD .skip) = true := by kernel_rfl
theorem con35 {args : List AV} {s : List (Nat × AB)} {R : AV → List (Nat × AB) → Prop} (n : Nat) (hle : Nat.ble args.length 11 = true) (hb : belowB n s = true) (h : vc Try.prog cx35 n kt35 (Try.f35.body.getD .skip) (argEnv 0 args) s (KV T Try.f35.results.toList n R)) : Contract Try.prog G0 35 args s R :=
  Contract.of_v (cx := cx35) tabOK mixed Try.func35 rfl (enters_of Try.func35 (by kernel_rfl) rfl) rfl ok35 (Nat.le_of_ble_eq_true hle) hb h
theorem conG35 {args : List AV} {s : List (Nat × AB)} {R : AV → List (Nat × AB) → Prop} (n : Nat) (hle : Nat.ble args.length 11 = true) (hb : belowB n s = true) (h : vc Try.prog cx35 n kt35 (Try.f35.body.getD .skip) (argEnv 0 args) s (KG cx35 Try.f35.results.toList n R)) : Contract Try.prog G0 35 args s R :=
  Contract.of_vG (cx := cx35) tabOK mixed Try.func35 rfl (enters_of Try.func35 (by kernel_rfl) rfl) rfl ok35 (Nat.le_of_ble_eq_true hle) hb h
/-- paternoster/paternosterref18.Members -/
def cx36 : Ctx := ⟨T, G0, 9, [0, 1, 2]⟩
def kt36 : List (Nat × Nat) := [(1, 5)]
theorem ok36 : okCode kt36 (Try.f36.body.getD .skip) = true := by kernel_rfl
theorem con36 {args : List AV} {s : List (Nat × AB)} {R : AV → List (Nat × AB) → Prop} (n : Nat) (hle : Nat.ble args.length 9 = true) (hb : belowB n s = true) (h : vc Try.prog cx36 n kt36 (Try.f36.body.getD .skip) (argEnv 0 args) s (KV T Try.f36.results.toList n R)) : Contract Try.prog G0 36 args s R :=
  Contract.of_v (cx := cx36) tabOK mixed Try.func36 rfl (enters_of Try.func36 (by kernel_rfl) rfl) rfl ok36 (Nat.le_of_ble_eq_true hle) hb h
theorem conG36 {args : List AV} {s : List (Nat × AB)} {R : AV → List (Nat × AB) → Prop} (n : Nat) (hle : Nat.ble args.length 9 = true) (hb : belowB n s = true) (h : vc Try.prog cx36 n kt36 (Try.f36.body.getD .skip) (argEnv 0 args) s (KG cx36 Try.f36.results.toList n R)) : Contract Try.prog G0 36 args s R :=
  Contract.of_vG (cx := cx36) tabOK mixed Try.func36 rfl (enters_of Try.func36 (by kernel_rfl) rfl) rfl ok36 (Nat.le_of_ble_eq_true hle) hb h
/-- paternoster/found.Patience -/
def cx37 : Ctx := ⟨T, G0, 6, [0, 2]⟩
def kt37 : List (Nat × Nat) := []
theorem ok37 : okCode kt37 (Try.f37.body.getD .skip) = true := by kernel_rfl
theorem con37 {args : List AV} {s : List (Nat × AB)} {R : AV → List (Nat × AB) → Prop} (n : Nat) (hle : Nat.ble args.length 6 = true) (hb : belowB n s = true) (h : vc Try.prog cx37 n kt37 (Try.f37.body.getD .skip) (argEnv 0 args) s (KV T Try.f37.results.toList n R)) : Contract Try.prog G0 37 args s R :=
  Contract.of_v (cx := cx37) tabOK mixed Try.func37 rfl (enters_of Try.func37 (by kernel_rfl) rfl) rfl ok37 (Nat.le_of_ble_eq_true hle) hb h
theorem conG37 {args : List AV} {s : List (Nat × AB)} {R : AV → List (Nat × AB) → Prop} (n : Nat) (hle : Nat.ble args.length 6 = true) (hb : belowB n s = true) (h : vc Try.prog cx37 n kt37 (Try.f37.body.getD .skip) (argEnv 0 args) s (KG cx37 Try.f37.results.toList n R)) : Contract Try.prog G0 37 args s R :=
  Contract.of_vG (cx := cx37) tabOK mixed Try.func37 rfl (enters_of Try.func37 (by kernel_rfl) rfl) rfl ok37 (Nat.le_of_ble_eq_true hle) hb h
/-- paternoster/paternosterref18.Patience -/
def cx38 : Ctx := ⟨T, G0, 6, [0, 2]⟩
def kt38 : List (Nat × Nat) := []
theorem ok38 : okCode kt38 (Try.f38.body.getD .skip) = true := by kernel_rfl
theorem con38 {args : List AV} {s : List (Nat × AB)} {R : AV → List (Nat × AB) → Prop} (n : Nat) (hle : Nat.ble args.length 6 = true) (hb : belowB n s = true) (h : vc Try.prog cx38 n kt38 (Try.f38.body.getD .skip) (argEnv 0 args) s (KV T Try.f38.results.toList n R)) : Contract Try.prog G0 38 args s R :=
  Contract.of_v (cx := cx38) tabOK mixed Try.func38 rfl (enters_of Try.func38 (by kernel_rfl) rfl) rfl ok38 (Nat.le_of_ble_eq_true hle) hb h
theorem conG38 {args : List AV} {s : List (Nat × AB)} {R : AV → List (Nat × AB) → Prop} (n : Nat) (hle : Nat.ble args.length 6 = true) (hb : belowB n s = true) (h : vc Try.prog cx38 n kt38 (Try.f38.body.getD .skip) (argEnv 0 args) s (KG cx38 Try.f38.results.toList n R)) : Contract Try.prog G0 38 args s R :=
  Contract.of_vG (cx := cx38) tabOK mixed Try.func38 rfl (enters_of Try.func38 (by kernel_rfl) rfl) rfl ok38 (Nat.le_of_ble_eq_true hle) hb h
/-- paternoster/paternosterref.Put -/
def cx39 : Ctx := ⟨T, G0, 47, [0, 1, 4, 5, 6, 18, 32]⟩
def kt39 : List (Nat × Nat) := []
theorem ok39 : okCode kt39 (Try.f39.body.getD .skip) = true := by kernel_rfl
theorem con39 {args : List AV} {s : List (Nat × AB)} {R : AV → List (Nat × AB) → Prop} (n : Nat) (hle : Nat.ble args.length 47 = true) (hb : belowB n s = true) (h : vc Try.prog cx39 n kt39 (Try.f39.body.getD .skip) (argEnv 0 args) s (KV T Try.f39.results.toList n R)) : Contract Try.prog G0 39 args s R :=
  Contract.of_v (cx := cx39) tabOK mixed Try.func39 rfl (enters_of Try.func39 (by kernel_rfl) rfl) rfl ok39 (Nat.le_of_ble_eq_true hle) hb h
theorem conG39 {args : List AV} {s : List (Nat × AB)} {R : AV → List (Nat × AB) → Prop} (n : Nat) (hle : Nat.ble args.length 47 = true) (hb : belowB n s = true) (h : vc Try.prog cx39 n kt39 (Try.f39.body.getD .skip) (argEnv 0 args) s (KG cx39 Try.f39.results.toList n R)) : Contract Try.prog G0 39 args s R :=
  Contract.of_vG (cx := cx39) tabOK mixed Try.func39 rfl (enters_of Try.func39 (by kernel_rfl) rfl) rfl ok39 (Nat.le_of_ble_eq_true hle) hb h
/-- paternoster/paternosterref6.Set -/
def cx40 : Ctx := ⟨T, G0, 18, [0, 2, 3, 4, 8]⟩
def kt40 : List (Nat × Nat) := []
theorem ok40 : okCode kt40 (Try.f40.body.getD .skip) = true := by kernel_rfl
theorem con40 {args : List AV} {s : List (Nat × AB)} {R : AV → List (Nat × AB) → Prop} (n : Nat) (hle : Nat.ble args.length 18 = true) (hb : belowB n s = true) (h : vc Try.prog cx40 n kt40 (Try.f40.body.getD .skip) (argEnv 0 args) s (KV T Try.f40.results.toList n R)) : Contract Try.prog G0 40 args s R :=
  Contract.of_v (cx := cx40) tabOK mixed Try.func40 rfl (enters_of Try.func40 (by kernel_rfl) rfl) rfl ok40 (Nat.le_of_ble_eq_true hle) hb h
theorem conG40 {args : List AV} {s : List (Nat × AB)} {R : AV → List (Nat × AB) → Prop} (n : Nat) (hle : Nat.ble args.length 18 = true) (hb : belowB n s = true) (h : vc Try.prog cx40 n kt40 (Try.f40.body.getD .skip) (argEnv 0 args) s (KG cx40 Try.f40.results.toList n R)) : Contract Try.prog G0 40 args s R :=
  Contract.of_vG (cx := cx40) tabOK mixed Try.func40 rfl (enters_of Try.func40 (by kernel_rfl) rfl) rfl ok40 (Nat.le_of_ble_eq_true hle) hb h
/-- paternoster/paternosterref6.Next -/
def cx41 : Ctx := ⟨T, G0, 30, [0, 1, 4, 5, 6, 10, 14, 22]⟩
def kt41 : List (Nat × Nat) := []
theorem ok41 : okCode kt41 (Try.f41.body.getD .skip) = true := by kernel_rfl
theorem con41 {args : List AV} {s : List (Nat × AB)} {R : AV → List (Nat × AB) → Prop} (n : Nat) (hle : Nat.ble args.length 30 = true) (hb : belowB n s = true) (h : vc Try.prog cx41 n kt41 (Try.f41.body.getD .skip) (argEnv 0 args) s (KV T Try.f41.results.toList n R)) : Contract Try.prog G0 41 args s R :=
  Contract.of_v (cx := cx41) tabOK mixed Try.func41 rfl (enters_of Try.func41 (by kernel_rfl) rfl) rfl ok41 (Nat.le_of_ble_eq_true hle) hb h
theorem conG41 {args : List AV} {s : List (Nat × AB)} {R : AV → List (Nat × AB) → Prop} (n : Nat) (hle : Nat.ble args.length 30 = true) (hb : belowB n s = true) (h : vc Try.prog cx41 n kt41 (Try.f41.body.getD .skip) (argEnv 0 args) s (KG cx41 Try.f41.results.toList n R)) : Contract Try.prog G0 41 args s R :=
  Contract.of_vG (cx := cx41) tabOK mixed Try.func41 rfl (enters_of Try.func41 (by kernel_rfl) rfl) rfl ok41 (Nat.le_of_ble_eq_true hle) hb h
/-- paternoster/order.Least -/
def cx42 : Ctx := ⟨T, G0, 9, [0, 2, 3, 6]⟩
def kt42 : List (Nat × Nat) := []
theorem ok42 : okCode kt42 (Try.f42.body.getD .skip) = true := by kernel_rfl
theorem con42 {args : List AV} {s : List (Nat × AB)} {R : AV → List (Nat × AB) → Prop} (n : Nat) (hle : Nat.ble args.length 9 = true) (hb : belowB n s = true) (h : vc Try.prog cx42 n kt42 (Try.f42.body.getD .skip) (argEnv 0 args) s (KV T Try.f42.results.toList n R)) : Contract Try.prog G0 42 args s R :=
  Contract.of_v (cx := cx42) tabOK mixed Try.func42 rfl (enters_of Try.func42 (by kernel_rfl) rfl) rfl ok42 (Nat.le_of_ble_eq_true hle) hb h
theorem conG42 {args : List AV} {s : List (Nat × AB)} {R : AV → List (Nat × AB) → Prop} (n : Nat) (hle : Nat.ble args.length 9 = true) (hb : belowB n s = true) (h : vc Try.prog cx42 n kt42 (Try.f42.body.getD .skip) (argEnv 0 args) s (KG cx42 Try.f42.results.toList n R)) : Contract Try.prog G0 42 args s R :=
  Contract.of_vG (cx := cx42) tabOK mixed Try.func42 rfl (enters_of Try.func42 (by kernel_rfl) rfl) rfl ok42 (Nat.le_of_ble_eq_true hle) hb h
/-- paternoster/paternosterref.Ints -/
def cx43 : Ctx := ⟨T, G0, 22, [0, 2, 3, 4, 11]⟩
def kt43 : List (Nat × Nat) := []
theorem ok43 : okCode kt43 (Try.f43.body.getD .skip) = true := by kernel_rfl
theorem con43 {args : List AV} {s : List (Nat × AB)} {R : AV → List (Nat × AB) → Prop} (n : Nat) (hle : Nat.ble args.length 22 = true) (hb : belowB n s = true) (h : vc Try.prog cx43 n kt43 (Try.f43.body.getD .skip) (argEnv 0 args) s (KV T Try.f43.results.toList n R)) : Contract Try.prog G0 43 args s R :=
  Contract.of_v (cx := cx43) tabOK mixed Try.func43 rfl (enters_of Try.func43 (by kernel_rfl) rfl) rfl ok43 (Nat.le_of_ble_eq_true hle) hb h
theorem conG43 {args : List AV} {s : List (Nat × AB)} {R : AV → List (Nat × AB) → Prop} (n : Nat) (hle : Nat.ble args.length 22 = true) (hb : belowB n s = true) (h : vc Try.prog cx43 n kt43 (Try.f43.body.getD .skip) (argEnv 0 args) s (KG cx43 Try.f43.results.toList n R)) : Contract Try.prog G0 43 args s R :=
  Contract.of_vG (cx := cx43) tabOK mixed Try.func43 rfl (enters_of Try.func43 (by kernel_rfl) rfl) rfl ok43 (Nat.le_of_ble_eq_true hle) hb h
/-- (*paternoster/calls.Set).Keep -/
def cx44 : Ctx := ⟨T, G0, 30, [0, 1, 4, 5, 6, 7, 12, 14, 21]⟩
def kt44 : List (Nat × Nat) := [(6, 5)]
theorem ok44 : okCode kt44 (Try.f44.body.getD .skip) = true := by kernel_rfl
theorem con44 {args : List AV} {s : List (Nat × AB)} {R : AV → List (Nat × AB) → Prop} (n : Nat) (hle : Nat.ble args.length 30 = true) (hb : belowB n s = true) (h : vc Try.prog cx44 n kt44 (Try.f44.body.getD .skip) (argEnv 0 args) s (KV T Try.f44.results.toList n R)) : Contract Try.prog G0 44 args s R :=
  Contract.of_v (cx := cx44) tabOK mixed Try.func44 rfl (enters_of Try.func44 (by kernel_rfl) rfl) rfl ok44 (Nat.le_of_ble_eq_true hle) hb h
theorem conG44 {args : List AV} {s : List (Nat × AB)} {R : AV → List (Nat × AB) → Prop} (n : Nat) (hle : Nat.ble args.length 30 = true) (hb : belowB n s = true) (h : vc Try.prog cx44 n kt44 (Try.f44.body.getD .skip) (argEnv 0 args) s (KG cx44 Try.f44.results.toList n R)) : Contract Try.prog G0 44 args s R :=
  Contract.of_vG (cx := cx44) tabOK mixed Try.func44 rfl (enters_of Try.func44 (by kernel_rfl) rfl) rfl ok44 (Nat.le_of_ble_eq_true hle) hb h
/-- paternoster/paternosterref.HasLatch -/
def cx45 : Ctx := ⟨T, G0, 18, [0, 1, 3, 4, 5, 9, 17]⟩
def kt45 : List (Nat × Nat) := [(4, 5)]
theorem ok45 : okCode kt45 (Try.f45.body.getD .skip) = true := by kernel_rfl
theorem con45 {args : List AV} {s : List (Nat × AB)} {R : AV → List (Nat × AB) → Prop} (n : Nat) (hle : Nat.ble args.length 18 = true) (hb : belowB n s = true) (h : vc Try.prog cx45 n kt45 (Try.f45.body.getD .skip) (argEnv 0 args) s (KV T Try.f45.results.toList n R)) : Contract Try.prog G0 45 args s R :=
  Contract.of_v (cx := cx45) tabOK mixed Try.func45 rfl (enters_of Try.func45 (by kernel_rfl) rfl) rfl ok45 (Nat.le_of_ble_eq_true hle) hb h
theorem conG45 {args : List AV} {s : List (Nat × AB)} {R : AV → List (Nat × AB) → Prop} (n : Nat) (hle : Nat.ble args.length 18 = true) (hb : belowB n s = true) (h : vc Try.prog cx45 n kt45 (Try.f45.body.getD .skip) (argEnv 0 args) s (KG cx45 Try.f45.results.toList n R)) : Contract Try.prog G0 45 args s R :=
  Contract.of_vG (cx := cx45) tabOK mixed Try.func45 rfl (enters_of Try.func45 (by kernel_rfl) rfl) rfl ok45 (Nat.le_of_ble_eq_true hle) hb h
/-- (*paternoster/calls.Set).Len -/
def cx46 : Ctx := ⟨T, G0, 8, [0, 2]⟩
def kt46 : List (Nat × Nat) := []
theorem ok46 : okCode kt46 (Try.f46.body.getD .skip) = true := by kernel_rfl
theorem con46 {args : List AV} {s : List (Nat × AB)} {R : AV → List (Nat × AB) → Prop} (n : Nat) (hle : Nat.ble args.length 8 = true) (hb : belowB n s = true) (h : vc Try.prog cx46 n kt46 (Try.f46.body.getD .skip) (argEnv 0 args) s (KV T Try.f46.results.toList n R)) : Contract Try.prog G0 46 args s R :=
  Contract.of_v (cx := cx46) tabOK mixed Try.func46 rfl (enters_of Try.func46 (by kernel_rfl) rfl) rfl ok46 (Nat.le_of_ble_eq_true hle) hb h
theorem conG46 {args : List AV} {s : List (Nat × AB)} {R : AV → List (Nat × AB) → Prop} (n : Nat) (hle : Nat.ble args.length 8 = true) (hb : belowB n s = true) (h : vc Try.prog cx46 n kt46 (Try.f46.body.getD .skip) (argEnv 0 args) s (KG cx46 Try.f46.results.toList n R)) : Contract Try.prog G0 46 args s R :=
  Contract.of_vG (cx := cx46) tabOK mixed Try.func46 rfl (enters_of Try.func46 (by kernel_rfl) rfl) rfl ok46 (Nat.le_of_ble_eq_true hle) hb h
/-- paternoster/paternosterlaw19.first -/
def cx47 : Ctx := ⟨T, G0, 28, [0, 1, 3]⟩
def kt47 : List (Nat × Nat) := []
theorem ok47 : okCode kt47 (Try.f47.body.getD .skip) = true := by kernel_rfl
theorem con47 {args : List AV} {s : List (Nat × AB)} {R : AV → List (Nat × AB) → Prop} (n : Nat) (hle : Nat.ble args.length 28 = true) (hb : belowB n s = true) (h : vc Try.prog cx47 n kt47 (Try.f47.body.getD .skip) (argEnv 0 args) s (KV T Try.f47.results.toList n R)) : Contract Try.prog G0 47 args s R :=
  Contract.of_v (cx := cx47) tabOK mixed Try.func47 rfl (enters_of Try.func47 (by kernel_rfl) rfl) rfl ok47 (Nat.le_of_ble_eq_true hle) hb h
theorem conG47 {args : List AV} {s : List (Nat × AB)} {R : AV → List (Nat × AB) → Prop} (n : Nat) (hle : Nat.ble args.length 28 = true) (hb : belowB n s = true) (h : vc Try.prog cx47 n kt47 (Try.f47.body.getD .skip) (argEnv 0 args) s (KG cx47 Try.f47.results.toList n R)) : Contract Try.prog G0 47 args s R :=
  Contract.of_vG (cx := cx47) tabOK mixed Try.func47 rfl (enters_of Try.func47 (by kernel_rfl) rfl) rfl ok47 (Nat.le_of_ble_eq_true hle) hb h
/-- paternoster/paternosterlaw19.light -/
def cx48 : Ctx := ⟨T, G0, 34, [0, 1, 2, 3, 8, 18]⟩
def kt48 : List (Nat × Nat) := []
theorem ok48 : okCode kt48 (Try.f48.body.getD .skip) = true := by kernel_rfl
theorem con48 {args : List AV} {s : List (Nat × AB)} {R : AV → List (Nat × AB) → Prop} (n : Nat) (hle : Nat.ble args.length 34 = true) (hb : belowB n s = true) (h : vc Try.prog cx48 n kt48 (Try.f48.body.getD .skip) (argEnv 0 args) s (KV T Try.f48.results.toList n R)) : Contract Try.prog G0 48 args s R :=
  Contract.of_v (cx := cx48) tabOK mixed Try.func48 rfl (enters_of Try.func48 (by kernel_rfl) rfl) rfl ok48 (Nat.le_of_ble_eq_true hle) hb h
theorem conG48 {args : List AV} {s : List (Nat × AB)} {R : AV → List (Nat × AB) → Prop} (n : Nat) (hle : Nat.ble args.length 34 = true) (hb : belowB n s = true) (h : vc Try.prog cx48 n kt48 (Try.f48.body.getD .skip) (argEnv 0 args) s (KG cx48 Try.f48.results.toList n R)) : Contract Try.prog G0 48 args s R :=
  Contract.of_vG (cx := cx48) tabOK mixed Try.func48 rfl (enters_of Try.func48 (by kernel_rfl) rfl) rfl ok48 (Nat.le_of_ble_eq_true hle) hb h
/-- paternoster/ledger.Award -/
def cx49 : Ctx := ⟨T, G0, 61, [0, 1, 2, 3, 4, 5, 6, 7, 8, 13, 14, 15, 45]⟩
def kt49 : List (Nat × Nat) := [(8, 15), (12, 3)]
theorem ok49 : okCode kt49 (Try.f49.body.getD .skip) = true := by kernel_rfl
theorem con49 {args : List AV} {s : List (Nat × AB)} {R : AV → List (Nat × AB) → Prop} (n : Nat) (hle : Nat.ble args.length 61 = true) (hb : belowB n s = true) (h : vc Try.prog cx49 n kt49 (Try.f49.body.getD .skip) (argEnv 0 args) s (KV T Try.f49.results.toList n R)) : Contract Try.prog G0 49 args s R :=
  Contract.of_v (cx := cx49) tabOK mixed Try.func49 rfl (enters_of Try.func49 (by kernel_rfl) rfl) rfl ok49 (Nat.le_of_ble_eq_true hle) hb h
theorem conG49 {args : List AV} {s : List (Nat × AB)} {R : AV → List (Nat × AB) → Prop} (n : Nat) (hle : Nat.ble args.length 61 = true) (hb : belowB n s = true) (h : vc Try.prog cx49 n kt49 (Try.f49.body.getD .skip) (argEnv 0 args) s (KG cx49 Try.f49.results.toList n R)) : Contract Try.prog G0 49 args s R :=
  Contract.of_vG (cx := cx49) tabOK mixed Try.func49 rfl (enters_of Try.func49 (by kernel_rfl) rfl) rfl ok49 (Nat.le_of_ble_eq_true hle) hb h
/-- paternoster/ledger.Mine -/
def cx50 : Ctx := ⟨T, G0, 31, [0, 1, 2, 4, 5, 7, 9, 10, 11, 12, 23]⟩
def kt50 : List (Nat × Nat) := []
theorem ok50 : okCode kt50 (Try.f50.body.getD .skip) = true := by kernel_rfl
theorem con50 {args : List AV} {s : List (Nat × AB)} {R : AV → List (Nat × AB) → Prop} (n : Nat) (hle : Nat.ble args.length 31 = true) (hb : belowB n s = true) (h : vc Try.prog cx50 n kt50 (Try.f50.body.getD .skip) (argEnv 0 args) s (KV T Try.f50.results.toList n R)) : Contract Try.prog G0 50 args s R :=
  Contract.of_v (cx := cx50) tabOK mixed Try.func50 rfl (enters_of Try.func50 (by kernel_rfl) rfl) rfl ok50 (Nat.le_of_ble_eq_true hle) hb h
theorem conG50 {args : List AV} {s : List (Nat × AB)} {R : AV → List (Nat × AB) → Prop} (n : Nat) (hle : Nat.ble args.length 31 = true) (hb : belowB n s = true) (h : vc Try.prog cx50 n kt50 (Try.f50.body.getD .skip) (argEnv 0 args) s (KG cx50 Try.f50.results.toList n R)) : Contract Try.prog G0 50 args s R :=
  Contract.of_vG (cx := cx50) tabOK mixed Try.func50 rfl (enters_of Try.func50 (by kernel_rfl) rfl) rfl ok50 (Nat.le_of_ble_eq_true hle) hb h
/-- (*paternoster/calls.Set).Clone -/
def cx51 : Ctx := ⟨T, G0, 10, [0, 2]⟩
def kt51 : List (Nat × Nat) := []
theorem ok51 : okCode kt51 (Try.f51.body.getD .skip) = true := by kernel_rfl
theorem con51 {args : List AV} {s : List (Nat × AB)} {R : AV → List (Nat × AB) → Prop} (n : Nat) (hle : Nat.ble args.length 10 = true) (hb : belowB n s = true) (h : vc Try.prog cx51 n kt51 (Try.f51.body.getD .skip) (argEnv 0 args) s (KV T Try.f51.results.toList n R)) : Contract Try.prog G0 51 args s R :=
  Contract.of_v (cx := cx51) tabOK mixed Try.func51 rfl (enters_of Try.func51 (by kernel_rfl) rfl) rfl ok51 (Nat.le_of_ble_eq_true hle) hb h
theorem conG51 {args : List AV} {s : List (Nat × AB)} {R : AV → List (Nat × AB) → Prop} (n : Nat) (hle : Nat.ble args.length 10 = true) (hb : belowB n s = true) (h : vc Try.prog cx51 n kt51 (Try.f51.body.getD .skip) (argEnv 0 args) s (KG cx51 Try.f51.results.toList n R)) : Contract Try.prog G0 51 args s R :=
  Contract.of_vG (cx := cx51) tabOK mixed Try.func51 rfl (enters_of Try.func51 (by kernel_rfl) rfl) rfl ok51 (Nat.le_of_ble_eq_true hle) hb h
/-- paternoster/paternosterref6.PutLatch -/
def cx52 : Ctx := ⟨T, G0, 57, [0, 1, 3, 4, 5, 6, 7, 8, 22, 48]⟩
def kt52 : List (Nat × Nat) := [(2, 12), (4, 6), (5, 12)]
theorem ok52 : okCode kt52 (Try.f52.body.getD .skip) = true := by kernel_rfl
theorem con52 {args : List AV} {s : List (Nat × AB)} {R : AV → List (Nat × AB) → Prop} (n : Nat) (hle : Nat.ble args.length 57 = true) (hb : belowB n s = true) (h : vc Try.prog cx52 n kt52 (Try.f52.body.getD .skip) (argEnv 0 args) s (KV T Try.f52.results.toList n R)) : Contract Try.prog G0 52 args s R :=
  Contract.of_v (cx := cx52) tabOK mixed Try.func52 rfl (enters_of Try.func52 (by kernel_rfl) rfl) rfl ok52 (Nat.le_of_ble_eq_true hle) hb h
theorem conG52 {args : List AV} {s : List (Nat × AB)} {R : AV → List (Nat × AB) → Prop} (n : Nat) (hle : Nat.ble args.length 57 = true) (hb : belowB n s = true) (h : vc Try.prog cx52 n kt52 (Try.f52.body.getD .skip) (argEnv 0 args) s (KG cx52 Try.f52.results.toList n R)) : Contract Try.prog G0 52 args s R :=
  Contract.of_vG (cx := cx52) tabOK mixed Try.func52 rfl (enters_of Try.func52 (by kernel_rfl) rfl) rfl ok52 (Nat.le_of_ble_eq_true hle) hb h
/-- paternoster/paternosterref6.DelLatch -/
def cx53 : Ctx := ⟨T, G0, 35, [0, 1, 3, 4, 5, 6, 7, 11, 21]⟩
def kt53 : List (Nat × Nat) := [(5, 6)]
theorem ok53 : okCode kt53 (Try.f53.body.getD .skip) = true := by kernel_rfl
theorem con53 {args : List AV} {s : List (Nat × AB)} {R : AV → List (Nat × AB) → Prop} (n : Nat) (hle : Nat.ble args.length 35 = true) (hb : belowB n s = true) (h : vc Try.prog cx53 n kt53 (Try.f53.body.getD .skip) (argEnv 0 args) s (KV T Try.f53.results.toList n R)) : Contract Try.prog G0 53 args s R :=
  Contract.of_v (cx := cx53) tabOK mixed Try.func53 rfl (enters_of Try.func53 (by kernel_rfl) rfl) rfl ok53 (Nat.le_of_ble_eq_true hle) hb h
theorem conG53 {args : List AV} {s : List (Nat × AB)} {R : AV → List (Nat × AB) → Prop} (n : Nat) (hle : Nat.ble args.length 35 = true) (hb : belowB n s = true) (h : vc Try.prog cx53 n kt53 (Try.f53.body.getD .skip) (argEnv 0 args) s (KG cx53 Try.f53.results.toList n R)) : Contract Try.prog G0 53 args s R :=
  Contract.of_vG (cx := cx53) tabOK mixed Try.func53 rfl (enters_of Try.func53 (by kernel_rfl) rfl) rfl ok53 (Nat.le_of_ble_eq_true hle) hb h
/-- (*paternoster/calls.Set).Del -/
def cx54 : Ctx := ⟨T, G0, 15, [0, 1, 3, 4, 5]⟩
def kt54 : List (Nat × Nat) := [(2, 5)]
theorem ok54 : okCode kt54 (Try.f54.body.getD .skip) = true := by kernel_rfl
theorem con54 {args : List AV} {s : List (Nat × AB)} {R : AV → List (Nat × AB) → Prop} (n : Nat) (hle : Nat.ble args.length 15 = true) (hb : belowB n s = true) (h : vc Try.prog cx54 n kt54 (Try.f54.body.getD .skip) (argEnv 0 args) s (KV T Try.f54.results.toList n R)) : Contract Try.prog G0 54 args s R :=
  Contract.of_v (cx := cx54) tabOK mixed Try.func54 rfl (enters_of Try.func54 (by kernel_rfl) rfl) rfl ok54 (Nat.le_of_ble_eq_true hle) hb h
theorem conG54 {args : List AV} {s : List (Nat × AB)} {R : AV → List (Nat × AB) → Prop} (n : Nat) (hle : Nat.ble args.length 15 = true) (hb : belowB n s = true) (h : vc Try.prog cx54 n kt54 (Try.f54.body.getD .skip) (argEnv 0 args) s (KG cx54 Try.f54.results.toList n R)) : Contract Try.prog G0 54 args s R :=
  Contract.of_vG (cx := cx54) tabOK mixed Try.func54 rfl (enters_of Try.func54 (by kernel_rfl) rfl) rfl ok54 (Nat.le_of_ble_eq_true hle) hb h
/-- paternoster/paternosterref6.KeepLatch -/
def cx55 : Ctx := ⟨T, G0, 27, [0, 1, 4, 5, 6, 10, 18]⟩
def kt55 : List (Nat × Nat) := []
theorem ok55 : okCode kt55 (Try.f55.body.getD .skip) = true := by kernel_rfl
theorem con55 {args : List AV} {s : List (Nat × AB)} {R : AV → List (Nat × AB) → Prop} (n : Nat) (hle : Nat.ble args.length 27 = true) (hb : belowB n s = true) (h : vc Try.prog cx55 n kt55 (Try.f55.body.getD .skip) (argEnv 0 args) s (KV T Try.f55.results.toList n R)) : Contract Try.prog G0 55 args s R :=
  Contract.of_v (cx := cx55) tabOK mixed Try.func55 rfl (enters_of Try.func55 (by kernel_rfl) rfl) rfl ok55 (Nat.le_of_ble_eq_true hle) hb h
theorem conG55 {args : List AV} {s : List (Nat × AB)} {R : AV → List (Nat × AB) → Prop} (n : Nat) (hle : Nat.ble args.length 27 = true) (hb : belowB n s = true) (h : vc Try.prog cx55 n kt55 (Try.f55.body.getD .skip) (argEnv 0 args) s (KG cx55 Try.f55.results.toList n R)) : Contract Try.prog G0 55 args s R :=
  Contract.of_vG (cx := cx55) tabOK mixed Try.func55 rfl (enters_of Try.func55 (by kernel_rfl) rfl) rfl ok55 (Nat.le_of_ble_eq_true hle) hb h
/-- (*paternoster/calls.Set).Get -/
def cx56 : Ctx := ⟨T, G0, 19, [0, 1, 3, 4, 5, 6, 7]⟩
def kt56 : List (Nat × Nat) := [(1, 10)]
theorem ok56 : okCode kt56 (Try.f56.body.getD .skip) = true := by kernel_rfl
theorem con56 {args : List AV} {s : List (Nat × AB)} {R : AV → List (Nat × AB) → Prop} (n : Nat) (hle : Nat.ble args.length 19 = true) (hb : belowB n s = true) (h : vc Try.prog cx56 n kt56 (Try.f56.body.getD .skip) (argEnv 0 args) s (KV T Try.f56.results.toList n R)) : Contract Try.prog G0 56 args s R :=
  Contract.of_v (cx := cx56) tabOK mixed Try.func56 rfl (enters_of Try.func56 (by kernel_rfl) rfl) rfl ok56 (Nat.le_of_ble_eq_true hle) hb h
theorem conG56 {args : List AV} {s : List (Nat × AB)} {R : AV → List (Nat × AB) → Prop} (n : Nat) (hle : Nat.ble args.length 19 = true) (hb : belowB n s = true) (h : vc Try.prog cx56 n kt56 (Try.f56.body.getD .skip) (argEnv 0 args) s (KG cx56 Try.f56.results.toList n R)) : Contract Try.prog G0 56 args s R :=
  Contract.of_vG (cx := cx56) tabOK mixed Try.func56 rfl (enters_of Try.func56 (by kernel_rfl) rfl) rfl ok56 (Nat.le_of_ble_eq_true hle) hb h
/-- paternoster/paternosterref.SameCall -/
def cx57 : Ctx := ⟨T, G0, 17, [0, 1, 2, 3, 4]⟩
def kt57 : List (Nat × Nat) := []
theorem ok57 : okCode kt57 (Try.f57.body.getD .skip) = true := by kernel_rfl
theorem con57 {args : List AV} {s : List (Nat × AB)} {R : AV → List (Nat × AB) → Prop} (n : Nat) (hle : Nat.ble args.length 17 = true) (hb : belowB n s = true) (h : vc Try.prog cx57 n kt57 (Try.f57.body.getD .skip) (argEnv 0 args) s (KV T Try.f57.results.toList n R)) : Contract Try.prog G0 57 args s R :=
  Contract.of_v (cx := cx57) tabOK mixed Try.func57 rfl (enters_of Try.func57 (by kernel_rfl) rfl) rfl ok57 (Nat.le_of_ble_eq_true hle) hb h
theorem conG57 {args : List AV} {s : List (Nat × AB)} {R : AV → List (Nat × AB) → Prop} (n : Nat) (hle : Nat.ble args.length 17 = true) (hb : belowB n s = true) (h : vc Try.prog cx57 n kt57 (Try.f57.body.getD .skip) (argEnv 0 args) s (KG cx57 Try.f57.results.toList n R)) : Contract Try.prog G0 57 args s R :=
  Contract.of_vG (cx := cx57) tabOK mixed Try.func57 rfl (enters_of Try.func57 (by kernel_rfl) rfl) rfl ok57 (Nat.le_of_ble_eq_true hle) hb h
/-- paternoster/paternosterref.SameLatch -/
def cx58 : Ctx := ⟨T, G0, 17, [0, 1, 2, 3, 4]⟩
def kt58 : List (Nat × Nat) := []
theorem ok58 : okCode kt58 (Try.f58.body.getD .skip) = true := by kernel_rfl
theorem con58 {args : List AV} {s : List (Nat × AB)} {R : AV → List (Nat × AB) → Prop} (n : Nat) (hle : Nat.ble args.length 17 = true) (hb : belowB n s = true) (h : vc Try.prog cx58 n kt58 (Try.f58.body.getD .skip) (argEnv 0 args) s (KV T Try.f58.results.toList n R)) : Contract Try.prog G0 58 args s R :=
  Contract.of_v (cx := cx58) tabOK mixed Try.func58 rfl (enters_of Try.func58 (by kernel_rfl) rfl) rfl ok58 (Nat.le_of_ble_eq_true hle) hb h
theorem conG58 {args : List AV} {s : List (Nat × AB)} {R : AV → List (Nat × AB) → Prop} (n : Nat) (hle : Nat.ble args.length 17 = true) (hb : belowB n s = true) (h : vc Try.prog cx58 n kt58 (Try.f58.body.getD .skip) (argEnv 0 args) s (KG cx58 Try.f58.results.toList n R)) : Contract Try.prog G0 58 args s R :=
  Contract.of_vG (cx := cx58) tabOK mixed Try.func58 rfl (enters_of Try.func58 (by kernel_rfl) rfl) rfl ok58 (Nat.le_of_ble_eq_true hle) hb h
/-- paternoster/paternosterref1.LessCall -/
def cx59 : Ctx := ⟨T, G0, 24, [0, 1, 2, 3, 4]⟩
def kt59 : List (Nat × Nat) := []
theorem ok59 : okCode kt59 (Try.f59.body.getD .skip) = true := by kernel_rfl
theorem con59 {args : List AV} {s : List (Nat × AB)} {R : AV → List (Nat × AB) → Prop} (n : Nat) (hle : Nat.ble args.length 24 = true) (hb : belowB n s = true) (h : vc Try.prog cx59 n kt59 (Try.f59.body.getD .skip) (argEnv 0 args) s (KV T Try.f59.results.toList n R)) : Contract Try.prog G0 59 args s R :=
  Contract.of_v (cx := cx59) tabOK mixed Try.func59 rfl (enters_of Try.func59 (by kernel_rfl) rfl) rfl ok59 (Nat.le_of_ble_eq_true hle) hb h
theorem conG59 {args : List AV} {s : List (Nat × AB)} {R : AV → List (Nat × AB) → Prop} (n : Nat) (hle : Nat.ble args.length 24 = true) (hb : belowB n s = true) (h : vc Try.prog cx59 n kt59 (Try.f59.body.getD .skip) (argEnv 0 args) s (KG cx59 Try.f59.results.toList n R)) : Contract Try.prog G0 59 args s R :=
  Contract.of_vG (cx := cx59) tabOK mixed Try.func59 rfl (enters_of Try.func59 (by kernel_rfl) rfl) rfl ok59 (Nat.le_of_ble_eq_true hle) hb h
/-- paternoster/ledger.Wants -/
def cx60 : Ctx := ⟨T, G0, 44, [0, 1, 2, 4, 5, 7, 9, 14, 16, 17, 18, 19, 35]⟩
def kt60 : List (Nat × Nat) := []
theorem ok60 : okCode kt60 (Try.f60.body.getD .skip) = true := by kernel_rfl
theorem con60 {args : List AV} {s : List (Nat × AB)} {R : AV → List (Nat × AB) → Prop} (n : Nat) (hle : Nat.ble args.length 44 = true) (hb : belowB n s = true) (h : vc Try.prog cx60 n kt60 (Try.f60.body.getD .skip) (argEnv 0 args) s (KV T Try.f60.results.toList n R)) : Contract Try.prog G0 60 args s R :=
  Contract.of_v (cx := cx60) tabOK mixed Try.func60 rfl (enters_of Try.func60 (by kernel_rfl) rfl) rfl ok60 (Nat.le_of_ble_eq_true hle) hb h
theorem conG60 {args : List AV} {s : List (Nat × AB)} {R : AV → List (Nat × AB) → Prop} (n : Nat) (hle : Nat.ble args.length 44 = true) (hb : belowB n s = true) (h : vc Try.prog cx60 n kt60 (Try.f60.body.getD .skip) (argEnv 0 args) s (KG cx60 Try.f60.results.toList n R)) : Contract Try.prog G0 60 args s R :=
  Contract.of_vG (cx := cx60) tabOK mixed Try.func60 rfl (enters_of Try.func60 (by kernel_rfl) rfl) rfl ok60 (Nat.le_of_ble_eq_true hle) hb h
/-- paternoster/ledger.Bid -/
def cx61 : Ctx := ⟨T, G0, 65, [0, 1, 2, 3, 4, 5, 6, 7, 8, 9, 10, 44]⟩
def kt61 : List (Nat × Nat) := [(5, 11)]
theorem ok61 : okCode kt61 (Try.f61.body.getD .skip) = true := by kernel_rfl
theorem con61 {args : List AV} {s : List (Nat × AB)} {R : AV → List (Nat × AB) → Prop} (n : Nat) (hle : Nat.ble args.length 65 = true) (hb : belowB n s = true) (h : vc Try.prog cx61 n kt61 (Try.f61.body.getD .skip) (argEnv 0 args) s (KV T Try.f61.results.toList n R)) : Contract Try.prog G0 61 args s R :=
  Contract.of_v (cx := cx61) tabOK mixed Try.func61 rfl (enters_of Try.func61 (by kernel_rfl) rfl) rfl ok61 (Nat.le_of_ble_eq_true hle) hb h
theorem conG61 {args : List AV} {s : List (Nat × AB)} {R : AV → List (Nat × AB) → Prop} (n : Nat) (hle : Nat.ble args.length 65 = true) (hb : belowB n s = true) (h : vc Try.prog cx61 n kt61 (Try.f61.body.getD .skip) (argEnv 0 args) s (KG cx61 Try.f61.results.toList n R)) : Contract Try.prog G0 61 args s R :=
  Contract.of_vG (cx := cx61) tabOK mixed Try.func61 rfl (enters_of Try.func61 (by kernel_rfl) rfl) rfl ok61 (Nat.le_of_ble_eq_true hle) hb h
/-- paternoster/ledger.Purge -/
def cx62 : Ctx := ⟨T, G0, 13, [0, 1, 2, 3, 4]⟩
def kt62 : List (Nat × Nat) := []
theorem ok62 : okCode kt62 (Try.f62.body.getD .skip) = true := by kernel_rfl
theorem con62 {args : List AV} {s : List (Nat × AB)} {R : AV → List (Nat × AB) → Prop} (n : Nat) (hle : Nat.ble args.length 13 = true) (hb : belowB n s = true) (h : vc Try.prog cx62 n kt62 (Try.f62.body.getD .skip) (argEnv 0 args) s (KV T Try.f62.results.toList n R)) : Contract Try.prog G0 62 args s R :=
  Contract.of_v (cx := cx62) tabOK mixed Try.func62 rfl (enters_of Try.func62 (by kernel_rfl) rfl) rfl ok62 (Nat.le_of_ble_eq_true hle) hb h
theorem conG62 {args : List AV} {s : List (Nat × AB)} {R : AV → List (Nat × AB) → Prop} (n : Nat) (hle : Nat.ble args.length 13 = true) (hb : belowB n s = true) (h : vc Try.prog cx62 n kt62 (Try.f62.body.getD .skip) (argEnv 0 args) s (KG cx62 Try.f62.results.toList n R)) : Contract Try.prog G0 62 args s R :=
  Contract.of_vG (cx := cx62) tabOK mixed Try.func62 rfl (enters_of Try.func62 (by kernel_rfl) rfl) rfl ok62 (Nat.le_of_ble_eq_true hle) hb h
/-- paternoster/ledger.Add -/
def cx63 : Ctx := ⟨T, G0, 50, [0, 1, 2, 4, 6, 7, 14, 15, 16, 17, 30, 36]⟩
def kt63 : List (Nat × Nat) := []
theorem ok63 : okCode kt63 (Try.f63.body.getD .skip) = true := by kernel_rfl
theorem con63 {args : List AV} {s : List (Nat × AB)} {R : AV → List (Nat × AB) → Prop} (n : Nat) (hle : Nat.ble args.length 50 = true) (hb : belowB n s = true) (h : vc Try.prog cx63 n kt63 (Try.f63.body.getD .skip) (argEnv 0 args) s (KV T Try.f63.results.toList n R)) : Contract Try.prog G0 63 args s R :=
  Contract.of_v (cx := cx63) tabOK mixed Try.func63 rfl (enters_of Try.func63 (by kernel_rfl) rfl) rfl ok63 (Nat.le_of_ble_eq_true hle) hb h
theorem conG63 {args : List AV} {s : List (Nat × AB)} {R : AV → List (Nat × AB) → Prop} (n : Nat) (hle : Nat.ble args.length 50 = true) (hb : belowB n s = true) (h : vc Try.prog cx63 n kt63 (Try.f63.body.getD .skip) (argEnv 0 args) s (KG cx63 Try.f63.results.toList n R)) : Contract Try.prog G0 63 args s R :=
  Contract.of_vG (cx := cx63) tabOK mixed Try.func63 rfl (enters_of Try.func63 (by kernel_rfl) rfl) rfl ok63 (Nat.le_of_ble_eq_true hle) hb h
/-- paternoster/paternosterref.SameEntry -/
def cx64 : Ctx := ⟨T, G0, 24, [0, 1, 2, 3, 4]⟩
def kt64 : List (Nat × Nat) := []
theorem ok64 : okCode kt64 (Try.f64.body.getD .skip) = true := by kernel_rfl
theorem con64 {args : List AV} {s : List (Nat × AB)} {R : AV → List (Nat × AB) → Prop} (n : Nat) (hle : Nat.ble args.length 24 = true) (hb : belowB n s = true) (h : vc Try.prog cx64 n kt64 (Try.f64.body.getD .skip) (argEnv 0 args) s (KV T Try.f64.results.toList n R)) : Contract Try.prog G0 64 args s R :=
  Contract.of_v (cx := cx64) tabOK mixed Try.func64 rfl (enters_of Try.func64 (by kernel_rfl) rfl) rfl ok64 (Nat.le_of_ble_eq_true hle) hb h
theorem conG64 {args : List AV} {s : List (Nat × AB)} {R : AV → List (Nat × AB) → Prop} (n : Nat) (hle : Nat.ble args.length 24 = true) (hb : belowB n s = true) (h : vc Try.prog cx64 n kt64 (Try.f64.body.getD .skip) (argEnv 0 args) s (KG cx64 Try.f64.results.toList n R)) : Contract Try.prog G0 64 args s R :=
  Contract.of_vG (cx := cx64) tabOK mixed Try.func64 rfl (enters_of Try.func64 (by kernel_rfl) rfl) rfl ok64 (Nat.le_of_ble_eq_true hle) hb h
/-- paternoster/ledger.New -/
def cx65 : Ctx := ⟨T, G0, 9, [0, 1, 2, 4]⟩
def kt65 : List (Nat × Nat) := [(1, 3)]
theorem ok65 : okCode kt65 (Try.f65.body.getD .skip) = true := by kernel_rfl
theorem con65 {args : List AV} {s : List (Nat × AB)} {R : AV → List (Nat × AB) → Prop} (n : Nat) (hle : Nat.ble args.length 9 = true) (hb : belowB n s = true) (h : vc Try.prog cx65 n kt65 (Try.f65.body.getD .skip) (argEnv 0 args) s (KV T Try.f65.results.toList n R)) : Contract Try.prog G0 65 args s R :=
  Contract.of_v (cx := cx65) tabOK mixed Try.func65 rfl (enters_of Try.func65 (by kernel_rfl) rfl) rfl ok65 (Nat.le_of_ble_eq_true hle) hb h
theorem conG65 {args : List AV} {s : List (Nat × AB)} {R : AV → List (Nat × AB) → Prop} (n : Nat) (hle : Nat.ble args.length 9 = true) (hb : belowB n s = true) (h : vc Try.prog cx65 n kt65 (Try.f65.body.getD .skip) (argEnv 0 args) s (KG cx65 Try.f65.results.toList n R)) : Contract Try.prog G0 65 args s R :=
  Contract.of_vG (cx := cx65) tabOK mixed Try.func65 rfl (enters_of Try.func65 (by kernel_rfl) rfl) rfl ok65 (Nat.le_of_ble_eq_true hle) hb h
/-- paternoster/ledger.Pass -/
def cx66 : Ctx := ⟨T, G0, 15, [0, 1, 2, 3, 8]⟩
def kt66 : List (Nat × Nat) := []
theorem ok66 : okCode kt66 (Try.f66.body.getD .skip) = true := by kernel_rfl
theorem con66 {args : List AV} {s : List (Nat × AB)} {R : AV → List (Nat × AB) → Prop} (n : Nat) (hle : Nat.ble args.length 15 = true) (hb : belowB n s = true) (h : vc Try.prog cx66 n kt66 (Try.f66.body.getD .skip) (argEnv 0 args) s (KV T Try.f66.results.toList n R)) : Contract Try.prog G0 66 args s R :=
  Contract.of_v (cx := cx66) tabOK mixed Try.func66 rfl (enters_of Try.func66 (by kernel_rfl) rfl) rfl ok66 (Nat.le_of_ble_eq_true hle) hb h
theorem conG66 {args : List AV} {s : List (Nat × AB)} {R : AV → List (Nat × AB) → Prop} (n : Nat) (hle : Nat.ble args.length 15 = true) (hb : belowB n s = true) (h : vc Try.prog cx66 n kt66 (Try.f66.body.getD .skip) (argEnv 0 args) s (KG cx66 Try.f66.results.toList n R)) : Contract Try.prog G0 66 args s R :=
  Contract.of_vG (cx := cx66) tabOK mixed Try.func66 rfl (enters_of Try.func66 (by kernel_rfl) rfl) rfl ok66 (Nat.le_of_ble_eq_true hle) hb h
/-- slices.Clone[[]int,int] -/
def cx67 : Ctx := ⟨T, G0, 8, [0, 2, 4]⟩
def kt67 : List (Nat × Nat) := []
theorem ok67 : okCode kt67 (Try.f67.body.getD .skip) = true := by kernel_rfl
theorem con67 {args : List AV} {s : List (Nat × AB)} {R : AV → List (Nat × AB) → Prop} (n : Nat) (hle : Nat.ble args.length 8 = true) (hb : belowB n s = true) (h : vc Try.prog cx67 n kt67 (Try.f67.body.getD .skip) (argEnv 0 args) s (KV T Try.f67.results.toList n R)) : Contract Try.prog G0 67 args s R :=
  Contract.of_v (cx := cx67) tabOK mixed Try.func67 rfl (enters_of Try.func67 (by kernel_rfl) rfl) rfl ok67 (Nat.le_of_ble_eq_true hle) hb h
theorem conG67 {args : List AV} {s : List (Nat × AB)} {R : AV → List (Nat × AB) → Prop} (n : Nat) (hle : Nat.ble args.length 8 = true) (hb : belowB n s = true) (h : vc Try.prog cx67 n kt67 (Try.f67.body.getD .skip) (argEnv 0 args) s (KG cx67 Try.f67.results.toList n R)) : Contract Try.prog G0 67 args s R :=
  Contract.of_vG (cx := cx67) tabOK mixed Try.func67 rfl (enters_of Try.func67 (by kernel_rfl) rfl) rfl ok67 (Nat.le_of_ble_eq_true hle) hb h
/-- slices.Sort[[]int,int] -/
def cx68 : Ctx := ⟨T, G0, 11, [0, 2]⟩
def kt68 : List (Nat × Nat) := []
theorem ok68 : okCode kt68 (Try.f68.body.getD .skip) = true := by kernel_rfl
theorem con68 {args : List AV} {s : List (Nat × AB)} {R : AV → List (Nat × AB) → Prop} (n : Nat) (hle : Nat.ble args.length 11 = true) (hb : belowB n s = true) (h : vc Try.prog cx68 n kt68 (Try.f68.body.getD .skip) (argEnv 0 args) s (KV T Try.f68.results.toList n R)) : Contract Try.prog G0 68 args s R :=
  Contract.of_v (cx := cx68) tabOK mixed Try.func68 rfl (enters_of Try.func68 (by kernel_rfl) rfl) rfl ok68 (Nat.le_of_ble_eq_true hle) hb h
theorem conG68 {args : List AV} {s : List (Nat × AB)} {R : AV → List (Nat × AB) → Prop} (n : Nat) (hle : Nat.ble args.length 11 = true) (hb : belowB n s = true) (h : vc Try.prog cx68 n kt68 (Try.f68.body.getD .skip) (argEnv 0 args) s (KG cx68 Try.f68.results.toList n R)) : Contract Try.prog G0 68 args s R :=
  Contract.of_vG (cx := cx68) tabOK mixed Try.func68 rfl (enters_of Try.func68 (by kernel_rfl) rfl) rfl ok68 (Nat.le_of_ble_eq_true hle) hb h
/-- slices.Compact[[]int,int] -/
def cx69 : Ctx := ⟨T, G0, 61, [0, 2, 3, 4, 5, 8, 13, 25, 32, 44]⟩
def kt69 : List (Nat × Nat) := [(6, 9), (11, 9)]
theorem ok69 : okCode kt69 (Try.f69.body.getD .skip) = true := by kernel_rfl
theorem con69 {args : List AV} {s : List (Nat × AB)} {R : AV → List (Nat × AB) → Prop} (n : Nat) (hle : Nat.ble args.length 61 = true) (hb : belowB n s = true) (h : vc Try.prog cx69 n kt69 (Try.f69.body.getD .skip) (argEnv 0 args) s (KV T Try.f69.results.toList n R)) : Contract Try.prog G0 69 args s R :=
  Contract.of_v (cx := cx69) tabOK mixed Try.func69 rfl (enters_of Try.func69 (by kernel_rfl) rfl) rfl ok69 (Nat.le_of_ble_eq_true hle) hb h
theorem conG69 {args : List AV} {s : List (Nat × AB)} {R : AV → List (Nat × AB) → Prop} (n : Nat) (hle : Nat.ble args.length 61 = true) (hb : belowB n s = true) (h : vc Try.prog cx69 n kt69 (Try.f69.body.getD .skip) (argEnv 0 args) s (KG cx69 Try.f69.results.toList n R)) : Contract Try.prog G0 69 args s R :=
  Contract.of_vG (cx := cx69) tabOK mixed Try.func69 rfl (enters_of Try.func69 (by kernel_rfl) rfl) rfl ok69 (Nat.le_of_ble_eq_true hle) hb h
/-- slices.Index[[]int,int] -/
def cx70 : Ctx := ⟨T, G0, 19, [0, 1, 4, 5, 7, 8, 9, 16]⟩
def kt70 : List (Nat × Nat) := []
theorem ok70 : okCode kt70 (Try.f70.body.getD .skip) = true := by kernel_rfl
theorem con70 {args : List AV} {s : List (Nat × AB)} {R : AV → List (Nat × AB) → Prop} (n : Nat) (hle : Nat.ble args.length 19 = true) (hb : belowB n s = true) (h : vc Try.prog cx70 n kt70 (Try.f70.body.getD .skip) (argEnv 0 args) s (KV T Try.f70.results.toList n R)) : Contract Try.prog G0 70 args s R :=
  Contract.of_v (cx := cx70) tabOK mixed Try.func70 rfl (enters_of Try.func70 (by kernel_rfl) rfl) rfl ok70 (Nat.le_of_ble_eq_true hle) hb h
theorem conG70 {args : List AV} {s : List (Nat × AB)} {R : AV → List (Nat × AB) → Prop} (n : Nat) (hle : Nat.ble args.length 19 = true) (hb : belowB n s = true) (h : vc Try.prog cx70 n kt70 (Try.f70.body.getD .skip) (argEnv 0 args) s (KG cx70 Try.f70.results.toList n R)) : Contract Try.prog G0 70 args s R :=
  Contract.of_vG (cx := cx70) tabOK mixed Try.func70 rfl (enters_of Try.func70 (by kernel_rfl) rfl) rfl ok70 (Nat.le_of_ble_eq_true hle) hb h
/-- slices.Equal[[]int,int] -/
def cx71 : Ctx := ⟨T, G0, 26, [0, 1, 4, 5, 10, 12, 13, 14, 24]⟩
def kt71 : List (Nat × Nat) := [(6, 8)]
theorem ok71 : okCode kt71 (Try.f71.body.getD .skip) = true := by kernel_rfl
theorem con71 {args : List AV} {s : List (Nat × AB)} {R : AV → List (Nat × AB) → Prop} (n : Nat) (hle : Nat.ble args.length 26 = true) (hb : belowB n s = true) (h : vc Try.prog cx71 n kt71 (Try.f71.body.getD .skip) (argEnv 0 args) s (KV T Try.f71.results.toList n R)) : Contract Try.prog G0 71 args s R :=
  Contract.of_v (cx := cx71) tabOK mixed Try.func71 rfl (enters_of Try.func71 (by kernel_rfl) rfl) rfl ok71 (Nat.le_of_ble_eq_true hle) hb h
theorem conG71 {args : List AV} {s : List (Nat × AB)} {R : AV → List (Nat × AB) → Prop} (n : Nat) (hle : Nat.ble args.length 26 = true) (hb : belowB n s = true) (h : vc Try.prog cx71 n kt71 (Try.f71.body.getD .skip) (argEnv 0 args) s (KG cx71 Try.f71.results.toList n R)) : Contract Try.prog G0 71 args s R :=
  Contract.of_vG (cx := cx71) tabOK mixed Try.func71 rfl (enters_of Try.func71 (by kernel_rfl) rfl) rfl ok71 (Nat.le_of_ble_eq_true hle) hb h
/-- slices.Contains[[]int,int] -/
def cx72 : Ctx := ⟨T, G0, 9, [0, 1, 4]⟩
def kt72 : List (Nat × Nat) := []
theorem ok72 : okCode kt72 (Try.f72.body.getD .skip) = true := by kernel_rfl
theorem con72 {args : List AV} {s : List (Nat × AB)} {R : AV → List (Nat × AB) → Prop} (n : Nat) (hle : Nat.ble args.length 9 = true) (hb : belowB n s = true) (h : vc Try.prog cx72 n kt72 (Try.f72.body.getD .skip) (argEnv 0 args) s (KV T Try.f72.results.toList n R)) : Contract Try.prog G0 72 args s R :=
  Contract.of_v (cx := cx72) tabOK mixed Try.func72 rfl (enters_of Try.func72 (by kernel_rfl) rfl) rfl ok72 (Nat.le_of_ble_eq_true hle) hb h
theorem conG72 {args : List AV} {s : List (Nat × AB)} {R : AV → List (Nat × AB) → Prop} (n : Nat) (hle : Nat.ble args.length 9 = true) (hb : belowB n s = true) (h : vc Try.prog cx72 n kt72 (Try.f72.body.getD .skip) (argEnv 0 args) s (KG cx72 Try.f72.results.toList n R)) : Contract Try.prog G0 72 args s R :=
  Contract.of_vG (cx := cx72) tabOK mixed Try.func72 rfl (enters_of Try.func72 (by kernel_rfl) rfl) rfl ok72 (Nat.le_of_ble_eq_true hle) hb h
/-- slices.SortedFunc[paternoster/api.Latch] -/
def cx73 : Ctx := ⟨T, G0, 12, [0, 1, 4, 5]⟩
def kt73 : List (Nat × Nat) := []
theorem ok73 : okCode kt73 (Try.f73.body.getD .skip) = true := by kernel_rfl
theorem con73 {args : List AV} {s : List (Nat × AB)} {R : AV → List (Nat × AB) → Prop} (n : Nat) (hle : Nat.ble args.length 12 = true) (hb : belowB n s = true) (h : vc Try.prog cx73 n kt73 (Try.f73.body.getD .skip) (argEnv 0 args) s (KV T Try.f73.results.toList n R)) : Contract Try.prog G0 73 args s R :=
  Contract.of_v (cx := cx73) tabOK mixed Try.func73 rfl (enters_of Try.func73 (by kernel_rfl) rfl) rfl ok73 (Nat.le_of_ble_eq_true hle) hb h
theorem conG73 {args : List AV} {s : List (Nat × AB)} {R : AV → List (Nat × AB) → Prop} (n : Nat) (hle : Nat.ble args.length 12 = true) (hb : belowB n s = true) (h : vc Try.prog cx73 n kt73 (Try.f73.body.getD .skip) (argEnv 0 args) s (KG cx73 Try.f73.results.toList n R)) : Contract Try.prog G0 73 args s R :=
  Contract.of_vG (cx := cx73) tabOK mixed Try.func73 rfl (enters_of Try.func73 (by kernel_rfl) rfl) rfl ok73 (Nat.le_of_ble_eq_true hle) hb h
/-- maps.Values[map[paternoster/api.Call]paternoster/api.Latch,paternoster/api.Call,paternoster/api.Latch] -/
def cx74 : Ctx := ⟨T, G0, 4, [0, 1, 2]⟩
def kt74 : List (Nat × Nat) := []
theorem ok74 : okCode kt74 (Try.f74.body.getD .skip) = true := by kernel_rfl
theorem con74 {args : List AV} {s : List (Nat × AB)} {R : AV → List (Nat × AB) → Prop} (n : Nat) (hle : Nat.ble args.length 4 = true) (hb : belowB n s = true) (h : vc Try.prog cx74 n kt74 (Try.f74.body.getD .skip) (argEnv 0 args) s (KV T Try.f74.results.toList n R)) : Contract Try.prog G0 74 args s R :=
  Contract.of_v (cx := cx74) tabOK mixed Try.func74 rfl (enters_of Try.func74 (by kernel_rfl) rfl) rfl ok74 (Nat.le_of_ble_eq_true hle) hb h
theorem conG74 {args : List AV} {s : List (Nat × AB)} {R : AV → List (Nat × AB) → Prop} (n : Nat) (hle : Nat.ble args.length 4 = true) (hb : belowB n s = true) (h : vc Try.prog cx74 n kt74 (Try.f74.body.getD .skip) (argEnv 0 args) s (KG cx74 Try.f74.results.toList n R)) : Contract Try.prog G0 74 args s R :=
  Contract.of_vG (cx := cx74) tabOK mixed Try.func74 rfl (enters_of Try.func74 (by kernel_rfl) rfl) rfl ok74 (Nat.le_of_ble_eq_true hle) hb h
/-- (*paternoster/calls.Set).All$1 -/
def cx75 : Ctx := ⟨T, G0, 10, [0, 1, 2, 3, 4]⟩
def kt75 : List (Nat × Nat) := []
theorem ok75 : okCode kt75 (Try.f75.body.getD .skip) = true := by kernel_rfl
theorem con75 {args : List AV} {s : List (Nat × AB)} {R : AV → List (Nat × AB) → Prop} (n : Nat) (hle : Nat.ble args.length 10 = true) (hb : belowB n s = true) (h : vc Try.prog cx75 n kt75 (Try.f75.body.getD .skip) (argEnv 0 args) s (KV T Try.f75.results.toList n R)) : Contract Try.prog G0 75 args s R :=
  Contract.of_v (cx := cx75) tabOK mixed Try.func75 rfl (enters_of Try.func75 (by kernel_rfl) rfl) rfl ok75 (Nat.le_of_ble_eq_true hle) hb h
theorem conG75 {args : List AV} {s : List (Nat × AB)} {R : AV → List (Nat × AB) → Prop} (n : Nat) (hle : Nat.ble args.length 10 = true) (hb : belowB n s = true) (h : vc Try.prog cx75 n kt75 (Try.f75.body.getD .skip) (argEnv 0 args) s (KG cx75 Try.f75.results.toList n R)) : Contract Try.prog G0 75 args s R :=
  Contract.of_vG (cx := cx75) tabOK mixed Try.func75 rfl (enters_of Try.func75 (by kernel_rfl) rfl) rfl ok75 (Nat.le_of_ble_eq_true hle) hb h
/-- paternoster/calls.compare -/
def cx76 : Ctx := ⟨T, G0, 17, [0, 1, 2, 3, 4]⟩
def kt76 : List (Nat × Nat) := [(1, 9)]
theorem ok76 : okCode kt76 (Try.f76.body.getD .skip) = true := by kernel_rfl
theorem con76 {args : List AV} {s : List (Nat × AB)} {R : AV → List (Nat × AB) → Prop} (n : Nat) (hle : Nat.ble args.length 17 = true) (hb : belowB n s = true) (h : vc Try.prog cx76 n kt76 (Try.f76.body.getD .skip) (argEnv 0 args) s (KV T Try.f76.results.toList n R)) : Contract Try.prog G0 76 args s R :=
  Contract.of_v (cx := cx76) tabOK mixed Try.func76 rfl (enters_of Try.func76 (by kernel_rfl) rfl) rfl ok76 (Nat.le_of_ble_eq_true hle) hb h
theorem conG76 {args : List AV} {s : List (Nat × AB)} {R : AV → List (Nat × AB) → Prop} (n : Nat) (hle : Nat.ble args.length 17 = true) (hb : belowB n s = true) (h : vc Try.prog cx76 n kt76 (Try.f76.body.getD .skip) (argEnv 0 args) s (KG cx76 Try.f76.results.toList n R)) : Contract Try.prog G0 76 args s R :=
  Contract.of_vG (cx := cx76) tabOK mixed Try.func76 rfl (enters_of Try.func76 (by kernel_rfl) rfl) rfl ok76 (Nat.le_of_ble_eq_true hle) hb h
/-- slices.Min[[]int,int] -/
def cx77 : Ctx := ⟨T, G0, 25, [0, 2, 3, 4, 7, 15]⟩
def kt77 : List (Nat × Nat) := []
theorem ok77 : okCode kt77 (Try.f77.body.getD .skip) = true := by kernel_rfl
theorem con77 {args : List AV} {s : List (Nat × AB)} {R : AV → List (Nat × AB) → Prop} (n : Nat) (hle : Nat.ble args.length 25 = true) (hb : belowB n s = true) (h : vc Try.prog cx77 n kt77 (Try.f77.body.getD .skip) (argEnv 0 args) s (KV T Try.f77.results.toList n R)) : Contract Try.prog G0 77 args s R :=
  Contract.of_v (cx := cx77) tabOK mixed Try.func77 rfl (enters_of Try.func77 (by kernel_rfl) rfl) rfl ok77 (Nat.le_of_ble_eq_true hle) hb h
theorem conG77 {args : List AV} {s : List (Nat × AB)} {R : AV → List (Nat × AB) → Prop} (n : Nat) (hle : Nat.ble args.length 25 = true) (hb : belowB n s = true) (h : vc Try.prog cx77 n kt77 (Try.f77.body.getD .skip) (argEnv 0 args) s (KG cx77 Try.f77.results.toList n R)) : Contract Try.prog G0 77 args s R :=
  Contract.of_vG (cx := cx77) tabOK mixed Try.func77 rfl (enters_of Try.func77 (by kernel_rfl) rfl) rfl ok77 (Nat.le_of_ble_eq_true hle) hb h
/-- slices.Contains[[]paternoster/api.Latch,paternoster/api.Latch] -/
def cx78 : Ctx := ⟨T, G0, 9, [0, 1, 3, 4]⟩
def kt78 : List (Nat × Nat) := []
theorem ok78 : okCode kt78 (Try.f78.body.getD .skip) = true := by kernel_rfl
theorem con78 {args : List AV} {s : List (Nat × AB)} {R : AV → List (Nat × AB) → Prop} (n : Nat) (hle : Nat.ble args.length 9 = true) (hb : belowB n s = true) (h : vc Try.prog cx78 n kt78 (Try.f78.body.getD .skip) (argEnv 0 args) s (KV T Try.f78.results.toList n R)) : Contract Try.prog G0 78 args s R :=
  Contract.of_v (cx := cx78) tabOK mixed Try.func78 rfl (enters_of Try.func78 (by kernel_rfl) rfl) rfl ok78 (Nat.le_of_ble_eq_true hle) hb h
theorem conG78 {args : List AV} {s : List (Nat × AB)} {R : AV → List (Nat × AB) → Prop} (n : Nat) (hle : Nat.ble args.length 9 = true) (hb : belowB n s = true) (h : vc Try.prog cx78 n kt78 (Try.f78.body.getD .skip) (argEnv 0 args) s (KG cx78 Try.f78.results.toList n R)) : Contract Try.prog G0 78 args s R :=
  Contract.of_vG (cx := cx78) tabOK mixed Try.func78 rfl (enters_of Try.func78 (by kernel_rfl) rfl) rfl ok78 (Nat.le_of_ble_eq_true hle) hb h
/-- paternoster/paternosterref1.ValidRing -/
def cx79 : Ctx := ⟨T, G0, 149, [0, 1, 2, 3, 4, 5, 6, 7, 8, 9, 23, 38, 41, 50, 53, 67, 72, 125, 140, 147]⟩
def kt79 : List (Nat × Nat) := [(14, 11), (23, 12)]
theorem ok79 : okCode kt79 (Try.f79.body.getD .skip) = true := by kernel_rfl
theorem con79 {args : List AV} {s : List (Nat × AB)} {R : AV → List (Nat × AB) → Prop} (n : Nat) (hle : Nat.ble args.length 149 = true) (hb : belowB n s = true) (h : vc Try.prog cx79 n kt79 (Try.f79.body.getD .skip) (argEnv 0 args) s (KV T Try.f79.results.toList n R)) : Contract Try.prog G0 79 args s R :=
  Contract.of_v (cx := cx79) tabOK mixed Try.func79 rfl (enters_of Try.func79 (by kernel_rfl) rfl) rfl ok79 (Nat.le_of_ble_eq_true hle) hb h
theorem conG79 {args : List AV} {s : List (Nat × AB)} {R : AV → List (Nat × AB) → Prop} (n : Nat) (hle : Nat.ble args.length 149 = true) (hb : belowB n s = true) (h : vc Try.prog cx79 n kt79 (Try.f79.body.getD .skip) (argEnv 0 args) s (KG cx79 Try.f79.results.toList n R)) : Contract Try.prog G0 79 args s R :=
  Contract.of_vG (cx := cx79) tabOK mixed Try.func79 rfl (enters_of Try.func79 (by kernel_rfl) rfl) rfl ok79 (Nat.le_of_ble_eq_true hle) hb h
/-- paternoster/ledger.own -/
def cx80 : Ctx := ⟨T, G0, 12, [0, 1, 2]⟩
def kt80 : List (Nat × Nat) := []
theorem ok80 : okCode kt80 (Try.f80.body.getD .skip) = true := by kernel_rfl
theorem con80 {args : List AV} {s : List (Nat × AB)} {R : AV → List (Nat × AB) → Prop} (n : Nat) (hle : Nat.ble args.length 12 = true) (hb : belowB n s = true) (h : vc Try.prog cx80 n kt80 (Try.f80.body.getD .skip) (argEnv 0 args) s (KV T Try.f80.results.toList n R)) : Contract Try.prog G0 80 args s R :=
  Contract.of_v (cx := cx80) tabOK mixed Try.func80 rfl (enters_of Try.func80 (by kernel_rfl) rfl) rfl ok80 (Nat.le_of_ble_eq_true hle) hb h
theorem conG80 {args : List AV} {s : List (Nat × AB)} {R : AV → List (Nat × AB) → Prop} (n : Nat) (hle : Nat.ble args.length 12 = true) (hb : belowB n s = true) (h : vc Try.prog cx80 n kt80 (Try.f80.body.getD .skip) (argEnv 0 args) s (KG cx80 Try.f80.results.toList n R)) : Contract Try.prog G0 80 args s R :=
  Contract.of_vG (cx := cx80) tabOK mixed Try.func80 rfl (enters_of Try.func80 (by kernel_rfl) rfl) rfl ok80 (Nat.le_of_ble_eq_true hle) hb h
/-- paternoster/bid.Least -/
def cx81 : Ctx := ⟨T, G0, 26, [0, 2, 3, 4, 6, 9, 14, 15, 16, 17, 22]⟩
def kt81 : List (Nat × Nat) := []
theorem ok81 : okCode kt81 (Try.f81.body.getD .skip) = true := by kernel_rfl
theorem con81 {args : List AV} {s : List (Nat × AB)} {R : AV → List (Nat × AB) → Prop} (n : Nat) (hle : Nat.ble args.length 26 = true) (hb : belowB n s = true) (h : vc Try.prog cx81 n kt81 (Try.f81.body.getD .skip) (argEnv 0 args) s (KV T Try.f81.results.toList n R)) : Contract Try.prog G0 81 args s R :=
  Contract.of_v (cx := cx81) tabOK mixed Try.func81 rfl (enters_of Try.func81 (by kernel_rfl) rfl) rfl ok81 (Nat.le_of_ble_eq_true hle) hb h
theorem conG81 {args : List AV} {s : List (Nat × AB)} {R : AV → List (Nat × AB) → Prop} (n : Nat) (hle : Nat.ble args.length 26 = true) (hb : belowB n s = true) (h : vc Try.prog cx81 n kt81 (Try.f81.body.getD .skip) (argEnv 0 args) s (KG cx81 Try.f81.results.toList n R)) : Contract Try.prog G0 81 args s R :=
  Contract.of_vG (cx := cx81) tabOK mixed Try.func81 rfl (enters_of Try.func81 (by kernel_rfl) rfl) rfl ok81 (Nat.le_of_ble_eq_true hle) hb h
/-- paternoster/bid.Full -/
def cx82 : Ctx := ⟨T, G0, 9, [0, 1, 3, 4]⟩
def kt82 : List (Nat × Nat) := []
theorem ok82 : okCode kt82 (Try.f82.body.getD .skip) = true := by kernel_rfl
theorem con82 {args : List AV} {s : List (Nat × AB)} {R : AV → List (Nat × AB) → Prop} (n : Nat) (hle : Nat.ble args.length 9 = true) (hb : belowB n s = true) (h : vc Try.prog cx82 n kt82 (Try.f82.body.getD .skip) (argEnv 0 args) s (KV T Try.f82.results.toList n R)) : Contract Try.prog G0 82 args s R :=
  Contract.of_v (cx := cx82) tabOK mixed Try.func82 rfl (enters_of Try.func82 (by kernel_rfl) rfl) rfl ok82 (Nat.le_of_ble_eq_true hle) hb h
theorem conG82 {args : List AV} {s : List (Nat × AB)} {R : AV → List (Nat × AB) → Prop} (n : Nat) (hle : Nat.ble args.length 9 = true) (hb : belowB n s = true) (h : vc Try.prog cx82 n kt82 (Try.f82.body.getD .skip) (argEnv 0 args) s (KG cx82 Try.f82.results.toList n R)) : Contract Try.prog G0 82 args s R :=
  Contract.of_vG (cx := cx82) tabOK mixed Try.func82 rfl (enters_of Try.func82 (by kernel_rfl) rfl) rfl ok82 (Nat.le_of_ble_eq_true hle) hb h
/-- paternoster/ledger.entries -/
def cx83 : Ctx := ⟨T, G0, 24, [0, 2, 3, 4, 8, 9, 10]⟩
def kt83 : List (Nat × Nat) := []
theorem ok83 : okCode kt83 (Try.f83.body.getD .skip) = true := by kernel_rfl
theorem con83 {args : List AV} {s : List (Nat × AB)} {R : AV → List (Nat × AB) → Prop} (n : Nat) (hle : Nat.ble args.length 24 = true) (hb : belowB n s = true) (h : vc Try.prog cx83 n kt83 (Try.f83.body.getD .skip) (argEnv 0 args) s (KV T Try.f83.results.toList n R)) : Contract Try.prog G0 83 args s R :=
  Contract.of_v (cx := cx83) tabOK mixed Try.func83 rfl (enters_of Try.func83 (by kernel_rfl) rfl) rfl ok83 (Nat.le_of_ble_eq_true hle) hb h
theorem conG83 {args : List AV} {s : List (Nat × AB)} {R : AV → List (Nat × AB) → Prop} (n : Nat) (hle : Nat.ble args.length 24 = true) (hb : belowB n s = true) (h : vc Try.prog cx83 n kt83 (Try.f83.body.getD .skip) (argEnv 0 args) s (KG cx83 Try.f83.results.toList n R)) : Contract Try.prog G0 83 args s R :=
  Contract.of_vG (cx := cx83) tabOK mixed Try.func83 rfl (enters_of Try.func83 (by kernel_rfl) rfl) rfl ok83 (Nat.le_of_ble_eq_true hle) hb h
/-- maps.Clone[map[paternoster/api.Call]paternoster/api.Latch,paternoster/api.Call,paternoster/api.Latch] -/
def cx84 : Ctx := ⟨T, G0, 9, [0, 2, 4]⟩
def kt84 : List (Nat × Nat) := []
theorem ok84 : okCode kt84 (Try.f84.body.getD .skip) = true := by kernel_rfl
theorem con84 {args : List AV} {s : List (Nat × AB)} {R : AV → List (Nat × AB) → Prop} (n : Nat) (hle : Nat.ble args.length 9 = true) (hb : belowB n s = true) (h : vc Try.prog cx84 n kt84 (Try.f84.body.getD .skip) (argEnv 0 args) s (KV T Try.f84.results.toList n R)) : Contract Try.prog G0 84 args s R :=
  Contract.of_v (cx := cx84) tabOK mixed Try.func84 rfl (enters_of Try.func84 (by kernel_rfl) rfl) rfl ok84 (Nat.le_of_ble_eq_true hle) hb h
theorem conG84 {args : List AV} {s : List (Nat × AB)} {R : AV → List (Nat × AB) → Prop} (n : Nat) (hle : Nat.ble args.length 9 = true) (hb : belowB n s = true) (h : vc Try.prog cx84 n kt84 (Try.f84.body.getD .skip) (argEnv 0 args) s (KG cx84 Try.f84.results.toList n R)) : Contract Try.prog G0 84 args s R :=
  Contract.of_vG (cx := cx84) tabOK mixed Try.func84 rfl (enters_of Try.func84 (by kernel_rfl) rfl) rfl ok84 (Nat.le_of_ble_eq_true hle) hb h
/-- paternoster/paternosterref.Latchs -/
def cx85 : Ctx := ⟨T, G0, 22, [0, 2, 3, 4, 11]⟩
def kt85 : List (Nat × Nat) := []
theorem ok85 : okCode kt85 (Try.f85.body.getD .skip) = true := by kernel_rfl
theorem con85 {args : List AV} {s : List (Nat × AB)} {R : AV → List (Nat × AB) → Prop} (n : Nat) (hle : Nat.ble args.length 22 = true) (hb : belowB n s = true) (h : vc Try.prog cx85 n kt85 (Try.f85.body.getD .skip) (argEnv 0 args) s (KV T Try.f85.results.toList n R)) : Contract Try.prog G0 85 args s R :=
  Contract.of_v (cx := cx85) tabOK mixed Try.func85 rfl (enters_of Try.func85 (by kernel_rfl) rfl) rfl ok85 (Nat.le_of_ble_eq_true hle) hb h
theorem conG85 {args : List AV} {s : List (Nat × AB)} {R : AV → List (Nat × AB) → Prop} (n : Nat) (hle : Nat.ble args.length 22 = true) (hb : belowB n s = true) (h : vc Try.prog cx85 n kt85 (Try.f85.body.getD .skip) (argEnv 0 args) s (KG cx85 Try.f85.results.toList n R)) : Contract Try.prog G0 85 args s R :=
  Contract.of_vG (cx := cx85) tabOK mixed Try.func85 rfl (enters_of Try.func85 (by kernel_rfl) rfl) rfl ok85 (Nat.le_of_ble_eq_true hle) hb h
/-- paternoster/bid.Of -/
def cx86 : Ctx := ⟨T, G0, 17, [0, 1, 4, 5, 6, 11]⟩
def kt86 : List (Nat × Nat) := []
theorem ok86 : okCode kt86 (Try.f86.body.getD .skip) = true := by kernel_rfl
theorem con86 {args : List AV} {s : List (Nat × AB)} {R : AV → List (Nat × AB) → Prop} (n : Nat) (hle : Nat.ble args.length 17 = true) (hb : belowB n s = true) (h : vc Try.prog cx86 n kt86 (Try.f86.body.getD .skip) (argEnv 0 args) s (KV T Try.f86.results.toList n R)) : Contract Try.prog G0 86 args s R :=
  Contract.of_v (cx := cx86) tabOK mixed Try.func86 rfl (enters_of Try.func86 (by kernel_rfl) rfl) rfl ok86 (Nat.le_of_ble_eq_true hle) hb h
theorem conG86 {args : List AV} {s : List (Nat × AB)} {R : AV → List (Nat × AB) → Prop} (n : Nat) (hle : Nat.ble args.length 17 = true) (hb : belowB n s = true) (h : vc Try.prog cx86 n kt86 (Try.f86.body.getD .skip) (argEnv 0 args) s (KG cx86 Try.f86.results.toList n R)) : Contract Try.prog G0 86 args s R :=
  Contract.of_vG (cx := cx86) tabOK mixed Try.func86 rfl (enters_of Try.func86 (by kernel_rfl) rfl) rfl ok86 (Nat.le_of_ble_eq_true hle) hb h
/-- paternoster/ledger.at -/
def cx87 : Ctx := ⟨T, G0, 9, [0, 1, 2, 3, 4]⟩
def kt87 : List (Nat × Nat) := []
theorem ok87 : okCode kt87 (Try.f87.body.getD .skip) = true := by kernel_rfl
theorem con87 {args : List AV} {s : List (Nat × AB)} {R : AV → List (Nat × AB) → Prop} (n : Nat) (hle : Nat.ble args.length 9 = true) (hb : belowB n s = true) (h : vc Try.prog cx87 n kt87 (Try.f87.body.getD .skip) (argEnv 0 args) s (KV T Try.f87.results.toList n R)) : Contract Try.prog G0 87 args s R :=
  Contract.of_v (cx := cx87) tabOK mixed Try.func87 rfl (enters_of Try.func87 (by kernel_rfl) rfl) rfl ok87 (Nat.le_of_ble_eq_true hle) hb h
theorem conG87 {args : List AV} {s : List (Nat × AB)} {R : AV → List (Nat × AB) → Prop} (n : Nat) (hle : Nat.ble args.length 9 = true) (hb : belowB n s = true) (h : vc Try.prog cx87 n kt87 (Try.f87.body.getD .skip) (argEnv 0 args) s (KG cx87 Try.f87.results.toList n R)) : Contract Try.prog G0 87 args s R :=
  Contract.of_vG (cx := cx87) tabOK mixed Try.func87 rfl (enters_of Try.func87 (by kernel_rfl) rfl) rfl ok87 (Nat.le_of_ble_eq_true hle) hb h
/-- paternoster/bid.Put -/
def cx88 : Ctx := ⟨T, G0, 28, [0, 1, 3, 4, 5, 6, 7, 14, 20]⟩
def kt88 : List (Nat × Nat) := []
theorem ok88 : okCode kt88 (Try.f88.body.getD .skip) = true := by kernel_rfl
theorem con88 {args : List AV} {s : List (Nat × AB)} {R : AV → List (Nat × AB) → Prop} (n : Nat) (hle : Nat.ble args.length 28 = true) (hb : belowB n s = true) (h : vc Try.prog cx88 n kt88 (Try.f88.body.getD .skip) (argEnv 0 args) s (KV T Try.f88.results.toList n R)) : Contract Try.prog G0 88 args s R :=
  Contract.of_v (cx := cx88) tabOK mixed Try.func88 rfl (enters_of Try.func88 (by kernel_rfl) rfl) rfl ok88 (Nat.le_of_ble_eq_true hle) hb h
theorem conG88 {args : List AV} {s : List (Nat × AB)} {R : AV → List (Nat × AB) → Prop} (n : Nat) (hle : Nat.ble args.length 28 = true) (hb : belowB n s = true) (h : vc Try.prog cx88 n kt88 (Try.f88.body.getD .skip) (argEnv 0 args) s (KG cx88 Try.f88.results.toList n R)) : Contract Try.prog G0 88 args s R :=
  Contract.of_vG (cx := cx88) tabOK mixed Try.func88 rfl (enters_of Try.func88 (by kernel_rfl) rfl) rfl ok88 (Nat.le_of_ble_eq_true hle) hb h
/-- slices.DeleteFunc[[]paternoster/api.Entry,paternoster/api.Entry] -/
def cx89 : Ctx := ⟨T, G0, 42, [0, 1, 4, 5, 6, 7, 12, 19, 29]⟩
def kt89 : List (Nat × Nat) := []
theorem ok89 : okCode kt89 (Try.f89.body.getD .skip) = true := by kernel_rfl
theorem con89 {args : List AV} {s : List (Nat × AB)} {R : AV → List (Nat × AB) → Prop} (n : Nat) (hle : Nat.ble args.length 42 = true) (hb : belowB n s = true) (h : vc Try.prog cx89 n kt89 (Try.f89.body.getD .skip) (argEnv 0 args) s (KV T Try.f89.results.toList n R)) : Contract Try.prog G0 89 args s R :=
  Contract.of_v (cx := cx89) tabOK mixed Try.func89 rfl (enters_of Try.func89 (by kernel_rfl) rfl) rfl ok89 (Nat.le_of_ble_eq_true hle) hb h
theorem conG89 {args : List AV} {s : List (Nat × AB)} {R : AV → List (Nat × AB) → Prop} (n : Nat) (hle : Nat.ble args.length 42 = true) (hb : belowB n s = true) (h : vc Try.prog cx89 n kt89 (Try.f89.body.getD .skip) (argEnv 0 args) s (KG cx89 Try.f89.results.toList n R)) : Contract Try.prog G0 89 args s R :=
  Contract.of_vG (cx := cx89) tabOK mixed Try.func89 rfl (enters_of Try.func89 (by kernel_rfl) rfl) rfl ok89 (Nat.le_of_ble_eq_true hle) hb h
/-- paternoster/ledger.Purge$1 -/
def cx90 : Ctx := ⟨T, G0, 9, [0, 1, 2, 3]⟩
def kt90 : List (Nat × Nat) := []
theorem ok90 : okCode kt90 (Try.f90.body.getD .skip) = true := by kernel_rfl
theorem con90 {args : List AV} {s : List (Nat × AB)} {R : AV → List (Nat × AB) → Prop} (n : Nat) (hle : Nat.ble args.length 9 = true) (hb : belowB n s = true) (h : vc Try.prog cx90 n kt90 (Try.f90.body.getD .skip) (argEnv 0 args) s (KV T Try.f90.results.toList n R)) : Contract Try.prog G0 90 args s R :=
  Contract.of_v (cx := cx90) tabOK mixed Try.func90 rfl (enters_of Try.func90 (by kernel_rfl) rfl) rfl ok90 (Nat.le_of_ble_eq_true hle) hb h
theorem conG90 {args : List AV} {s : List (Nat × AB)} {R : AV → List (Nat × AB) → Prop} (n : Nat) (hle : Nat.ble args.length 9 = true) (hb : belowB n s = true) (h : vc Try.prog cx90 n kt90 (Try.f90.body.getD .skip) (argEnv 0 args) s (KG cx90 Try.f90.results.toList n R)) : Contract Try.prog G0 90 args s R :=
  Contract.of_vG (cx := cx90) tabOK mixed Try.func90 rfl (enters_of Try.func90 (by kernel_rfl) rfl) rfl ok90 (Nat.le_of_ble_eq_true hle) hb h
/-- slices.Clone[[]paternoster/api.Latch,paternoster/api.Latch] -/
def cx91 : Ctx := ⟨T, G0, 8, [0, 2, 4]⟩
def kt91 : List (Nat × Nat) := []
theorem ok91 : okCode kt91 (Try.f91.body.getD .skip) = true := by kernel_rfl
theorem con91 {args : List AV} {s : List (Nat × AB)} {R : AV → List (Nat × AB) → Prop} (n : Nat) (hle : Nat.ble args.length 8 = true) (hb : belowB n s = true) (h : vc Try.prog cx91 n kt91 (Try.f91.body.getD .skip) (argEnv 0 args) s (KV T Try.f91.results.toList n R)) : Contract Try.prog G0 91 args s R :=
  Contract.of_v (cx := cx91) tabOK mixed Try.func91 rfl (enters_of Try.func91 (by kernel_rfl) rfl) rfl ok91 (Nat.le_of_ble_eq_true hle) hb h
theorem conG91 {args : List AV} {s : List (Nat × AB)} {R : AV → List (Nat × AB) → Prop} (n : Nat) (hle : Nat.ble args.length 8 = true) (hb : belowB n s = true) (h : vc Try.prog cx91 n kt91 (Try.f91.body.getD .skip) (argEnv 0 args) s (KG cx91 Try.f91.results.toList n R)) : Contract Try.prog G0 91 args s R :=
  Contract.of_vG (cx := cx91) tabOK mixed Try.func91 rfl (enters_of Try.func91 (by kernel_rfl) rfl) rfl ok91 (Nat.le_of_ble_eq_true hle) hb h
/-- slices.SortStableFunc[[]paternoster/api.Latch,paternoster/api.Latch] -/
def cx92 : Ctx := ⟨T, G0, 9, [0, 1]⟩
def kt92 : List (Nat × Nat) := []
theorem ok92 : okCode kt92 (Try.f92.body.getD .skip) = true := by kernel_rfl
theorem con92 {args : List AV} {s : List (Nat × AB)} {R : AV → List (Nat × AB) → Prop} (n : Nat) (hle : Nat.ble args.length 9 = true) (hb : belowB n s = true) (h : vc Try.prog cx92 n kt92 (Try.f92.body.getD .skip) (argEnv 0 args) s (KV T Try.f92.results.toList n R)) : Contract Try.prog G0 92 args s R :=
  Contract.of_v (cx := cx92) tabOK mixed Try.func92 rfl (enters_of Try.func92 (by kernel_rfl) rfl) rfl ok92 (Nat.le_of_ble_eq_true hle) hb h
theorem conG92 {args : List AV} {s : List (Nat × AB)} {R : AV → List (Nat × AB) → Prop} (n : Nat) (hle : Nat.ble args.length 9 = true) (hb : belowB n s = true) (h : vc Try.prog cx92 n kt92 (Try.f92.body.getD .skip) (argEnv 0 args) s (KG cx92 Try.f92.results.toList n R)) : Contract Try.prog G0 92 args s R :=
  Contract.of_vG (cx := cx92) tabOK mixed Try.func92 rfl (enters_of Try.func92 (by kernel_rfl) rfl) rfl ok92 (Nat.le_of_ble_eq_true hle) hb h
/-- paternoster/ledger.Add$1 -/
def cx93 : Ctx := ⟨T, G0, 21, [0, 1, 2, 3, 4]⟩
def kt93 : List (Nat × Nat) := [(1, 13)]
theorem ok93 : okCode kt93 (Try.f93.body.getD .skip) = true := by kernel_rfl
theorem con93 {args : List AV} {s : List (Nat × AB)} {R : AV → List (Nat × AB) → Prop} (n : Nat) (hle : Nat.ble args.length 21 = true) (hb : belowB n s = true) (h : vc Try.prog cx93 n kt93 (Try.f93.body.getD .skip) (argEnv 0 args) s (KV T Try.f93.results.toList n R)) : Contract Try.prog G0 93 args s R :=
  Contract.of_v (cx := cx93) tabOK mixed Try.func93 rfl (enters_of Try.func93 (by kernel_rfl) rfl) rfl ok93 (Nat.le_of_ble_eq_true hle) hb h
theorem conG93 {args : List AV} {s : List (Nat × AB)} {R : AV → List (Nat × AB) → Prop} (n : Nat) (hle : Nat.ble args.length 21 = true) (hb : belowB n s = true) (h : vc Try.prog cx93 n kt93 (Try.f93.body.getD .skip) (argEnv 0 args) s (KG cx93 Try.f93.results.toList n R)) : Contract Try.prog G0 93 args s R :=
  Contract.of_vG (cx := cx93) tabOK mixed Try.func93 rfl (enters_of Try.func93 (by kernel_rfl) rfl) rfl ok93 (Nat.le_of_ble_eq_true hle) hb h
/-- cmp.Or[int] -/
def cx94 : Ctx := ⟨T, G0, 18, [0, 2, 3, 5, 6, 7, 8, 9, 14]⟩
def kt94 : List (Nat × Nat) := []
theorem ok94 : okCode kt94 (Try.f94.body.getD .skip) = true := by kernel_rfl
theorem con94 {args : List AV} {s : List (Nat × AB)} {R : AV → List (Nat × AB) → Prop} (n : Nat) (hle : Nat.ble args.length 18 = true) (hb : belowB n s = true) (h : vc Try.prog cx94 n kt94 (Try.f94.body.getD .skip) (argEnv 0 args) s (KV T Try.f94.results.toList n R)) : Contract Try.prog G0 94 args s R :=
  Contract.of_v (cx := cx94) tabOK mixed Try.func94 rfl (enters_of Try.func94 (by kernel_rfl) rfl) rfl ok94 (Nat.le_of_ble_eq_true hle) hb h
theorem conG94 {args : List AV} {s : List (Nat × AB)} {R : AV → List (Nat × AB) → Prop} (n : Nat) (hle : Nat.ble args.length 18 = true) (hb : belowB n s = true) (h : vc Try.prog cx94 n kt94 (Try.f94.body.getD .skip) (argEnv 0 args) s (KG cx94 Try.f94.results.toList n R)) : Contract Try.prog G0 94 args s R :=
  Contract.of_vG (cx := cx94) tabOK mixed Try.func94 rfl (enters_of Try.func94 (by kernel_rfl) rfl) rfl ok94 (Nat.le_of_ble_eq_true hle) hb h
/-- cmp.Compare[int] -/
def cx95 : Ctx := ⟨T, G0, 20, [0, 1, 4, 5, 6, 11, 12, 13, 16, 19]⟩
def kt95 : List (Nat × Nat) := []
theorem ok95 : okCode kt95 (Try.f95.body.getD .skip) = true := by kernel_rfl
theorem con95 {args : List AV} {s : List (Nat × AB)} {R : AV → List (Nat × AB) → Prop} (n : Nat) (hle : Nat.ble args.length 20 = true) (hb : belowB n s = true) (h : vc Try.prog cx95 n kt95 (Try.f95.body.getD .skip) (argEnv 0 args) s (KV T Try.f95.results.toList n R)) : Contract Try.prog G0 95 args s R :=
  Contract.of_v (cx := cx95) tabOK mixed Try.func95 rfl (enters_of Try.func95 (by kernel_rfl) rfl) rfl ok95 (Nat.le_of_ble_eq_true hle) hb h
theorem conG95 {args : List AV} {s : List (Nat × AB)} {R : AV → List (Nat × AB) → Prop} (n : Nat) (hle : Nat.ble args.length 20 = true) (hb : belowB n s = true) (h : vc Try.prog cx95 n kt95 (Try.f95.body.getD .skip) (argEnv 0 args) s (KG cx95 Try.f95.results.toList n R)) : Contract Try.prog G0 95 args s R :=
  Contract.of_vG (cx := cx95) tabOK mixed Try.func95 rfl (enters_of Try.func95 (by kernel_rfl) rfl) rfl ok95 (Nat.le_of_ble_eq_true hle) hb h
/-- slices.IndexFunc[[]paternoster/api.Entry,paternoster/api.Entry] -/
def cx96 : Ctx := ⟨T, G0, 19, [0, 1, 4, 5, 7, 8, 9, 16]⟩
def kt96 : List (Nat × Nat) := []
theorem ok96 : okCode kt96 (Try.f96.body.getD .skip) = true := by kernel_rfl
theorem con96 {args : List AV} {s : List (Nat × AB)} {R : AV → List (Nat × AB) → Prop} (n : Nat) (hle : Nat.ble args.length 19 = true) (hb : belowB n s = true) (h : vc Try.prog cx96 n kt96 (Try.f96.body.getD .skip) (argEnv 0 args) s (KV T Try.f96.results.toList n R)) : Contract Try.prog G0 96 args s R :=
  Contract.of_v (cx := cx96) tabOK mixed Try.func96 rfl (enters_of Try.func96 (by kernel_rfl) rfl) rfl ok96 (Nat.le_of_ble_eq_true hle) hb h
theorem conG96 {args : List AV} {s : List (Nat × AB)} {R : AV → List (Nat × AB) → Prop} (n : Nat) (hle : Nat.ble args.length 19 = true) (hb : belowB n s = true) (h : vc Try.prog cx96 n kt96 (Try.f96.body.getD .skip) (argEnv 0 args) s (KG cx96 Try.f96.results.toList n R)) : Contract Try.prog G0 96 args s R :=
  Contract.of_vG (cx := cx96) tabOK mixed Try.func96 rfl (enters_of Try.func96 (by kernel_rfl) rfl) rfl ok96 (Nat.le_of_ble_eq_true hle) hb h
/-- paternoster/ledger.Add$2 -/
def cx97 : Ctx := ⟨T, G0, 10, [0, 1, 2, 3]⟩
def kt97 : List (Nat × Nat) := []
theorem ok97 : okCode kt97 (Try.f97.body.getD .skip) = true := by kernel_rfl
theorem con97 {args : List AV} {s : List (Nat × AB)} {R : AV → List (Nat × AB) → Prop} (n : Nat) (hle : Nat.ble args.length 10 = true) (hb : belowB n s = true) (h : vc Try.prog cx97 n kt97 (Try.f97.body.getD .skip) (argEnv 0 args) s (KV T Try.f97.results.toList n R)) : Contract Try.prog G0 97 args s R :=
  Contract.of_v (cx := cx97) tabOK mixed Try.func97 rfl (enters_of Try.func97 (by kernel_rfl) rfl) rfl ok97 (Nat.le_of_ble_eq_true hle) hb h
theorem conG97 {args : List AV} {s : List (Nat × AB)} {R : AV → List (Nat × AB) → Prop} (n : Nat) (hle : Nat.ble args.length 10 = true) (hb : belowB n s = true) (h : vc Try.prog cx97 n kt97 (Try.f97.body.getD .skip) (argEnv 0 args) s (KG cx97 Try.f97.results.toList n R)) : Contract Try.prog G0 97 args s R :=
  Contract.of_vG (cx := cx97) tabOK mixed Try.func97 rfl (enters_of Try.func97 (by kernel_rfl) rfl) rfl ok97 (Nat.le_of_ble_eq_true hle) hb h
/-- slices.Insert[[]paternoster/api.Entry,paternoster/api.Entry] -/
def cx98 : Ctx := ⟨T, G0, 95, [0, 1, 2, 6, 7, 8, 9, 16, 22, 31, 68]⟩
def kt98 : List (Nat × Nat) := [(11, 8), (15, 8)]
theorem ok98 : okCode kt98 (Try.f98.body.getD .skip) = true := by kernel_rfl
theorem con98 {args : List AV} {s : List (Nat × AB)} {R : AV → List (Nat × AB) → Prop} (n : Nat) (hle : Nat.ble args.length 95 = true) (hb : belowB n s = true) (h : vc Try.prog cx98 n kt98 (Try.f98.body.getD .skip) (argEnv 0 args) s (KV T Try.f98.results.toList n R)) : Contract Try.prog G0 98 args s R :=
  Contract.of_v (cx := cx98) tabOK mixed Try.func98 rfl (enters_of Try.func98 (by kernel_rfl) rfl) rfl ok98 (Nat.le_of_ble_eq_true hle) hb h
theorem conG98 {args : List AV} {s : List (Nat × AB)} {R : AV → List (Nat × AB) → Prop} (n : Nat) (hle : Nat.ble args.length 95 = true) (hb : belowB n s = true) (h : vc Try.prog cx98 n kt98 (Try.f98.body.getD .skip) (argEnv 0 args) s (KG cx98 Try.f98.results.toList n R)) : Contract Try.prog G0 98 args s R :=
  Contract.of_vG (cx := cx98) tabOK mixed Try.func98 rfl (enters_of Try.func98 (by kernel_rfl) rfl) rfl ok98 (Nat.le_of_ble_eq_true hle) hb h
/-- paternoster/paternosterref.SameBids -/
def cx99 : Ctx := ⟨T, G0, 29, [0, 1, 4, 5, 6, 11, 15, 28]⟩
def kt99 : List (Nat × Nat) := [(6, 8)]
theorem ok99 : okCode kt99 (Try.f99.body.getD .skip) = true := by kernel_rfl
theorem con99 {args : List AV} {s : List (Nat × AB)} {R : AV → List (Nat × AB) → Prop} (n : Nat) (hle : Nat.ble args.length 29 = true) (hb : belowB n s = true) (h : vc Try.prog cx99 n kt99 (Try.f99.body.getD .skip) (argEnv 0 args) s (KV T Try.f99.results.toList n R)) : Contract Try.prog G0 99 args s R :=
  Contract.of_v (cx := cx99) tabOK mixed Try.func99 rfl (enters_of Try.func99 (by kernel_rfl) rfl) rfl ok99 (Nat.le_of_ble_eq_true hle) hb h
theorem conG99 {args : List AV} {s : List (Nat × AB)} {R : AV → List (Nat × AB) → Prop} (n : Nat) (hle : Nat.ble args.length 29 = true) (hb : belowB n s = true) (h : vc Try.prog cx99 n kt99 (Try.f99.body.getD .skip) (argEnv 0 args) s (KG cx99 Try.f99.results.toList n R)) : Contract Try.prog G0 99 args s R :=
  Contract.of_vG (cx := cx99) tabOK mixed Try.func99 rfl (enters_of Try.func99 (by kernel_rfl) rfl) rfl ok99 (Nat.le_of_ble_eq_true hle) hb h
/-- slices.pdqsortOrdered[int] -/
def cx100 : Ctx := ⟨T, G0, 134, [0, 1, 2, 3, 8, 9, 10, 11, 12, 13, 14, 15, 16, 17, 18, 23, 29, 35, 50, 68, 72, 87, 113]⟩
def kt100 : List (Nat × Nat) := [(17, 12)]
theorem ok100 : okCode kt100 (Try.f100.body.getD .skip) = true := by kernel_rfl
theorem con100 {args : List AV} {s : List (Nat × AB)} {R : AV → List (Nat × AB) → Prop} (n : Nat) (hle : Nat.ble args.length 134 = true) (hb : belowB n s = true) (h : vc Try.prog cx100 n kt100 (Try.f100.body.getD .skip) (argEnv 0 args) s (KV T Try.f100.results.toList n R)) : Contract Try.prog G0 100 args s R :=
  Contract.of_v (cx := cx100) tabOK mixed Try.func100 rfl (enters_of Try.func100 (by kernel_rfl) rfl) rfl ok100 (Nat.le_of_ble_eq_true hle) hb h
theorem conG100 {args : List AV} {s : List (Nat × AB)} {R : AV → List (Nat × AB) → Prop} (n : Nat) (hle : Nat.ble args.length 134 = true) (hb : belowB n s = true) (h : vc Try.prog cx100 n kt100 (Try.f100.body.getD .skip) (argEnv 0 args) s (KG cx100 Try.f100.results.toList n R)) : Contract Try.prog G0 100 args s R :=
  Contract.of_vG (cx := cx100) tabOK mixed Try.func100 rfl (enters_of Try.func100 (by kernel_rfl) rfl) rfl ok100 (Nat.le_of_ble_eq_true hle) hb h
/-- math/bits.Len -/
def cx101 : Ctx := ⟨T, G0, 8, [0, 2]⟩
def kt101 : List (Nat × Nat) := []
theorem ok101 : okCode kt101 (Try.f101.body.getD .skip) = true := by kernel_rfl
theorem con101 {args : List AV} {s : List (Nat × AB)} {R : AV → List (Nat × AB) → Prop} (n : Nat) (hle : Nat.ble args.length 8 = true) (hb : belowB n s = true) (h : vc Try.prog cx101 n kt101 (Try.f101.body.getD .skip) (argEnv 0 args) s (KV T Try.f101.results.toList n R)) : Contract Try.prog G0 101 args s R :=
  Contract.of_v (cx := cx101) tabOK mixed Try.func101 rfl (enters_of Try.func101 (by kernel_rfl) rfl) rfl ok101 (Nat.le_of_ble_eq_true hle) hb h
theorem conG101 {args : List AV} {s : List (Nat × AB)} {R : AV → List (Nat × AB) → Prop} (n : Nat) (hle : Nat.ble args.length 8 = true) (hb : belowB n s = true) (h : vc Try.prog cx101 n kt101 (Try.f101.body.getD .skip) (argEnv 0 args) s (KG cx101 Try.f101.results.toList n R)) : Contract Try.prog G0 101 args s R :=
  Contract.of_vG (cx := cx101) tabOK mixed Try.func101 rfl (enters_of Try.func101 (by kernel_rfl) rfl) rfl ok101 (Nat.le_of_ble_eq_true hle) hb h
/-- slices.Collect[paternoster/api.Latch] -/
def cx102 : Ctx := ⟨T, G0, 5, [0, 2]⟩
def kt102 : List (Nat × Nat) := []
theorem ok102 : okCode kt102 (Try.f102.body.getD .skip) = true := by kernel_rfl
theorem con102 {args : List AV} {s : List (Nat × AB)} {R : AV → List (Nat × AB) → Prop} (n : Nat) (hle : Nat.ble args.length 5 = true) (hb : belowB n s = true) (h : vc Try.prog cx102 n kt102 (Try.f102.body.getD .skip) (argEnv 0 args) s (KV T Try.f102.results.toList n R)) : Contract Try.prog G0 102 args s R :=
  Contract.of_v (cx := cx102) tabOK mixed Try.func102 rfl (enters_of Try.func102 (by kernel_rfl) rfl) rfl ok102 (Nat.le_of_ble_eq_true hle) hb h
theorem conG102 {args : List AV} {s : List (Nat × AB)} {R : AV → List (Nat × AB) → Prop} (n : Nat) (hle : Nat.ble args.length 5 = true) (hb : belowB n s = true) (h : vc Try.prog cx102 n kt102 (Try.f102.body.getD .skip) (argEnv 0 args) s (KG cx102 Try.f102.results.toList n R)) : Contract Try.prog G0 102 args s R :=
  Contract.of_vG (cx := cx102) tabOK mixed Try.func102 rfl (enters_of Try.func102 (by kernel_rfl) rfl) rfl ok102 (Nat.le_of_ble_eq_true hle) hb h
/-- slices.SortFunc[[]paternoster/api.Latch,paternoster/api.Latch] -/
def cx103 : Ctx := ⟨T, G0, 14, [0, 1, 4]⟩
def kt103 : List (Nat × Nat) := []
theorem ok103 : okCode kt103 (Try.f103.body.getD .skip) = true := by kernel_rfl
theorem con103 {args : List AV} {s : List (Nat × AB)} {R : AV → List (Nat × AB) → Prop} (n : Nat) (hle : Nat.ble args.length 14 = true) (hb : belowB n s = true) (h : vc Try.prog cx103 n kt103 (Try.f103.body.getD .skip) (argEnv 0 args) s (KV T Try.f103.results.toList n R)) : Contract Try.prog G0 103 args s R :=
  Contract.of_v (cx := cx103) tabOK mixed Try.func103 rfl (enters_of Try.func103 (by kernel_rfl) rfl) rfl ok103 (Nat.le_of_ble_eq_true hle) hb h
theorem conG103 {args : List AV} {s : List (Nat × AB)} {R : AV → List (Nat × AB) → Prop} (n : Nat) (hle : Nat.ble args.length 14 = true) (hb : belowB n s = true) (h : vc Try.prog cx103 n kt103 (Try.f103.body.getD .skip) (argEnv 0 args) s (KG cx103 Try.f103.results.toList n R)) : Contract Try.prog G0 103 args s R :=
  Contract.of_vG (cx := cx103) tabOK mixed Try.func103 rfl (enters_of Try.func103 (by kernel_rfl) rfl) rfl ok103 (Nat.le_of_ble_eq_true hle) hb h
/-- maps.Values[map[paternoster/api.Call]paternoster/api.Latch,paternoster/api.Call,paternoster/api.Latch]$1 -/
def cx104 : Ctx := ⟨T, G0, 15, [0, 1, 4, 6, 8, 14]⟩
def kt104 : List (Nat × Nat) := []
theorem ok104 : okCode kt104 (Try.f104.body.getD .skip) = true := by kernel_rfl
theorem con104 {args : List AV} {s : List (Nat × AB)} {R : AV → List (Nat × AB) → Prop} (n : Nat) (hle : Nat.ble args.length 15 = true) (hb : belowB n s = true) (h : vc Try.prog cx104 n kt104 (Try.f104.body.getD .skip) (argEnv 0 args) s (KV T Try.f104.results.toList n R)) : Contract Try.prog G0 104 args s R :=
  Contract.of_v (cx := cx104) tabOK mixed Try.func104 rfl (enters_of Try.func104 (by kernel_rfl) rfl) rfl ok104 (Nat.le_of_ble_eq_true hle) hb h
theorem conG104 {args : List AV} {s : List (Nat × AB)} {R : AV → List (Nat × AB) → Prop} (n : Nat) (hle : Nat.ble args.length 15 = true) (hb : belowB n s = true) (h : vc Try.prog cx104 n kt104 (Try.f104.body.getD .skip) (argEnv 0 args) s (KG cx104 Try.f104.results.toList n R)) : Contract Try.prog G0 104 args s R :=
  Contract.of_vG (cx := cx104) tabOK mixed Try.func104 rfl (enters_of Try.func104 (by kernel_rfl) rfl) rfl ok104 (Nat.le_of_ble_eq_true hle) hb h
/-- slices.Index[[]paternoster/api.Latch,paternoster/api.Latch] -/
def cx105 : Ctx := ⟨T, G0, 19, [0, 1, 3, 4, 5, 7, 8, 9, 16]⟩
def kt105 : List (Nat × Nat) := [(4, 5)]
theorem ok105 : okCode kt105 (Try.f105.body.getD .skip) = true := by kernel_rfl
theorem con105 {args : List AV} {s : List (Nat × AB)} {R : AV → List (Nat × AB) → Prop} (n : Nat) (hle : Nat.ble args.length 19 = true) (hb : belowB n s = true) (h : vc Try.prog cx105 n kt105 (Try.f105.body.getD .skip) (argEnv 0 args) s (KV T Try.f105.results.toList n R)) : Contract Try.prog G0 105 args s R :=
  Contract.of_v (cx := cx105) tabOK mixed Try.func105 rfl (enters_of Try.func105 (by kernel_rfl) rfl) rfl ok105 (Nat.le_of_ble_eq_true hle) hb h
theorem conG105 {args : List AV} {s : List (Nat × AB)} {R : AV → List (Nat × AB) → Prop} (n : Nat) (hle : Nat.ble args.length 19 = true) (hb : belowB n s = true) (h : vc Try.prog cx105 n kt105 (Try.f105.body.getD .skip) (argEnv 0 args) s (KG cx105 Try.f105.results.toList n R)) : Contract Try.prog G0 105 args s R :=
  Contract.of_vG (cx := cx105) tabOK mixed Try.func105 rfl (enters_of Try.func105 (by kernel_rfl) rfl) rfl ok105 (Nat.le_of_ble_eq_true hle) hb h
/-- paternoster/paternosterref1.ValidEpoch -/
def cx106 : Ctx := ⟨T, G0, 21, [0, 1, 2]⟩
def kt106 : List (Nat × Nat) := []
theorem ok106 : okCode kt106 (Try.f106.body.getD .skip) = true := by kernel_rfl
theorem con106 {args : List AV} {s : List (Nat × AB)} {R : AV → List (Nat × AB) → Prop} (n : Nat) (hle : Nat.ble args.length 21 = true) (hb : belowB n s = true) (h : vc Try.prog cx106 n kt106 (Try.f106.body.getD .skip) (argEnv 0 args) s (KV T Try.f106.results.toList n R)) : Contract Try.prog G0 106 args s R :=
  Contract.of_v (cx := cx106) tabOK mixed Try.func106 rfl (enters_of Try.func106 (by kernel_rfl) rfl) rfl ok106 (Nat.le_of_ble_eq_true hle) hb h
theorem conG106 {args : List AV} {s : List (Nat × AB)} {R : AV → List (Nat × AB) → Prop} (n : Nat) (hle : Nat.ble args.length 21 = true) (hb : belowB n s = true) (h : vc Try.prog cx106 n kt106 (Try.f106.body.getD .skip) (argEnv 0 args) s (KG cx106 Try.f106.results.toList n R)) : Contract Try.prog G0 106 args s R :=
  Contract.of_vG (cx := cx106) tabOK mixed Try.func106 rfl (enters_of Try.func106 (by kernel_rfl) rfl) rfl ok106 (Nat.le_of_ble_eq_true hle) hb h
/-- paternoster/paternosterref1.car -/
def cx107 : Ctx := ⟨T, G0, 9, [0, 2]⟩
def kt107 : List (Nat × Nat) := []
theorem ok107 : okCode kt107 (Try.f107.body.getD .skip) = true := by kernel_rfl
theorem con107 {args : List AV} {s : List (Nat × AB)} {R : AV → List (Nat × AB) → Prop} (n : Nat) (hle : Nat.ble args.length 9 = true) (hb : belowB n s = true) (h : vc Try.prog cx107 n kt107 (Try.f107.body.getD .skip) (argEnv 0 args) s (KV T Try.f107.results.toList n R)) : Contract Try.prog G0 107 args s R :=
  Contract.of_v (cx := cx107) tabOK mixed Try.func107 rfl (enters_of Try.func107 (by kernel_rfl) rfl) rfl ok107 (Nat.le_of_ble_eq_true hle) hb h
theorem conG107 {args : List AV} {s : List (Nat × AB)} {R : AV → List (Nat × AB) → Prop} (n : Nat) (hle : Nat.ble args.length 9 = true) (hb : belowB n s = true) (h : vc Try.prog cx107 n kt107 (Try.f107.body.getD .skip) (argEnv 0 args) s (KG cx107 Try.f107.results.toList n R)) : Contract Try.prog G0 107 args s R :=
  Contract.of_vG (cx := cx107) tabOK mixed Try.func107 rfl (enters_of Try.func107 (by kernel_rfl) rfl) rfl ok107 (Nat.le_of_ble_eq_true hle) hb h
/-- paternoster/paternosterref1.validBids -/
def cx108 : Ctx := ⟨T, G0, 60, [0, 1, 4, 5, 6, 11, 15, 41, 45, 59]⟩
def kt108 : List (Nat × Nat) := [(11, 11)]
theorem ok108 : okCode kt108 (Try.f108.body.getD .skip) = true := by kernel_rfl
theorem con108 {args : List AV} {s : List (Nat × AB)} {R : AV → List (Nat × AB) → Prop} (n : Nat) (hle : Nat.ble args.length 60 = true) (hb : belowB n s = true) (h : vc Try.prog cx108 n kt108 (Try.f108.body.getD .skip) (argEnv 0 args) s (KV T Try.f108.results.toList n R)) : Contract Try.prog G0 108 args s R :=
  Contract.of_v (cx := cx108) tabOK mixed Try.func108 rfl (enters_of Try.func108 (by kernel_rfl) rfl) rfl ok108 (Nat.le_of_ble_eq_true hle) hb h
theorem conG108 {args : List AV} {s : List (Nat × AB)} {R : AV → List (Nat × AB) → Prop} (n : Nat) (hle : Nat.ble args.length 60 = true) (hb : belowB n s = true) (h : vc Try.prog cx108 n kt108 (Try.f108.body.getD .skip) (argEnv 0 args) s (KG cx108 Try.f108.results.toList n R)) : Contract Try.prog G0 108 args s R :=
  Contract.of_vG (cx := cx108) tabOK mixed Try.func108 rfl (enters_of Try.func108 (by kernel_rfl) rfl) rfl ok108 (Nat.le_of_ble_eq_true hle) hb h
/-- paternoster/bid.Less -/
def cx109 : Ctx := ⟨T, G0, 24, [0, 1, 2, 3, 4]⟩
def kt109 : List (Nat × Nat) := []
theorem ok109 : okCode kt109 (Try.f109.body.getD .skip) = true := by kernel_rfl
theorem con109 {args : List AV} {s : List (Nat × AB)} {R : AV → List (Nat × AB) → Prop} (n : Nat) (hle : Nat.ble args.length 24 = true) (hb : belowB n s = true) (h : vc Try.prog cx109 n kt109 (Try.f109.body.getD .skip) (argEnv 0 args) s (KV T Try.f109.results.toList n R)) : Contract Try.prog G0 109 args s R :=
  Contract.of_v (cx := cx109) tabOK mixed Try.func109 rfl (enters_of Try.func109 (by kernel_rfl) rfl) rfl ok109 (Nat.le_of_ble_eq_true hle) hb h
theorem conG109 {args : List AV} {s : List (Nat × AB)} {R : AV → List (Nat × AB) → Prop} (n : Nat) (hle : Nat.ble args.length 24 = true) (hb : belowB n s = true) (h : vc Try.prog cx109 n kt109 (Try.f109.body.getD .skip) (argEnv 0 args) s (KG cx109 Try.f109.results.toList n R)) : Contract Try.prog G0 109 args s R :=
  Contract.of_vG (cx := cx109) tabOK mixed Try.func109 rfl (enters_of Try.func109 (by kernel_rfl) rfl) rfl ok109 (Nat.le_of_ble_eq_true hle) hb h
/-- slices.ContainsFunc[[]int,int] -/
def cx110 : Ctx := ⟨T, G0, 9, [0, 1, 4]⟩
def kt110 : List (Nat × Nat) := []
theorem ok110 : okCode kt110 (Try.f110.body.getD .skip) = true := by kernel_rfl
theorem con110 {args : List AV} {s : List (Nat × AB)} {R : AV → List (Nat × AB) → Prop} (n : Nat) (hle : Nat.ble args.length 9 = true) (hb : belowB n s = true) (h : vc Try.prog cx110 n kt110 (Try.f110.body.getD .skip) (argEnv 0 args) s (KV T Try.f110.results.toList n R)) : Contract Try.prog G0 110 args s R :=
  Contract.of_v (cx := cx110) tabOK mixed Try.func110 rfl (enters_of Try.func110 (by kernel_rfl) rfl) rfl ok110 (Nat.le_of_ble_eq_true hle) hb h
theorem conG110 {args : List AV} {s : List (Nat × AB)} {R : AV → List (Nat × AB) → Prop} (n : Nat) (hle : Nat.ble args.length 9 = true) (hb : belowB n s = true) (h : vc Try.prog cx110 n kt110 (Try.f110.body.getD .skip) (argEnv 0 args) s (KG cx110 Try.f110.results.toList n R)) : Contract Try.prog G0 110 args s R :=
  Contract.of_vG (cx := cx110) tabOK mixed Try.func110 rfl (enters_of Try.func110 (by kernel_rfl) rfl) rfl ok110 (Nat.le_of_ble_eq_true hle) hb h
/-- paternoster/bid.Full$1 -/
def cx111 : Ctx := ⟨T, G0, 8, [0, 1, 3]⟩
def kt111 : List (Nat × Nat) := []
theorem ok111 : okCode kt111 (Try.f111.body.getD .skip) = true := by kernel_rfl
theorem con111 {args : List AV} {s : List (Nat × AB)} {R : AV → List (Nat × AB) → Prop} (n : Nat) (hle : Nat.ble args.length 8 = true) (hb : belowB n s = true) (h : vc Try.prog cx111 n kt111 (Try.f111.body.getD .skip) (argEnv 0 args) s (KV T Try.f111.results.toList n R)) : Contract Try.prog G0 111 args s R :=
  Contract.of_v (cx := cx111) tabOK mixed Try.func111 rfl (enters_of Try.func111 (by kernel_rfl) rfl) rfl ok111 (Nat.le_of_ble_eq_true hle) hb h
theorem conG111 {args : List AV} {s : List (Nat × AB)} {R : AV → List (Nat × AB) → Prop} (n : Nat) (hle : Nat.ble args.length 8 = true) (hb : belowB n s = true) (h : vc Try.prog cx111 n kt111 (Try.f111.body.getD .skip) (argEnv 0 args) s (KG cx111 Try.f111.results.toList n R)) : Contract Try.prog G0 111 args s R :=
  Contract.of_vG (cx := cx111) tabOK mixed Try.func111 rfl (enters_of Try.func111 (by kernel_rfl) rfl) rfl ok111 (Nat.le_of_ble_eq_true hle) hb h
/-- paternoster/bid.at -/
def cx112 : Ctx := ⟨T, G0, 8, [0, 1, 3, 4]⟩
def kt112 : List (Nat × Nat) := []
theorem ok112 : okCode kt112 (Try.f112.body.getD .skip) = true := by kernel_rfl
theorem con112 {args : List AV} {s : List (Nat × AB)} {R : AV → List (Nat × AB) → Prop} (n : Nat) (hle : Nat.ble args.length 8 = true) (hb : belowB n s = true) (h : vc Try.prog cx112 n kt112 (Try.f112.body.getD .skip) (argEnv 0 args) s (KV T Try.f112.results.toList n R)) : Contract Try.prog G0 112 args s R :=
  Contract.of_v (cx := cx112) tabOK mixed Try.func112 rfl (enters_of Try.func112 (by kernel_rfl) rfl) rfl ok112 (Nat.le_of_ble_eq_true hle) hb h
theorem conG112 {args : List AV} {s : List (Nat × AB)} {R : AV → List (Nat × AB) → Prop} (n : Nat) (hle : Nat.ble args.length 8 = true) (hb : belowB n s = true) (h : vc Try.prog cx112 n kt112 (Try.f112.body.getD .skip) (argEnv 0 args) s (KG cx112 Try.f112.results.toList n R)) : Contract Try.prog G0 112 args s R :=
  Contract.of_vG (cx := cx112) tabOK mixed Try.func112 rfl (enters_of Try.func112 (by kernel_rfl) rfl) rfl ok112 (Nat.le_of_ble_eq_true hle) hb h
/-- slices.Clone[[]paternoster/api.Entry,paternoster/api.Entry] -/
def cx113 : Ctx := ⟨T, G0, 8, [0, 2, 4]⟩
def kt113 : List (Nat × Nat) := []
theorem ok113 : okCode kt113 (Try.f113.body.getD .skip) = true := by kernel_rfl
theorem con113 {args : List AV} {s : List (Nat × AB)} {R : AV → List (Nat × AB) → Prop} (n : Nat) (hle : Nat.ble args.length 8 = true) (hb : belowB n s = true) (h : vc Try.prog cx113 n kt113 (Try.f113.body.getD .skip) (argEnv 0 args) s (KV T Try.f113.results.toList n R)) : Contract Try.prog G0 113 args s R :=
  Contract.of_v (cx := cx113) tabOK mixed Try.func113 rfl (enters_of Try.func113 (by kernel_rfl) rfl) rfl ok113 (Nat.le_of_ble_eq_true hle) hb h
theorem conG113 {args : List AV} {s : List (Nat × AB)} {R : AV → List (Nat × AB) → Prop} (n : Nat) (hle : Nat.ble args.length 8 = true) (hb : belowB n s = true) (h : vc Try.prog cx113 n kt113 (Try.f113.body.getD .skip) (argEnv 0 args) s (KG cx113 Try.f113.results.toList n R)) : Contract Try.prog G0 113 args s R :=
  Contract.of_vG (cx := cx113) tabOK mixed Try.func113 rfl (enters_of Try.func113 (by kernel_rfl) rfl) rfl ok113 (Nat.le_of_ble_eq_true hle) hb h
/-- slices.Clone[[]paternoster/api.Bid,paternoster/api.Bid] -/
def cx114 : Ctx := ⟨T, G0, 8, [0, 2, 4]⟩
def kt114 : List (Nat × Nat) := []
theorem ok114 : okCode kt114 (Try.f114.body.getD .skip) = true := by kernel_rfl
theorem con114 {args : List AV} {s : List (Nat × AB)} {R : AV → List (Nat × AB) → Prop} (n : Nat) (hle : Nat.ble args.length 8 = true) (hb : belowB n s = true) (h : vc Try.prog cx114 n kt114 (Try.f114.body.getD .skip) (argEnv 0 args) s (KV T Try.f114.results.toList n R)) : Contract Try.prog G0 114 args s R :=
  Contract.of_v (cx := cx114) tabOK mixed Try.func114 rfl (enters_of Try.func114 (by kernel_rfl) rfl) rfl ok114 (Nat.le_of_ble_eq_true hle) hb h
theorem conG114 {args : List AV} {s : List (Nat × AB)} {R : AV → List (Nat × AB) → Prop} (n : Nat) (hle : Nat.ble args.length 8 = true) (hb : belowB n s = true) (h : vc Try.prog cx114 n kt114 (Try.f114.body.getD .skip) (argEnv 0 args) s (KG cx114 Try.f114.results.toList n R)) : Contract Try.prog G0 114 args s R :=
  Contract.of_vG (cx := cx114) tabOK mixed Try.func114 rfl (enters_of Try.func114 (by kernel_rfl) rfl) rfl ok114 (Nat.le_of_ble_eq_true hle) hb h
/-- paternoster/ledger.at$1 -/
def cx116 : Ctx := ⟨T, G0, 9, [0, 1, 2, 3]⟩
def kt116 : List (Nat × Nat) := []
theorem ok116 : okCode kt116 (Try.f116.body.getD .skip) = true := by kernel_rfl
theorem con116 {args : List AV} {s : List (Nat × AB)} {R : AV → List (Nat × AB) → Prop} (n : Nat) (hle : Nat.ble args.length 9 = true) (hb : belowB n s = true) (h : vc Try.prog cx116 n kt116 (Try.f116.body.getD .skip) (argEnv 0 args) s (KV T Try.f116.results.toList n R)) : Contract Try.prog G0 116 args s R :=
  Contract.of_v (cx := cx116) tabOK mixed Try.func116 rfl (enters_of Try.func116 (by kernel_rfl) rfl) rfl ok116 (Nat.le_of_ble_eq_true hle) hb h
theorem conG116 {args : List AV} {s : List (Nat × AB)} {R : AV → List (Nat × AB) → Prop} (n : Nat) (hle : Nat.ble args.length 9 = true) (hb : belowB n s = true) (h : vc Try.prog cx116 n kt116 (Try.f116.body.getD .skip) (argEnv 0 args) s (KG cx116 Try.f116.results.toList n R)) : Contract Try.prog G0 116 args s R :=
  Contract.of_vG (cx := cx116) tabOK mixed Try.func116 rfl (enters_of Try.func116 (by kernel_rfl) rfl) rfl ok116 (Nat.le_of_ble_eq_true hle) hb h
/-- slices.IndexFunc[[]paternoster/api.Bid,paternoster/api.Bid] -/
def cx117 : Ctx := ⟨T, G0, 19, [0, 1, 4, 5, 7, 8, 9, 16]⟩
def kt117 : List (Nat × Nat) := []
theorem ok117 : okCode kt117 (Try.f117.body.getD .skip) = true := by kernel_rfl
theorem con117 {args : List AV} {s : List (Nat × AB)} {R : AV → List (Nat × AB) → Prop} (n : Nat) (hle : Nat.ble args.length 19 = true) (hb : belowB n s = true) (h : vc Try.prog cx117 n kt117 (Try.f117.body.getD .skip) (argEnv 0 args) s (KV T Try.f117.results.toList n R)) : Contract Try.prog G0 117 args s R :=
  Contract.of_v (cx := cx117) tabOK mixed Try.func117 rfl (enters_of Try.func117 (by kernel_rfl) rfl) rfl ok117 (Nat.le_of_ble_eq_true hle) hb h
theorem conG117 {args : List AV} {s : List (Nat × AB)} {R : AV → List (Nat × AB) → Prop} (n : Nat) (hle : Nat.ble args.length 19 = true) (hb : belowB n s = true) (h : vc Try.prog cx117 n kt117 (Try.f117.body.getD .skip) (argEnv 0 args) s (KG cx117 Try.f117.results.toList n R)) : Contract Try.prog G0 117 args s R :=
  Contract.of_vG (cx := cx117) tabOK mixed Try.func117 rfl (enters_of Try.func117 (by kernel_rfl) rfl) rfl ok117 (Nat.le_of_ble_eq_true hle) hb h
/-- paternoster/bid.Put$1 -/
def cx118 : Ctx := ⟨T, G0, 9, [0, 1, 2, 3]⟩
def kt118 : List (Nat × Nat) := []
theorem ok118 : okCode kt118 (Try.f118.body.getD .skip) = true := by kernel_rfl
theorem con118 {args : List AV} {s : List (Nat × AB)} {R : AV → List (Nat × AB) → Prop} (n : Nat) (hle : Nat.ble args.length 9 = true) (hb : belowB n s = true) (h : vc Try.prog cx118 n kt118 (Try.f118.body.getD .skip) (argEnv 0 args) s (KV T Try.f118.results.toList n R)) : Contract Try.prog G0 118 args s R :=
  Contract.of_v (cx := cx118) tabOK mixed Try.func118 rfl (enters_of Try.func118 (by kernel_rfl) rfl) rfl ok118 (Nat.le_of_ble_eq_true hle) hb h
theorem conG118 {args : List AV} {s : List (Nat × AB)} {R : AV → List (Nat × AB) → Prop} (n : Nat) (hle : Nat.ble args.length 9 = true) (hb : belowB n s = true) (h : vc Try.prog cx118 n kt118 (Try.f118.body.getD .skip) (argEnv 0 args) s (KG cx118 Try.f118.results.toList n R)) : Contract Try.prog G0 118 args s R :=
  Contract.of_vG (cx := cx118) tabOK mixed Try.func118 rfl (enters_of Try.func118 (by kernel_rfl) rfl) rfl ok118 (Nat.le_of_ble_eq_true hle) hb h
/-- slices.Insert[[]paternoster/api.Bid,paternoster/api.Bid] -/
def cx119 : Ctx := ⟨T, G0, 95, [0, 1, 2, 6, 7, 8, 9, 16, 22, 31, 68]⟩
def kt119 : List (Nat × Nat) := [(11, 8), (15, 8)]
theorem ok119 : okCode kt119 (Try.f119.body.getD .skip) = true := by kernel_rfl
theorem con119 {args : List AV} {s : List (Nat × AB)} {R : AV → List (Nat × AB) → Prop} (n : Nat) (hle : Nat.ble args.length 95 = true) (hb : belowB n s = true) (h : vc Try.prog cx119 n kt119 (Try.f119.body.getD .skip) (argEnv 0 args) s (KV T Try.f119.results.toList n R)) : Contract Try.prog G0 119 args s R :=
  Contract.of_v (cx := cx119) tabOK mixed Try.func119 rfl (enters_of Try.func119 (by kernel_rfl) rfl) rfl ok119 (Nat.le_of_ble_eq_true hle) hb h
theorem conG119 {args : List AV} {s : List (Nat × AB)} {R : AV → List (Nat × AB) → Prop} (n : Nat) (hle : Nat.ble args.length 95 = true) (hb : belowB n s = true) (h : vc Try.prog cx119 n kt119 (Try.f119.body.getD .skip) (argEnv 0 args) s (KG cx119 Try.f119.results.toList n R)) : Contract Try.prog G0 119 args s R :=
  Contract.of_vG (cx := cx119) tabOK mixed Try.func119 rfl (enters_of Try.func119 (by kernel_rfl) rfl) rfl ok119 (Nat.le_of_ble_eq_true hle) hb h
/-- slices.stableCmpFunc[paternoster/api.Latch] -/
def cx120 : Ctx := ⟨T, G0, 63, [0, 1, 2, 6, 7, 8, 9, 13, 30, 35, 54]⟩
def kt120 : List (Nat × Nat) := []
theorem ok120 : okCode kt120 (Try.f120.body.getD .skip) = true := by kernel_rfl
theorem con120 {args : List AV} {s : List (Nat × AB)} {R : AV → List (Nat × AB) → Prop} (n : Nat) (hle : Nat.ble args.length 63 = true) (hb : belowB n s = true) (h : vc Try.prog cx120 n kt120 (Try.f120.body.getD .skip) (argEnv 0 args) s (KV T Try.f120.results.toList n R)) : Contract Try.prog G0 120 args s R :=
  Contract.of_v (cx := cx120) tabOK mixed Try.func120 rfl (enters_of Try.func120 (by kernel_rfl) rfl) rfl ok120 (Nat.le_of_ble_eq_true hle) hb h
theorem conG120 {args : List AV} {s : List (Nat × AB)} {R : AV → List (Nat × AB) → Prop} (n : Nat) (hle : Nat.ble args.length 63 = true) (hb : belowB n s = true) (h : vc Try.prog cx120 n kt120 (Try.f120.body.getD .skip) (argEnv 0 args) s (KG cx120 Try.f120.results.toList n R)) : Contract Try.prog G0 120 args s R :=
  Contract.of_vG (cx := cx120) tabOK mixed Try.func120 rfl (enters_of Try.func120 (by kernel_rfl) rfl) rfl ok120 (Nat.le_of_ble_eq_true hle) hb h
/-- cmp.isNaN[int] -/
def cx121 : Ctx := ⟨T, G0, 6, [0, 2]⟩
def kt121 : List (Nat × Nat) := []
theorem ok121 : okCode kt121 (Try.f121.body.getD .skip) = true := by kernel_rfl
theorem con121 {args : List AV} {s : List (Nat × AB)} {R : AV → List (Nat × AB) → Prop} (n : Nat) (hle : Nat.ble args.length 6 = true) (hb : belowB n s = true) (h : vc Try.prog cx121 n kt121 (Try.f121.body.getD .skip) (argEnv 0 args) s (KV T Try.f121.results.toList n R)) : Contract Try.prog G0 121 args s R :=
  Contract.of_v (cx := cx121) tabOK mixed Try.func121 rfl (enters_of Try.func121 (by kernel_rfl) rfl) rfl ok121 (Nat.le_of_ble_eq_true hle) hb h
theorem conG121 {args : List AV} {s : List (Nat × AB)} {R : AV → List (Nat × AB) → Prop} (n : Nat) (hle : Nat.ble args.length 6 = true) (hb : belowB n s = true) (h : vc Try.prog cx121 n kt121 (Try.f121.body.getD .skip) (argEnv 0 args) s (KG cx121 Try.f121.results.toList n R)) : Contract Try.prog G0 121 args s R :=
  Contract.of_vG (cx := cx121) tabOK mixed Try.func121 rfl (enters_of Try.func121 (by kernel_rfl) rfl) rfl ok121 (Nat.le_of_ble_eq_true hle) hb h
/-- slices.rotateRight[paternoster/api.Entry] -/
def cx123 : Ctx := ⟨T, G0, 10, [0, 1]⟩
def kt123 : List (Nat × Nat) := []
theorem ok123 : okCode kt123 (Try.f123.body.getD .skip) = true := by kernel_rfl
theorem con123 {args : List AV} {s : List (Nat × AB)} {R : AV → List (Nat × AB) → Prop} (n : Nat) (hle : Nat.ble args.length 10 = true) (hb : belowB n s = true) (h : vc Try.prog cx123 n kt123 (Try.f123.body.getD .skip) (argEnv 0 args) s (KV T Try.f123.results.toList n R)) : Contract Try.prog G0 123 args s R :=
  Contract.of_v (cx := cx123) tabOK mixed Try.func123 rfl (enters_of Try.func123 (by kernel_rfl) rfl) rfl ok123 (Nat.le_of_ble_eq_true hle) hb h
theorem conG123 {args : List AV} {s : List (Nat × AB)} {R : AV → List (Nat × AB) → Prop} (n : Nat) (hle : Nat.ble args.length 10 = true) (hb : belowB n s = true) (h : vc Try.prog cx123 n kt123 (Try.f123.body.getD .skip) (argEnv 0 args) s (KG cx123 Try.f123.results.toList n R)) : Contract Try.prog G0 123 args s R :=
  Contract.of_vG (cx := cx123) tabOK mixed Try.func123 rfl (enters_of Try.func123 (by kernel_rfl) rfl) rfl ok123 (Nat.le_of_ble_eq_true hle) hb h
/-- paternoster/paternosterref.SameBid -/
def cx124 : Ctx := ⟨T, G0, 17, [0, 1, 2, 3, 4]⟩
def kt124 : List (Nat × Nat) := []
theorem ok124 : okCode kt124 (Try.f124.body.getD .skip) = true := by kernel_rfl
theorem con124 {args : List AV} {s : List (Nat × AB)} {R : AV → List (Nat × AB) → Prop} (n : Nat) (hle : Nat.ble args.length 17 = true) (hb : belowB n s = true) (h : vc Try.prog cx124 n kt124 (Try.f124.body.getD .skip) (argEnv 0 args) s (KV T Try.f124.results.toList n R)) : Contract Try.prog G0 124 args s R :=
  Contract.of_v (cx := cx124) tabOK mixed Try.func124 rfl (enters_of Try.func124 (by kernel_rfl) rfl) rfl ok124 (Nat.le_of_ble_eq_true hle) hb h
theorem conG124 {args : List AV} {s : List (Nat × AB)} {R : AV → List (Nat × AB) → Prop} (n : Nat) (hle : Nat.ble args.length 17 = true) (hb : belowB n s = true) (h : vc Try.prog cx124 n kt124 (Try.f124.body.getD .skip) (argEnv 0 args) s (KG cx124 Try.f124.results.toList n R)) : Contract Try.prog G0 124 args s R :=
  Contract.of_vG (cx := cx124) tabOK mixed Try.func124 rfl (enters_of Try.func124 (by kernel_rfl) rfl) rfl ok124 (Nat.le_of_ble_eq_true hle) hb h
/-- slices.insertionSortOrdered[int] -/
def cx125 : Ctx := ⟨T, G0, 49, [0, 1, 2, 6, 7, 12, 30]⟩
def kt125 : List (Nat × Nat) := [(4, 13), (6, 16)]
theorem ok125 : okCode kt125 (Try.f125.body.getD .skip) = true := by kernel_rfl
theorem con125 {args : List AV} {s : List (Nat × AB)} {R : AV → List (Nat × AB) → Prop} (n : Nat) (hle : Nat.ble args.length 49 = true) (hb : belowB n s = true) (h : vc Try.prog cx125 n kt125 (Try.f125.body.getD .skip) (argEnv 0 args) s (KV T Try.f125.results.toList n R)) : Contract Try.prog G0 125 args s R :=
  Contract.of_v (cx := cx125) tabOK mixed Try.func125 rfl (enters_of Try.func125 (by kernel_rfl) rfl) rfl ok125 (Nat.le_of_ble_eq_true hle) hb h
theorem conG125 {args : List AV} {s : List (Nat × AB)} {R : AV → List (Nat × AB) → Prop} (n : Nat) (hle : Nat.ble args.length 49 = true) (hb : belowB n s = true) (h : vc Try.prog cx125 n kt125 (Try.f125.body.getD .skip) (argEnv 0 args) s (KG cx125 Try.f125.results.toList n R)) : Contract Try.prog G0 125 args s R :=
  Contract.of_vG (cx := cx125) tabOK mixed Try.func125 rfl (enters_of Try.func125 (by kernel_rfl) rfl) rfl ok125 (Nat.le_of_ble_eq_true hle) hb h
/-- slices.heapSortOrdered[int] -/
def cx126 : Ctx := ⟨T, G0, 56, [0, 1, 2, 6, 7, 8, 9, 10, 19, 30]⟩
def kt126 : List (Nat × Nat) := [(10, 18)]
theorem ok126 : okCode kt126 (Try.f126.body.getD .skip) = true := by kernel_rfl
theorem con126 {args : List AV} {s : List (Nat × AB)} {R : AV → List (Nat × AB) → Prop} (n : Nat) (hle : Nat.ble args.length 56 = true) (hb : belowB n s = true) (h : vc Try.prog cx126 n kt126 (Try.f126.body.getD .skip) (argEnv 0 args) s (KV T Try.f126.results.toList n R)) : Contract Try.prog G0 126 args s R :=
  Contract.of_v (cx := cx126) tabOK mixed Try.func126 rfl (enters_of Try.func126 (by kernel_rfl) rfl) rfl ok126 (Nat.le_of_ble_eq_true hle) hb h
theorem conG126 {args : List AV} {s : List (Nat × AB)} {R : AV → List (Nat × AB) → Prop} (n : Nat) (hle : Nat.ble args.length 56 = true) (hb : belowB n s = true) (h : vc Try.prog cx126 n kt126 (Try.f126.body.getD .skip) (argEnv 0 args) s (KG cx126 Try.f126.results.toList n R)) : Contract Try.prog G0 126 args s R :=
  Contract.of_vG (cx := cx126) tabOK mixed Try.func126 rfl (enters_of Try.func126 (by kernel_rfl) rfl) rfl ok126 (Nat.le_of_ble_eq_true hle) hb h
/-- slices.breakPatternsOrdered[int] -/
def cx127 : Ctx := ⟨T, G0, 65, [0, 1, 2, 6, 7, 8, 9, 10, 15, 33, 43]⟩
def kt127 : List (Nat × Nat) := [(10, 18)]
theorem ok127 : okCode kt127 (Try.f127.body.getD .skip) = true := by kernel_rfl
theorem con127 {args : List AV} {s : List (Nat × AB)} {R : AV → List (Nat × AB) → Prop} (n : Nat) (hle : Nat.ble args.length 65 = true) (hb : belowB n s = true) (h : vc Try.prog cx127 n kt127 (Try.f127.body.getD .skip) (argEnv 0 args) s (KV T Try.f127.results.toList n R)) : Contract Try.prog G0 127 args s R :=
  Contract.of_v (cx := cx127) tabOK mixed Try.func127 rfl (enters_of Try.func127 (by kernel_rfl) rfl) rfl ok127 (Nat.le_of_ble_eq_true hle) hb h
theorem conG127 {args : List AV} {s : List (Nat × AB)} {R : AV → List (Nat × AB) → Prop} (n : Nat) (hle : Nat.ble args.length 65 = true) (hb : belowB n s = true) (h : vc Try.prog cx127 n kt127 (Try.f127.body.getD .skip) (argEnv 0 args) s (KG cx127 Try.f127.results.toList n R)) : Contract Try.prog G0 127 args s R :=
  Contract.of_vG (cx := cx127) tabOK mixed Try.func127 rfl (enters_of Try.func127 (by kernel_rfl) rfl) rfl ok127 (Nat.le_of_ble_eq_true hle) hb h
/-- slices.choosePivotOrdered[int] -/
def cx128 : Ctx := ⟨T, G0, 57, [0, 1, 2, 6, 7, 8, 9, 10, 11, 12, 32, 34, 49, 51, 54]⟩
def kt128 : List (Nat × Nat) := []
theorem ok128 : okCode kt128 (Try.f128.body.getD .skip) = true := by kernel_rfl
theorem con128 {args : List AV} {s : List (Nat × AB)} {R : AV → List (Nat × AB) → Prop} (n : Nat) (hle : Nat.ble args.length 57 = true) (hb : belowB n s = true) (h : vc Try.prog cx128 n kt128 (Try.f128.body.getD .skip) (argEnv 0 args) s (KV T Try.f128.results.toList n R)) : Contract Try.prog G0 128 args s R :=
  Contract.of_v (cx := cx128) tabOK mixed Try.func128 rfl (enters_of Try.func128 (by kernel_rfl) rfl) rfl ok128 (Nat.le_of_ble_eq_true hle) hb h
theorem conG128 {args : List AV} {s : List (Nat × AB)} {R : AV → List (Nat × AB) → Prop} (n : Nat) (hle : Nat.ble args.length 57 = true) (hb : belowB n s = true) (h : vc Try.prog cx128 n kt128 (Try.f128.body.getD .skip) (argEnv 0 args) s (KG cx128 Try.f128.results.toList n R)) : Contract Try.prog G0 128 args s R :=
  Contract.of_vG (cx := cx128) tabOK mixed Try.func128 rfl (enters_of Try.func128 (by kernel_rfl) rfl) rfl ok128 (Nat.le_of_ble_eq_true hle) hb h
/-- slices.reverseRangeOrdered[int] -/
def cx129 : Ctx := ⟨T, G0, 32, [0, 1, 2, 6, 7, 13]⟩
def kt129 : List (Nat × Nat) := [(3, 12)]
theorem ok129 : okCode kt129 (Try.f129.body.getD .skip) = true := by kernel_rfl
theorem con129 {args : List AV} {s : List (Nat × AB)} {R : AV → List (Nat × AB) → Prop} (n : Nat) (hle : Nat.ble args.length 32 = true) (hb : belowB n s = true) (h : vc Try.prog cx129 n kt129 (Try.f129.body.getD .skip) (argEnv 0 args) s (KV T Try.f129.results.toList n R)) : Contract Try.prog G0 129 args s R :=
  Contract.of_v (cx := cx129) tabOK mixed Try.func129 rfl (enters_of Try.func129 (by kernel_rfl) rfl) rfl ok129 (Nat.le_of_ble_eq_true hle) hb h
theorem conG129 {args : List AV} {s : List (Nat × AB)} {R : AV → List (Nat × AB) → Prop} (n : Nat) (hle : Nat.ble args.length 32 = true) (hb : belowB n s = true) (h : vc Try.prog cx129 n kt129 (Try.f129.body.getD .skip) (argEnv 0 args) s (KG cx129 Try.f129.results.toList n R)) : Contract Try.prog G0 129 args s R :=
  Contract.of_vG (cx := cx129) tabOK mixed Try.func129 rfl (enters_of Try.func129 (by kernel_rfl) rfl) rfl ok129 (Nat.le_of_ble_eq_true hle) hb h
/-- slices.partialInsertionSortOrdered[int] -/
def cx130 : Ctx := ⟨T, G0, 133, [0, 1, 2, 6, 7, 8, 9, 10, 14, 32, 37, 41, 61, 65, 78, 98, 103, 116]⟩
def kt130 : List (Nat × Nat) := [(5, 13), (11, 16), (16, 9), (17, 16), (22, 9), (23, 16)]
theorem ok130 : okCode kt130 (Try.f130.body.getD .skip) = true := by kernel_rfl
theorem con130 {args : List AV} {s : List (Nat × AB)} {R : AV → List (Nat × AB) → Prop} (n : Nat) (hle : Nat.ble args.length 133 = true) (hb : belowB n s = true) (h : vc Try.prog cx130 n kt130 (Try.f130.body.getD .skip) (argEnv 0 args) s (KV T Try.f130.results.toList n R)) : Contract Try.prog G0 130 args s R :=
  Contract.of_v (cx := cx130) tabOK mixed Try.func130 rfl (enters_of Try.func130 (by kernel_rfl) rfl) rfl ok130 (Nat.le_of_ble_eq_true hle) hb h
theorem conG130 {args : List AV} {s : List (Nat × AB)} {R : AV → List (Nat × AB) → Prop} (n : Nat) (hle : Nat.ble args.length 133 = true) (hb : belowB n s = true) (h : vc Try.prog cx130 n kt130 (Try.f130.body.getD .skip) (argEnv 0 args) s (KG cx130 Try.f130.results.toList n R)) : Contract Try.prog G0 130 args s R :=
  Contract.of_vG (cx := cx130) tabOK mixed Try.func130 rfl (enters_of Try.func130 (by kernel_rfl) rfl) rfl ok130 (Nat.le_of_ble_eq_true hle) hb h
/-- cmp.Less[int] -/
def cx131 : Ctx := ⟨T, G0, 17, [0, 1, 4]⟩
def kt131 : List (Nat × Nat) := []
theorem ok131 : okCode kt131 (Try.f131.body.getD .skip) = true := by kernel_rfl
theorem con131 {args : List AV} {s : List (Nat × AB)} {R : AV → List (Nat × AB) → Prop} (n : Nat) (hle : Nat.ble args.length 17 = true) (hb : belowB n s = true) (h : vc Try.prog cx131 n kt131 (Try.f131.body.getD .skip) (argEnv 0 args) s (KV T Try.f131.results.toList n R)) : Contract Try.prog G0 131 args s R :=
  Contract.of_v (cx := cx131) tabOK mixed Try.func131 rfl (enters_of Try.func131 (by kernel_rfl) rfl) rfl ok131 (Nat.le_of_ble_eq_true hle) hb h
theorem conG131 {args : List AV} {s : List (Nat × AB)} {R : AV → List (Nat × AB) → Prop} (n : Nat) (hle : Nat.ble args.length 17 = true) (hb : belowB n s = true) (h : vc Try.prog cx131 n kt131 (Try.f131.body.getD .skip) (argEnv 0 args) s (KG cx131 Try.f131.results.toList n R)) : Contract Try.prog G0 131 args s R :=
  Contract.of_vG (cx := cx131) tabOK mixed Try.func131 rfl (enters_of Try.func131 (by kernel_rfl) rfl) rfl ok131 (Nat.le_of_ble_eq_true hle) hb h
/-- slices.partitionEqualOrdered[int] -/
def cx132 : Ctx := ⟨T, G0, 84, [0, 1, 2, 3, 8, 9, 10, 43, 59, 64]⟩
def kt132 : List (Nat × Nat) := [(1, 12), (3, 12), (5, 12), (8, 12)]
theorem ok132 : okCode kt132 (Try.f132.body.getD .skip) = true := by kernel_rfl
theorem con132 {args : List AV} {s : List (Nat × AB)} {R : AV → List (Nat × AB) → Prop} (n : Nat) (hle : Nat.ble args.length 84 = true) (hb : belowB n s = true) (h : vc Try.prog cx132 n kt132 (Try.f132.body.getD .skip) (argEnv 0 args) s (KV T Try.f132.results.toList n R)) : Contract Try.prog G0 132 args s R :=
  Contract.of_v (cx := cx132) tabOK mixed Try.func132 rfl (enters_of Try.func132 (by kernel_rfl) rfl) rfl ok132 (Nat.le_of_ble_eq_true hle) hb h
theorem conG132 {args : List AV} {s : List (Nat × AB)} {R : AV → List (Nat × AB) → Prop} (n : Nat) (hle : Nat.ble args.length 84 = true) (hb : belowB n s = true) (h : vc Try.prog cx132 n kt132 (Try.f132.body.getD .skip) (argEnv 0 args) s (KG cx132 Try.f132.results.toList n R)) : Contract Try.prog G0 132 args s R :=
  Contract.of_vG (cx := cx132) tabOK mixed Try.func132 rfl (enters_of Try.func132 (by kernel_rfl) rfl) rfl ok132 (Nat.le_of_ble_eq_true hle) hb h
/-- slices.partitionOrdered[int] -/
def cx133 : Ctx := ⟨T, G0, 168, [0, 1, 2, 3, 8, 9, 10, 11, 43, 60, 65, 112, 129, 134]⟩
def kt133 : List (Nat × Nat) := [(1, 12), (3, 12), (5, 12), (8, 12), (10, 12), (13, 12), (15, 12), (18, 12), (21, 12)]
theorem ok133 : okCode kt133 (Try.f133.body.getD .skip) = true := by kernel_rfl
theorem con133 {args : List AV} {s : List (Nat × AB)} {R : AV → List (Nat × AB) → Prop} (n : Nat) (hle : Nat.ble args.length 168 = true) (hb : belowB n s = true) (h : vc Try.prog cx133 n kt133 (Try.f133.body.getD .skip) (argEnv 0 args) s (KV T Try.f133.results.toList n R)) : Contract Try.prog G0 133 args s R :=
  Contract.of_v (cx := cx133) tabOK mixed Try.func133 rfl (enters_of Try.func133 (by kernel_rfl) rfl) rfl ok133 (Nat.le_of_ble_eq_true hle) hb h
theorem conG133 {args : List AV} {s : List (Nat × AB)} {R : AV → List (Nat × AB) → Prop} (n : Nat) (hle : Nat.ble args.length 168 = true) (hb : belowB n s = true) (h : vc Try.prog cx133 n kt133 (Try.f133.body.getD .skip) (argEnv 0 args) s (KG cx133 Try.f133.results.toList n R)) : Contract Try.prog G0 133 args s R :=
  Contract.of_vG (cx := cx133) tabOK mixed Try.func133 rfl (enters_of Try.func133 (by kernel_rfl) rfl) rfl ok133 (Nat.le_of_ble_eq_true hle) hb h
/-- math/bits.Len32 -/
def cx134 : Ctx := ⟨T, G0, 19, [0, 2, 4, 8]⟩
def kt134 : List (Nat × Nat) := []
theorem ok134 : okCode kt134 (Try.f134.body.getD .skip) = true := by kernel_rfl
theorem con134 {args : List AV} {s : List (Nat × AB)} {R : AV → List (Nat × AB) → Prop} (n : Nat) (hle : Nat.ble args.length 19 = true) (hb : belowB n s = true) (h : vc Try.prog cx134 n kt134 (Try.f134.body.getD .skip) (argEnv 0 args) s (KV T Try.f134.results.toList n R)) : Contract Try.prog G0 134 args s R :=
  Contract.of_v (cx := cx134) tabOK mixed Try.func134 rfl (enters_of Try.func134 (by kernel_rfl) rfl) rfl ok134 (Nat.le_of_ble_eq_true hle) hb h
theorem conG134 {args : List AV} {s : List (Nat × AB)} {R : AV → List (Nat × AB) → Prop} (n : Nat) (hle : Nat.ble args.length 19 = true) (hb : belowB n s = true) (h : vc Try.prog cx134 n kt134 (Try.f134.body.getD .skip) (argEnv 0 args) s (KG cx134 Try.f134.results.toList n R)) : Contract Try.prog G0 134 args s R :=
  Contract.of_vG (cx := cx134) tabOK mixed Try.func134 rfl (enters_of Try.func134 (by kernel_rfl) rfl) rfl ok134 (Nat.le_of_ble_eq_true hle) hb h
/-- math/bits.Len64 -/
def cx135 : Ctx := ⟨T, G0, 25, [0, 2, 4, 8, 14]⟩
def kt135 : List (Nat × Nat) := []
theorem ok135 : okCode kt135 (Try.f135.body.getD .skip) = true := by kernel_rfl
theorem con135 {args : List AV} {s : List (Nat × AB)} {R : AV → List (Nat × AB) → Prop} (n : Nat) (hle : Nat.ble args.length 25 = true) (hb : belowB n s = true) (h : vc Try.prog cx135 n kt135 (Try.f135.body.getD .skip) (argEnv 0 args) s (KV T Try.f135.results.toList n R)) : Contract Try.prog G0 135 args s R :=
  Contract.of_v (cx := cx135) tabOK mixed Try.func135 rfl (enters_of Try.func135 (by kernel_rfl) rfl) rfl ok135 (Nat.le_of_ble_eq_true hle) hb h
theorem conG135 {args : List AV} {s : List (Nat × AB)} {R : AV → List (Nat × AB) → Prop} (n : Nat) (hle : Nat.ble args.length 25 = true) (hb : belowB n s = true) (h : vc Try.prog cx135 n kt135 (Try.f135.body.getD .skip) (argEnv 0 args) s (KG cx135 Try.f135.results.toList n R)) : Contract Try.prog G0 135 args s R :=
  Contract.of_vG (cx := cx135) tabOK mixed Try.func135 rfl (enters_of Try.func135 (by kernel_rfl) rfl) rfl ok135 (Nat.le_of_ble_eq_true hle) hb h
/-- slices.AppendSeq[[]paternoster/api.Latch,paternoster/api.Latch] -/
def cx136 : Ctx := ⟨T, G0, 13, [0, 1, 2, 4, 5, 6]⟩
def kt136 : List (Nat × Nat) := []
theorem ok136 : okCode kt136 (Try.f136.body.getD .skip) = true := by kernel_rfl
theorem con136 {args : List AV} {s : List (Nat × AB)} {R : AV → List (Nat × AB) → Prop} (n : Nat) (hle : Nat.ble args.length 13 = true) (hb : belowB n s = true) (h : vc Try.prog cx136 n kt136 (Try.f136.body.getD .skip) (argEnv 0 args) s (KV T Try.f136.results.toList n R)) : Contract Try.prog G0 136 args s R :=
  Contract.of_v (cx := cx136) tabOK mixed Try.func136 rfl (enters_of Try.func136 (by kernel_rfl) rfl) rfl ok136 (Nat.le_of_ble_eq_true hle) hb h
theorem conG136 {args : List AV} {s : List (Nat × AB)} {R : AV → List (Nat × AB) → Prop} (n : Nat) (hle : Nat.ble args.length 13 = true) (hb : belowB n s = true) (h : vc Try.prog cx136 n kt136 (Try.f136.body.getD .skip) (argEnv 0 args) s (KG cx136 Try.f136.results.toList n R)) : Contract Try.prog G0 136 args s R :=
  Contract.of_vG (cx := cx136) tabOK mixed Try.func136 rfl (enters_of Try.func136 (by kernel_rfl) rfl) rfl ok136 (Nat.le_of_ble_eq_true hle) hb h
/-- slices.pdqsortCmpFunc[paternoster/api.Latch] -/
def cx137 : Ctx := ⟨T, G0, 148, [0, 1, 2, 3, 4, 10, 11, 12, 13, 14, 15, 16, 17, 18, 19, 20, 25, 32, 39, 56, 75, 80, 97, 125]⟩
def kt137 : List (Nat × Nat) := [(17, 13)]
theorem ok137 : okCode kt137 (Try.f137.body.getD .skip) = true := by kernel_rfl
theorem con137 {args : List AV} {s : List (Nat × AB)} {R : AV → List (Nat × AB) → Prop} (n : Nat) (hle : Nat.ble args.length 148 = true) (hb : belowB n s = true) (h : vc Try.prog cx137 n kt137 (Try.f137.body.getD .skip) (argEnv 0 args) s (KV T Try.f137.results.toList n R)) : Contract Try.prog G0 137 args s R :=
  Contract.of_v (cx := cx137) tabOK mixed Try.func137 rfl (enters_of Try.func137 (by kernel_rfl) rfl) rfl ok137 (Nat.le_of_ble_eq_true hle) hb h
theorem conG137 {args : List AV} {s : List (Nat × AB)} {R : AV → List (Nat × AB) → Prop} (n : Nat) (hle : Nat.ble args.length 148 = true) (hb : belowB n s = true) (h : vc Try.prog cx137 n kt137 (Try.f137.body.getD .skip) (argEnv 0 args) s (KG cx137 Try.f137.results.toList n R)) : Contract Try.prog G0 137 args s R :=
  Contract.of_vG (cx := cx137) tabOK mixed Try.func137 rfl (enters_of Try.func137 (by kernel_rfl) rfl) rfl ok137 (Nat.le_of_ble_eq_true hle) hb h
/-- slices.IndexFunc[[]int,int] -/
def cx138 : Ctx := ⟨T, G0, 19, [0, 1, 4, 5, 7, 8, 9, 16]⟩
def kt138 : List (Nat × Nat) := []
theorem ok138 : okCode kt138 (Try.f138.body.getD .skip) = true := by kernel_rfl
theorem con138 {args : List AV} {s : List (Nat × AB)} {R : AV → List (Nat × AB) → Prop} (n : Nat) (hle : Nat.ble args.length 19 = true) (hb : belowB n s = true) (h : vc Try.prog cx138 n kt138 (Try.f138.body.getD .skip) (argEnv 0 args) s (KV T Try.f138.results.toList n R)) : Contract Try.prog G0 138 args s R :=
  Contract.of_v (cx := cx138) tabOK mixed Try.func138 rfl (enters_of Try.func138 (by kernel_rfl) rfl) rfl ok138 (Nat.le_of_ble_eq_true hle) hb h
theorem conG138 {args : List AV} {s : List (Nat × AB)} {R : AV → List (Nat × AB) → Prop} (n : Nat) (hle : Nat.ble args.length 19 = true) (hb : belowB n s = true) (h : vc Try.prog cx138 n kt138 (Try.f138.body.getD .skip) (argEnv 0 args) s (KG cx138 Try.f138.results.toList n R)) : Contract Try.prog G0 138 args s R :=
  Contract.of_vG (cx := cx138) tabOK mixed Try.func138 rfl (enters_of Try.func138 (by kernel_rfl) rfl) rfl ok138 (Nat.le_of_ble_eq_true hle) hb h
/-- paternoster/bid.at$1 -/
def cx139 : Ctx := ⟨T, G0, 8, [0, 1, 2, 3]⟩
def kt139 : List (Nat × Nat) := []
theorem ok139 : okCode kt139 (Try.f139.body.getD .skip) = true := by kernel_rfl
theorem con139 {args : List AV} {s : List (Nat × AB)} {R : AV → List (Nat × AB) → Prop} (n : Nat) (hle : Nat.ble args.length 8 = true) (hb : belowB n s = true) (h : vc Try.prog cx139 n kt139 (Try.f139.body.getD .skip) (argEnv 0 args) s (KV T Try.f139.results.toList n R)) : Contract Try.prog G0 139 args s R :=
  Contract.of_v (cx := cx139) tabOK mixed Try.func139 rfl (enters_of Try.func139 (by kernel_rfl) rfl) rfl ok139 (Nat.le_of_ble_eq_true hle) hb h
theorem conG139 {args : List AV} {s : List (Nat × AB)} {R : AV → List (Nat × AB) → Prop} (n : Nat) (hle : Nat.ble args.length 8 = true) (hb : belowB n s = true) (h : vc Try.prog cx139 n kt139 (Try.f139.body.getD .skip) (argEnv 0 args) s (KG cx139 Try.f139.results.toList n R)) : Contract Try.prog G0 139 args s R :=
  Contract.of_vG (cx := cx139) tabOK mixed Try.func139 rfl (enters_of Try.func139 (by kernel_rfl) rfl) rfl ok139 (Nat.le_of_ble_eq_true hle) hb h
/-- slices.rotateRight[paternoster/api.Bid] -/
def cx141 : Ctx := ⟨T, G0, 10, [0, 1]⟩
def kt141 : List (Nat × Nat) := []
theorem ok141 : okCode kt141 (Try.f141.body.getD .skip) = true := by kernel_rfl
theorem con141 {args : List AV} {s : List (Nat × AB)} {R : AV → List (Nat × AB) → Prop} (n : Nat) (hle : Nat.ble args.length 10 = true) (hb : belowB n s = true) (h : vc Try.prog cx141 n kt141 (Try.f141.body.getD .skip) (argEnv 0 args) s (KV T Try.f141.results.toList n R)) : Contract Try.prog G0 141 args s R :=
  Contract.of_v (cx := cx141) tabOK mixed Try.func141 rfl (enters_of Try.func141 (by kernel_rfl) rfl) rfl ok141 (Nat.le_of_ble_eq_true hle) hb h
theorem conG141 {args : List AV} {s : List (Nat × AB)} {R : AV → List (Nat × AB) → Prop} (n : Nat) (hle : Nat.ble args.length 10 = true) (hb : belowB n s = true) (h : vc Try.prog cx141 n kt141 (Try.f141.body.getD .skip) (argEnv 0 args) s (KG cx141 Try.f141.results.toList n R)) : Contract Try.prog G0 141 args s R :=
  Contract.of_vG (cx := cx141) tabOK mixed Try.func141 rfl (enters_of Try.func141 (by kernel_rfl) rfl) rfl ok141 (Nat.le_of_ble_eq_true hle) hb h
/-- slices.insertionSortCmpFunc[paternoster/api.Latch] -/
def cx142 : Ctx := ⟨T, G0, 53, [0, 1, 2, 3, 8, 9, 14, 34]⟩
def kt142 : List (Nat × Nat) := [(4, 14), (6, 16)]
theorem ok142 : okCode kt142 (Try.f142.body.getD .skip) = true := by kernel_rfl
theorem con142 {args : List AV} {s : List (Nat × AB)} {R : AV → List (Nat × AB) → Prop} (n : Nat) (hle : Nat.ble args.length 53 = true) (hb : belowB n s = true) (h : vc Try.prog cx142 n kt142 (Try.f142.body.getD .skip) (argEnv 0 args) s (KV T Try.f142.results.toList n R)) : Contract Try.prog G0 142 args s R :=
  Contract.of_v (cx := cx142) tabOK mixed Try.func142 rfl (enters_of Try.func142 (by kernel_rfl) rfl) rfl ok142 (Nat.le_of_ble_eq_true hle) hb h
theorem conG142 {args : List AV} {s : List (Nat × AB)} {R : AV → List (Nat × AB) → Prop} (n : Nat) (hle : Nat.ble args.length 53 = true) (hb : belowB n s = true) (h : vc Try.prog cx142 n kt142 (Try.f142.body.getD .skip) (argEnv 0 args) s (KG cx142 Try.f142.results.toList n R)) : Contract Try.prog G0 142 args s R :=
  Contract.of_vG (cx := cx142) tabOK mixed Try.func142 rfl (enters_of Try.func142 (by kernel_rfl) rfl) rfl ok142 (Nat.le_of_ble_eq_true hle) hb h
/-- slices.symMergeCmpFunc[paternoster/api.Latch] -/
def cx143 : Ctx := ⟨T, G0, 220, [0, 1, 2, 3, 4, 10, 11, 12, 13, 14, 15, 16, 17, 18, 19, 20, 21, 22, 23, 24, 28, 33, 50, 58, 80, 85, 103, 110, 140, 151, 171, 185, 199, 213]⟩
def kt143 : List (Nat × Nat) := [(5, 9), (11, 16), (17, 9), (23, 16), (35, 11)]
theorem ok143 : okCode kt143 (Try.f143.body.getD .skip) = true := by kernel_rfl
theorem con143 {args : List AV} {s : List (Nat × AB)} {R : AV → List (Nat × AB) → Prop} (n : Nat) (hle : Nat.ble args.length 220 = true) (hb : belowB n s = true) (h : vc Try.prog cx143 n kt143 (Try.f143.body.getD .skip) (argEnv 0 args) s (KV T Try.f143.results.toList n R)) : Contract Try.prog G0 143 args s R :=
  Contract.of_v (cx := cx143) tabOK mixed Try.func143 rfl (enters_of Try.func143 (by kernel_rfl) rfl) rfl ok143 (Nat.le_of_ble_eq_true hle) hb h
theorem conG143 {args : List AV} {s : List (Nat × AB)} {R : AV → List (Nat × AB) → Prop} (n : Nat) (hle : Nat.ble args.length 220 = true) (hb : belowB n s = true) (h : vc Try.prog cx143 n kt143 (Try.f143.body.getD .skip) (argEnv 0 args) s (KG cx143 Try.f143.results.toList n R)) : Contract Try.prog G0 143 args s R :=
  Contract.of_vG (cx := cx143) tabOK mixed Try.func143 rfl (enters_of Try.func143 (by kernel_rfl) rfl) rfl ok143 (Nat.le_of_ble_eq_true hle) hb h
/-- slices.rotateLeft[paternoster/api.Entry] -/
def cx144 : Ctx := ⟨T, G0, 14, [0, 1]⟩
def kt144 : List (Nat × Nat) := []
theorem ok144 : okCode kt144 (Try.f144.body.getD .skip) = true := by kernel_rfl
theorem con144 {args : List AV} {s : List (Nat × AB)} {R : AV → List (Nat × AB) → Prop} (n : Nat) (hle : Nat.ble args.length 14 = true) (hb : belowB n s = true) (h : vc Try.prog cx144 n kt144 (Try.f144.body.getD .skip) (argEnv 0 args) s (KV T Try.f144.results.toList n R)) : Contract Try.prog G0 144 args s R :=
  Contract.of_v (cx := cx144) tabOK mixed Try.func144 rfl (enters_of Try.func144 (by kernel_rfl) rfl) rfl ok144 (Nat.le_of_ble_eq_true hle) hb h
theorem conG144 {args : List AV} {s : List (Nat × AB)} {R : AV → List (Nat × AB) → Prop} (n : Nat) (hle : Nat.ble args.length 14 = true) (hb : belowB n s = true) (h : vc Try.prog cx144 n kt144 (Try.f144.body.getD .skip) (argEnv 0 args) s (KG cx144 Try.f144.results.toList n R)) : Contract Try.prog G0 144 args s R :=
  Contract.of_vG (cx := cx144) tabOK mixed Try.func144 rfl (enters_of Try.func144 (by kernel_rfl) rfl) rfl ok144 (Nat.le_of_ble_eq_true hle) hb h
/-- slices.siftDownOrdered[int] -/
def cx145 : Ctx := ⟨T, G0, 76, [0, 1, 2, 3, 8, 9, 16, 36, 52]⟩
def kt145 : List (Nat × Nat) := [(3, 18), (5, 12), (6, 22)]
theorem ok145 : okCode kt145 (Try.f145.body.getD .skip) = true := by kernel_rfl
theorem con145 {args : List AV} {s : List (Nat × AB)} {R : AV → List (Nat × AB) → Prop} (n : Nat) (hle : Nat.ble args.length 76 = true) (hb : belowB n s = true) (h : vc Try.prog cx145 n kt145 (Try.f145.body.getD .skip) (argEnv 0 args) s (KV T Try.f145.results.toList n R)) : Contract Try.prog G0 145 args s R :=
  Contract.of_v (cx := cx145) tabOK mixed Try.func145 rfl (enters_of Try.func145 (by kernel_rfl) rfl) rfl ok145 (Nat.le_of_ble_eq_true hle) hb h
theorem conG145 {args : List AV} {s : List (Nat × AB)} {R : AV → List (Nat × AB) → Prop} (n : Nat) (hle : Nat.ble args.length 76 = true) (hb : belowB n s = true) (h : vc Try.prog cx145 n kt145 (Try.f145.body.getD .skip) (argEnv 0 args) s (KG cx145 Try.f145.results.toList n R)) : Contract Try.prog G0 145 args s R :=
  Contract.of_vG (cx := cx145) tabOK mixed Try.func145 rfl (enters_of Try.func145 (by kernel_rfl) rfl) rfl ok145 (Nat.le_of_ble_eq_true hle) hb h
/-- slices.nextPowerOfTwo -/
def cx146 : Ctx := ⟨T, G0, 7, [0, 2]⟩
def kt146 : List (Nat × Nat) := []
theorem ok146 : okCode kt146 (Try.f146.body.getD .skip) = true := by kernel_rfl
theorem con146 {args : List AV} {s : List (Nat × AB)} {R : AV → List (Nat × AB) → Prop} (n : Nat) (hle : Nat.ble args.length 7 = true) (hb : belowB n s = true) (h : vc Try.prog cx146 n kt146 (Try.f146.body.getD .skip) (argEnv 0 args) s (KV T Try.f146.results.toList n R)) : Contract Try.prog G0 146 args s R :=
  Contract.of_v (cx := cx146) tabOK mixed Try.func146 rfl (enters_of Try.func146 (by kernel_rfl) rfl) rfl ok146 (Nat.le_of_ble_eq_true hle) hb h
theorem conG146 {args : List AV} {s : List (Nat × AB)} {R : AV → List (Nat × AB) → Prop} (n : Nat) (hle : Nat.ble args.length 7 = true) (hb : belowB n s = true) (h : vc Try.prog cx146 n kt146 (Try.f146.body.getD .skip) (argEnv 0 args) s (KG cx146 Try.f146.results.toList n R)) : Contract Try.prog G0 146 args s R :=
  Contract.of_vG (cx := cx146) tabOK mixed Try.func146 rfl (enters_of Try.func146 (by kernel_rfl) rfl) rfl ok146 (Nat.le_of_ble_eq_true hle) hb h
/-- (*slices.xorshift).Next -/
def cx147 : Ctx := ⟨T, G0, 33, [0, 2]⟩
def kt147 : List (Nat × Nat) := [(1, 7), (2, 7), (3, 7)]
theorem ok147 : okCode kt147 (Try.f147.body.getD .skip) = true := by kernel_rfl
theorem con147 {args : List AV} {s : List (Nat × AB)} {R : AV → List (Nat × AB) → Prop} (n : Nat) (hle : Nat.ble args.length 33 = true) (hb : belowB n s = true) (h : vc Try.prog cx147 n kt147 (Try.f147.body.getD .skip) (argEnv 0 args) s (KV T Try.f147.results.toList n R)) : Contract Try.prog G0 147 args s R :=
  Contract.of_v (cx := cx147) tabOK mixed Try.func147 rfl (enters_of Try.func147 (by kernel_rfl) rfl) rfl ok147 (Nat.le_of_ble_eq_true hle) hb h
theorem conG147 {args : List AV} {s : List (Nat × AB)} {R : AV → List (Nat × AB) → Prop} (n : Nat) (hle : Nat.ble args.length 33 = true) (hb : belowB n s = true) (h : vc Try.prog cx147 n kt147 (Try.f147.body.getD .skip) (argEnv 0 args) s (KG cx147 Try.f147.results.toList n R)) : Contract Try.prog G0 147 args s R :=
  Contract.of_vG (cx := cx147) tabOK mixed Try.func147 rfl (enters_of Try.func147 (by kernel_rfl) rfl) rfl ok147 (Nat.le_of_ble_eq_true hle) hb h
/-- slices.medianAdjacentOrdered[int] -/
def cx148 : Ctx := ⟨T, G0, 15, [0, 1, 2, 6]⟩
def kt148 : List (Nat × Nat) := []
theorem ok148 : okCode kt148 (Try.f148.body.getD .skip) = true := by kernel_rfl
theorem con148 {args : List AV} {s : List (Nat × AB)} {R : AV → List (Nat × AB) → Prop} (n : Nat) (hle : Nat.ble args.length 15 = true) (hb : belowB n s = true) (h : vc Try.prog cx148 n kt148 (Try.f148.body.getD .skip) (argEnv 0 args) s (KV T Try.f148.results.toList n R)) : Contract Try.prog G0 148 args s R :=
  Contract.of_v (cx := cx148) tabOK mixed Try.func148 rfl (enters_of Try.func148 (by kernel_rfl) rfl) rfl ok148 (Nat.le_of_ble_eq_true hle) hb h
theorem conG148 {args : List AV} {s : List (Nat × AB)} {R : AV → List (Nat × AB) → Prop} (n : Nat) (hle : Nat.ble args.length 15 = true) (hb : belowB n s = true) (h : vc Try.prog cx148 n kt148 (Try.f148.body.getD .skip) (argEnv 0 args) s (KG cx148 Try.f148.results.toList n R)) : Contract Try.prog G0 148 args s R :=
  Contract.of_vG (cx := cx148) tabOK mixed Try.func148 rfl (enters_of Try.func148 (by kernel_rfl) rfl) rfl ok148 (Nat.le_of_ble_eq_true hle) hb h
/-- slices.medianOrdered[int] -/
def cx149 : Ctx := ⟨T, G0, 36, [0, 1, 2, 3, 4, 10]⟩
def kt149 : List (Nat × Nat) := []
theorem ok149 : okCode kt149 (Try.f149.body.getD .skip) = true := by kernel_rfl
theorem con149 {args : List AV} {s : List (Nat × AB)} {R : AV → List (Nat × AB) → Prop} (n : Nat) (hle : Nat.ble args.length 36 = true) (hb : belowB n s = true) (h : vc Try.prog cx149 n kt149 (Try.f149.body.getD .skip) (argEnv 0 args) s (KV T Try.f149.results.toList n R)) : Contract Try.prog G0 149 args s R :=
  Contract.of_v (cx := cx149) tabOK mixed Try.func149 rfl (enters_of Try.func149 (by kernel_rfl) rfl) rfl ok149 (Nat.le_of_ble_eq_true hle) hb h
theorem conG149 {args : List AV} {s : List (Nat × AB)} {R : AV → List (Nat × AB) → Prop} (n : Nat) (hle : Nat.ble args.length 36 = true) (hb : belowB n s = true) (h : vc Try.prog cx149 n kt149 (Try.f149.body.getD .skip) (argEnv 0 args) s (KG cx149 Try.f149.results.toList n R)) : Contract Try.prog G0 149 args s R :=
  Contract.of_vG (cx := cx149) tabOK mixed Try.func149 rfl (enters_of Try.func149 (by kernel_rfl) rfl) rfl ok149 (Nat.le_of_ble_eq_true hle) hb h
/-- slices.heapSortCmpFunc[paternoster/api.Latch] -/
def cx150 : Ctx := ⟨T, G0, 60, [0, 1, 2, 3, 8, 9, 10, 11, 12, 21, 33]⟩
def kt150 : List (Nat × Nat) := [(10, 18)]
theorem ok150 : okCode kt150 (Try.f150.body.getD .skip) = true := by kernel_rfl
theorem con150 {args : List AV} {s : List (Nat × AB)} {R : AV → List (Nat × AB) → Prop} (n : Nat) (hle : Nat.ble args.length 60 = true) (hb : belowB n s = true) (h : vc Try.prog cx150 n kt150 (Try.f150.body.getD .skip) (argEnv 0 args) s (KV T Try.f150.results.toList n R)) : Contract Try.prog G0 150 args s R :=
  Contract.of_v (cx := cx150) tabOK mixed Try.func150 rfl (enters_of Try.func150 (by kernel_rfl) rfl) rfl ok150 (Nat.le_of_ble_eq_true hle) hb h
theorem conG150 {args : List AV} {s : List (Nat × AB)} {R : AV → List (Nat × AB) → Prop} (n : Nat) (hle : Nat.ble args.length 60 = true) (hb : belowB n s = true) (h : vc Try.prog cx150 n kt150 (Try.f150.body.getD .skip) (argEnv 0 args) s (KG cx150 Try.f150.results.toList n R)) : Contract Try.prog G0 150 args s R :=
  Contract.of_vG (cx := cx150) tabOK mixed Try.func150 rfl (enters_of Try.func150 (by kernel_rfl) rfl) rfl ok150 (Nat.le_of_ble_eq_true hle) hb h
/-- slices.breakPatternsCmpFunc[paternoster/api.Latch] -/
def cx151 : Ctx := ⟨T, G0, 67, [0, 1, 2, 8, 9, 10, 11, 12, 17, 35, 45]⟩
def kt151 : List (Nat × Nat) := [(10, 18)]
theorem ok151 : okCode kt151 (Try.f151.body.getD .skip) = true := by kernel_rfl
theorem con151 {args : List AV} {s : List (Nat × AB)} {R : AV → List (Nat × AB) → Prop} (n : Nat) (hle : Nat.ble args.length 67 = true) (hb : belowB n s = true) (h : vc Try.prog cx151 n kt151 (Try.f151.body.getD .skip) (argEnv 0 args) s (KV T Try.f151.results.toList n R)) : Contract Try.prog G0 151 args s R :=
  Contract.of_v (cx := cx151) tabOK mixed Try.func151 rfl (enters_of Try.func151 (by kernel_rfl) rfl) rfl ok151 (Nat.le_of_ble_eq_true hle) hb h
theorem conG151 {args : List AV} {s : List (Nat × AB)} {R : AV → List (Nat × AB) → Prop} (n : Nat) (hle : Nat.ble args.length 67 = true) (hb : belowB n s = true) (h : vc Try.prog cx151 n kt151 (Try.f151.body.getD .skip) (argEnv 0 args) s (KG cx151 Try.f151.results.toList n R)) : Contract Try.prog G0 151 args s R :=
  Contract.of_vG (cx := cx151) tabOK mixed Try.func151 rfl (enters_of Try.func151 (by kernel_rfl) rfl) rfl ok151 (Nat.le_of_ble_eq_true hle) hb h
/-- slices.choosePivotCmpFunc[paternoster/api.Latch] -/
def cx152 : Ctx := ⟨T, G0, 63, [0, 1, 2, 3, 8, 9, 10, 11, 12, 13, 14, 34, 36, 55, 57, 60]⟩
def kt152 : List (Nat × Nat) := []
theorem ok152 : okCode kt152 (Try.f152.body.getD .skip) = true := by kernel_rfl
theorem con152 {args : List AV} {s : List (Nat × AB)} {R : AV → List (Nat × AB) → Prop} (n : Nat) (hle : Nat.ble args.length 63 = true) (hb : belowB n s = true) (h : vc Try.prog cx152 n kt152 (Try.f152.body.getD .skip) (argEnv 0 args) s (KV T Try.f152.results.toList n R)) : Contract Try.prog G0 152 args s R :=
  Contract.of_v (cx := cx152) tabOK mixed Try.func152 rfl (enters_of Try.func152 (by kernel_rfl) rfl) rfl ok152 (Nat.le_of_ble_eq_true hle) hb h
theorem conG152 {args : List AV} {s : List (Nat × AB)} {R : AV → List (Nat × AB) → Prop} (n : Nat) (hle : Nat.ble args.length 63 = true) (hb : belowB n s = true) (h : vc Try.prog cx152 n kt152 (Try.f152.body.getD .skip) (argEnv 0 args) s (KG cx152 Try.f152.results.toList n R)) : Contract Try.prog G0 152 args s R :=
  Contract.of_vG (cx := cx152) tabOK mixed Try.func152 rfl (enters_of Try.func152 (by kernel_rfl) rfl) rfl ok152 (Nat.le_of_ble_eq_true hle) hb h
/-- slices.reverseRangeCmpFunc[paternoster/api.Latch] -/
def cx153 : Ctx := ⟨T, G0, 34, [0, 1, 2, 8, 9, 15]⟩
def kt153 : List (Nat × Nat) := [(3, 12)]
theorem ok153 : okCode kt153 (Try.f153.body.getD .skip) = true := by kernel_rfl
theorem con153 {args : List AV} {s : List (Nat × AB)} {R : AV → List (Nat × AB) → Prop} (n : Nat) (hle : Nat.ble args.length 34 = true) (hb : belowB n s = true) (h : vc Try.prog cx153 n kt153 (Try.f153.body.getD .skip) (argEnv 0 args) s (KV T Try.f153.results.toList n R)) : Contract Try.prog G0 153 args s R :=
  Contract.of_v (cx := cx153) tabOK mixed Try.func153 rfl (enters_of Try.func153 (by kernel_rfl) rfl) rfl ok153 (Nat.le_of_ble_eq_true hle) hb h
theorem conG153 {args : List AV} {s : List (Nat × AB)} {R : AV → List (Nat × AB) → Prop} (n : Nat) (hle : Nat.ble args.length 34 = true) (hb : belowB n s = true) (h : vc Try.prog cx153 n kt153 (Try.f153.body.getD .skip) (argEnv 0 args) s (KG cx153 Try.f153.results.toList n R)) : Contract Try.prog G0 153 args s R :=
  Contract.of_vG (cx := cx153) tabOK mixed Try.func153 rfl (enters_of Try.func153 (by kernel_rfl) rfl) rfl ok153 (Nat.le_of_ble_eq_true hle) hb h
/-- slices.partialInsertionSortCmpFunc[paternoster/api.Latch] -/
def cx154 : Ctx := ⟨T, G0, 141, [0, 1, 2, 3, 8, 9, 10, 11, 12, 16, 36, 41, 45, 65, 69, 84, 104, 109, 124]⟩
def kt154 : List (Nat × Nat) := [(5, 14), (11, 16), (16, 10), (17, 16), (22, 10), (23, 16)]
theorem ok154 : okCode kt154 (Try.f154.body.getD .skip) = true := by kernel_rfl
theorem con154 {args : List AV} {s : List (Nat × AB)} {R : AV → List (Nat × AB) → Prop} (n : Nat) (hle : Nat.ble args.length 141 = true) (hb : belowB n s = true) (h : vc Try.prog cx154 n kt154 (Try.f154.body.getD .skip) (argEnv 0 args) s (KV T Try.f154.results.toList n R)) : Contract Try.prog G0 154 args s R :=
  Contract.of_v (cx := cx154) tabOK mixed Try.func154 rfl (enters_of Try.func154 (by kernel_rfl) rfl) rfl ok154 (Nat.le_of_ble_eq_true hle) hb h
theorem conG154 {args : List AV} {s : List (Nat × AB)} {R : AV → List (Nat × AB) → Prop} (n : Nat) (hle : Nat.ble args.length 141 = true) (hb : belowB n s = true) (h : vc Try.prog cx154 n kt154 (Try.f154.body.getD .skip) (argEnv 0 args) s (KG cx154 Try.f154.results.toList n R)) : Contract Try.prog G0 154 args s R :=
  Contract.of_vG (cx := cx154) tabOK mixed Try.func154 rfl (enters_of Try.func154 (by kernel_rfl) rfl) rfl ok154 (Nat.le_of_ble_eq_true hle) hb h
/-- slices.partitionEqualCmpFunc[paternoster/api.Latch] -/
def cx155 : Ctx := ⟨T, G0, 90, [0, 1, 2, 3, 4, 10, 11, 12, 47, 65, 70]⟩
def kt155 : List (Nat × Nat) := [(1, 12), (3, 13), (5, 13), (8, 12)]
theorem ok155 : okCode kt155 (Try.f155.body.getD .skip) = true := by kernel_rfl
theorem con155 {args : List AV} {s : List (Nat × AB)} {R : AV → List (Nat × AB) → Prop} (n : Nat) (hle : Nat.ble args.length 90 = true) (hb : belowB n s = true) (h : vc Try.prog cx155 n kt155 (Try.f155.body.getD .skip) (argEnv 0 args) s (KV T Try.f155.results.toList n R)) : Contract Try.prog G0 155 args s R :=
  Contract.of_v (cx := cx155) tabOK mixed Try.func155 rfl (enters_of Try.func155 (by kernel_rfl) rfl) rfl ok155 (Nat.le_of_ble_eq_true hle) hb h
theorem conG155 {args : List AV} {s : List (Nat × AB)} {R : AV → List (Nat × AB) → Prop} (n : Nat) (hle : Nat.ble args.length 90 = true) (hb : belowB n s = true) (h : vc Try.prog cx155 n kt155 (Try.f155.body.getD .skip) (argEnv 0 args) s (KG cx155 Try.f155.results.toList n R)) : Contract Try.prog G0 155 args s R :=
  Contract.of_vG (cx := cx155) tabOK mixed Try.func155 rfl (enters_of Try.func155 (by kernel_rfl) rfl) rfl ok155 (Nat.le_of_ble_eq_true hle) hb h
/-- slices.partitionCmpFunc[paternoster/api.Latch] -/
def cx156 : Ctx := ⟨T, G0, 178, [0, 1, 2, 3, 4, 10, 11, 12, 13, 47, 66, 71, 120, 139, 144]⟩
def kt156 : List (Nat × Nat) := [(1, 12), (3, 13), (5, 13), (8, 12), (10, 12), (13, 13), (15, 13), (18, 12), (21, 12)]
theorem ok156 : okCode kt156 (Try.f156.body.getD .skip) = true := by kernel_rfl
theorem con156 {args : List AV} {s : List (Nat × AB)} {R : AV → List (Nat × AB) → Prop} (n : Nat) (hle : Nat.ble args.length 178 = true) (hb : belowB n s = true) (h : vc Try.prog cx156 n kt156 (Try.f156.body.getD .skip) (argEnv 0 args) s (KV T Try.f156.results.toList n R)) : Contract Try.prog G0 156 args s R :=
  Contract.of_v (cx := cx156) tabOK mixed Try.func156 rfl (enters_of Try.func156 (by kernel_rfl) rfl) rfl ok156 (Nat.le_of_ble_eq_true hle) hb h
theorem conG156 {args : List AV} {s : List (Nat × AB)} {R : AV → List (Nat × AB) → Prop} (n : Nat) (hle : Nat.ble args.length 178 = true) (hb : belowB n s = true) (h : vc Try.prog cx156 n kt156 (Try.f156.body.getD .skip) (argEnv 0 args) s (KG cx156 Try.f156.results.toList n R)) : Contract Try.prog G0 156 args s R :=
  Contract.of_vG (cx := cx156) tabOK mixed Try.func156 rfl (enters_of Try.func156 (by kernel_rfl) rfl) rfl ok156 (Nat.le_of_ble_eq_true hle) hb h
/-- slices.rotateLeft[paternoster/api.Bid] -/
def cx157 : Ctx := ⟨T, G0, 14, [0, 1]⟩
def kt157 : List (Nat × Nat) := []
theorem ok157 : okCode kt157 (Try.f157.body.getD .skip) = true := by kernel_rfl
theorem con157 {args : List AV} {s : List (Nat × AB)} {R : AV → List (Nat × AB) → Prop} (n : Nat) (hle : Nat.ble args.length 14 = true) (hb : belowB n s = true) (h : vc Try.prog cx157 n kt157 (Try.f157.body.getD .skip) (argEnv 0 args) s (KV T Try.f157.results.toList n R)) : Contract Try.prog G0 157 args s R :=
  Contract.of_v (cx := cx157) tabOK mixed Try.func157 rfl (enters_of Try.func157 (by kernel_rfl) rfl) rfl ok157 (Nat.le_of_ble_eq_true hle) hb h
theorem conG157 {args : List AV} {s : List (Nat × AB)} {R : AV → List (Nat × AB) → Prop} (n : Nat) (hle : Nat.ble args.length 14 = true) (hb : belowB n s = true) (h : vc Try.prog cx157 n kt157 (Try.f157.body.getD .skip) (argEnv 0 args) s (KG cx157 Try.f157.results.toList n R)) : Contract Try.prog G0 157 args s R :=
  Contract.of_vG (cx := cx157) tabOK mixed Try.func157 rfl (enters_of Try.func157 (by kernel_rfl) rfl) rfl ok157 (Nat.le_of_ble_eq_true hle) hb h
/-- slices.rotateCmpFunc[paternoster/api.Latch] -/
def cx158 : Ctx := ⟨T, G0, 58, [0, 1, 2, 3, 4, 10, 11, 20, 23]⟩
def kt158 : List (Nat × Nat) := []
theorem ok158 : okCode kt158 (Try.f158.body.getD .skip) = true := by kernel_rfl
theorem con158 {args : List AV} {s : List (Nat × AB)} {R : AV → List (Nat × AB) → Prop} (n : Nat) (hle : Nat.ble args.length 58 = true) (hb : belowB n s = true) (h : vc Try.prog cx158 n kt158 (Try.f158.body.getD .skip) (argEnv 0 args) s (KV T Try.f158.results.toList n R)) : Contract Try.prog G0 158 args s R :=
  Contract.of_v (cx := cx158) tabOK mixed Try.func158 rfl (enters_of Try.func158 (by kernel_rfl) rfl) rfl ok158 (Nat.le_of_ble_eq_true hle) hb h
theorem conG158 {args : List AV} {s : List (Nat × AB)} {R : AV → List (Nat × AB) → Prop} (n : Nat) (hle : Nat.ble args.length 58 = true) (hb : belowB n s = true) (h : vc Try.prog cx158 n kt158 (Try.f158.body.getD .skip) (argEnv 0 args) s (KG cx158 Try.f158.results.toList n R)) : Contract Try.prog G0 158 args s R :=
  Contract.of_vG (cx := cx158) tabOK mixed Try.func158 rfl (enters_of Try.func158 (by kernel_rfl) rfl) rfl ok158 (Nat.le_of_ble_eq_true hle) hb h
/-- slices.Reverse[[]paternoster/api.Entry,paternoster/api.Entry] -/
def cx159 : Ctx := ⟨T, G0, 28, [0, 2, 3, 9]⟩
def kt159 : List (Nat × Nat) := [(3, 12)]
theorem ok159 : okCode kt159 (Try.f159.body.getD .skip) = true := by kernel_rfl
theorem con159 {args : List AV} {s : List (Nat × AB)} {R : AV → List (Nat × AB) → Prop} (n : Nat) (hle : Nat.ble args.length 28 = true) (hb : belowB n s = true) (h : vc Try.prog cx159 n kt159 (Try.f159.body.getD .skip) (argEnv 0 args) s (KV T Try.f159.results.toList n R)) : Contract Try.prog G0 159 args s R :=
  Contract.of_v (cx := cx159) tabOK mixed Try.func159 rfl (enters_of Try.func159 (by kernel_rfl) rfl) rfl ok159 (Nat.le_of_ble_eq_true hle) hb h
theorem conG159 {args : List AV} {s : List (Nat × AB)} {R : AV → List (Nat × AB) → Prop} (n : Nat) (hle : Nat.ble args.length 28 = true) (hb : belowB n s = true) (h : vc Try.prog cx159 n kt159 (Try.f159.body.getD .skip) (argEnv 0 args) s (KG cx159 Try.f159.results.toList n R)) : Contract Try.prog G0 159 args s R :=
  Contract.of_vG (cx := cx159) tabOK mixed Try.func159 rfl (enters_of Try.func159 (by kernel_rfl) rfl) rfl ok159 (Nat.le_of_ble_eq_true hle) hb h
/-- slices.order2Ordered[int] -/
def cx160 : Ctx := ⟨T, G0, 28, [0, 1, 2, 3, 8, 9, 18]⟩
def kt160 : List (Nat × Nat) := [(1, 8)]
theorem ok160 : okCode kt160 (Try.f160.body.getD .skip) = true := by kernel_rfl
theorem con160 {args : List AV} {s : List (Nat × AB)} {R : AV → List (Nat × AB) → Prop} (n : Nat) (hle : Nat.ble args.length 28 = true) (hb : belowB n s = true) (h : vc Try.prog cx160 n kt160 (Try.f160.body.getD .skip) (argEnv 0 args) s (KV T Try.f160.results.toList n R)) : Contract Try.prog G0 160 args s R :=
  Contract.of_v (cx := cx160) tabOK mixed Try.func160 rfl (enters_of Try.func160 (by kernel_rfl) rfl) rfl ok160 (Nat.le_of_ble_eq_true hle) hb h
theorem conG160 {args : List AV} {s : List (Nat × AB)} {R : AV → List (Nat × AB) → Prop} (n : Nat) (hle : Nat.ble args.length 28 = true) (hb : belowB n s = true) (h : vc Try.prog cx160 n kt160 (Try.f160.body.getD .skip) (argEnv 0 args) s (KG cx160 Try.f160.results.toList n R)) : Contract Try.prog G0 160 args s R :=
  Contract.of_vG (cx := cx160) tabOK mixed Try.func160 rfl (enters_of Try.func160 (by kernel_rfl) rfl) rfl ok160 (Nat.le_of_ble_eq_true hle) hb h
/-- slices.siftDownCmpFunc[paternoster/api.Latch] -/
def cx161 : Ctx := ⟨T, G0, 82, [0, 1, 2, 3, 4, 10, 11, 18, 40, 58]⟩
def kt161 : List (Nat × Nat) := [(3, 19), (5, 13), (6, 22)]
theorem ok161 : okCode kt161 (Try.f161.body.getD .skip) = true := by kernel_rfl
theorem con161 {args : List AV} {s : List (Nat × AB)} {R : AV → List (Nat × AB) → Prop} (n : Nat) (hle : Nat.ble args.length 82 = true) (hb : belowB n s = true) (h : vc Try.prog cx161 n kt161 (Try.f161.body.getD .skip) (argEnv 0 args) s (KV T Try.f161.results.toList n R)) : Contract Try.prog G0 161 args s R :=
  Contract.of_v (cx := cx161) tabOK mixed Try.func161 rfl (enters_of Try.func161 (by kernel_rfl) rfl) rfl ok161 (Nat.le_of_ble_eq_true hle) hb h
theorem conG161 {args : List AV} {s : List (Nat × AB)} {R : AV → List (Nat × AB) → Prop} (n : Nat) (hle : Nat.ble args.length 82 = true) (hb : belowB n s = true) (h : vc Try.prog cx161 n kt161 (Try.f161.body.getD .skip) (argEnv 0 args) s (KG cx161 Try.f161.results.toList n R)) : Contract Try.prog G0 161 args s R :=
  Contract.of_vG (cx := cx161) tabOK mixed Try.func161 rfl (enters_of Try.func161 (by kernel_rfl) rfl) rfl ok161 (Nat.le_of_ble_eq_true hle) hb h
/-- slices.medianAdjacentCmpFunc[paternoster/api.Latch] -/
def cx162 : Ctx := ⟨T, G0, 18, [0, 1, 2, 3, 8]⟩
def kt162 : List (Nat × Nat) := []
theorem ok162 : okCode kt162 (Try.f162.body.getD .skip) = true := by kernel_rfl
theorem con162 {args : List AV} {s : List (Nat × AB)} {R : AV → List (Nat × AB) → Prop} (n : Nat) (hle : Nat.ble args.length 18 = true) (hb : belowB n s = true) (h : vc Try.prog cx162 n kt162 (Try.f162.body.getD .skip) (argEnv 0 args) s (KV T Try.f162.results.toList n R)) : Contract Try.prog G0 162 args s R :=
  Contract.of_v (cx := cx162) tabOK mixed Try.func162 rfl (enters_of Try.func162 (by kernel_rfl) rfl) rfl ok162 (Nat.le_of_ble_eq_true hle) hb h
theorem conG162 {args : List AV} {s : List (Nat × AB)} {R : AV → List (Nat × AB) → Prop} (n : Nat) (hle : Nat.ble args.length 18 = true) (hb : belowB n s = true) (h : vc Try.prog cx162 n kt162 (Try.f162.body.getD .skip) (argEnv 0 args) s (KG cx162 Try.f162.results.toList n R)) : Contract Try.prog G0 162 args s R :=
  Contract.of_vG (cx := cx162) tabOK mixed Try.func162 rfl (enters_of Try.func162 (by kernel_rfl) rfl) rfl ok162 (Nat.le_of_ble_eq_true hle) hb h
/-- slices.medianCmpFunc[paternoster/api.Latch] -/
def cx163 : Ctx := ⟨T, G0, 41, [0, 1, 2, 3, 4, 5, 12]⟩
def kt163 : List (Nat × Nat) := []
theorem ok163 : okCode kt163 (Try.f163.body.getD .skip) = true := by kernel_rfl
theorem con163 {args : List AV} {s : List (Nat × AB)} {R : AV → List (Nat × AB) → Prop} (n : Nat) (hle : Nat.ble args.length 41 = true) (hb : belowB n s = true) (h : vc Try.prog cx163 n kt163 (Try.f163.body.getD .skip) (argEnv 0 args) s (KV T Try.f163.results.toList n R)) : Contract Try.prog G0 163 args s R :=
  Contract.of_v (cx := cx163) tabOK mixed Try.func163 rfl (enters_of Try.func163 (by kernel_rfl) rfl) rfl ok163 (Nat.le_of_ble_eq_true hle) hb h
theorem conG163 {args : List AV} {s : List (Nat × AB)} {R : AV → List (Nat × AB) → Prop} (n : Nat) (hle : Nat.ble args.length 41 = true) (hb : belowB n s = true) (h : vc Try.prog cx163 n kt163 (Try.f163.body.getD .skip) (argEnv 0 args) s (KG cx163 Try.f163.results.toList n R)) : Contract Try.prog G0 163 args s R :=
  Contract.of_vG (cx := cx163) tabOK mixed Try.func163 rfl (enters_of Try.func163 (by kernel_rfl) rfl) rfl ok163 (Nat.le_of_ble_eq_true hle) hb h
/-- slices.Reverse[[]paternoster/api.Bid,paternoster/api.Bid] -/
def cx164 : Ctx := ⟨T, G0, 28, [0, 2, 3, 9]⟩
def kt164 : List (Nat × Nat) := [(3, 12)]
theorem ok164 : okCode kt164 (Try.f164.body.getD .skip) = true := by kernel_rfl
theorem con164 {args : List AV} {s : List (Nat × AB)} {R : AV → List (Nat × AB) → Prop} (n : Nat) (hle : Nat.ble args.length 28 = true) (hb : belowB n s = true) (h : vc Try.prog cx164 n kt164 (Try.f164.body.getD .skip) (argEnv 0 args) s (KV T Try.f164.results.toList n R)) : Contract Try.prog G0 164 args s R :=
  Contract.of_v (cx := cx164) tabOK mixed Try.func164 rfl (enters_of Try.func164 (by kernel_rfl) rfl) rfl ok164 (Nat.le_of_ble_eq_true hle) hb h
theorem conG164 {args : List AV} {s : List (Nat × AB)} {R : AV → List (Nat × AB) → Prop} (n : Nat) (hle : Nat.ble args.length 28 = true) (hb : belowB n s = true) (h : vc Try.prog cx164 n kt164 (Try.f164.body.getD .skip) (argEnv 0 args) s (KG cx164 Try.f164.results.toList n R)) : Contract Try.prog G0 164 args s R :=
  Contract.of_vG (cx := cx164) tabOK mixed Try.func164 rfl (enters_of Try.func164 (by kernel_rfl) rfl) rfl ok164 (Nat.le_of_ble_eq_true hle) hb h
/-- slices.swapRangeCmpFunc[paternoster/api.Latch] -/
def cx165 : Ctx := ⟨T, G0, 38, [0, 1, 2, 3, 10, 13]⟩
def kt165 : List (Nat × Nat) := [(3, 22)]
theorem ok165 : okCode kt165 (Try.f165.body.getD .skip) = true := by kernel_rfl
theorem con165 {args : List AV} {s : List (Nat × AB)} {R : AV → List (Nat × AB) → Prop} (n : Nat) (hle : Nat.ble args.length 38 = true) (hb : belowB n s = true) (h : vc Try.prog cx165 n kt165 (Try.f165.body.getD .skip) (argEnv 0 args) s (KV T Try.f165.results.toList n R)) : Contract Try.prog G0 165 args s R :=
  Contract.of_v (cx := cx165) tabOK mixed Try.func165 rfl (enters_of Try.func165 (by kernel_rfl) rfl) rfl ok165 (Nat.le_of_ble_eq_true hle) hb h
theorem conG165 {args : List AV} {s : List (Nat × AB)} {R : AV → List (Nat × AB) → Prop} (n : Nat) (hle : Nat.ble args.length 38 = true) (hb : belowB n s = true) (h : vc Try.prog cx165 n kt165 (Try.f165.body.getD .skip) (argEnv 0 args) s (KG cx165 Try.f165.results.toList n R)) : Contract Try.prog G0 165 args s R :=
  Contract.of_vG (cx := cx165) tabOK mixed Try.func165 rfl (enters_of Try.func165 (by kernel_rfl) rfl) rfl ok165 (Nat.le_of_ble_eq_true hle) hb h
/-- slices.order2CmpFunc[paternoster/api.Latch] -/
def cx166 : Ctx := ⟨T, G0, 32, [0, 1, 2, 3, 4, 10, 11, 22]⟩
def kt166 : List (Nat × Nat) := [(1, 9)]
theorem ok166 : okCode kt166 (Try.f166.body.getD .skip) = true := by kernel_rfl
theorem con166 {args : List AV} {s : List (Nat × AB)} {R : AV → List (Nat × AB) → Prop} (n : Nat) (hle : Nat.ble args.length 32 = true) (hb : belowB n s = true) (h : vc Try.prog cx166 n kt166 (Try.f166.body.getD .skip) (argEnv 0 args) s (KV T Try.f166.results.toList n R)) : Contract Try.prog G0 166 args s R :=
  Contract.of_v (cx := cx166) tabOK mixed Try.func166 rfl (enters_of Try.func166 (by kernel_rfl) rfl) rfl ok166 (Nat.le_of_ble_eq_true hle) hb h
theorem conG166 {args : List AV} {s : List (Nat × AB)} {R : AV → List (Nat × AB) → Prop} (n : Nat) (hle : Nat.ble args.length 32 = true) (hb : belowB n s = true) (h : vc Try.prog cx166 n kt166 (Try.f166.body.getD .skip) (argEnv 0 args) s (KG cx166 Try.f166.results.toList n R)) : Contract Try.prog G0 166 args s R :=
  Contract.of_vG (cx := cx166) tabOK mixed Try.func166 rfl (enters_of Try.func166 (by kernel_rfl) rfl) rfl ok166 (Nat.le_of_ble_eq_true hle) hb h
end Go.Proofs.Ytkenimmellonjaa
