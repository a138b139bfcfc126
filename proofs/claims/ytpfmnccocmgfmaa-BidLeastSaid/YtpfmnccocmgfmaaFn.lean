/- A shell of a contract for each function of the program Ytpfmnccocmgfmaa. -/
import Derived.Test.YtpfmnccocmgfmaaTab
import Derived.Test.YtpfmnccocmgfmaaPvTr
import Derived.Shelf.Abstract
namespace Go.Proofs.Ytpfmnccocmgfmaa
open Go.Pv Go.RowKit

def G0 : Gl := fun _ => .none
theorem mixed : Try.prog.follows .mixedOrders = true := by kernel_rfl
/-- gosem.cut.init -/
def cx2 : Ctx := ⟨T, G0, 1, []⟩
def kt2 : List (Nat × Nat) := []
theorem ok2 : okCode kt2 (Try.f2.body.getD .skip) = true := by kernel_rfl
theorem con2 {args : List AV} {s : List (Nat × AB)} {R : AV → List (Nat × AB) → Prop} (n : Nat) (hle : Nat.ble args.length 1 = true) (hb : belowB n s = true) (h : vc Try.prog cx2 n kt2 (Try.f2.body.getD .skip) (argEnv 0 args) s (KV T Try.f2.results.toList n R)) : Contract Try.prog G0 2 args s R :=
  Contract.of_v (cx := cx2) tabOK mixed Try.func2 rfl (enters_of Try.func2 (by kernel_rfl) rfl) rfl ok2 (Nat.le_of_ble_eq_true hle) hb h
theorem conG2 {args : List AV} {s : List (Nat × AB)} {R : AV → List (Nat × AB) → Prop} (n : Nat) (hle : Nat.ble args.length 1 = true) (hb : belowB n s = true) (h : vc Try.prog cx2 n kt2 (Try.f2.body.getD .skip) (argEnv 0 args) s (KG cx2 Try.f2.results.toList n R)) : Contract Try.prog G0 2 args s R :=
  Contract.of_vG (cx := cx2) tabOK mixed Try.func2 rfl (enters_of Try.func2 (by kernel_rfl) rfl) rfl ok2 (Nat.le_of_ble_eq_true hle) hb h
/-- paternoster/paternosterlaw18.BidOrder -/
def cx3 : Ctx := ⟨T, G0, 105, [0, 1, 2, 3, 4, 5, 6, 7, 8, 9, 10, 12, 15, 54]⟩
def kt3 : List (Nat × Nat) := []
theorem ok3 : okCode kt3 (Try.f3.body.getD .skip) = true := by kernel_rfl
theorem con3 {args : List AV} {s : List (Nat × AB)} {R : AV → List (Nat × AB) → Prop} (n : Nat) (hle : Nat.ble args.length 105 = true) (hb : belowB n s = true) (h : vc Try.prog cx3 n kt3 (Try.f3.body.getD .skip) (argEnv 0 args) s (KV T Try.f3.results.toList n R)) : Contract Try.prog G0 3 args s R :=
  Contract.of_v (cx := cx3) tabOK mixed Try.func3 rfl (enters_of Try.func3 (by kernel_rfl) rfl) rfl ok3 (Nat.le_of_ble_eq_true hle) hb h
theorem conG3 {args : List AV} {s : List (Nat × AB)} {R : AV → List (Nat × AB) → Prop} (n : Nat) (hle : Nat.ble args.length 105 = true) (hb : belowB n s = true) (h : vc Try.prog cx3 n kt3 (Try.f3.body.getD .skip) (argEnv 0 args) s (KG cx3 Try.f3.results.toList n R)) : Contract Try.prog G0 3 args s R :=
  Contract.of_vG (cx := cx3) tabOK mixed Try.func3 rfl (enters_of Try.func3 (by kernel_rfl) rfl) rfl ok3 (Nat.le_of_ble_eq_true hle) hb h
/-- paternoster/paternosterlaw11.CallsGens -/
def cx4 : Ctx := ⟨T, G0, 81, [0, 1, 2, 3, 4, 5, 6, 7, 8, 9, 10, 12, 13, 16, 26, 58]⟩
def kt4 : List (Nat × Nat) := []
theorem ok4 : okCode kt4 (Try.f4.body.getD .skip) = true := by kernel_rfl
theorem con4 {args : List AV} {s : List (Nat × AB)} {R : AV → List (Nat × AB) → Prop} (n : Nat) (hle : Nat.ble args.length 81 = true) (hb : belowB n s = true) (h : vc Try.prog cx4 n kt4 (Try.f4.body.getD .skip) (argEnv 0 args) s (KV T Try.f4.results.toList n R)) : Contract Try.prog G0 4 args s R :=
  Contract.of_v (cx := cx4) tabOK mixed Try.func4 rfl (enters_of Try.func4 (by kernel_rfl) rfl) rfl ok4 (Nat.le_of_ble_eq_true hle) hb h
theorem conG4 {args : List AV} {s : List (Nat × AB)} {R : AV → List (Nat × AB) → Prop} (n : Nat) (hle : Nat.ble args.length 81 = true) (hb : belowB n s = true) (h : vc Try.prog cx4 n kt4 (Try.f4.body.getD .skip) (argEnv 0 args) s (KG cx4 Try.f4.results.toList n R)) : Contract Try.prog G0 4 args s R :=
  Contract.of_vG (cx := cx4) tabOK mixed Try.func4 rfl (enters_of Try.func4 (by kernel_rfl) rfl) rfl ok4 (Nat.le_of_ble_eq_true hle) hb h
/-- paternoster/paternosterlaw18.BidLeast -/
def cx5 : Ctx := ⟨T, G0, 124, [0, 1, 3, 4, 5, 6, 7, 8, 9, 10, 11, 12, 14, 15, 16, 17, 20, 28, 36, 40, 48, 70, 74, 98, 103, 117]⟩
def kt5 : List (Nat × Nat) := [(12, 5), (15, 8), (29, 11), (14, 1000)]
theorem ok5 : okCode kt5 (Try.f5.body.getD .skip) = true := by kernel_rfl
theorem con5 {args : List AV} {s : List (Nat × AB)} {R : AV → List (Nat × AB) → Prop} (n : Nat) (hle : Nat.ble args.length 124 = true) (hb : belowB n s = true) (h : vc Try.prog cx5 n kt5 (Try.f5.body.getD .skip) (argEnv 0 args) s (KV T Try.f5.results.toList n R)) : Contract Try.prog G0 5 args s R :=
  Contract.of_v (cx := cx5) tabOK mixed Try.func5 rfl (enters_of Try.func5 (by kernel_rfl) rfl) rfl ok5 (Nat.le_of_ble_eq_true hle) hb h
theorem conG5 {args : List AV} {s : List (Nat × AB)} {R : AV → List (Nat × AB) → Prop} (n : Nat) (hle : Nat.ble args.length 124 = true) (hb : belowB n s = true) (h : vc Try.prog cx5 n kt5 (Try.f5.body.getD .skip) (argEnv 0 args) s (KG cx5 Try.f5.results.toList n R)) : Contract Try.prog G0 5 args s R :=
  Contract.of_vG (cx := cx5) tabOK mixed Try.func5 rfl (enters_of Try.func5 (by kernel_rfl) rfl) rfl ok5 (Nat.le_of_ble_eq_true hle) hb h
/-- paternoster/paternosterlaw18.BidSays -/
def cx6 : Ctx := ⟨T, G0, 134, [0, 1, 2, 3, 5, 8, 9, 10, 11, 12, 13, 14, 15, 16, 17, 18, 19, 20, 23, 31, 55, 80, 95]⟩
def kt6 : List (Nat × Nat) := [(8, 12), (17, 11), (19, 35)]
theorem ok6 : okCode kt6 (Try.f6.body.getD .skip) = true := by kernel_rfl
theorem con6 {args : List AV} {s : List (Nat × AB)} {R : AV → List (Nat × AB) → Prop} (n : Nat) (hle : Nat.ble args.length 134 = true) (hb : belowB n s = true) (h : vc Try.prog cx6 n kt6 (Try.f6.body.getD .skip) (argEnv 0 args) s (KV T Try.f6.results.toList n R)) : Contract Try.prog G0 6 args s R :=
  Contract.of_v (cx := cx6) tabOK mixed Try.func6 rfl (enters_of Try.func6 (by kernel_rfl) rfl) rfl ok6 (Nat.le_of_ble_eq_true hle) hb h
theorem conG6 {args : List AV} {s : List (Nat × AB)} {R : AV → List (Nat × AB) → Prop} (n : Nat) (hle : Nat.ble args.length 134 = true) (hb : belowB n s = true) (h : vc Try.prog cx6 n kt6 (Try.f6.body.getD .skip) (argEnv 0 args) s (KG cx6 Try.f6.results.toList n R)) : Contract Try.prog G0 6 args s R :=
  Contract.of_vG (cx := cx6) tabOK mixed Try.func6 rfl (enters_of Try.func6 (by kernel_rfl) rfl) rfl ok6 (Nat.le_of_ble_eq_true hle) hb h
/-- paternoster/paternosterlaw18.BidFull -/
def cx7 : Ctx := ⟨T, G0, 97, [0, 1, 4, 5, 6, 7, 8, 9, 10, 11, 13, 14, 15, 17, 20, 23, 33, 61, 66, 79, 87]⟩
def kt7 : List (Nat × Nat) := []
theorem ok7 : okCode kt7 (Try.f7.body.getD .skip) = true := by kernel_rfl
theorem con7 {args : List AV} {s : List (Nat × AB)} {R : AV → List (Nat × AB) → Prop} (n : Nat) (hle : Nat.ble args.length 97 = true) (hb : belowB n s = true) (h : vc Try.prog cx7 n kt7 (Try.f7.body.getD .skip) (argEnv 0 args) s (KV T Try.f7.results.toList n R)) : Contract Try.prog G0 7 args s R :=
  Contract.of_v (cx := cx7) tabOK mixed Try.func7 rfl (enters_of Try.func7 (by kernel_rfl) rfl) rfl ok7 (Nat.le_of_ble_eq_true hle) hb h
theorem conG7 {args : List AV} {s : List (Nat × AB)} {R : AV → List (Nat × AB) → Prop} (n : Nat) (hle : Nat.ble args.length 97 = true) (hb : belowB n s = true) (h : vc Try.prog cx7 n kt7 (Try.f7.body.getD .skip) (argEnv 0 args) s (KG cx7 Try.f7.results.toList n R)) : Contract Try.prog G0 7 args s R :=
  Contract.of_vG (cx := cx7) tabOK mixed Try.func7 rfl (enters_of Try.func7 (by kernel_rfl) rfl) rfl ok7 (Nat.le_of_ble_eq_true hle) hb h
/-- paternoster/paternosterlaw18.first -/
def cx8 : Ctx := ⟨T, G0, 16, [0, 1, 2]⟩
def kt8 : List (Nat × Nat) := []
theorem ok8 : okCode kt8 (Try.f8.body.getD .skip) = true := by kernel_rfl
theorem con8 {args : List AV} {s : List (Nat × AB)} {R : AV → List (Nat × AB) → Prop} (n : Nat) (hle : Nat.ble args.length 16 = true) (hb : belowB n s = true) (h : vc Try.prog cx8 n kt8 (Try.f8.body.getD .skip) (argEnv 0 args) s (KV T Try.f8.results.toList n R)) : Contract Try.prog G0 8 args s R :=
  Contract.of_v (cx := cx8) tabOK mixed Try.func8 rfl (enters_of Try.func8 (by kernel_rfl) rfl) rfl ok8 (Nat.le_of_ble_eq_true hle) hb h
theorem conG8 {args : List AV} {s : List (Nat × AB)} {R : AV → List (Nat × AB) → Prop} (n : Nat) (hle : Nat.ble args.length 16 = true) (hb : belowB n s = true) (h : vc Try.prog cx8 n kt8 (Try.f8.body.getD .skip) (argEnv 0 args) s (KG cx8 Try.f8.results.toList n R)) : Contract Try.prog G0 8 args s R :=
  Contract.of_vG (cx := cx8) tabOK mixed Try.func8 rfl (enters_of Try.func8 (by kernel_rfl) rfl) rfl ok8 (Nat.le_of_ble_eq_true hle) hb h
/-- paternoster/paternosterref.SameBid -/
def cx9 : Ctx := ⟨T, G0, 17, [0, 1, 2, 3, 4]⟩
def kt9 : List (Nat × Nat) := []
theorem ok9 : okCode kt9 (Try.f9.body.getD .skip) = true := by kernel_rfl
theorem con9 {args : List AV} {s : List (Nat × AB)} {R : AV → List (Nat × AB) → Prop} (n : Nat) (hle : Nat.ble args.length 17 = true) (hb : belowB n s = true) (h : vc Try.prog cx9 n kt9 (Try.f9.body.getD .skip) (argEnv 0 args) s (KV T Try.f9.results.toList n R)) : Contract Try.prog G0 9 args s R :=
  Contract.of_v (cx := cx9) tabOK mixed Try.func9 rfl (enters_of Try.func9 (by kernel_rfl) rfl) rfl ok9 (Nat.le_of_ble_eq_true hle) hb h
theorem conG9 {args : List AV} {s : List (Nat × AB)} {R : AV → List (Nat × AB) → Prop} (n : Nat) (hle : Nat.ble args.length 17 = true) (hb : belowB n s = true) (h : vc Try.prog cx9 n kt9 (Try.f9.body.getD .skip) (argEnv 0 args) s (KG cx9 Try.f9.results.toList n R)) : Contract Try.prog G0 9 args s R :=
  Contract.of_vG (cx := cx9) tabOK mixed Try.func9 rfl (enters_of Try.func9 (by kernel_rfl) rfl) rfl ok9 (Nat.le_of_ble_eq_true hle) hb h
/-- paternoster/bid.Less -/
def cx10 : Ctx := ⟨T, G0, 24, [0, 1, 2, 3, 4]⟩
def kt10 : List (Nat × Nat) := []
theorem ok10 : okCode kt10 (Try.f10.body.getD .skip) = true := by kernel_rfl
theorem con10 {args : List AV} {s : List (Nat × AB)} {R : AV → List (Nat × AB) → Prop} (n : Nat) (hle : Nat.ble args.length 24 = true) (hb : belowB n s = true) (h : vc Try.prog cx10 n kt10 (Try.f10.body.getD .skip) (argEnv 0 args) s (KV T Try.f10.results.toList n R)) : Contract Try.prog G0 10 args s R :=
  Contract.of_v (cx := cx10) tabOK mixed Try.func10 rfl (enters_of Try.func10 (by kernel_rfl) rfl) rfl ok10 (Nat.le_of_ble_eq_true hle) hb h
theorem conG10 {args : List AV} {s : List (Nat × AB)} {R : AV → List (Nat × AB) → Prop} (n : Nat) (hle : Nat.ble args.length 24 = true) (hb : belowB n s = true) (h : vc Try.prog cx10 n kt10 (Try.f10.body.getD .skip) (argEnv 0 args) s (KG cx10 Try.f10.results.toList n R)) : Contract Try.prog G0 10 args s R :=
  Contract.of_vG (cx := cx10) tabOK mixed Try.func10 rfl (enters_of Try.func10 (by kernel_rfl) rfl) rfl ok10 (Nat.le_of_ble_eq_true hle) hb h
/-- paternoster/bid.Least -/
def cx11 : Ctx := ⟨T, G0, 26, [0, 2, 3, 4, 6, 9, 14, 15, 16, 17, 22]⟩
def kt11 : List (Nat × Nat) := []
theorem ok11 : okCode kt11 (Try.f11.body.getD .skip) = true := by kernel_rfl
theorem con11 {args : List AV} {s : List (Nat × AB)} {R : AV → List (Nat × AB) → Prop} (n : Nat) (hle : Nat.ble args.length 26 = true) (hb : belowB n s = true) (h : vc Try.prog cx11 n kt11 (Try.f11.body.getD .skip) (argEnv 0 args) s (KV T Try.f11.results.toList n R)) : Contract Try.prog G0 11 args s R :=
  Contract.of_v (cx := cx11) tabOK mixed Try.func11 rfl (enters_of Try.func11 (by kernel_rfl) rfl) rfl ok11 (Nat.le_of_ble_eq_true hle) hb h
theorem conG11 {args : List AV} {s : List (Nat × AB)} {R : AV → List (Nat × AB) → Prop} (n : Nat) (hle : Nat.ble args.length 26 = true) (hb : belowB n s = true) (h : vc Try.prog cx11 n kt11 (Try.f11.body.getD .skip) (argEnv 0 args) s (KG cx11 Try.f11.results.toList n R)) : Contract Try.prog G0 11 args s R :=
  Contract.of_vG (cx := cx11) tabOK mixed Try.func11 rfl (enters_of Try.func11 (by kernel_rfl) rfl) rfl ok11 (Nat.le_of_ble_eq_true hle) hb h
/-- paternoster/paternosterlaw11.first -/
def cx12 : Ctx := ⟨T, G0, 16, [0, 1, 2]⟩
def kt12 : List (Nat × Nat) := []
theorem ok12 : okCode kt12 (Try.f12.body.getD .skip) = true := by kernel_rfl
theorem con12 {args : List AV} {s : List (Nat × AB)} {R : AV → List (Nat × AB) → Prop} (n : Nat) (hle : Nat.ble args.length 16 = true) (hb : belowB n s = true) (h : vc Try.prog cx12 n kt12 (Try.f12.body.getD .skip) (argEnv 0 args) s (KV T Try.f12.results.toList n R)) : Contract Try.prog G0 12 args s R :=
  Contract.of_v (cx := cx12) tabOK mixed Try.func12 rfl (enters_of Try.func12 (by kernel_rfl) rfl) rfl ok12 (Nat.le_of_ble_eq_true hle) hb h
theorem conG12 {args : List AV} {s : List (Nat × AB)} {R : AV → List (Nat × AB) → Prop} (n : Nat) (hle : Nat.ble args.length 16 = true) (hb : belowB n s = true) (h : vc Try.prog cx12 n kt12 (Try.f12.body.getD .skip) (argEnv 0 args) s (KG cx12 Try.f12.results.toList n R)) : Contract Try.prog G0 12 args s R :=
  Contract.of_vG (cx := cx12) tabOK mixed Try.func12 rfl (enters_of Try.func12 (by kernel_rfl) rfl) rfl ok12 (Nat.le_of_ble_eq_true hle) hb h
/-- (*paternoster/calls.Set).Put -/
def cx13 : Ctx := ⟨T, G0, 29, [0, 1, 3, 4, 5, 15]⟩
def kt13 : List (Nat × Nat) := [(4, 7)]
theorem ok13 : okCode kt13 (Try.f13.body.getD .skip) = true := by kernel_rfl
theorem con13 {args : List AV} {s : List (Nat × AB)} {R : AV → List (Nat × AB) → Prop} (n : Nat) (hle : Nat.ble args.length 29 = true) (hb : belowB n s = true) (h : vc Try.prog cx13 n kt13 (Try.f13.body.getD .skip) (argEnv 0 args) s (KV T Try.f13.results.toList n R)) : Contract Try.prog G0 13 args s R :=
  Contract.of_v (cx := cx13) tabOK mixed Try.func13 rfl (enters_of Try.func13 (by kernel_rfl) rfl) rfl ok13 (Nat.le_of_ble_eq_true hle) hb h
theorem conG13 {args : List AV} {s : List (Nat × AB)} {R : AV → List (Nat × AB) → Prop} (n : Nat) (hle : Nat.ble args.length 29 = true) (hb : belowB n s = true) (h : vc Try.prog cx13 n kt13 (Try.f13.body.getD .skip) (argEnv 0 args) s (KG cx13 Try.f13.results.toList n R)) : Contract Try.prog G0 13 args s R :=
  Contract.of_vG (cx := cx13) tabOK mixed Try.func13 rfl (enters_of Try.func13 (by kernel_rfl) rfl) rfl ok13 (Nat.le_of_ble_eq_true hle) hb h
/-- (*paternoster/calls.Set).Get -/
def cx14 : Ctx := ⟨T, G0, 19, [0, 1, 3, 4, 5, 6, 7]⟩
def kt14 : List (Nat × Nat) := [(1, 10)]
theorem ok14 : okCode kt14 (Try.f14.body.getD .skip) = true := by kernel_rfl
theorem con14 {args : List AV} {s : List (Nat × AB)} {R : AV → List (Nat × AB) → Prop} (n : Nat) (hle : Nat.ble args.length 19 = true) (hb : belowB n s = true) (h : vc Try.prog cx14 n kt14 (Try.f14.body.getD .skip) (argEnv 0 args) s (KV T Try.f14.results.toList n R)) : Contract Try.prog G0 14 args s R :=
  Contract.of_v (cx := cx14) tabOK mixed Try.func14 rfl (enters_of Try.func14 (by kernel_rfl) rfl) rfl ok14 (Nat.le_of_ble_eq_true hle) hb h
theorem conG14 {args : List AV} {s : List (Nat × AB)} {R : AV → List (Nat × AB) → Prop} (n : Nat) (hle : Nat.ble args.length 19 = true) (hb : belowB n s = true) (h : vc Try.prog cx14 n kt14 (Try.f14.body.getD .skip) (argEnv 0 args) s (KG cx14 Try.f14.results.toList n R)) : Contract Try.prog G0 14 args s R :=
  Contract.of_vG (cx := cx14) tabOK mixed Try.func14 rfl (enters_of Try.func14 (by kernel_rfl) rfl) rfl ok14 (Nat.le_of_ble_eq_true hle) hb h
/-- paternoster/paternosterref.SameCall -/
def cx15 : Ctx := ⟨T, G0, 17, [0, 1, 2, 3, 4]⟩
def kt15 : List (Nat × Nat) := []
theorem ok15 : okCode kt15 (Try.f15.body.getD .skip) = true := by kernel_rfl
theorem con15 {args : List AV} {s : List (Nat × AB)} {R : AV → List (Nat × AB) → Prop} (n : Nat) (hle : Nat.ble args.length 17 = true) (hb : belowB n s = true) (h : vc Try.prog cx15 n kt15 (Try.f15.body.getD .skip) (argEnv 0 args) s (KV T Try.f15.results.toList n R)) : Contract Try.prog G0 15 args s R :=
  Contract.of_v (cx := cx15) tabOK mixed Try.func15 rfl (enters_of Try.func15 (by kernel_rfl) rfl) rfl ok15 (Nat.le_of_ble_eq_true hle) hb h
theorem conG15 {args : List AV} {s : List (Nat × AB)} {R : AV → List (Nat × AB) → Prop} (n : Nat) (hle : Nat.ble args.length 17 = true) (hb : belowB n s = true) (h : vc Try.prog cx15 n kt15 (Try.f15.body.getD .skip) (argEnv 0 args) s (KG cx15 Try.f15.results.toList n R)) : Contract Try.prog G0 15 args s R :=
  Contract.of_vG (cx := cx15) tabOK mixed Try.func15 rfl (enters_of Try.func15 (by kernel_rfl) rfl) rfl ok15 (Nat.le_of_ble_eq_true hle) hb h
/-- paternoster/paternosterref.SameLatch -/
def cx16 : Ctx := ⟨T, G0, 17, [0, 1, 2, 3, 4]⟩
def kt16 : List (Nat × Nat) := []
theorem ok16 : okCode kt16 (Try.f16.body.getD .skip) = true := by kernel_rfl
theorem con16 {args : List AV} {s : List (Nat × AB)} {R : AV → List (Nat × AB) → Prop} (n : Nat) (hle : Nat.ble args.length 17 = true) (hb : belowB n s = true) (h : vc Try.prog cx16 n kt16 (Try.f16.body.getD .skip) (argEnv 0 args) s (KV T Try.f16.results.toList n R)) : Contract Try.prog G0 16 args s R :=
  Contract.of_v (cx := cx16) tabOK mixed Try.func16 rfl (enters_of Try.func16 (by kernel_rfl) rfl) rfl ok16 (Nat.le_of_ble_eq_true hle) hb h
theorem conG16 {args : List AV} {s : List (Nat × AB)} {R : AV → List (Nat × AB) → Prop} (n : Nat) (hle : Nat.ble args.length 17 = true) (hb : belowB n s = true) (h : vc Try.prog cx16 n kt16 (Try.f16.body.getD .skip) (argEnv 0 args) s (KG cx16 Try.f16.results.toList n R)) : Contract Try.prog G0 16 args s R :=
  Contract.of_vG (cx := cx16) tabOK mixed Try.func16 rfl (enters_of Try.func16 (by kernel_rfl) rfl) rfl ok16 (Nat.le_of_ble_eq_true hle) hb h
/-- (*paternoster/calls.Set).Len -/
def cx17 : Ctx := ⟨T, G0, 8, [0, 2]⟩
def kt17 : List (Nat × Nat) := []
theorem ok17 : okCode kt17 (Try.f17.body.getD .skip) = true := by kernel_rfl
theorem con17 {args : List AV} {s : List (Nat × AB)} {R : AV → List (Nat × AB) → Prop} (n : Nat) (hle : Nat.ble args.length 8 = true) (hb : belowB n s = true) (h : vc Try.prog cx17 n kt17 (Try.f17.body.getD .skip) (argEnv 0 args) s (KV T Try.f17.results.toList n R)) : Contract Try.prog G0 17 args s R :=
  Contract.of_v (cx := cx17) tabOK mixed Try.func17 rfl (enters_of Try.func17 (by kernel_rfl) rfl) rfl ok17 (Nat.le_of_ble_eq_true hle) hb h
theorem conG17 {args : List AV} {s : List (Nat × AB)} {R : AV → List (Nat × AB) → Prop} (n : Nat) (hle : Nat.ble args.length 8 = true) (hb : belowB n s = true) (h : vc Try.prog cx17 n kt17 (Try.f17.body.getD .skip) (argEnv 0 args) s (KG cx17 Try.f17.results.toList n R)) : Contract Try.prog G0 17 args s R :=
  Contract.of_vG (cx := cx17) tabOK mixed Try.func17 rfl (enters_of Try.func17 (by kernel_rfl) rfl) rfl ok17 (Nat.le_of_ble_eq_true hle) hb h
/-- (*paternoster/calls.Set).Del -/
def cx18 : Ctx := ⟨T, G0, 15, [0, 1, 3, 4, 5]⟩
def kt18 : List (Nat × Nat) := [(2, 5)]
theorem ok18 : okCode kt18 (Try.f18.body.getD .skip) = true := by kernel_rfl
theorem con18 {args : List AV} {s : List (Nat × AB)} {R : AV → List (Nat × AB) → Prop} (n : Nat) (hle : Nat.ble args.length 15 = true) (hb : belowB n s = true) (h : vc Try.prog cx18 n kt18 (Try.f18.body.getD .skip) (argEnv 0 args) s (KV T Try.f18.results.toList n R)) : Contract Try.prog G0 18 args s R :=
  Contract.of_v (cx := cx18) tabOK mixed Try.func18 rfl (enters_of Try.func18 (by kernel_rfl) rfl) rfl ok18 (Nat.le_of_ble_eq_true hle) hb h
theorem conG18 {args : List AV} {s : List (Nat × AB)} {R : AV → List (Nat × AB) → Prop} (n : Nat) (hle : Nat.ble args.length 15 = true) (hb : belowB n s = true) (h : vc Try.prog cx18 n kt18 (Try.f18.body.getD .skip) (argEnv 0 args) s (KG cx18 Try.f18.results.toList n R)) : Contract Try.prog G0 18 args s R :=
  Contract.of_vG (cx := cx18) tabOK mixed Try.func18 rfl (enters_of Try.func18 (by kernel_rfl) rfl) rfl ok18 (Nat.le_of_ble_eq_true hle) hb h
/-- paternoster/paternosterlaw11.one -/
def cx19 : Ctx := ⟨T, G0, 4, [0, 2, 3]⟩
def kt19 : List (Nat × Nat) := []
theorem ok19 : okCode kt19 (Try.f19.body.getD .skip) = true := by kernel_rfl
theorem con19 {args : List AV} {s : List (Nat × AB)} {R : AV → List (Nat × AB) → Prop} (n : Nat) (hle : Nat.ble args.length 4 = true) (hb : belowB n s = true) (h : vc Try.prog cx19 n kt19 (Try.f19.body.getD .skip) (argEnv 0 args) s (KV T Try.f19.results.toList n R)) : Contract Try.prog G0 19 args s R :=
  Contract.of_v (cx := cx19) tabOK mixed Try.func19 rfl (enters_of Try.func19 (by kernel_rfl) rfl) rfl ok19 (Nat.le_of_ble_eq_true hle) hb h
theorem conG19 {args : List AV} {s : List (Nat × AB)} {R : AV → List (Nat × AB) → Prop} (n : Nat) (hle : Nat.ble args.length 4 = true) (hb : belowB n s = true) (h : vc Try.prog cx19 n kt19 (Try.f19.body.getD .skip) (argEnv 0 args) s (KG cx19 Try.f19.results.toList n R)) : Contract Try.prog G0 19 args s R :=
  Contract.of_vG (cx := cx19) tabOK mixed Try.func19 rfl (enters_of Try.func19 (by kernel_rfl) rfl) rfl ok19 (Nat.le_of_ble_eq_true hle) hb h
/-- (*paternoster/calls.Set).Has -/
def cx20 : Ctx := ⟨T, G0, 17, [0, 1, 3, 4, 6]⟩
def kt20 : List (Nat × Nat) := [(1, 10)]
theorem ok20 : okCode kt20 (Try.f20.body.getD .skip) = true := by kernel_rfl
theorem con20 {args : List AV} {s : List (Nat × AB)} {R : AV → List (Nat × AB) → Prop} (n : Nat) (hle : Nat.ble args.length 17 = true) (hb : belowB n s = true) (h : vc Try.prog cx20 n kt20 (Try.f20.body.getD .skip) (argEnv 0 args) s (KV T Try.f20.results.toList n R)) : Contract Try.prog G0 20 args s R :=
  Contract.of_v (cx := cx20) tabOK mixed Try.func20 rfl (enters_of Try.func20 (by kernel_rfl) rfl) rfl ok20 (Nat.le_of_ble_eq_true hle) hb h
theorem conG20 {args : List AV} {s : List (Nat × AB)} {R : AV → List (Nat × AB) → Prop} (n : Nat) (hle : Nat.ble args.length 17 = true) (hb : belowB n s = true) (h : vc Try.prog cx20 n kt20 (Try.f20.body.getD .skip) (argEnv 0 args) s (KG cx20 Try.f20.results.toList n R)) : Contract Try.prog G0 20 args s R :=
  Contract.of_vG (cx := cx20) tabOK mixed Try.func20 rfl (enters_of Try.func20 (by kernel_rfl) rfl) rfl ok20 (Nat.le_of_ble_eq_true hle) hb h
/-- paternoster/bid.Of -/
def cx21 : Ctx := ⟨T, G0, 17, [0, 1, 4, 5, 6, 11]⟩
def kt21 : List (Nat × Nat) := []
theorem ok21 : okCode kt21 (Try.f21.body.getD .skip) = true := by kernel_rfl
theorem con21 {args : List AV} {s : List (Nat × AB)} {R : AV → List (Nat × AB) → Prop} (n : Nat) (hle : Nat.ble args.length 17 = true) (hb : belowB n s = true) (h : vc Try.prog cx21 n kt21 (Try.f21.body.getD .skip) (argEnv 0 args) s (KV T Try.f21.results.toList n R)) : Contract Try.prog G0 21 args s R :=
  Contract.of_v (cx := cx21) tabOK mixed Try.func21 rfl (enters_of Try.func21 (by kernel_rfl) rfl) rfl ok21 (Nat.le_of_ble_eq_true hle) hb h
theorem conG21 {args : List AV} {s : List (Nat × AB)} {R : AV → List (Nat × AB) → Prop} (n : Nat) (hle : Nat.ble args.length 17 = true) (hb : belowB n s = true) (h : vc Try.prog cx21 n kt21 (Try.f21.body.getD .skip) (argEnv 0 args) s (KG cx21 Try.f21.results.toList n R)) : Contract Try.prog G0 21 args s R :=
  Contract.of_vG (cx := cx21) tabOK mixed Try.func21 rfl (enters_of Try.func21 (by kernel_rfl) rfl) rfl ok21 (Nat.le_of_ble_eq_true hle) hb h
/-- paternoster/bid.Put -/
def cx22 : Ctx := ⟨T, G0, 28, [0, 1, 3, 4, 5, 6, 7, 14, 20]⟩
def kt22 : List (Nat × Nat) := []
theorem ok22 : okCode kt22 (Try.f22.body.getD .skip) = true := by kernel_rfl
theorem con22 {args : List AV} {s : List (Nat × AB)} {R : AV → List (Nat × AB) → Prop} (n : Nat) (hle : Nat.ble args.length 28 = true) (hb : belowB n s = true) (h : vc Try.prog cx22 n kt22 (Try.f22.body.getD .skip) (argEnv 0 args) s (KV T Try.f22.results.toList n R)) : Contract Try.prog G0 22 args s R :=
  Contract.of_v (cx := cx22) tabOK mixed Try.func22 rfl (enters_of Try.func22 (by kernel_rfl) rfl) rfl ok22 (Nat.le_of_ble_eq_true hle) hb h
theorem conG22 {args : List AV} {s : List (Nat × AB)} {R : AV → List (Nat × AB) → Prop} (n : Nat) (hle : Nat.ble args.length 28 = true) (hb : belowB n s = true) (h : vc Try.prog cx22 n kt22 (Try.f22.body.getD .skip) (argEnv 0 args) s (KG cx22 Try.f22.results.toList n R)) : Contract Try.prog G0 22 args s R :=
  Contract.of_vG (cx := cx22) tabOK mixed Try.func22 rfl (enters_of Try.func22 (by kernel_rfl) rfl) rfl ok22 (Nat.le_of_ble_eq_true hle) hb h
/-- paternoster/paternosterref18.Least -/
def cx23 : Ctx := ⟨T, G0, 26, [0, 2, 3, 4, 8, 23]⟩
def kt23 : List (Nat × Nat) := [(5, 11)]
theorem ok23 : okCode kt23 (Try.f23.body.getD .skip) = true := by kernel_rfl
theorem con23 {args : List AV} {s : List (Nat × AB)} {R : AV → List (Nat × AB) → Prop} (n : Nat) (hle : Nat.ble args.length 26 = true) (hb : belowB n s = true) (h : vc Try.prog cx23 n kt23 (Try.f23.body.getD .skip) (argEnv 0 args) s (KV T Try.f23.results.toList n R)) : Contract Try.prog G0 23 args s R :=
  Contract.of_v (cx := cx23) tabOK mixed Try.func23 rfl (enters_of Try.func23 (by kernel_rfl) rfl) rfl ok23 (Nat.le_of_ble_eq_true hle) hb h
theorem conG23 {args : List AV} {s : List (Nat × AB)} {R : AV → List (Nat × AB) → Prop} (n : Nat) (hle : Nat.ble args.length 26 = true) (hb : belowB n s = true) (h : vc Try.prog cx23 n kt23 (Try.f23.body.getD .skip) (argEnv 0 args) s (KG cx23 Try.f23.results.toList n R)) : Contract Try.prog G0 23 args s R :=
  Contract.of_vG (cx := cx23) tabOK mixed Try.func23 rfl (enters_of Try.func23 (by kernel_rfl) rfl) rfl ok23 (Nat.le_of_ble_eq_true hle) hb h
/-- paternoster/paternosterref18.Put -/
def cx24 : Ctx := ⟨T, G0, 43, [0, 1, 3, 4, 5, 6, 7, 12, 28]⟩
def kt24 : List (Nat × Nat) := [(4, 12), (6, 1000)]
theorem ok24 : okCode kt24 (Try.f24.body.getD .skip) = true := by kernel_rfl
theorem con24 {args : List AV} {s : List (Nat × AB)} {R : AV → List (Nat × AB) → Prop} (n : Nat) (hle : Nat.ble args.length 43 = true) (hb : belowB n s = true) (h : vc Try.prog cx24 n kt24 (Try.f24.body.getD .skip) (argEnv 0 args) s (KV T Try.f24.results.toList n R)) : Contract Try.prog G0 24 args s R :=
  Contract.of_v (cx := cx24) tabOK mixed Try.func24 rfl (enters_of Try.func24 (by kernel_rfl) rfl) rfl ok24 (Nat.le_of_ble_eq_true hle) hb h
theorem conG24 {args : List AV} {s : List (Nat × AB)} {R : AV → List (Nat × AB) → Prop} (n : Nat) (hle : Nat.ble args.length 43 = true) (hb : belowB n s = true) (h : vc Try.prog cx24 n kt24 (Try.f24.body.getD .skip) (argEnv 0 args) s (KG cx24 Try.f24.results.toList n R)) : Contract Try.prog G0 24 args s R :=
  Contract.of_vG (cx := cx24) tabOK mixed Try.func24 rfl (enters_of Try.func24 (by kernel_rfl) rfl) rfl ok24 (Nat.le_of_ble_eq_true hle) hb h
/-- paternoster/paternosterref18.Find -/
def cx25 : Ctx := ⟨T, G0, 20, [0, 1, 4, 5, 9, 18]⟩
def kt25 : List (Nat × Nat) := []
theorem ok25 : okCode kt25 (Try.f25.body.getD .skip) = true := by kernel_rfl
theorem con25 {args : List AV} {s : List (Nat × AB)} {R : AV → List (Nat × AB) → Prop} (n : Nat) (hle : Nat.ble args.length 20 = true) (hb : belowB n s = true) (h : vc Try.prog cx25 n kt25 (Try.f25.body.getD .skip) (argEnv 0 args) s (KV T Try.f25.results.toList n R)) : Contract Try.prog G0 25 args s R :=
  Contract.of_v (cx := cx25) tabOK mixed Try.func25 rfl (enters_of Try.func25 (by kernel_rfl) rfl) rfl ok25 (Nat.le_of_ble_eq_true hle) hb h
theorem conG25 {args : List AV} {s : List (Nat × AB)} {R : AV → List (Nat × AB) → Prop} (n : Nat) (hle : Nat.ble args.length 20 = true) (hb : belowB n s = true) (h : vc Try.prog cx25 n kt25 (Try.f25.body.getD .skip) (argEnv 0 args) s (KG cx25 Try.f25.results.toList n R)) : Contract Try.prog G0 25 args s R :=
  Contract.of_vG (cx := cx25) tabOK mixed Try.func25 rfl (enters_of Try.func25 (by kernel_rfl) rfl) rfl ok25 (Nat.le_of_ble_eq_true hle) hb h
/-- paternoster/paternosterref18.Less -/
def cx26 : Ctx := ⟨T, G0, 24, [0, 1, 2, 3, 4]⟩
def kt26 : List (Nat × Nat) := []
theorem ok26 : okCode kt26 (Try.f26.body.getD .skip) = true := by kernel_rfl
theorem con26 {args : List AV} {s : List (Nat × AB)} {R : AV → List (Nat × AB) → Prop} (n : Nat) (hle : Nat.ble args.length 24 = true) (hb : belowB n s = true) (h : vc Try.prog cx26 n kt26 (Try.f26.body.getD .skip) (argEnv 0 args) s (KV T Try.f26.results.toList n R)) : Contract Try.prog G0 26 args s R :=
  Contract.of_v (cx := cx26) tabOK mixed Try.func26 rfl (enters_of Try.func26 (by kernel_rfl) rfl) rfl ok26 (Nat.le_of_ble_eq_true hle) hb h
theorem conG26 {args : List AV} {s : List (Nat × AB)} {R : AV → List (Nat × AB) → Prop} (n : Nat) (hle : Nat.ble args.length 24 = true) (hb : belowB n s = true) (h : vc Try.prog cx26 n kt26 (Try.f26.body.getD .skip) (argEnv 0 args) s (KG cx26 Try.f26.results.toList n R)) : Contract Try.prog G0 26 args s R :=
  Contract.of_vG (cx := cx26) tabOK mixed Try.func26 rfl (enters_of Try.func26 (by kernel_rfl) rfl) rfl ok26 (Nat.le_of_ble_eq_true hle) hb h
/-- paternoster/paternosterref.SameBids -/
def cx27 : Ctx := ⟨T, G0, 29, [0, 1, 4, 5, 6, 11, 15, 28]⟩
def kt27 : List (Nat × Nat) := [(6, 8)]
theorem ok27 : okCode kt27 (Try.f27.body.getD .skip) = true := by kernel_rfl
theorem con27 {args : List AV} {s : List (Nat × AB)} {R : AV → List (Nat × AB) → Prop} (n : Nat) (hle : Nat.ble args.length 29 = true) (hb : belowB n s = true) (h : vc Try.prog cx27 n kt27 (Try.f27.body.getD .skip) (argEnv 0 args) s (KV T Try.f27.results.toList n R)) : Contract Try.prog G0 27 args s R :=
  Contract.of_v (cx := cx27) tabOK mixed Try.func27 rfl (enters_of Try.func27 (by kernel_rfl) rfl) rfl ok27 (Nat.le_of_ble_eq_true hle) hb h
theorem conG27 {args : List AV} {s : List (Nat × AB)} {R : AV → List (Nat × AB) → Prop} (n : Nat) (hle : Nat.ble args.length 29 = true) (hb : belowB n s = true) (h : vc Try.prog cx27 n kt27 (Try.f27.body.getD .skip) (argEnv 0 args) s (KG cx27 Try.f27.results.toList n R)) : Contract Try.prog G0 27 args s R :=
  Contract.of_vG (cx := cx27) tabOK mixed Try.func27 rfl (enters_of Try.func27 (by kernel_rfl) rfl) rfl ok27 (Nat.le_of_ble_eq_true hle) hb h
/-- paternoster/bid.Full -/
def cx28 : Ctx := ⟨T, G0, 9, [0, 1, 3, 4]⟩
def kt28 : List (Nat × Nat) := []
theorem ok28 : okCode kt28 (Try.f28.body.getD .skip) = true := by kernel_rfl
theorem con28 {args : List AV} {s : List (Nat × AB)} {R : AV → List (Nat × AB) → Prop} (n : Nat) (hle : Nat.ble args.length 9 = true) (hb : belowB n s = true) (h : vc Try.prog cx28 n kt28 (Try.f28.body.getD .skip) (argEnv 0 args) s (KV T Try.f28.results.toList n R)) : Contract Try.prog G0 28 args s R :=
  Contract.of_v (cx := cx28) tabOK mixed Try.func28 rfl (enters_of Try.func28 (by kernel_rfl) rfl) rfl ok28 (Nat.le_of_ble_eq_true hle) hb h
theorem conG28 {args : List AV} {s : List (Nat × AB)} {R : AV → List (Nat × AB) → Prop} (n : Nat) (hle : Nat.ble args.length 9 = true) (hb : belowB n s = true) (h : vc Try.prog cx28 n kt28 (Try.f28.body.getD .skip) (argEnv 0 args) s (KG cx28 Try.f28.results.toList n R)) : Contract Try.prog G0 28 args s R :=
  Contract.of_vG (cx := cx28) tabOK mixed Try.func28 rfl (enters_of Try.func28 (by kernel_rfl) rfl) rfl ok28 (Nat.le_of_ble_eq_true hle) hb h
/-- paternoster/paternosterref18.Full -/
def cx29 : Ctx := ⟨T, G0, 19, [0, 1, 4, 5, 9, 18]⟩
def kt29 : List (Nat × Nat) := []
theorem ok29 : okCode kt29 (Try.f29.body.getD .skip) = true := by kernel_rfl
theorem con29 {args : List AV} {s : List (Nat × AB)} {R : AV → List (Nat × AB) → Prop} (n : Nat) (hle : Nat.ble args.length 19 = true) (hb : belowB n s = true) (h : vc Try.prog cx29 n kt29 (Try.f29.body.getD .skip) (argEnv 0 args) s (KV T Try.f29.results.toList n R)) : Contract Try.prog G0 29 args s R :=
  Contract.of_v (cx := cx29) tabOK mixed Try.func29 rfl (enters_of Try.func29 (by kernel_rfl) rfl) rfl ok29 (Nat.le_of_ble_eq_true hle) hb h
theorem conG29 {args : List AV} {s : List (Nat × AB)} {R : AV → List (Nat × AB) → Prop} (n : Nat) (hle : Nat.ble args.length 19 = true) (hb : belowB n s = true) (h : vc Try.prog cx29 n kt29 (Try.f29.body.getD .skip) (argEnv 0 args) s (KG cx29 Try.f29.results.toList n R)) : Contract Try.prog G0 29 args s R :=
  Contract.of_vG (cx := cx29) tabOK mixed Try.func29 rfl (enters_of Try.func29 (by kernel_rfl) rfl) rfl ok29 (Nat.le_of_ble_eq_true hle) hb h
/-- paternoster/paternosterworld.Number -/
def cx30 : Ctx := ⟨T, G0, 15, [0, 1, 4, 5, 10]⟩
def kt30 : List (Nat × Nat) := []
theorem ok30 : okCode kt30 (Try.f30.body.getD .skip) = true := by kernel_rfl
theorem con30 {args : List AV} {s : List (Nat × AB)} {R : AV → List (Nat × AB) → Prop} (n : Nat) (hle : Nat.ble args.length 15 = true) (hb : belowB n s = true) (h : vc Try.prog cx30 n kt30 (Try.f30.body.getD .skip) (argEnv 0 args) s (KV T Try.f30.results.toList n R)) : Contract Try.prog G0 30 args s R :=
  Contract.of_v (cx := cx30) tabOK mixed Try.func30 rfl (enters_of Try.func30 (by kernel_rfl) rfl) rfl ok30 (Nat.le_of_ble_eq_true hle) hb h
theorem conG30 {args : List AV} {s : List (Nat × AB)} {R : AV → List (Nat × AB) → Prop} (n : Nat) (hle : Nat.ble args.length 15 = true) (hb : belowB n s = true) (h : vc Try.prog cx30 n kt30 (Try.f30.body.getD .skip) (argEnv 0 args) s (KG cx30 Try.f30.results.toList n R)) : Contract Try.prog G0 30 args s R :=
  Contract.of_vG (cx := cx30) tabOK mixed Try.func30 rfl (enters_of Try.func30 (by kernel_rfl) rfl) rfl ok30 (Nat.le_of_ble_eq_true hle) hb h
/-- paternoster/bid.at -/
def cx31 : Ctx := ⟨T, G0, 8, [0, 1, 3, 4]⟩
def kt31 : List (Nat × Nat) := []
theorem ok31 : okCode kt31 (Try.f31.body.getD .skip) = true := by kernel_rfl
theorem con31 {args : List AV} {s : List (Nat × AB)} {R : AV → List (Nat × AB) → Prop} (n : Nat) (hle : Nat.ble args.length 8 = true) (hb : belowB n s = true) (h : vc Try.prog cx31 n kt31 (Try.f31.body.getD .skip) (argEnv 0 args) s (KV T Try.f31.results.toList n R)) : Contract Try.prog G0 31 args s R :=
  Contract.of_v (cx := cx31) tabOK mixed Try.func31 rfl (enters_of Try.func31 (by kernel_rfl) rfl) rfl ok31 (Nat.le_of_ble_eq_true hle) hb h
theorem conG31 {args : List AV} {s : List (Nat × AB)} {R : AV → List (Nat × AB) → Prop} (n : Nat) (hle : Nat.ble args.length 8 = true) (hb : belowB n s = true) (h : vc Try.prog cx31 n kt31 (Try.f31.body.getD .skip) (argEnv 0 args) s (KG cx31 Try.f31.results.toList n R)) : Contract Try.prog G0 31 args s R :=
  Contract.of_vG (cx := cx31) tabOK mixed Try.func31 rfl (enters_of Try.func31 (by kernel_rfl) rfl) rfl ok31 (Nat.le_of_ble_eq_true hle) hb h
/-- slices.Clone[[]paternoster/api.Bid,paternoster/api.Bid] -/
def cx32 : Ctx := ⟨T, G0, 8, [0, 2, 4]⟩
def kt32 : List (Nat × Nat) := []
theorem ok32 : okCode kt32 (Try.f32.body.getD .skip) = true := by kernel_rfl
theorem con32 {args : List AV} {s : List (Nat × AB)} {R : AV → List (Nat × AB) → Prop} (n : Nat) (hle : Nat.ble args.length 8 = true) (hb : belowB n s = true) (h : vc Try.prog cx32 n kt32 (Try.f32.body.getD .skip) (argEnv 0 args) s (KV T Try.f32.results.toList n R)) : Contract Try.prog G0 32 args s R :=
  Contract.of_v (cx := cx32) tabOK mixed Try.func32 rfl (enters_of Try.func32 (by kernel_rfl) rfl) rfl ok32 (Nat.le_of_ble_eq_true hle) hb h
theorem conG32 {args : List AV} {s : List (Nat × AB)} {R : AV → List (Nat × AB) → Prop} (n : Nat) (hle : Nat.ble args.length 8 = true) (hb : belowB n s = true) (h : vc Try.prog cx32 n kt32 (Try.f32.body.getD .skip) (argEnv 0 args) s (KG cx32 Try.f32.results.toList n R)) : Contract Try.prog G0 32 args s R :=
  Contract.of_vG (cx := cx32) tabOK mixed Try.func32 rfl (enters_of Try.func32 (by kernel_rfl) rfl) rfl ok32 (Nat.le_of_ble_eq_true hle) hb h
/-- slices.IndexFunc[[]paternoster/api.Bid,paternoster/api.Bid] -/
def cx33 : Ctx := ⟨T, G0, 19, [0, 1, 4, 5, 7, 8, 9, 16]⟩
def kt33 : List (Nat × Nat) := []
theorem ok33 : okCode kt33 (Try.f33.body.getD .skip) = true := by kernel_rfl
theorem con33 {args : List AV} {s : List (Nat × AB)} {R : AV → List (Nat × AB) → Prop} (n : Nat) (hle : Nat.ble args.length 19 = true) (hb : belowB n s = true) (h : vc Try.prog cx33 n kt33 (Try.f33.body.getD .skip) (argEnv 0 args) s (KV T Try.f33.results.toList n R)) : Contract Try.prog G0 33 args s R :=
  Contract.of_v (cx := cx33) tabOK mixed Try.func33 rfl (enters_of Try.func33 (by kernel_rfl) rfl) rfl ok33 (Nat.le_of_ble_eq_true hle) hb h
theorem conG33 {args : List AV} {s : List (Nat × AB)} {R : AV → List (Nat × AB) → Prop} (n : Nat) (hle : Nat.ble args.length 19 = true) (hb : belowB n s = true) (h : vc Try.prog cx33 n kt33 (Try.f33.body.getD .skip) (argEnv 0 args) s (KG cx33 Try.f33.results.toList n R)) : Contract Try.prog G0 33 args s R :=
  Contract.of_vG (cx := cx33) tabOK mixed Try.func33 rfl (enters_of Try.func33 (by kernel_rfl) rfl) rfl ok33 (Nat.le_of_ble_eq_true hle) hb h
/-- paternoster/bid.Put$1 -/
def cx34 : Ctx := ⟨T, G0, 9, [0, 1, 2, 3]⟩
def kt34 : List (Nat × Nat) := []
theorem ok34 : okCode kt34 (Try.f34.body.getD .skip) = true := by kernel_rfl
theorem con34 {args : List AV} {s : List (Nat × AB)} {R : AV → List (Nat × AB) → Prop} (n : Nat) (hle : Nat.ble args.length 9 = true) (hb : belowB n s = true) (h : vc Try.prog cx34 n kt34 (Try.f34.body.getD .skip) (argEnv 0 args) s (KV T Try.f34.results.toList n R)) : Contract Try.prog G0 34 args s R :=
  Contract.of_v (cx := cx34) tabOK mixed Try.func34 rfl (enters_of Try.func34 (by kernel_rfl) rfl) rfl ok34 (Nat.le_of_ble_eq_true hle) hb h
theorem conG34 {args : List AV} {s : List (Nat × AB)} {R : AV → List (Nat × AB) → Prop} (n : Nat) (hle : Nat.ble args.length 9 = true) (hb : belowB n s = true) (h : vc Try.prog cx34 n kt34 (Try.f34.body.getD .skip) (argEnv 0 args) s (KG cx34 Try.f34.results.toList n R)) : Contract Try.prog G0 34 args s R :=
  Contract.of_vG (cx := cx34) tabOK mixed Try.func34 rfl (enters_of Try.func34 (by kernel_rfl) rfl) rfl ok34 (Nat.le_of_ble_eq_true hle) hb h
/-- slices.Insert[[]paternoster/api.Bid,paternoster/api.Bid] -/
def cx35 : Ctx := ⟨T, G0, 95, [0, 1, 2, 6, 7, 8, 9, 16, 22, 31, 68]⟩
def kt35 : List (Nat × Nat) := [(11, 8), (15, 8)]
theorem ok35 : okCode kt35 (Try.f35.body.getD .skip) = true := by kernel_rfl
theorem con35 {args : List AV} {s : List (Nat × AB)} {R : AV → List (Nat × AB) → Prop} (n : Nat) (hle : Nat.ble args.length 95 = true) (hb : belowB n s = true) (h : vc Try.prog cx35 n kt35 (Try.f35.body.getD .skip) (argEnv 0 args) s (KV T Try.f35.results.toList n R)) : Contract Try.prog G0 35 args s R :=
  Contract.of_v (cx := cx35) tabOK mixed Try.func35 rfl (enters_of Try.func35 (by kernel_rfl) rfl) rfl ok35 (Nat.le_of_ble_eq_true hle) hb h
theorem conG35 {args : List AV} {s : List (Nat × AB)} {R : AV → List (Nat × AB) → Prop} (n : Nat) (hle : Nat.ble args.length 95 = true) (hb : belowB n s = true) (h : vc Try.prog cx35 n kt35 (Try.f35.body.getD .skip) (argEnv 0 args) s (KG cx35 Try.f35.results.toList n R)) : Contract Try.prog G0 35 args s R :=
  Contract.of_vG (cx := cx35) tabOK mixed Try.func35 rfl (enters_of Try.func35 (by kernel_rfl) rfl) rfl ok35 (Nat.le_of_ble_eq_true hle) hb h
/-- paternoster/paternosterref.Bids -/
def cx36 : Ctx := ⟨T, G0, 22, [0, 2, 3, 4, 11]⟩
def kt36 : List (Nat × Nat) := []
theorem ok36 : okCode kt36 (Try.f36.body.getD .skip) = true := by kernel_rfl
theorem con36 {args : List AV} {s : List (Nat × AB)} {R : AV → List (Nat × AB) → Prop} (n : Nat) (hle : Nat.ble args.length 22 = true) (hb : belowB n s = true) (h : vc Try.prog cx36 n kt36 (Try.f36.body.getD .skip) (argEnv 0 args) s (KV T Try.f36.results.toList n R)) : Contract Try.prog G0 36 args s R :=
  Contract.of_v (cx := cx36) tabOK mixed Try.func36 rfl (enters_of Try.func36 (by kernel_rfl) rfl) rfl ok36 (Nat.le_of_ble_eq_true hle) hb h
theorem conG36 {args : List AV} {s : List (Nat × AB)} {R : AV → List (Nat × AB) → Prop} (n : Nat) (hle : Nat.ble args.length 22 = true) (hb : belowB n s = true) (h : vc Try.prog cx36 n kt36 (Try.f36.body.getD .skip) (argEnv 0 args) s (KG cx36 Try.f36.results.toList n R)) : Contract Try.prog G0 36 args s R :=
  Contract.of_vG (cx := cx36) tabOK mixed Try.func36 rfl (enters_of Try.func36 (by kernel_rfl) rfl) rfl ok36 (Nat.le_of_ble_eq_true hle) hb h
/-- slices.ContainsFunc[[]int,int] -/
def cx37 : Ctx := ⟨T, G0, 9, [0, 1, 4]⟩
def kt37 : List (Nat × Nat) := []
theorem ok37 : okCode kt37 (Try.f37.body.getD .skip) = true := by kernel_rfl
theorem con37 {args : List AV} {s : List (Nat × AB)} {R : AV → List (Nat × AB) → Prop} (n : Nat) (hle : Nat.ble args.length 9 = true) (hb : belowB n s = true) (h : vc Try.prog cx37 n kt37 (Try.f37.body.getD .skip) (argEnv 0 args) s (KV T Try.f37.results.toList n R)) : Contract Try.prog G0 37 args s R :=
  Contract.of_v (cx := cx37) tabOK mixed Try.func37 rfl (enters_of Try.func37 (by kernel_rfl) rfl) rfl ok37 (Nat.le_of_ble_eq_true hle) hb h
theorem conG37 {args : List AV} {s : List (Nat × AB)} {R : AV → List (Nat × AB) → Prop} (n : Nat) (hle : Nat.ble args.length 9 = true) (hb : belowB n s = true) (h : vc Try.prog cx37 n kt37 (Try.f37.body.getD .skip) (argEnv 0 args) s (KG cx37 Try.f37.results.toList n R)) : Contract Try.prog G0 37 args s R :=
  Contract.of_vG (cx := cx37) tabOK mixed Try.func37 rfl (enters_of Try.func37 (by kernel_rfl) rfl) rfl ok37 (Nat.le_of_ble_eq_true hle) hb h
/-- paternoster/bid.Full$1 -/
def cx38 : Ctx := ⟨T, G0, 8, [0, 1, 3]⟩
def kt38 : List (Nat × Nat) := []
theorem ok38 : okCode kt38 (Try.f38.body.getD .skip) = true := by kernel_rfl
theorem con38 {args : List AV} {s : List (Nat × AB)} {R : AV → List (Nat × AB) → Prop} (n : Nat) (hle : Nat.ble args.length 8 = true) (hb : belowB n s = true) (h : vc Try.prog cx38 n kt38 (Try.f38.body.getD .skip) (argEnv 0 args) s (KV T Try.f38.results.toList n R)) : Contract Try.prog G0 38 args s R :=
  Contract.of_v (cx := cx38) tabOK mixed Try.func38 rfl (enters_of Try.func38 (by kernel_rfl) rfl) rfl ok38 (Nat.le_of_ble_eq_true hle) hb h
theorem conG38 {args : List AV} {s : List (Nat × AB)} {R : AV → List (Nat × AB) → Prop} (n : Nat) (hle : Nat.ble args.length 8 = true) (hb : belowB n s = true) (h : vc Try.prog cx38 n kt38 (Try.f38.body.getD .skip) (argEnv 0 args) s (KG cx38 Try.f38.results.toList n R)) : Contract Try.prog G0 38 args s R :=
  Contract.of_vG (cx := cx38) tabOK mixed Try.func38 rfl (enters_of Try.func38 (by kernel_rfl) rfl) rfl ok38 (Nat.le_of_ble_eq_true hle) hb h
/-- paternoster/bid.at$1 -/
def cx39 : Ctx := ⟨T, G0, 8, [0, 1, 2, 3]⟩
def kt39 : List (Nat × Nat) := []
theorem ok39 : okCode kt39 (Try.f39.body.getD .skip) = true := by kernel_rfl
theorem con39 {args : List AV} {s : List (Nat × AB)} {R : AV → List (Nat × AB) → Prop} (n : Nat) (hle : Nat.ble args.length 8 = true) (hb : belowB n s = true) (h : vc Try.prog cx39 n kt39 (Try.f39.body.getD .skip) (argEnv 0 args) s (KV T Try.f39.results.toList n R)) : Contract Try.prog G0 39 args s R :=
  Contract.of_v (cx := cx39) tabOK mixed Try.func39 rfl (enters_of Try.func39 (by kernel_rfl) rfl) rfl ok39 (Nat.le_of_ble_eq_true hle) hb h
theorem conG39 {args : List AV} {s : List (Nat × AB)} {R : AV → List (Nat × AB) → Prop} (n : Nat) (hle : Nat.ble args.length 8 = true) (hb : belowB n s = true) (h : vc Try.prog cx39 n kt39 (Try.f39.body.getD .skip) (argEnv 0 args) s (KG cx39 Try.f39.results.toList n R)) : Contract Try.prog G0 39 args s R :=
  Contract.of_vG (cx := cx39) tabOK mixed Try.func39 rfl (enters_of Try.func39 (by kernel_rfl) rfl) rfl ok39 (Nat.le_of_ble_eq_true hle) hb h
/-- slices.rotateRight[paternoster/api.Bid] -/
def cx41 : Ctx := ⟨T, G0, 10, [0, 1]⟩
def kt41 : List (Nat × Nat) := []
theorem ok41 : okCode kt41 (Try.f41.body.getD .skip) = true := by kernel_rfl
theorem con41 {args : List AV} {s : List (Nat × AB)} {R : AV → List (Nat × AB) → Prop} (n : Nat) (hle : Nat.ble args.length 10 = true) (hb : belowB n s = true) (h : vc Try.prog cx41 n kt41 (Try.f41.body.getD .skip) (argEnv 0 args) s (KV T Try.f41.results.toList n R)) : Contract Try.prog G0 41 args s R :=
  Contract.of_v (cx := cx41) tabOK mixed Try.func41 rfl (enters_of Try.func41 (by kernel_rfl) rfl) rfl ok41 (Nat.le_of_ble_eq_true hle) hb h
theorem conG41 {args : List AV} {s : List (Nat × AB)} {R : AV → List (Nat × AB) → Prop} (n : Nat) (hle : Nat.ble args.length 10 = true) (hb : belowB n s = true) (h : vc Try.prog cx41 n kt41 (Try.f41.body.getD .skip) (argEnv 0 args) s (KG cx41 Try.f41.results.toList n R)) : Contract Try.prog G0 41 args s R :=
  Contract.of_vG (cx := cx41) tabOK mixed Try.func41 rfl (enters_of Try.func41 (by kernel_rfl) rfl) rfl ok41 (Nat.le_of_ble_eq_true hle) hb h
/-- slices.IndexFunc[[]int,int] -/
def cx42 : Ctx := ⟨T, G0, 19, [0, 1, 4, 5, 7, 8, 9, 16]⟩
def kt42 : List (Nat × Nat) := []
theorem ok42 : okCode kt42 (Try.f42.body.getD .skip) = true := by kernel_rfl
theorem con42 {args : List AV} {s : List (Nat × AB)} {R : AV → List (Nat × AB) → Prop} (n : Nat) (hle : Nat.ble args.length 19 = true) (hb : belowB n s = true) (h : vc Try.prog cx42 n kt42 (Try.f42.body.getD .skip) (argEnv 0 args) s (KV T Try.f42.results.toList n R)) : Contract Try.prog G0 42 args s R :=
  Contract.of_v (cx := cx42) tabOK mixed Try.func42 rfl (enters_of Try.func42 (by kernel_rfl) rfl) rfl ok42 (Nat.le_of_ble_eq_true hle) hb h
theorem conG42 {args : List AV} {s : List (Nat × AB)} {R : AV → List (Nat × AB) → Prop} (n : Nat) (hle : Nat.ble args.length 19 = true) (hb : belowB n s = true) (h : vc Try.prog cx42 n kt42 (Try.f42.body.getD .skip) (argEnv 0 args) s (KG cx42 Try.f42.results.toList n R)) : Contract Try.prog G0 42 args s R :=
  Contract.of_vG (cx := cx42) tabOK mixed Try.func42 rfl (enters_of Try.func42 (by kernel_rfl) rfl) rfl ok42 (Nat.le_of_ble_eq_true hle) hb h
/-- slices.rotateLeft[paternoster/api.Bid] -/
def cx43 : Ctx := ⟨T, G0, 14, [0, 1]⟩
def kt43 : List (Nat × Nat) := []
theorem ok43 : okCode kt43 (Try.f43.body.getD .skip) = true := by kernel_rfl
theorem con43 {args : List AV} {s : List (Nat × AB)} {R : AV → List (Nat × AB) → Prop} (n : Nat) (hle : Nat.ble args.length 14 = true) (hb : belowB n s = true) (h : vc Try.prog cx43 n kt43 (Try.f43.body.getD .skip) (argEnv 0 args) s (KV T Try.f43.results.toList n R)) : Contract Try.prog G0 43 args s R :=
  Contract.of_v (cx := cx43) tabOK mixed Try.func43 rfl (enters_of Try.func43 (by kernel_rfl) rfl) rfl ok43 (Nat.le_of_ble_eq_true hle) hb h
theorem conG43 {args : List AV} {s : List (Nat × AB)} {R : AV → List (Nat × AB) → Prop} (n : Nat) (hle : Nat.ble args.length 14 = true) (hb : belowB n s = true) (h : vc Try.prog cx43 n kt43 (Try.f43.body.getD .skip) (argEnv 0 args) s (KG cx43 Try.f43.results.toList n R)) : Contract Try.prog G0 43 args s R :=
  Contract.of_vG (cx := cx43) tabOK mixed Try.func43 rfl (enters_of Try.func43 (by kernel_rfl) rfl) rfl ok43 (Nat.le_of_ble_eq_true hle) hb h
/-- slices.Reverse[[]paternoster/api.Bid,paternoster/api.Bid] -/
def cx44 : Ctx := ⟨T, G0, 28, [0, 2, 3, 9]⟩
def kt44 : List (Nat × Nat) := [(3, 12)]
theorem ok44 : okCode kt44 (Try.f44.body.getD .skip) = true := by kernel_rfl
theorem con44 {args : List AV} {s : List (Nat × AB)} {R : AV → List (Nat × AB) → Prop} (n : Nat) (hle : Nat.ble args.length 28 = true) (hb : belowB n s = true) (h : vc Try.prog cx44 n kt44 (Try.f44.body.getD .skip) (argEnv 0 args) s (KV T Try.f44.results.toList n R)) : Contract Try.prog G0 44 args s R :=
  Contract.of_v (cx := cx44) tabOK mixed Try.func44 rfl (enters_of Try.func44 (by kernel_rfl) rfl) rfl ok44 (Nat.le_of_ble_eq_true hle) hb h
theorem conG44 {args : List AV} {s : List (Nat × AB)} {R : AV → List (Nat × AB) → Prop} (n : Nat) (hle : Nat.ble args.length 28 = true) (hb : belowB n s = true) (h : vc Try.prog cx44 n kt44 (Try.f44.body.getD .skip) (argEnv 0 args) s (KG cx44 Try.f44.results.toList n R)) : Contract Try.prog G0 44 args s R :=
  Contract.of_vG (cx := cx44) tabOK mixed Try.func44 rfl (enters_of Try.func44 (by kernel_rfl) rfl) rfl ok44 (Nat.le_of_ble_eq_true hle) hb h
def sp5_14 : List (Nat × List Nat × Bool) := [(0, [], false), (1, [], true), (2, [0, 1], false), (3, [], false), (4, [3], false), (5, [2, 4, 2], false), (6, [5, 5], false), (7, [6], true), (8, [7], true), (9, [7], true), (10, [], false), (11, [10, 8, 6, 0, 1, 2, 3, 4, 5, 6, 7, 8, 10], false), (12, [9, 11, 0, 1, 2, 3, 4, 5, 6, 7, 8, 9, 10, 11], true)]
def sp24_6 : List (Nat × List Nat × Bool) := [(0, [], true), (1, [], true), (2, [0, 1], false), (3, [2], false), (4, [], false), (5, [4], false), (6, [3, 5, 3], false), (7, [6, 6, 0, 1, 2, 3, 4, 5, 6], true)]
end Go.Proofs.Ytpfmnccocmgfmaa
