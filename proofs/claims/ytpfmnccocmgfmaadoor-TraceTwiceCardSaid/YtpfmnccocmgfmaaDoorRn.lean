/- The walk's shells of the program YtpfmnccocmgfmaaDoor. -/
import Derived.Test.YtpfmnccocmgfmaaDoorFn
import Derived.Test.YtpfmnccocmgfmaaDoorFrD
namespace Go.Proofs.YtpfmnccocmgfmaaDoor
open Go.Pv Go.RowKit
noncomputable def R2 : Code := Tryd.f2.body.getD .skip
theorem wk2 {bs : Nat → Addr} : WK Tryd.prog (cx2 bs) kt2 R2 := ⟨tabOK, mixed, ok2⟩
noncomputable def R3 : Code := Tryd.f3.body.getD .skip
theorem wk3 {bs : Nat → Addr} : WK Tryd.prog (cx3 bs) kt3 R3 := ⟨tabOK, mixed, ok3⟩
theorem run3 {bs : Nat → Addr} {args : List AV} {s : List (Nat × AB)} {R : AV → List (Nat × AB) → Prop} (n : Nat) (ct : List Nat) (hle : Nat.ble args.length 78 = true) (hb : belowB n s = true) (h : run Tryd.prog (cx3 bs) n kt3 ct R3 (KV T Tryd.f3.results.toList n R) 100000 ⟨.code [], [], argEnv 0 args, s⟩) : Contract Tryd.prog (G0 bs) 3 args s R :=
  Contract.of_run (cx := cx3 bs) wk3 Tryd.func3 rfl (enters_of Tryd.func3 (by kernel_rfl) rfl) rfl (Nat.le_of_ble_eq_true hle) hb h
noncomputable def R4 : Code := Tryd.f4.body.getD .skip
theorem wk4 {bs : Nat → Addr} : WK Tryd.prog (cx4 bs) kt4 R4 := ⟨tabOK, mixed, ok4⟩
theorem run4 {bs : Nat → Addr} {args : List AV} {s : List (Nat × AB)} {R : AV → List (Nat × AB) → Prop} (n : Nat) (ct : List Nat) (hle : Nat.ble args.length 71 = true) (hb : belowB n s = true) (h : run Tryd.prog (cx4 bs) n kt4 ct R4 (KV T Tryd.f4.results.toList n R) 100000 ⟨.code [], [], argEnv 0 args, s⟩) : Contract Tryd.prog (G0 bs) 4 args s R :=
  Contract.of_run (cx := cx4 bs) wk4 Tryd.func4 rfl (enters_of Tryd.func4 (by kernel_rfl) rfl) rfl (Nat.le_of_ble_eq_true hle) hb h
noncomputable def R5 : Code := Tryd.f5.body.getD .skip
theorem wk5 {bs : Nat → Addr} : WK Tryd.prog (cx5 bs) kt5 R5 := ⟨tabOK, mixed, ok5⟩
theorem run5 {bs : Nat → Addr} {args : List AV} {s : List (Nat × AB)} {R : AV → List (Nat × AB) → Prop} (n : Nat) (ct : List Nat) (hle : Nat.ble args.length 108 = true) (hb : belowB n s = true) (h : run Tryd.prog (cx5 bs) n kt5 ct R5 (KV T Tryd.f5.results.toList n R) 100000 ⟨.code [], [], argEnv 0 args, s⟩) : Contract Tryd.prog (G0 bs) 5 args s R :=
  Contract.of_run (cx := cx5 bs) wk5 Tryd.func5 rfl (enters_of Tryd.func5 (by kernel_rfl) rfl) rfl (Nat.le_of_ble_eq_true hle) hb h
noncomputable def R6 : Code := Tryd.f6.body.getD .skip
theorem wk6 {bs : Nat → Addr} : WK Tryd.prog (cx6 bs) kt6 R6 := ⟨tabOK, mixed, ok6⟩
theorem run6 {bs : Nat → Addr} {args : List AV} {s : List (Nat × AB)} {R : AV → List (Nat × AB) → Prop} (n : Nat) (ct : List Nat) (hle : Nat.ble args.length 96 = true) (hb : belowB n s = true) (h : run Tryd.prog (cx6 bs) n kt6 ct R6 (KV T Tryd.f6.results.toList n R) 100000 ⟨.code [], [], argEnv 0 args, s⟩) : Contract Tryd.prog (G0 bs) 6 args s R :=
  Contract.of_run (cx := cx6 bs) wk6 Tryd.func6 rfl (enters_of Tryd.func6 (by kernel_rfl) rfl) rfl (Nat.le_of_ble_eq_true hle) hb h
noncomputable def R7 : Code := Tryd.f7.body.getD .skip
theorem wk7 {bs : Nat → Addr} : WK Tryd.prog (cx7 bs) kt7 R7 := ⟨tabOK, mixed, ok7⟩
noncomputable def R8 : Code := Tryd.f8.body.getD .skip
theorem wk8 {bs : Nat → Addr} : WK Tryd.prog (cx8 bs) kt8 R8 := ⟨tabOK, mixed, ok8⟩
noncomputable def R9 : Code := Tryd.f9.body.getD .skip
theorem wk9 {bs : Nat → Addr} : WK Tryd.prog (cx9 bs) kt9 R9 := ⟨tabOK, mixed, ok9⟩
theorem run9 {bs : Nat → Addr} {args : List AV} {s : List (Nat × AB)} {R : AV → List (Nat × AB) → Prop} (n : Nat) (ct : List Nat) (hle : Nat.ble args.length 17 = true) (hb : belowB n s = true) (h : run Tryd.prog (cx9 bs) n kt9 ct R9 (KV T Tryd.f9.results.toList n R) 100000 ⟨.code [], [], argEnv 0 args, s⟩) : Contract Tryd.prog (G0 bs) 9 args s R :=
  Contract.of_run (cx := cx9 bs) wk9 Tryd.func9 rfl (enters_of Tryd.func9 (by kernel_rfl) rfl) rfl (Nat.le_of_ble_eq_true hle) hb h
noncomputable def R10 : Code := Tryd.f10.body.getD .skip
theorem wk10 {bs : Nat → Addr} : WK Tryd.prog (cx10 bs) kt10 R10 := ⟨tabOK, mixed, ok10⟩
theorem run10 {bs : Nat → Addr} {args : List AV} {s : List (Nat × AB)} {R : AV → List (Nat × AB) → Prop} (n : Nat) (ct : List Nat) (hle : Nat.ble args.length 15 = true) (hb : belowB n s = true) (h : run Tryd.prog (cx10 bs) n kt10 ct R10 (KV T Tryd.f10.results.toList n R) 100000 ⟨.code [], [], argEnv 0 args, s⟩) : Contract Tryd.prog (G0 bs) 10 args s R :=
  Contract.of_run (cx := cx10 bs) wk10 Tryd.func10 rfl (enters_of Tryd.func10 (by kernel_rfl) rfl) rfl (Nat.le_of_ble_eq_true hle) hb h
noncomputable def R11 : Code := Tryd.f11.body.getD .skip
theorem wk11 {bs : Nat → Addr} : WK Tryd.prog (cx11 bs) kt11 R11 := ⟨tabOK, mixed, ok11⟩
theorem run11 {bs : Nat → Addr} {args : List AV} {s : List (Nat × AB)} {R : AV → List (Nat × AB) → Prop} (n : Nat) (ct : List Nat) (hle : Nat.ble args.length 11 = true) (hb : belowB n s = true) (h : run Tryd.prog (cx11 bs) n kt11 ct R11 (KV T Tryd.f11.results.toList n R) 100000 ⟨.code [], [], argEnv 0 args, s⟩) : Contract Tryd.prog (G0 bs) 11 args s R :=
  Contract.of_run (cx := cx11 bs) wk11 Tryd.func11 rfl (enters_of Tryd.func11 (by kernel_rfl) rfl) rfl (Nat.le_of_ble_eq_true hle) hb h
noncomputable def R12 : Code := Tryd.f12.body.getD .skip
theorem wk12 {bs : Nat → Addr} : WK Tryd.prog (cx12 bs) kt12 R12 := ⟨tabOK, mixed, ok12⟩
theorem run12 {bs : Nat → Addr} {args : List AV} {s : List (Nat × AB)} {R : AV → List (Nat × AB) → Prop} (n : Nat) (ct : List Nat) (hle : Nat.ble args.length 9 = true) (hb : belowB n s = true) (h : run Tryd.prog (cx12 bs) n kt12 ct R12 (KV T Tryd.f12.results.toList n R) 100000 ⟨.code [], [], argEnv 0 args, s⟩) : Contract Tryd.prog (G0 bs) 12 args s R :=
  Contract.of_run (cx := cx12 bs) wk12 Tryd.func12 rfl (enters_of Tryd.func12 (by kernel_rfl) rfl) rfl (Nat.le_of_ble_eq_true hle) hb h
noncomputable def R13 : Code := Tryd.f13.body.getD .skip
theorem wk13 {bs : Nat → Addr} : WK Tryd.prog (cx13 bs) kt13 R13 := ⟨tabOK, mixed, ok13⟩
theorem run13 {bs : Nat → Addr} {args : List AV} {s : List (Nat × AB)} {R : AV → List (Nat × AB) → Prop} (n : Nat) (ct : List Nat) (hle : Nat.ble args.length 14 = true) (hb : belowB n s = true) (h : run Tryd.prog (cx13 bs) n kt13 ct R13 (KV T Tryd.f13.results.toList n R) 100000 ⟨.code [], [], argEnv 0 args, s⟩) : Contract Tryd.prog (G0 bs) 13 args s R :=
  Contract.of_run (cx := cx13 bs) wk13 Tryd.func13 rfl (enters_of Tryd.func13 (by kernel_rfl) rfl) rfl (Nat.le_of_ble_eq_true hle) hb h
noncomputable def R14 : Code := Tryd.f14.body.getD .skip
theorem wk14 {bs : Nat → Addr} : WK Tryd.prog (cx14 bs) kt14 R14 := ⟨tabOK, mixed, ok14⟩
theorem run14 {bs : Nat → Addr} {args : List AV} {s : List (Nat × AB)} {R : AV → List (Nat × AB) → Prop} (n : Nat) (ct : List Nat) (hle : Nat.ble args.length 38 = true) (hb : belowB n s = true) (h : run Tryd.prog (cx14 bs) n kt14 ct R14 (KV T Tryd.f14.results.toList n R) 100000 ⟨.code [], [], argEnv 0 args, s⟩) : Contract Tryd.prog (G0 bs) 14 args s R :=
  Contract.of_run (cx := cx14 bs) wk14 Tryd.func14 rfl (enters_of Tryd.func14 (by kernel_rfl) rfl) rfl (Nat.le_of_ble_eq_true hle) hb h
noncomputable def R15 : Code := Tryd.f15.body.getD .skip
theorem wk15 {bs : Nat → Addr} : WK Tryd.prog (cx15 bs) kt15 R15 := ⟨tabOK, mixed, ok15⟩
noncomputable def R16 : Code := Tryd.f16.body.getD .skip
theorem wk16 {bs : Nat → Addr} : WK Tryd.prog (cx16 bs) kt16 R16 := ⟨tabOK, mixed, ok16⟩
noncomputable def R17 : Code := Tryd.f17.body.getD .skip
theorem wk17 {bs : Nat → Addr} : WK Tryd.prog (cx17 bs) kt17 R17 := ⟨tabOK, mixed, ok17⟩
noncomputable def R18 : Code := Tryd.f18.body.getD .skip
theorem wk18 {bs : Nat → Addr} : WK Tryd.prog (cx18 bs) kt18 R18 := ⟨tabOK, mixed, ok18⟩
noncomputable def R19 : Code := Tryd.f19.body.getD .skip
theorem wk19 {bs : Nat → Addr} : WK Tryd.prog (cx19 bs) kt19 R19 := ⟨tabOK, mixed, ok19⟩
noncomputable def R20 : Code := Tryd.f20.body.getD .skip
theorem wk20 {bs : Nat → Addr} : WK Tryd.prog (cx20 bs) kt20 R20 := ⟨tabOK, mixed, ok20⟩
noncomputable def R21 : Code := Tryd.f21.body.getD .skip
theorem wk21 {bs : Nat → Addr} : WK Tryd.prog (cx21 bs) kt21 R21 := ⟨tabOK, mixed, ok21⟩
noncomputable def R22 : Code := Tryd.f22.body.getD .skip
theorem wk22 {bs : Nat → Addr} : WK Tryd.prog (cx22 bs) kt22 R22 := ⟨tabOK, mixed, ok22⟩
theorem run22 {bs : Nat → Addr} {args : List AV} {s : List (Nat × AB)} {R : AV → List (Nat × AB) → Prop} (n : Nat) (ct : List Nat) (hle : Nat.ble args.length 2 = true) (hb : belowB n s = true) (h : run Tryd.prog (cx22 bs) n kt22 ct R22 (KV T Tryd.f22.results.toList n R) 100000 ⟨.code [], [], argEnv 0 args, s⟩) : Contract Tryd.prog (G0 bs) 22 args s R :=
  Contract.of_run (cx := cx22 bs) wk22 Tryd.func22 rfl (enters_of Tryd.func22 (by kernel_rfl) rfl) rfl (Nat.le_of_ble_eq_true hle) hb h
noncomputable def R23 : Code := Tryd.f23.body.getD .skip
theorem wk23 {bs : Nat → Addr} : WK Tryd.prog (cx23 bs) kt23 R23 := ⟨tabOK, mixed, ok23⟩
theorem run23 {bs : Nat → Addr} {args : List AV} {s : List (Nat × AB)} {R : AV → List (Nat × AB) → Prop} (n : Nat) (ct : List Nat) (hle : Nat.ble args.length 24 = true) (hb : belowB n s = true) (h : run Tryd.prog (cx23 bs) n kt23 ct R23 (KV T Tryd.f23.results.toList n R) 100000 ⟨.code [], [], argEnv 0 args, s⟩) : Contract Tryd.prog (G0 bs) 23 args s R :=
  Contract.of_run (cx := cx23 bs) wk23 Tryd.func23 rfl (enters_of Tryd.func23 (by kernel_rfl) rfl) rfl (Nat.le_of_ble_eq_true hle) hb h
noncomputable def R24 : Code := Tryd.f24.body.getD .skip
theorem wk24 {bs : Nat → Addr} : WK Tryd.prog (cx24 bs) kt24 R24 := ⟨tabOK, mixed, ok24⟩
theorem rung24 {bs : Nat → Addr} {args : List AV} {s : List (Nat × AB)} {R : AV → List (Nat × AB) → Prop} (n : Nat) (ct : List Nat) (hle : Nat.ble args.length 31 = true) (hb : belowB n s = true) (h : run Tryd.prog (cx24 bs) n kt24 ct R24 (KG (cx24 bs) Tryd.f24.results.toList n R) 100000 ⟨.code [], [], argEnv 0 args, s⟩) : Contract Tryd.prog (G0 bs) 24 args s R :=
  Contract.of_runG (cx := cx24 bs) wk24 Tryd.func24 rfl (enters_of Tryd.func24 (by kernel_rfl) rfl) rfl (Nat.le_of_ble_eq_true hle) hb h
noncomputable def R25 : Code := Tryd.f25.body.getD .skip
theorem wk25 {bs : Nat → Addr} : WK Tryd.prog (cx25 bs) kt25 R25 := ⟨tabOK, mixed, ok25⟩
theorem run25 {bs : Nat → Addr} {args : List AV} {s : List (Nat × AB)} {R : AV → List (Nat × AB) → Prop} (n : Nat) (ct : List Nat) (hle : Nat.ble args.length 5 = true) (hb : belowB n s = true) (h : run Tryd.prog (cx25 bs) n kt25 ct R25 (KV T Tryd.f25.results.toList n R) 100000 ⟨.code [], [], argEnv 0 args, s⟩) : Contract Tryd.prog (G0 bs) 25 args s R :=
  Contract.of_run (cx := cx25 bs) wk25 Tryd.func25 rfl (enters_of Tryd.func25 (by kernel_rfl) rfl) rfl (Nat.le_of_ble_eq_true hle) hb h
noncomputable def R26 : Code := Tryd.f26.body.getD .skip
theorem wk26 {bs : Nat → Addr} : WK Tryd.prog (cx26 bs) kt26 R26 := ⟨tabOK, mixed, ok26⟩
theorem run26 {bs : Nat → Addr} {args : List AV} {s : List (Nat × AB)} {R : AV → List (Nat × AB) → Prop} (n : Nat) (ct : List Nat) (hle : Nat.ble args.length 20 = true) (hb : belowB n s = true) (h : run Tryd.prog (cx26 bs) n kt26 ct R26 (KV T Tryd.f26.results.toList n R) 100000 ⟨.code [], [], argEnv 0 args, s⟩) : Contract Tryd.prog (G0 bs) 26 args s R :=
  Contract.of_run (cx := cx26 bs) wk26 Tryd.func26 rfl (enters_of Tryd.func26 (by kernel_rfl) rfl) rfl (Nat.le_of_ble_eq_true hle) hb h
noncomputable def R27 : Code := Tryd.f27.body.getD .skip
theorem wk27 {bs : Nat → Addr} : WK Tryd.prog (cx27 bs) kt27 R27 := ⟨tabOK, mixed, ok27⟩
noncomputable def R28 : Code := Tryd.f28.body.getD .skip
theorem wk28 {bs : Nat → Addr} : WK Tryd.prog (cx28 bs) kt28 R28 := ⟨tabOK, mixed, ok28⟩
noncomputable def R29 : Code := Tryd.f29.body.getD .skip
theorem wk29 {bs : Nat → Addr} : WK Tryd.prog (cx29 bs) kt29 R29 := ⟨tabOK, mixed, ok29⟩
noncomputable def R30 : Code := Tryd.f30.body.getD .skip
theorem wk30 {bs : Nat → Addr} : WK Tryd.prog (cx30 bs) kt30 R30 := ⟨tabOK, mixed, ok30⟩
noncomputable def R31 : Code := Tryd.f31.body.getD .skip
theorem wk31 {bs : Nat → Addr} : WK Tryd.prog (cx31 bs) kt31 R31 := ⟨tabOK, mixed, ok31⟩
theorem run31 {bs : Nat → Addr} {args : List AV} {s : List (Nat × AB)} {R : AV → List (Nat × AB) → Prop} (n : Nat) (ct : List Nat) (hle : Nat.ble args.length 33 = true) (hb : belowB n s = true) (h : run Tryd.prog (cx31 bs) n kt31 ct R31 (KV T Tryd.f31.results.toList n R) 100000 ⟨.code [], [], argEnv 0 args, s⟩) : Contract Tryd.prog (G0 bs) 31 args s R :=
  Contract.of_run (cx := cx31 bs) wk31 Tryd.func31 rfl (enters_of Tryd.func31 (by kernel_rfl) rfl) rfl (Nat.le_of_ble_eq_true hle) hb h
noncomputable def R32 : Code := Tryd.f32.body.getD .skip
theorem wk32 {bs : Nat → Addr} : WK Tryd.prog (cx32 bs) kt32 R32 := ⟨tabOK, mixed, ok32⟩
theorem run32 {bs : Nat → Addr} {args : List AV} {s : List (Nat × AB)} {R : AV → List (Nat × AB) → Prop} (n : Nat) (ct : List Nat) (hle : Nat.ble args.length 110 = true) (hb : belowB n s = true) (h : run Tryd.prog (cx32 bs) n kt32 ct R32 (KV T Tryd.f32.results.toList n R) 100000 ⟨.code [], [], argEnv 0 args, s⟩) : Contract Tryd.prog (G0 bs) 32 args s R :=
  Contract.of_run (cx := cx32 bs) wk32 Tryd.func32 rfl (enters_of Tryd.func32 (by kernel_rfl) rfl) rfl (Nat.le_of_ble_eq_true hle) hb h
noncomputable def R33 : Code := Tryd.f33.body.getD .skip
theorem wk33 {bs : Nat → Addr} : WK Tryd.prog (cx33 bs) kt33 R33 := ⟨tabOK, mixed, ok33⟩
theorem run33 {bs : Nat → Addr} {args : List AV} {s : List (Nat × AB)} {R : AV → List (Nat × AB) → Prop} (n : Nat) (ct : List Nat) (hle : Nat.ble args.length 15 = true) (hb : belowB n s = true) (h : run Tryd.prog (cx33 bs) n kt33 ct R33 (KV T Tryd.f33.results.toList n R) 100000 ⟨.code [], [], argEnv 0 args, s⟩) : Contract Tryd.prog (G0 bs) 33 args s R :=
  Contract.of_run (cx := cx33 bs) wk33 Tryd.func33 rfl (enters_of Tryd.func33 (by kernel_rfl) rfl) rfl (Nat.le_of_ble_eq_true hle) hb h
noncomputable def R34 : Code := Tryd.f34.body.getD .skip
theorem wk34 {bs : Nat → Addr} : WK Tryd.prog (cx34 bs) kt34 R34 := ⟨tabOK, mixed, ok34⟩
theorem run34 {bs : Nat → Addr} {args : List AV} {s : List (Nat × AB)} {R : AV → List (Nat × AB) → Prop} (n : Nat) (ct : List Nat) (hle : Nat.ble args.length 20 = true) (hb : belowB n s = true) (h : run Tryd.prog (cx34 bs) n kt34 ct R34 (KV T Tryd.f34.results.toList n R) 100000 ⟨.code [], [], argEnv 0 args, s⟩) : Contract Tryd.prog (G0 bs) 34 args s R :=
  Contract.of_run (cx := cx34 bs) wk34 Tryd.func34 rfl (enters_of Tryd.func34 (by kernel_rfl) rfl) rfl (Nat.le_of_ble_eq_true hle) hb h
noncomputable def R35 : Code := Tryd.f35.body.getD .skip
theorem wk35 {bs : Nat → Addr} : WK Tryd.prog (cx35 bs) kt35 R35 := ⟨tabOK, mixed, ok35⟩
noncomputable def R36 : Code := Tryd.f36.body.getD .skip
theorem wk36 {bs : Nat → Addr} : WK Tryd.prog (cx36 bs) kt36 R36 := ⟨tabOK, mixed, ok36⟩
noncomputable def R37 : Code := Tryd.f37.body.getD .skip
theorem wk37 {bs : Nat → Addr} : WK Tryd.prog (cx37 bs) kt37 R37 := ⟨tabOK, mixed, ok37⟩
noncomputable def R38 : Code := Tryd.f38.body.getD .skip
theorem wk38 {bs : Nat → Addr} : WK Tryd.prog (cx38 bs) kt38 R38 := ⟨tabOK, mixed, ok38⟩
noncomputable def R39 : Code := Tryd.f39.body.getD .skip
theorem wk39 {bs : Nat → Addr} : WK Tryd.prog (cx39 bs) kt39 R39 := ⟨tabOK, mixed, ok39⟩
noncomputable def R40 : Code := Tryd.f40.body.getD .skip
theorem wk40 {bs : Nat → Addr} : WK Tryd.prog (cx40 bs) kt40 R40 := ⟨tabOK, mixed, ok40⟩
noncomputable def R41 : Code := Tryd.f41.body.getD .skip
theorem wk41 {bs : Nat → Addr} : WK Tryd.prog (cx41 bs) kt41 R41 := ⟨tabOK, mixed, ok41⟩
noncomputable def R42 : Code := Tryd.f42.body.getD .skip
theorem wk42 {bs : Nat → Addr} : WK Tryd.prog (cx42 bs) kt42 R42 := ⟨tabOK, mixed, ok42⟩
noncomputable def R43 : Code := Tryd.f43.body.getD .skip
theorem wk43 {bs : Nat → Addr} : WK Tryd.prog (cx43 bs) kt43 R43 := ⟨tabOK, mixed, ok43⟩
noncomputable def R44 : Code := Tryd.f44.body.getD .skip
theorem wk44 {bs : Nat → Addr} : WK Tryd.prog (cx44 bs) kt44 R44 := ⟨tabOK, mixed, ok44⟩
noncomputable def R45 : Code := Tryd.f45.body.getD .skip
theorem wk45 {bs : Nat → Addr} : WK Tryd.prog (cx45 bs) kt45 R45 := ⟨tabOK, mixed, ok45⟩
noncomputable def R46 : Code := Tryd.f46.body.getD .skip
theorem wk46 {bs : Nat → Addr} : WK Tryd.prog (cx46 bs) kt46 R46 := ⟨tabOK, mixed, ok46⟩
noncomputable def R47 : Code := Tryd.f47.body.getD .skip
theorem wk47 {bs : Nat → Addr} : WK Tryd.prog (cx47 bs) kt47 R47 := ⟨tabOK, mixed, ok47⟩
noncomputable def R48 : Code := Tryd.f48.body.getD .skip
theorem wk48 {bs : Nat → Addr} : WK Tryd.prog (cx48 bs) kt48 R48 := ⟨tabOK, mixed, ok48⟩
noncomputable def R49 : Code := Tryd.f49.body.getD .skip
theorem wk49 {bs : Nat → Addr} : WK Tryd.prog (cx49 bs) kt49 R49 := ⟨tabOK, mixed, ok49⟩
noncomputable def R50 : Code := Tryd.f50.body.getD .skip
theorem wk50 {bs : Nat → Addr} : WK Tryd.prog (cx50 bs) kt50 R50 := ⟨tabOK, mixed, ok50⟩
theorem run50 {bs : Nat → Addr} {args : List AV} {s : List (Nat × AB)} {R : AV → List (Nat × AB) → Prop} (n : Nat) (ct : List Nat) (hle : Nat.ble args.length 71 = true) (hb : belowB n s = true) (h : run Tryd.prog (cx50 bs) n kt50 ct R50 (KV T Tryd.f50.results.toList n R) 100000 ⟨.code [], [], argEnv 0 args, s⟩) : Contract Tryd.prog (G0 bs) 50 args s R :=
  Contract.of_run (cx := cx50 bs) wk50 Tryd.func50 rfl (enters_of Tryd.func50 (by kernel_rfl) rfl) rfl (Nat.le_of_ble_eq_true hle) hb h
noncomputable def R51 : Code := Tryd.f51.body.getD .skip
theorem wk51 {bs : Nat → Addr} : WK Tryd.prog (cx51 bs) kt51 R51 := ⟨tabOK, mixed, ok51⟩
theorem run51 {bs : Nat → Addr} {args : List AV} {s : List (Nat × AB)} {R : AV → List (Nat × AB) → Prop} (n : Nat) (ct : List Nat) (hle : Nat.ble args.length 64 = true) (hb : belowB n s = true) (h : run Tryd.prog (cx51 bs) n kt51 ct R51 (KV T Tryd.f51.results.toList n R) 100000 ⟨.code [], [], argEnv 0 args, s⟩) : Contract Tryd.prog (G0 bs) 51 args s R :=
  Contract.of_run (cx := cx51 bs) wk51 Tryd.func51 rfl (enters_of Tryd.func51 (by kernel_rfl) rfl) rfl (Nat.le_of_ble_eq_true hle) hb h
noncomputable def R52 : Code := Tryd.f52.body.getD .skip
theorem wk52 {bs : Nat → Addr} : WK Tryd.prog (cx52 bs) kt52 R52 := ⟨tabOK, mixed, ok52⟩
theorem run52 {bs : Nat → Addr} {args : List AV} {s : List (Nat × AB)} {R : AV → List (Nat × AB) → Prop} (n : Nat) (ct : List Nat) (hle : Nat.ble args.length 59 = true) (hb : belowB n s = true) (h : run Tryd.prog (cx52 bs) n kt52 ct R52 (KV T Tryd.f52.results.toList n R) 100000 ⟨.code [], [], argEnv 0 args, s⟩) : Contract Tryd.prog (G0 bs) 52 args s R :=
  Contract.of_run (cx := cx52 bs) wk52 Tryd.func52 rfl (enters_of Tryd.func52 (by kernel_rfl) rfl) rfl (Nat.le_of_ble_eq_true hle) hb h
noncomputable def R53 : Code := Tryd.f53.body.getD .skip
theorem wk53 {bs : Nat → Addr} : WK Tryd.prog (cx53 bs) kt53 R53 := ⟨tabOK, mixed, ok53⟩
theorem run53 {bs : Nat → Addr} {args : List AV} {s : List (Nat × AB)} {R : AV → List (Nat × AB) → Prop} (n : Nat) (ct : List Nat) (hle : Nat.ble args.length 104 = true) (hb : belowB n s = true) (h : run Tryd.prog (cx53 bs) n kt53 ct R53 (KV T Tryd.f53.results.toList n R) 100000 ⟨.code [], [], argEnv 0 args, s⟩) : Contract Tryd.prog (G0 bs) 53 args s R :=
  Contract.of_run (cx := cx53 bs) wk53 Tryd.func53 rfl (enters_of Tryd.func53 (by kernel_rfl) rfl) rfl (Nat.le_of_ble_eq_true hle) hb h
noncomputable def R54 : Code := Tryd.f54.body.getD .skip
theorem wk54 {bs : Nat → Addr} : WK Tryd.prog (cx54 bs) kt54 R54 := ⟨tabOK, mixed, ok54⟩
noncomputable def R55 : Code := Tryd.f55.body.getD .skip
theorem wk55 {bs : Nat → Addr} : WK Tryd.prog (cx55 bs) kt55 R55 := ⟨tabOK, mixed, ok55⟩
noncomputable def R56 : Code := Tryd.f56.body.getD .skip
theorem wk56 {bs : Nat → Addr} : WK Tryd.prog (cx56 bs) kt56 R56 := ⟨tabOK, mixed, ok56⟩
noncomputable def R57 : Code := Tryd.f57.body.getD .skip
theorem wk57 {bs : Nat → Addr} : WK Tryd.prog (cx57 bs) kt57 R57 := ⟨tabOK, mixed, ok57⟩
noncomputable def R58 : Code := Tryd.f58.body.getD .skip
theorem wk58 {bs : Nat → Addr} : WK Tryd.prog (cx58 bs) kt58 R58 := ⟨tabOK, mixed, ok58⟩
noncomputable def R59 : Code := Tryd.f59.body.getD .skip
theorem wk59 {bs : Nat → Addr} : WK Tryd.prog (cx59 bs) kt59 R59 := ⟨tabOK, mixed, ok59⟩
noncomputable def R60 : Code := Tryd.f60.body.getD .skip
theorem wk60 {bs : Nat → Addr} : WK Tryd.prog (cx60 bs) kt60 R60 := ⟨tabOK, mixed, ok60⟩
noncomputable def R61 : Code := Tryd.f61.body.getD .skip
theorem wk61 {bs : Nat → Addr} : WK Tryd.prog (cx61 bs) kt61 R61 := ⟨tabOK, mixed, ok61⟩
noncomputable def R62 : Code := Tryd.f62.body.getD .skip
theorem wk62 {bs : Nat → Addr} : WK Tryd.prog (cx62 bs) kt62 R62 := ⟨tabOK, mixed, ok62⟩
noncomputable def R63 : Code := Tryd.f63.body.getD .skip
theorem wk63 {bs : Nat → Addr} : WK Tryd.prog (cx63 bs) kt63 R63 := ⟨tabOK, mixed, ok63⟩
noncomputable def R64 : Code := Tryd.f64.body.getD .skip
theorem wk64 {bs : Nat → Addr} : WK Tryd.prog (cx64 bs) kt64 R64 := ⟨tabOK, mixed, ok64⟩
noncomputable def R65 : Code := Tryd.f65.body.getD .skip
theorem wk65 {bs : Nat → Addr} : WK Tryd.prog (cx65 bs) kt65 R65 := ⟨tabOK, mixed, ok65⟩
noncomputable def R66 : Code := Tryd.f66.body.getD .skip
theorem wk66 {bs : Nat → Addr} : WK Tryd.prog (cx66 bs) kt66 R66 := ⟨tabOK, mixed, ok66⟩
noncomputable def R67 : Code := Tryd.f67.body.getD .skip
theorem wk67 {bs : Nat → Addr} : WK Tryd.prog (cx67 bs) kt67 R67 := ⟨tabOK, mixed, ok67⟩
noncomputable def R68 : Code := Tryd.f68.body.getD .skip
theorem wk68 {bs : Nat → Addr} : WK Tryd.prog (cx68 bs) kt68 R68 := ⟨tabOK, mixed, ok68⟩
noncomputable def R69 : Code := Tryd.f69.body.getD .skip
theorem wk69 {bs : Nat → Addr} : WK Tryd.prog (cx69 bs) kt69 R69 := ⟨tabOK, mixed, ok69⟩
theorem run69 {bs : Nat → Addr} {args : List AV} {s : List (Nat × AB)} {R : AV → List (Nat × AB) → Prop} (n : Nat) (ct : List Nat) (hle : Nat.ble args.length 24 = true) (hb : belowB n s = true) (h : run Tryd.prog (cx69 bs) n kt69 ct R69 (KV T Tryd.f69.results.toList n R) 100000 ⟨.code [], [], argEnv 0 args, s⟩) : Contract Tryd.prog (G0 bs) 69 args s R :=
  Contract.of_run (cx := cx69 bs) wk69 Tryd.func69 rfl (enters_of Tryd.func69 (by kernel_rfl) rfl) rfl (Nat.le_of_ble_eq_true hle) hb h
noncomputable def R70 : Code := Tryd.f70.body.getD .skip
theorem wk70 {bs : Nat → Addr} : WK Tryd.prog (cx70 bs) kt70 R70 := ⟨tabOK, mixed, ok70⟩
noncomputable def R71 : Code := Tryd.f71.body.getD .skip
theorem wk71 {bs : Nat → Addr} : WK Tryd.prog (cx71 bs) kt71 R71 := ⟨tabOK, mixed, ok71⟩
noncomputable def R72 : Code := Tryd.f72.body.getD .skip
theorem wk72 {bs : Nat → Addr} : WK Tryd.prog (cx72 bs) kt72 R72 := ⟨tabOK, mixed, ok72⟩
noncomputable def R73 : Code := Tryd.f73.body.getD .skip
theorem wk73 {bs : Nat → Addr} : WK Tryd.prog (cx73 bs) kt73 R73 := ⟨tabOK, mixed, ok73⟩
noncomputable def R74 : Code := Tryd.f74.body.getD .skip
theorem wk74 {bs : Nat → Addr} : WK Tryd.prog (cx74 bs) kt74 R74 := ⟨tabOK, mixed, ok74⟩
noncomputable def R75 : Code := Tryd.f75.body.getD .skip
theorem wk75 {bs : Nat → Addr} : WK Tryd.prog (cx75 bs) kt75 R75 := ⟨tabOK, mixed, ok75⟩
noncomputable def R76 : Code := Tryd.f76.body.getD .skip
theorem wk76 {bs : Nat → Addr} : WK Tryd.prog (cx76 bs) kt76 R76 := ⟨tabOK, mixed, ok76⟩
noncomputable def R77 : Code := Tryd.f77.body.getD .skip
theorem wk77 {bs : Nat → Addr} : WK Tryd.prog (cx77 bs) kt77 R77 := ⟨tabOK, mixed, ok77⟩
noncomputable def R78 : Code := Tryd.f78.body.getD .skip
theorem wk78 {bs : Nat → Addr} : WK Tryd.prog (cx78 bs) kt78 R78 := ⟨tabOK, mixed, ok78⟩
noncomputable def R79 : Code := Tryd.f79.body.getD .skip
theorem wk79 {bs : Nat → Addr} : WK Tryd.prog (cx79 bs) kt79 R79 := ⟨tabOK, mixed, ok79⟩
noncomputable def R80 : Code := Tryd.f80.body.getD .skip
theorem wk80 {bs : Nat → Addr} : WK Tryd.prog (cx80 bs) kt80 R80 := ⟨tabOK, mixed, ok80⟩
noncomputable def R81 : Code := Tryd.f81.body.getD .skip
theorem wk81 {bs : Nat → Addr} : WK Tryd.prog (cx81 bs) kt81 R81 := ⟨tabOK, mixed, ok81⟩
noncomputable def R82 : Code := Tryd.f82.body.getD .skip
theorem wk82 {bs : Nat → Addr} : WK Tryd.prog (cx82 bs) kt82 R82 := ⟨tabOK, mixed, ok82⟩
noncomputable def R112 : Code := Tryd.f112.body.getD .skip
theorem wk112 {bs : Nat → Addr} : WK Tryd.prog (cx112 bs) kt112 R112 := ⟨tabOK, mixed, ok112⟩
noncomputable def R128 : Code := Tryd.f128.body.getD .skip
theorem wk128 {bs : Nat → Addr} : WK Tryd.prog (cx128 bs) kt128 R128 := ⟨tabOK, mixed, ok128⟩
end Go.Proofs.YtpfmnccocmgfmaaDoor
