/- The walk's shells of the program Ytkenimmellonjaa. -/
import Derived.Test.YtkenimmellonjaaFn
import Derived.Test.YtkenimmellonjaaFrD
namespace Go.Proofs.Ytkenimmellonjaa
open Go.Pv Go.RowKit
noncomputable def R2 : Code := Try.f2.body.getD .skip
theorem wk2 : WK Try.prog cx2 kt2 R2 := ⟨tabOK, mixed, ok2⟩
noncomputable def R3 : Code := Try.f3.body.getD .skip
theorem wk3 : WK Try.prog cx3 kt3 R3 := ⟨tabOK, mixed, ok3⟩
noncomputable def R4 : Code := Try.f4.body.getD .skip
theorem wk4 : WK Try.prog cx4 kt4 R4 := ⟨tabOK, mixed, ok4⟩
noncomputable def R5 : Code := Try.f5.body.getD .skip
theorem wk5 : WK Try.prog cx5 kt5 R5 := ⟨tabOK, mixed, ok5⟩
theorem run5 {args : List AV} {s : List (Nat × AB)} {R : AV → List (Nat × AB) → Prop} (n : Nat) (ct : List Nat) (hle : Nat.ble args.length 106 = true) (hb : belowB n s = true) (h : run Try.prog cx5 n kt5 ct R5 (KV T Try.f5.results.toList n R) 100000 ⟨.code [], [], argEnv 0 args, s⟩) : Contract Try.prog G0 5 args s R :=
  Contract.of_run (cx := cx5) wk5 Try.func5 rfl (enters_of Try.func5 (by kernel_rfl) rfl) rfl (Nat.le_of_ble_eq_true hle) hb h
noncomputable def R6 : Code := Try.f6.body.getD .skip
theorem wk6 : WK Try.prog cx6 kt6 R6 := ⟨tabOK, mixed, ok6⟩
theorem run6 {args : List AV} {s : List (Nat × AB)} {R : AV → List (Nat × AB) → Prop} (n : Nat) (ct : List Nat) (hle : Nat.ble args.length 70 = true) (hb : belowB n s = true) (h : run Try.prog cx6 n kt6 ct R6 (KV T Try.f6.results.toList n R) 100000 ⟨.code [], [], argEnv 0 args, s⟩) : Contract Try.prog G0 6 args s R :=
  Contract.of_run (cx := cx6) wk6 Try.func6 rfl (enters_of Try.func6 (by kernel_rfl) rfl) rfl (Nat.le_of_ble_eq_true hle) hb h
noncomputable def R7 : Code := Try.f7.body.getD .skip
theorem wk7 : WK Try.prog cx7 kt7 R7 := ⟨tabOK, mixed, ok7⟩
theorem run7 {args : List AV} {s : List (Nat × AB)} {R : AV → List (Nat × AB) → Prop} (n : Nat) (ct : List Nat) (hle : Nat.ble args.length 118 = true) (hb : belowB n s = true) (h : run Try.prog cx7 n kt7 ct R7 (KV T Try.f7.results.toList n R) 100000 ⟨.code [], [], argEnv 0 args, s⟩) : Contract Try.prog G0 7 args s R :=
  Contract.of_run (cx := cx7) wk7 Try.func7 rfl (enters_of Try.func7 (by kernel_rfl) rfl) rfl (Nat.le_of_ble_eq_true hle) hb h
noncomputable def R8 : Code := Try.f8.body.getD .skip
theorem wk8 : WK Try.prog cx8 kt8 R8 := ⟨tabOK, mixed, ok8⟩
theorem run8 {args : List AV} {s : List (Nat × AB)} {R : AV → List (Nat × AB) → Prop} (n : Nat) (ct : List Nat) (hle : Nat.ble args.length 115 = true) (hb : belowB n s = true) (h : run Try.prog cx8 n kt8 ct R8 (KV T Try.f8.results.toList n R) 100000 ⟨.code [], [], argEnv 0 args, s⟩) : Contract Try.prog G0 8 args s R :=
  Contract.of_run (cx := cx8) wk8 Try.func8 rfl (enters_of Try.func8 (by kernel_rfl) rfl) rfl (Nat.le_of_ble_eq_true hle) hb h
noncomputable def R9 : Code := Try.f9.body.getD .skip
theorem wk9 : WK Try.prog cx9 kt9 R9 := ⟨tabOK, mixed, ok9⟩
theorem run9 {args : List AV} {s : List (Nat × AB)} {R : AV → List (Nat × AB) → Prop} (n : Nat) (ct : List Nat) (hle : Nat.ble args.length 115 = true) (hb : belowB n s = true) (h : run Try.prog cx9 n kt9 ct R9 (KV T Try.f9.results.toList n R) 100000 ⟨.code [], [], argEnv 0 args, s⟩) : Contract Try.prog G0 9 args s R :=
  Contract.of_run (cx := cx9) wk9 Try.func9 rfl (enters_of Try.func9 (by kernel_rfl) rfl) rfl (Nat.le_of_ble_eq_true hle) hb h
noncomputable def R10 : Code := Try.f10.body.getD .skip
theorem wk10 : WK Try.prog cx10 kt10 R10 := ⟨tabOK, mixed, ok10⟩
theorem run10 {args : List AV} {s : List (Nat × AB)} {R : AV → List (Nat × AB) → Prop} (n : Nat) (ct : List Nat) (hle : Nat.ble args.length 123 = true) (hb : belowB n s = true) (h : run Try.prog cx10 n kt10 ct R10 (KV T Try.f10.results.toList n R) 100000 ⟨.code [], [], argEnv 0 args, s⟩) : Contract Try.prog G0 10 args s R :=
  Contract.of_run (cx := cx10) wk10 Try.func10 rfl (enters_of Try.func10 (by kernel_rfl) rfl) rfl (Nat.le_of_ble_eq_true hle) hb h
noncomputable def R11 : Code := Try.f11.body.getD .skip
theorem wk11 : WK Try.prog cx11 kt11 R11 := ⟨tabOK, mixed, ok11⟩
theorem run11 {args : List AV} {s : List (Nat × AB)} {R : AV → List (Nat × AB) → Prop} (n : Nat) (ct : List Nat) (hle : Nat.ble args.length 120 = true) (hb : belowB n s = true) (h : run Try.prog cx11 n kt11 ct R11 (KV T Try.f11.results.toList n R) 100000 ⟨.code [], [], argEnv 0 args, s⟩) : Contract Try.prog G0 11 args s R :=
  Contract.of_run (cx := cx11) wk11 Try.func11 rfl (enters_of Try.func11 (by kernel_rfl) rfl) rfl (Nat.le_of_ble_eq_true hle) hb h
noncomputable def R12 : Code := Try.f12.body.getD .skip
theorem wk12 : WK Try.prog cx12 kt12 R12 := ⟨tabOK, mixed, ok12⟩
theorem run12 {args : List AV} {s : List (Nat × AB)} {R : AV → List (Nat × AB) → Prop} (n : Nat) (ct : List Nat) (hle : Nat.ble args.length 157 = true) (hb : belowB n s = true) (h : run Try.prog cx12 n kt12 ct R12 (KV T Try.f12.results.toList n R) 100000 ⟨.code [], [], argEnv 0 args, s⟩) : Contract Try.prog G0 12 args s R :=
  Contract.of_run (cx := cx12) wk12 Try.func12 rfl (enters_of Try.func12 (by kernel_rfl) rfl) rfl (Nat.le_of_ble_eq_true hle) hb h
noncomputable def R13 : Code := Try.f13.body.getD .skip
theorem wk13 : WK Try.prog cx13 kt13 R13 := ⟨tabOK, mixed, ok13⟩
theorem run13 {args : List AV} {s : List (Nat × AB)} {R : AV → List (Nat × AB) → Prop} (n : Nat) (ct : List Nat) (hle : Nat.ble args.length 169 = true) (hb : belowB n s = true) (h : run Try.prog cx13 n kt13 ct R13 (KV T Try.f13.results.toList n R) 100000 ⟨.code [], [], argEnv 0 args, s⟩) : Contract Try.prog G0 13 args s R :=
  Contract.of_run (cx := cx13) wk13 Try.func13 rfl (enters_of Try.func13 (by kernel_rfl) rfl) rfl (Nat.le_of_ble_eq_true hle) hb h
noncomputable def R14 : Code := Try.f14.body.getD .skip
theorem wk14 : WK Try.prog cx14 kt14 R14 := ⟨tabOK, mixed, ok14⟩
theorem run14 {args : List AV} {s : List (Nat × AB)} {R : AV → List (Nat × AB) → Prop} (n : Nat) (ct : List Nat) (hle : Nat.ble args.length 148 = true) (hb : belowB n s = true) (h : run Try.prog cx14 n kt14 ct R14 (KV T Try.f14.results.toList n R) 100000 ⟨.code [], [], argEnv 0 args, s⟩) : Contract Try.prog G0 14 args s R :=
  Contract.of_run (cx := cx14) wk14 Try.func14 rfl (enters_of Try.func14 (by kernel_rfl) rfl) rfl (Nat.le_of_ble_eq_true hle) hb h
noncomputable def R15 : Code := Try.f15.body.getD .skip
theorem wk15 : WK Try.prog cx15 kt15 R15 := ⟨tabOK, mixed, ok15⟩
theorem run15 {args : List AV} {s : List (Nat × AB)} {R : AV → List (Nat × AB) → Prop} (n : Nat) (ct : List Nat) (hle : Nat.ble args.length 185 = true) (hb : belowB n s = true) (h : run Try.prog cx15 n kt15 ct R15 (KV T Try.f15.results.toList n R) 100000 ⟨.code [], [], argEnv 0 args, s⟩) : Contract Try.prog G0 15 args s R :=
  Contract.of_run (cx := cx15) wk15 Try.func15 rfl (enters_of Try.func15 (by kernel_rfl) rfl) rfl (Nat.le_of_ble_eq_true hle) hb h
noncomputable def R16 : Code := Try.f16.body.getD .skip
theorem wk16 : WK Try.prog cx16 kt16 R16 := ⟨tabOK, mixed, ok16⟩
theorem run16 {args : List AV} {s : List (Nat × AB)} {R : AV → List (Nat × AB) → Prop} (n : Nat) (ct : List Nat) (hle : Nat.ble args.length 130 = true) (hb : belowB n s = true) (h : run Try.prog cx16 n kt16 ct R16 (KV T Try.f16.results.toList n R) 100000 ⟨.code [], [], argEnv 0 args, s⟩) : Contract Try.prog G0 16 args s R :=
  Contract.of_run (cx := cx16) wk16 Try.func16 rfl (enters_of Try.func16 (by kernel_rfl) rfl) rfl (Nat.le_of_ble_eq_true hle) hb h
noncomputable def R17 : Code := Try.f17.body.getD .skip
theorem wk17 : WK Try.prog cx17 kt17 R17 := ⟨tabOK, mixed, ok17⟩
theorem run17 {args : List AV} {s : List (Nat × AB)} {R : AV → List (Nat × AB) → Prop} (n : Nat) (ct : List Nat) (hle : Nat.ble args.length 388 = true) (hb : belowB n s = true) (h : run Try.prog cx17 n kt17 ct R17 (KV T Try.f17.results.toList n R) 100000 ⟨.code [], [], argEnv 0 args, s⟩) : Contract Try.prog G0 17 args s R :=
  Contract.of_run (cx := cx17) wk17 Try.func17 rfl (enters_of Try.func17 (by kernel_rfl) rfl) rfl (Nat.le_of_ble_eq_true hle) hb h
noncomputable def R18 : Code := Try.f18.body.getD .skip
theorem wk18 : WK Try.prog cx18 kt18 R18 := ⟨tabOK, mixed, ok18⟩
noncomputable def R19 : Code := Try.f19.body.getD .skip
theorem wk19 : WK Try.prog cx19 kt19 R19 := ⟨tabOK, mixed, ok19⟩
noncomputable def R20 : Code := Try.f20.body.getD .skip
theorem wk20 : WK Try.prog cx20 kt20 R20 := ⟨tabOK, mixed, ok20⟩
noncomputable def R21 : Code := Try.f21.body.getD .skip
theorem wk21 : WK Try.prog cx21 kt21 R21 := ⟨tabOK, mixed, ok21⟩
noncomputable def R22 : Code := Try.f22.body.getD .skip
theorem wk22 : WK Try.prog cx22 kt22 R22 := ⟨tabOK, mixed, ok22⟩
noncomputable def R23 : Code := Try.f23.body.getD .skip
theorem wk23 : WK Try.prog cx23 kt23 R23 := ⟨tabOK, mixed, ok23⟩
noncomputable def R24 : Code := Try.f24.body.getD .skip
theorem wk24 : WK Try.prog cx24 kt24 R24 := ⟨tabOK, mixed, ok24⟩
noncomputable def R25 : Code := Try.f25.body.getD .skip
theorem wk25 : WK Try.prog cx25 kt25 R25 := ⟨tabOK, mixed, ok25⟩
theorem run25 {args : List AV} {s : List (Nat × AB)} {R : AV → List (Nat × AB) → Prop} (n : Nat) (ct : List Nat) (hle : Nat.ble args.length 16 = true) (hb : belowB n s = true) (h : run Try.prog cx25 n kt25 ct R25 (KV T Try.f25.results.toList n R) 100000 ⟨.code [], [], argEnv 0 args, s⟩) : Contract Try.prog G0 25 args s R :=
  Contract.of_run (cx := cx25) wk25 Try.func25 rfl (enters_of Try.func25 (by kernel_rfl) rfl) rfl (Nat.le_of_ble_eq_true hle) hb h
noncomputable def R26 : Code := Try.f26.body.getD .skip
theorem wk26 : WK Try.prog cx26 kt26 R26 := ⟨tabOK, mixed, ok26⟩
theorem run26 {args : List AV} {s : List (Nat × AB)} {R : AV → List (Nat × AB) → Prop} (n : Nat) (ct : List Nat) (hle : Nat.ble args.length 29 = true) (hb : belowB n s = true) (h : run Try.prog cx26 n kt26 ct R26 (KV T Try.f26.results.toList n R) 100000 ⟨.code [], [], argEnv 0 args, s⟩) : Contract Try.prog G0 26 args s R :=
  Contract.of_run (cx := cx26) wk26 Try.func26 rfl (enters_of Try.func26 (by kernel_rfl) rfl) rfl (Nat.le_of_ble_eq_true hle) hb h
noncomputable def R27 : Code := Try.f27.body.getD .skip
theorem wk27 : WK Try.prog cx27 kt27 R27 := ⟨tabOK, mixed, ok27⟩
theorem run27 {args : List AV} {s : List (Nat × AB)} {R : AV → List (Nat × AB) → Prop} (n : Nat) (ct : List Nat) (hle : Nat.ble args.length 9 = true) (hb : belowB n s = true) (h : run Try.prog cx27 n kt27 ct R27 (KV T Try.f27.results.toList n R) 100000 ⟨.code [], [], argEnv 0 args, s⟩) : Contract Try.prog G0 27 args s R :=
  Contract.of_run (cx := cx27) wk27 Try.func27 rfl (enters_of Try.func27 (by kernel_rfl) rfl) rfl (Nat.le_of_ble_eq_true hle) hb h
theorem rung27 {args : List AV} {s : List (Nat × AB)} {R : AV → List (Nat × AB) → Prop} (n : Nat) (ct : List Nat) (hle : Nat.ble args.length 9 = true) (hb : belowB n s = true) (h : run Try.prog cx27 n kt27 ct R27 (KG cx27 Try.f27.results.toList n R) 100000 ⟨.code [], [], argEnv 0 args, s⟩) : Contract Try.prog G0 27 args s R :=
  Contract.of_runG (cx := cx27) wk27 Try.func27 rfl (enters_of Try.func27 (by kernel_rfl) rfl) rfl (Nat.le_of_ble_eq_true hle) hb h
noncomputable def R28 : Code := Try.f28.body.getD .skip
theorem wk28 : WK Try.prog cx28 kt28 R28 := ⟨tabOK, mixed, ok28⟩
theorem run28 {args : List AV} {s : List (Nat × AB)} {R : AV → List (Nat × AB) → Prop} (n : Nat) (ct : List Nat) (hle : Nat.ble args.length 9 = true) (hb : belowB n s = true) (h : run Try.prog cx28 n kt28 ct R28 (KV T Try.f28.results.toList n R) 100000 ⟨.code [], [], argEnv 0 args, s⟩) : Contract Try.prog G0 28 args s R :=
  Contract.of_run (cx := cx28) wk28 Try.func28 rfl (enters_of Try.func28 (by kernel_rfl) rfl) rfl (Nat.le_of_ble_eq_true hle) hb h
noncomputable def R29 : Code := Try.f29.body.getD .skip
theorem wk29 : WK Try.prog cx29 kt29 R29 := ⟨tabOK, mixed, ok29⟩
theorem run29 {args : List AV} {s : List (Nat × AB)} {R : AV → List (Nat × AB) → Prop} (n : Nat) (ct : List Nat) (hle : Nat.ble args.length 17 = true) (hb : belowB n s = true) (h : run Try.prog cx29 n kt29 ct R29 (KV T Try.f29.results.toList n R) 100000 ⟨.code [], [], argEnv 0 args, s⟩) : Contract Try.prog G0 29 args s R :=
  Contract.of_run (cx := cx29) wk29 Try.func29 rfl (enters_of Try.func29 (by kernel_rfl) rfl) rfl (Nat.le_of_ble_eq_true hle) hb h
noncomputable def R30 : Code := Try.f30.body.getD .skip
theorem wk30 : WK Try.prog cx30 kt30 R30 := ⟨tabOK, mixed, ok30⟩
theorem run30 {args : List AV} {s : List (Nat × AB)} {R : AV → List (Nat × AB) → Prop} (n : Nat) (ct : List Nat) (hle : Nat.ble args.length 29 = true) (hb : belowB n s = true) (h : run Try.prog cx30 n kt30 ct R30 (KV T Try.f30.results.toList n R) 100000 ⟨.code [], [], argEnv 0 args, s⟩) : Contract Try.prog G0 30 args s R :=
  Contract.of_run (cx := cx30) wk30 Try.func30 rfl (enters_of Try.func30 (by kernel_rfl) rfl) rfl (Nat.le_of_ble_eq_true hle) hb h
noncomputable def R31 : Code := Try.f31.body.getD .skip
theorem wk31 : WK Try.prog cx31 kt31 R31 := ⟨tabOK, mixed, ok31⟩
theorem run31 {args : List AV} {s : List (Nat × AB)} {R : AV → List (Nat × AB) → Prop} (n : Nat) (ct : List Nat) (hle : Nat.ble args.length 8 = true) (hb : belowB n s = true) (h : run Try.prog cx31 n kt31 ct R31 (KV T Try.f31.results.toList n R) 100000 ⟨.code [], [], argEnv 0 args, s⟩) : Contract Try.prog G0 31 args s R :=
  Contract.of_run (cx := cx31) wk31 Try.func31 rfl (enters_of Try.func31 (by kernel_rfl) rfl) rfl (Nat.le_of_ble_eq_true hle) hb h
noncomputable def R32 : Code := Try.f32.body.getD .skip
theorem wk32 : WK Try.prog cx32 kt32 R32 := ⟨tabOK, mixed, ok32⟩
theorem run32 {args : List AV} {s : List (Nat × AB)} {R : AV → List (Nat × AB) → Prop} (n : Nat) (ct : List Nat) (hle : Nat.ble args.length 47 = true) (hb : belowB n s = true) (h : run Try.prog cx32 n kt32 ct R32 (KV T Try.f32.results.toList n R) 100000 ⟨.code [], [], argEnv 0 args, s⟩) : Contract Try.prog G0 32 args s R :=
  Contract.of_run (cx := cx32) wk32 Try.func32 rfl (enters_of Try.func32 (by kernel_rfl) rfl) rfl (Nat.le_of_ble_eq_true hle) hb h
noncomputable def R33 : Code := Try.f33.body.getD .skip
theorem wk33 : WK Try.prog cx33 kt33 R33 := ⟨tabOK, mixed, ok33⟩
theorem run33 {args : List AV} {s : List (Nat × AB)} {R : AV → List (Nat × AB) → Prop} (n : Nat) (ct : List Nat) (hle : Nat.ble args.length 42 = true) (hb : belowB n s = true) (h : run Try.prog cx33 n kt33 ct R33 (KV T Try.f33.results.toList n R) 100000 ⟨.code [], [], argEnv 0 args, s⟩) : Contract Try.prog G0 33 args s R :=
  Contract.of_run (cx := cx33) wk33 Try.func33 rfl (enters_of Try.func33 (by kernel_rfl) rfl) rfl (Nat.le_of_ble_eq_true hle) hb h
noncomputable def R34 : Code := Try.f34.body.getD .skip
theorem wk34 : WK Try.prog cx34 kt34 R34 := ⟨tabOK, mixed, ok34⟩
theorem run34 {args : List AV} {s : List (Nat × AB)} {R : AV → List (Nat × AB) → Prop} (n : Nat) (ct : List Nat) (hle : Nat.ble args.length 29 = true) (hb : belowB n s = true) (h : run Try.prog cx34 n kt34 ct R34 (KV T Try.f34.results.toList n R) 100000 ⟨.code [], [], argEnv 0 args, s⟩) : Contract Try.prog G0 34 args s R :=
  Contract.of_run (cx := cx34) wk34 Try.func34 rfl (enters_of Try.func34 (by kernel_rfl) rfl) rfl (Nat.le_of_ble_eq_true hle) hb h
noncomputable def R35 : Code := Try.f35.body.getD .skip
theorem wk35 : WK Try.prog cx35 kt35 R35 := ⟨tabOK, mixed, ok35⟩
theorem run35 {args : List AV} {s : List (Nat × AB)} {R : AV → List (Nat × AB) → Prop} (n : Nat) (ct : List Nat) (hle : Nat.ble args.length 11 = true) (hb : belowB n s = true) (h : run Try.prog cx35 n kt35 ct R35 (KV T Try.f35.results.toList n R) 100000 ⟨.code [], [], argEnv 0 args, s⟩) : Contract Try.prog G0 35 args s R :=
  Contract.of_run (cx := cx35) wk35 Try.func35 rfl (enters_of Try.func35 (by kernel_rfl) rfl) rfl (Nat.le_of_ble_eq_true hle) hb h
noncomputable def R36 : Code := Try.f36.body.getD .skip
theorem wk36 : WK Try.prog cx36 kt36 R36 := ⟨tabOK, mixed, ok36⟩
theorem run36 {args : List AV} {s : List (Nat × AB)} {R : AV → List (Nat × AB) → Prop} (n : Nat) (ct : List Nat) (hle : Nat.ble args.length 9 = true) (hb : belowB n s = true) (h : run Try.prog cx36 n kt36 ct R36 (KV T Try.f36.results.toList n R) 100000 ⟨.code [], [], argEnv 0 args, s⟩) : Contract Try.prog G0 36 args s R :=
  Contract.of_run (cx := cx36) wk36 Try.func36 rfl (enters_of Try.func36 (by kernel_rfl) rfl) rfl (Nat.le_of_ble_eq_true hle) hb h
noncomputable def R37 : Code := Try.f37.body.getD .skip
theorem wk37 : WK Try.prog cx37 kt37 R37 := ⟨tabOK, mixed, ok37⟩
theorem run37 {args : List AV} {s : List (Nat × AB)} {R : AV → List (Nat × AB) → Prop} (n : Nat) (ct : List Nat) (hle : Nat.ble args.length 6 = true) (hb : belowB n s = true) (h : run Try.prog cx37 n kt37 ct R37 (KV T Try.f37.results.toList n R) 100000 ⟨.code [], [], argEnv 0 args, s⟩) : Contract Try.prog G0 37 args s R :=
  Contract.of_run (cx := cx37) wk37 Try.func37 rfl (enters_of Try.func37 (by kernel_rfl) rfl) rfl (Nat.le_of_ble_eq_true hle) hb h
noncomputable def R38 : Code := Try.f38.body.getD .skip
theorem wk38 : WK Try.prog cx38 kt38 R38 := ⟨tabOK, mixed, ok38⟩
theorem run38 {args : List AV} {s : List (Nat × AB)} {R : AV → List (Nat × AB) → Prop} (n : Nat) (ct : List Nat) (hle : Nat.ble args.length 6 = true) (hb : belowB n s = true) (h : run Try.prog cx38 n kt38 ct R38 (KV T Try.f38.results.toList n R) 100000 ⟨.code [], [], argEnv 0 args, s⟩) : Contract Try.prog G0 38 args s R :=
  Contract.of_run (cx := cx38) wk38 Try.func38 rfl (enters_of Try.func38 (by kernel_rfl) rfl) rfl (Nat.le_of_ble_eq_true hle) hb h
noncomputable def R39 : Code := Try.f39.body.getD .skip
theorem wk39 : WK Try.prog cx39 kt39 R39 := ⟨tabOK, mixed, ok39⟩
theorem rung39 {args : List AV} {s : List (Nat × AB)} {R : AV → List (Nat × AB) → Prop} (n : Nat) (ct : List Nat) (hle : Nat.ble args.length 47 = true) (hb : belowB n s = true) (h : run Try.prog cx39 n kt39 ct R39 (KG cx39 Try.f39.results.toList n R) 100000 ⟨.code [], [], argEnv 0 args, s⟩) : Contract Try.prog G0 39 args s R :=
  Contract.of_runG (cx := cx39) wk39 Try.func39 rfl (enters_of Try.func39 (by kernel_rfl) rfl) rfl (Nat.le_of_ble_eq_true hle) hb h
noncomputable def R40 : Code := Try.f40.body.getD .skip
theorem wk40 : WK Try.prog cx40 kt40 R40 := ⟨tabOK, mixed, ok40⟩
theorem rung40 {args : List AV} {s : List (Nat × AB)} {R : AV → List (Nat × AB) → Prop} (n : Nat) (ct : List Nat) (hle : Nat.ble args.length 18 = true) (hb : belowB n s = true) (h : run Try.prog cx40 n kt40 ct R40 (KG cx40 Try.f40.results.toList n R) 100000 ⟨.code [], [], argEnv 0 args, s⟩) : Contract Try.prog G0 40 args s R :=
  Contract.of_runG (cx := cx40) wk40 Try.func40 rfl (enters_of Try.func40 (by kernel_rfl) rfl) rfl (Nat.le_of_ble_eq_true hle) hb h
noncomputable def R41 : Code := Try.f41.body.getD .skip
theorem wk41 : WK Try.prog cx41 kt41 R41 := ⟨tabOK, mixed, ok41⟩
theorem run41 {args : List AV} {s : List (Nat × AB)} {R : AV → List (Nat × AB) → Prop} (n : Nat) (ct : List Nat) (hle : Nat.ble args.length 30 = true) (hb : belowB n s = true) (h : run Try.prog cx41 n kt41 ct R41 (KV T Try.f41.results.toList n R) 100000 ⟨.code [], [], argEnv 0 args, s⟩) : Contract Try.prog G0 41 args s R :=
  Contract.of_run (cx := cx41) wk41 Try.func41 rfl (enters_of Try.func41 (by kernel_rfl) rfl) rfl (Nat.le_of_ble_eq_true hle) hb h
noncomputable def R42 : Code := Try.f42.body.getD .skip
theorem wk42 : WK Try.prog cx42 kt42 R42 := ⟨tabOK, mixed, ok42⟩
noncomputable def R43 : Code := Try.f43.body.getD .skip
theorem wk43 : WK Try.prog cx43 kt43 R43 := ⟨tabOK, mixed, ok43⟩
noncomputable def R44 : Code := Try.f44.body.getD .skip
theorem wk44 : WK Try.prog cx44 kt44 R44 := ⟨tabOK, mixed, ok44⟩
noncomputable def R45 : Code := Try.f45.body.getD .skip
theorem wk45 : WK Try.prog cx45 kt45 R45 := ⟨tabOK, mixed, ok45⟩
theorem run45 {args : List AV} {s : List (Nat × AB)} {R : AV → List (Nat × AB) → Prop} (n : Nat) (ct : List Nat) (hle : Nat.ble args.length 18 = true) (hb : belowB n s = true) (h : run Try.prog cx45 n kt45 ct R45 (KV T Try.f45.results.toList n R) 100000 ⟨.code [], [], argEnv 0 args, s⟩) : Contract Try.prog G0 45 args s R :=
  Contract.of_run (cx := cx45) wk45 Try.func45 rfl (enters_of Try.func45 (by kernel_rfl) rfl) rfl (Nat.le_of_ble_eq_true hle) hb h
noncomputable def R46 : Code := Try.f46.body.getD .skip
theorem wk46 : WK Try.prog cx46 kt46 R46 := ⟨tabOK, mixed, ok46⟩
theorem run46 {args : List AV} {s : List (Nat × AB)} {R : AV → List (Nat × AB) → Prop} (n : Nat) (ct : List Nat) (hle : Nat.ble args.length 8 = true) (hb : belowB n s = true) (h : run Try.prog cx46 n kt46 ct R46 (KV T Try.f46.results.toList n R) 100000 ⟨.code [], [], argEnv 0 args, s⟩) : Contract Try.prog G0 46 args s R :=
  Contract.of_run (cx := cx46) wk46 Try.func46 rfl (enters_of Try.func46 (by kernel_rfl) rfl) rfl (Nat.le_of_ble_eq_true hle) hb h
noncomputable def R47 : Code := Try.f47.body.getD .skip
theorem wk47 : WK Try.prog cx47 kt47 R47 := ⟨tabOK, mixed, ok47⟩
theorem run47 {args : List AV} {s : List (Nat × AB)} {R : AV → List (Nat × AB) → Prop} (n : Nat) (ct : List Nat) (hle : Nat.ble args.length 28 = true) (hb : belowB n s = true) (h : run Try.prog cx47 n kt47 ct R47 (KV T Try.f47.results.toList n R) 100000 ⟨.code [], [], argEnv 0 args, s⟩) : Contract Try.prog G0 47 args s R :=
  Contract.of_run (cx := cx47) wk47 Try.func47 rfl (enters_of Try.func47 (by kernel_rfl) rfl) rfl (Nat.le_of_ble_eq_true hle) hb h
noncomputable def R48 : Code := Try.f48.body.getD .skip
theorem wk48 : WK Try.prog cx48 kt48 R48 := ⟨tabOK, mixed, ok48⟩
theorem run48 {args : List AV} {s : List (Nat × AB)} {R : AV → List (Nat × AB) → Prop} (n : Nat) (ct : List Nat) (hle : Nat.ble args.length 34 = true) (hb : belowB n s = true) (h : run Try.prog cx48 n kt48 ct R48 (KV T Try.f48.results.toList n R) 100000 ⟨.code [], [], argEnv 0 args, s⟩) : Contract Try.prog G0 48 args s R :=
  Contract.of_run (cx := cx48) wk48 Try.func48 rfl (enters_of Try.func48 (by kernel_rfl) rfl) rfl (Nat.le_of_ble_eq_true hle) hb h
noncomputable def R49 : Code := Try.f49.body.getD .skip
theorem wk49 : WK Try.prog cx49 kt49 R49 := ⟨tabOK, mixed, ok49⟩
theorem run49 {args : List AV} {s : List (Nat × AB)} {R : AV → List (Nat × AB) → Prop} (n : Nat) (ct : List Nat) (hle : Nat.ble args.length 61 = true) (hb : belowB n s = true) (h : run Try.prog cx49 n kt49 ct R49 (KV T Try.f49.results.toList n R) 100000 ⟨.code [], [], argEnv 0 args, s⟩) : Contract Try.prog G0 49 args s R :=
  Contract.of_run (cx := cx49) wk49 Try.func49 rfl (enters_of Try.func49 (by kernel_rfl) rfl) rfl (Nat.le_of_ble_eq_true hle) hb h
noncomputable def R50 : Code := Try.f50.body.getD .skip
theorem wk50 : WK Try.prog cx50 kt50 R50 := ⟨tabOK, mixed, ok50⟩
theorem run50 {args : List AV} {s : List (Nat × AB)} {R : AV → List (Nat × AB) → Prop} (n : Nat) (ct : List Nat) (hle : Nat.ble args.length 31 = true) (hb : belowB n s = true) (h : run Try.prog cx50 n kt50 ct R50 (KV T Try.f50.results.toList n R) 100000 ⟨.code [], [], argEnv 0 args, s⟩) : Contract Try.prog G0 50 args s R :=
  Contract.of_run (cx := cx50) wk50 Try.func50 rfl (enters_of Try.func50 (by kernel_rfl) rfl) rfl (Nat.le_of_ble_eq_true hle) hb h
noncomputable def R51 : Code := Try.f51.body.getD .skip
theorem wk51 : WK Try.prog cx51 kt51 R51 := ⟨tabOK, mixed, ok51⟩
theorem run51 {args : List AV} {s : List (Nat × AB)} {R : AV → List (Nat × AB) → Prop} (n : Nat) (ct : List Nat) (hle : Nat.ble args.length 10 = true) (hb : belowB n s = true) (h : run Try.prog cx51 n kt51 ct R51 (KV T Try.f51.results.toList n R) 100000 ⟨.code [], [], argEnv 0 args, s⟩) : Contract Try.prog G0 51 args s R :=
  Contract.of_run (cx := cx51) wk51 Try.func51 rfl (enters_of Try.func51 (by kernel_rfl) rfl) rfl (Nat.le_of_ble_eq_true hle) hb h
noncomputable def R52 : Code := Try.f52.body.getD .skip
theorem wk52 : WK Try.prog cx52 kt52 R52 := ⟨tabOK, mixed, ok52⟩
theorem rung52 {args : List AV} {s : List (Nat × AB)} {R : AV → List (Nat × AB) → Prop} (n : Nat) (ct : List Nat) (hle : Nat.ble args.length 57 = true) (hb : belowB n s = true) (h : run Try.prog cx52 n kt52 ct R52 (KG cx52 Try.f52.results.toList n R) 100000 ⟨.code [], [], argEnv 0 args, s⟩) : Contract Try.prog G0 52 args s R :=
  Contract.of_runG (cx := cx52) wk52 Try.func52 rfl (enters_of Try.func52 (by kernel_rfl) rfl) rfl (Nat.le_of_ble_eq_true hle) hb h
noncomputable def R53 : Code := Try.f53.body.getD .skip
theorem wk53 : WK Try.prog cx53 kt53 R53 := ⟨tabOK, mixed, ok53⟩
theorem rung53 {args : List AV} {s : List (Nat × AB)} {R : AV → List (Nat × AB) → Prop} (n : Nat) (ct : List Nat) (hle : Nat.ble args.length 35 = true) (hb : belowB n s = true) (h : run Try.prog cx53 n kt53 ct R53 (KG cx53 Try.f53.results.toList n R) 100000 ⟨.code [], [], argEnv 0 args, s⟩) : Contract Try.prog G0 53 args s R :=
  Contract.of_runG (cx := cx53) wk53 Try.func53 rfl (enters_of Try.func53 (by kernel_rfl) rfl) rfl (Nat.le_of_ble_eq_true hle) hb h
noncomputable def R54 : Code := Try.f54.body.getD .skip
theorem wk54 : WK Try.prog cx54 kt54 R54 := ⟨tabOK, mixed, ok54⟩
theorem run54 {args : List AV} {s : List (Nat × AB)} {R : AV → List (Nat × AB) → Prop} (n : Nat) (ct : List Nat) (hle : Nat.ble args.length 15 = true) (hb : belowB n s = true) (h : run Try.prog cx54 n kt54 ct R54 (KV T Try.f54.results.toList n R) 100000 ⟨.code [], [], argEnv 0 args, s⟩) : Contract Try.prog G0 54 args s R :=
  Contract.of_run (cx := cx54) wk54 Try.func54 rfl (enters_of Try.func54 (by kernel_rfl) rfl) rfl (Nat.le_of_ble_eq_true hle) hb h
noncomputable def R55 : Code := Try.f55.body.getD .skip
theorem wk55 : WK Try.prog cx55 kt55 R55 := ⟨tabOK, mixed, ok55⟩
theorem rung55 {args : List AV} {s : List (Nat × AB)} {R : AV → List (Nat × AB) → Prop} (n : Nat) (ct : List Nat) (hle : Nat.ble args.length 27 = true) (hb : belowB n s = true) (h : run Try.prog cx55 n kt55 ct R55 (KG cx55 Try.f55.results.toList n R) 100000 ⟨.code [], [], argEnv 0 args, s⟩) : Contract Try.prog G0 55 args s R :=
  Contract.of_runG (cx := cx55) wk55 Try.func55 rfl (enters_of Try.func55 (by kernel_rfl) rfl) rfl (Nat.le_of_ble_eq_true hle) hb h
noncomputable def R56 : Code := Try.f56.body.getD .skip
theorem wk56 : WK Try.prog cx56 kt56 R56 := ⟨tabOK, mixed, ok56⟩
theorem run56 {args : List AV} {s : List (Nat × AB)} {R : AV → List (Nat × AB) → Prop} (n : Nat) (ct : List Nat) (hle : Nat.ble args.length 19 = true) (hb : belowB n s = true) (h : run Try.prog cx56 n kt56 ct R56 (KV T Try.f56.results.toList n R) 100000 ⟨.code [], [], argEnv 0 args, s⟩) : Contract Try.prog G0 56 args s R :=
  Contract.of_run (cx := cx56) wk56 Try.func56 rfl (enters_of Try.func56 (by kernel_rfl) rfl) rfl (Nat.le_of_ble_eq_true hle) hb h
noncomputable def R57 : Code := Try.f57.body.getD .skip
theorem wk57 : WK Try.prog cx57 kt57 R57 := ⟨tabOK, mixed, ok57⟩
theorem run57 {args : List AV} {s : List (Nat × AB)} {R : AV → List (Nat × AB) → Prop} (n : Nat) (ct : List Nat) (hle : Nat.ble args.length 17 = true) (hb : belowB n s = true) (h : run Try.prog cx57 n kt57 ct R57 (KV T Try.f57.results.toList n R) 100000 ⟨.code [], [], argEnv 0 args, s⟩) : Contract Try.prog G0 57 args s R :=
  Contract.of_run (cx := cx57) wk57 Try.func57 rfl (enters_of Try.func57 (by kernel_rfl) rfl) rfl (Nat.le_of_ble_eq_true hle) hb h
noncomputable def R58 : Code := Try.f58.body.getD .skip
theorem wk58 : WK Try.prog cx58 kt58 R58 := ⟨tabOK, mixed, ok58⟩
theorem run58 {args : List AV} {s : List (Nat × AB)} {R : AV → List (Nat × AB) → Prop} (n : Nat) (ct : List Nat) (hle : Nat.ble args.length 17 = true) (hb : belowB n s = true) (h : run Try.prog cx58 n kt58 ct R58 (KV T Try.f58.results.toList n R) 100000 ⟨.code [], [], argEnv 0 args, s⟩) : Contract Try.prog G0 58 args s R :=
  Contract.of_run (cx := cx58) wk58 Try.func58 rfl (enters_of Try.func58 (by kernel_rfl) rfl) rfl (Nat.le_of_ble_eq_true hle) hb h
noncomputable def R59 : Code := Try.f59.body.getD .skip
theorem wk59 : WK Try.prog cx59 kt59 R59 := ⟨tabOK, mixed, ok59⟩
theorem run59 {args : List AV} {s : List (Nat × AB)} {R : AV → List (Nat × AB) → Prop} (n : Nat) (ct : List Nat) (hle : Nat.ble args.length 24 = true) (hb : belowB n s = true) (h : run Try.prog cx59 n kt59 ct R59 (KV T Try.f59.results.toList n R) 100000 ⟨.code [], [], argEnv 0 args, s⟩) : Contract Try.prog G0 59 args s R :=
  Contract.of_run (cx := cx59) wk59 Try.func59 rfl (enters_of Try.func59 (by kernel_rfl) rfl) rfl (Nat.le_of_ble_eq_true hle) hb h
noncomputable def R60 : Code := Try.f60.body.getD .skip
theorem wk60 : WK Try.prog cx60 kt60 R60 := ⟨tabOK, mixed, ok60⟩
theorem run60 {args : List AV} {s : List (Nat × AB)} {R : AV → List (Nat × AB) → Prop} (n : Nat) (ct : List Nat) (hle : Nat.ble args.length 44 = true) (hb : belowB n s = true) (h : run Try.prog cx60 n kt60 ct R60 (KV T Try.f60.results.toList n R) 100000 ⟨.code [], [], argEnv 0 args, s⟩) : Contract Try.prog G0 60 args s R :=
  Contract.of_run (cx := cx60) wk60 Try.func60 rfl (enters_of Try.func60 (by kernel_rfl) rfl) rfl (Nat.le_of_ble_eq_true hle) hb h
noncomputable def R61 : Code := Try.f61.body.getD .skip
theorem wk61 : WK Try.prog cx61 kt61 R61 := ⟨tabOK, mixed, ok61⟩
theorem run61 {args : List AV} {s : List (Nat × AB)} {R : AV → List (Nat × AB) → Prop} (n : Nat) (ct : List Nat) (hle : Nat.ble args.length 65 = true) (hb : belowB n s = true) (h : run Try.prog cx61 n kt61 ct R61 (KV T Try.f61.results.toList n R) 100000 ⟨.code [], [], argEnv 0 args, s⟩) : Contract Try.prog G0 61 args s R :=
  Contract.of_run (cx := cx61) wk61 Try.func61 rfl (enters_of Try.func61 (by kernel_rfl) rfl) rfl (Nat.le_of_ble_eq_true hle) hb h
noncomputable def R62 : Code := Try.f62.body.getD .skip
theorem wk62 : WK Try.prog cx62 kt62 R62 := ⟨tabOK, mixed, ok62⟩
theorem run62 {args : List AV} {s : List (Nat × AB)} {R : AV → List (Nat × AB) → Prop} (n : Nat) (ct : List Nat) (hle : Nat.ble args.length 13 = true) (hb : belowB n s = true) (h : run Try.prog cx62 n kt62 ct R62 (KV T Try.f62.results.toList n R) 100000 ⟨.code [], [], argEnv 0 args, s⟩) : Contract Try.prog G0 62 args s R :=
  Contract.of_run (cx := cx62) wk62 Try.func62 rfl (enters_of Try.func62 (by kernel_rfl) rfl) rfl (Nat.le_of_ble_eq_true hle) hb h
noncomputable def R63 : Code := Try.f63.body.getD .skip
theorem wk63 : WK Try.prog cx63 kt63 R63 := ⟨tabOK, mixed, ok63⟩
theorem run63 {args : List AV} {s : List (Nat × AB)} {R : AV → List (Nat × AB) → Prop} (n : Nat) (ct : List Nat) (hle : Nat.ble args.length 50 = true) (hb : belowB n s = true) (h : run Try.prog cx63 n kt63 ct R63 (KV T Try.f63.results.toList n R) 100000 ⟨.code [], [], argEnv 0 args, s⟩) : Contract Try.prog G0 63 args s R :=
  Contract.of_run (cx := cx63) wk63 Try.func63 rfl (enters_of Try.func63 (by kernel_rfl) rfl) rfl (Nat.le_of_ble_eq_true hle) hb h
noncomputable def R64 : Code := Try.f64.body.getD .skip
theorem wk64 : WK Try.prog cx64 kt64 R64 := ⟨tabOK, mixed, ok64⟩
theorem run64 {args : List AV} {s : List (Nat × AB)} {R : AV → List (Nat × AB) → Prop} (n : Nat) (ct : List Nat) (hle : Nat.ble args.length 24 = true) (hb : belowB n s = true) (h : run Try.prog cx64 n kt64 ct R64 (KV T Try.f64.results.toList n R) 100000 ⟨.code [], [], argEnv 0 args, s⟩) : Contract Try.prog G0 64 args s R :=
  Contract.of_run (cx := cx64) wk64 Try.func64 rfl (enters_of Try.func64 (by kernel_rfl) rfl) rfl (Nat.le_of_ble_eq_true hle) hb h
noncomputable def R65 : Code := Try.f65.body.getD .skip
theorem wk65 : WK Try.prog cx65 kt65 R65 := ⟨tabOK, mixed, ok65⟩
theorem run65 {args : List AV} {s : List (Nat × AB)} {R : AV → List (Nat × AB) → Prop} (n : Nat) (ct : List Nat) (hle : Nat.ble args.length 9 = true) (hb : belowB n s = true) (h : run Try.prog cx65 n kt65 ct R65 (KV T Try.f65.results.toList n R) 100000 ⟨.code [], [], argEnv 0 args, s⟩) : Contract Try.prog G0 65 args s R :=
  Contract.of_run (cx := cx65) wk65 Try.func65 rfl (enters_of Try.func65 (by kernel_rfl) rfl) rfl (Nat.le_of_ble_eq_true hle) hb h
noncomputable def R66 : Code := Try.f66.body.getD .skip
theorem wk66 : WK Try.prog cx66 kt66 R66 := ⟨tabOK, mixed, ok66⟩
theorem run66 {args : List AV} {s : List (Nat × AB)} {R : AV → List (Nat × AB) → Prop} (n : Nat) (ct : List Nat) (hle : Nat.ble args.length 15 = true) (hb : belowB n s = true) (h : run Try.prog cx66 n kt66 ct R66 (KV T Try.f66.results.toList n R) 100000 ⟨.code [], [], argEnv 0 args, s⟩) : Contract Try.prog G0 66 args s R :=
  Contract.of_run (cx := cx66) wk66 Try.func66 rfl (enters_of Try.func66 (by kernel_rfl) rfl) rfl (Nat.le_of_ble_eq_true hle) hb h
noncomputable def R67 : Code := Try.f67.body.getD .skip
theorem wk67 : WK Try.prog cx67 kt67 R67 := ⟨tabOK, mixed, ok67⟩
theorem rung67 {args : List AV} {s : List (Nat × AB)} {R : AV → List (Nat × AB) → Prop} (n : Nat) (ct : List Nat) (hle : Nat.ble args.length 8 = true) (hb : belowB n s = true) (h : run Try.prog cx67 n kt67 ct R67 (KG cx67 Try.f67.results.toList n R) 100000 ⟨.code [], [], argEnv 0 args, s⟩) : Contract Try.prog G0 67 args s R :=
  Contract.of_runG (cx := cx67) wk67 Try.func67 rfl (enters_of Try.func67 (by kernel_rfl) rfl) rfl (Nat.le_of_ble_eq_true hle) hb h
noncomputable def R68 : Code := Try.f68.body.getD .skip
theorem wk68 : WK Try.prog cx68 kt68 R68 := ⟨tabOK, mixed, ok68⟩
noncomputable def R69 : Code := Try.f69.body.getD .skip
theorem wk69 : WK Try.prog cx69 kt69 R69 := ⟨tabOK, mixed, ok69⟩
noncomputable def R70 : Code := Try.f70.body.getD .skip
theorem wk70 : WK Try.prog cx70 kt70 R70 := ⟨tabOK, mixed, ok70⟩
noncomputable def R71 : Code := Try.f71.body.getD .skip
theorem wk71 : WK Try.prog cx71 kt71 R71 := ⟨tabOK, mixed, ok71⟩
noncomputable def R72 : Code := Try.f72.body.getD .skip
theorem wk72 : WK Try.prog cx72 kt72 R72 := ⟨tabOK, mixed, ok72⟩
noncomputable def R73 : Code := Try.f73.body.getD .skip
theorem wk73 : WK Try.prog cx73 kt73 R73 := ⟨tabOK, mixed, ok73⟩
theorem run73 {args : List AV} {s : List (Nat × AB)} {R : AV → List (Nat × AB) → Prop} (n : Nat) (ct : List Nat) (hle : Nat.ble args.length 12 = true) (hb : belowB n s = true) (h : run Try.prog cx73 n kt73 ct R73 (KV T Try.f73.results.toList n R) 100000 ⟨.code [], [], argEnv 0 args, s⟩) : Contract Try.prog G0 73 args s R :=
  Contract.of_run (cx := cx73) wk73 Try.func73 rfl (enters_of Try.func73 (by kernel_rfl) rfl) rfl (Nat.le_of_ble_eq_true hle) hb h
noncomputable def R74 : Code := Try.f74.body.getD .skip
theorem wk74 : WK Try.prog cx74 kt74 R74 := ⟨tabOK, mixed, ok74⟩
theorem run74 {args : List AV} {s : List (Nat × AB)} {R : AV → List (Nat × AB) → Prop} (n : Nat) (ct : List Nat) (hle : Nat.ble args.length 4 = true) (hb : belowB n s = true) (h : run Try.prog cx74 n kt74 ct R74 (KV T Try.f74.results.toList n R) 100000 ⟨.code [], [], argEnv 0 args, s⟩) : Contract Try.prog G0 74 args s R :=
  Contract.of_run (cx := cx74) wk74 Try.func74 rfl (enters_of Try.func74 (by kernel_rfl) rfl) rfl (Nat.le_of_ble_eq_true hle) hb h
noncomputable def R75 : Code := Try.f75.body.getD .skip
theorem wk75 : WK Try.prog cx75 kt75 R75 := ⟨tabOK, mixed, ok75⟩
noncomputable def R76 : Code := Try.f76.body.getD .skip
theorem wk76 : WK Try.prog cx76 kt76 R76 := ⟨tabOK, mixed, ok76⟩
theorem run76 {args : List AV} {s : List (Nat × AB)} {R : AV → List (Nat × AB) → Prop} (n : Nat) (ct : List Nat) (hle : Nat.ble args.length 17 = true) (hb : belowB n s = true) (h : run Try.prog cx76 n kt76 ct R76 (KV T Try.f76.results.toList n R) 100000 ⟨.code [], [], argEnv 0 args, s⟩) : Contract Try.prog G0 76 args s R :=
  Contract.of_run (cx := cx76) wk76 Try.func76 rfl (enters_of Try.func76 (by kernel_rfl) rfl) rfl (Nat.le_of_ble_eq_true hle) hb h
noncomputable def R77 : Code := Try.f77.body.getD .skip
theorem wk77 : WK Try.prog cx77 kt77 R77 := ⟨tabOK, mixed, ok77⟩
noncomputable def R78 : Code := Try.f78.body.getD .skip
theorem wk78 : WK Try.prog cx78 kt78 R78 := ⟨tabOK, mixed, ok78⟩
theorem run78 {args : List AV} {s : List (Nat × AB)} {R : AV → List (Nat × AB) → Prop} (n : Nat) (ct : List Nat) (hle : Nat.ble args.length 9 = true) (hb : belowB n s = true) (h : run Try.prog cx78 n kt78 ct R78 (KV T Try.f78.results.toList n R) 100000 ⟨.code [], [], argEnv 0 args, s⟩) : Contract Try.prog G0 78 args s R :=
  Contract.of_run (cx := cx78) wk78 Try.func78 rfl (enters_of Try.func78 (by kernel_rfl) rfl) rfl (Nat.le_of_ble_eq_true hle) hb h
noncomputable def R79 : Code := Try.f79.body.getD .skip
theorem wk79 : WK Try.prog cx79 kt79 R79 := ⟨tabOK, mixed, ok79⟩
theorem run79 {args : List AV} {s : List (Nat × AB)} {R : AV → List (Nat × AB) → Prop} (n : Nat) (ct : List Nat) (hle : Nat.ble args.length 149 = true) (hb : belowB n s = true) (h : run Try.prog cx79 n kt79 ct R79 (KV T Try.f79.results.toList n R) 100000 ⟨.code [], [], argEnv 0 args, s⟩) : Contract Try.prog G0 79 args s R :=
  Contract.of_run (cx := cx79) wk79 Try.func79 rfl (enters_of Try.func79 (by kernel_rfl) rfl) rfl (Nat.le_of_ble_eq_true hle) hb h
noncomputable def R80 : Code := Try.f80.body.getD .skip
theorem wk80 : WK Try.prog cx80 kt80 R80 := ⟨tabOK, mixed, ok80⟩
theorem run80 {args : List AV} {s : List (Nat × AB)} {R : AV → List (Nat × AB) → Prop} (n : Nat) (ct : List Nat) (hle : Nat.ble args.length 12 = true) (hb : belowB n s = true) (h : run Try.prog cx80 n kt80 ct R80 (KV T Try.f80.results.toList n R) 100000 ⟨.code [], [], argEnv 0 args, s⟩) : Contract Try.prog G0 80 args s R :=
  Contract.of_run (cx := cx80) wk80 Try.func80 rfl (enters_of Try.func80 (by kernel_rfl) rfl) rfl (Nat.le_of_ble_eq_true hle) hb h
noncomputable def R81 : Code := Try.f81.body.getD .skip
theorem wk81 : WK Try.prog cx81 kt81 R81 := ⟨tabOK, mixed, ok81⟩
theorem run81 {args : List AV} {s : List (Nat × AB)} {R : AV → List (Nat × AB) → Prop} (n : Nat) (ct : List Nat) (hle : Nat.ble args.length 26 = true) (hb : belowB n s = true) (h : run Try.prog cx81 n kt81 ct R81 (KV T Try.f81.results.toList n R) 100000 ⟨.code [], [], argEnv 0 args, s⟩) : Contract Try.prog G0 81 args s R :=
  Contract.of_run (cx := cx81) wk81 Try.func81 rfl (enters_of Try.func81 (by kernel_rfl) rfl) rfl (Nat.le_of_ble_eq_true hle) hb h
noncomputable def R82 : Code := Try.f82.body.getD .skip
theorem wk82 : WK Try.prog cx82 kt82 R82 := ⟨tabOK, mixed, ok82⟩
theorem run82 {args : List AV} {s : List (Nat × AB)} {R : AV → List (Nat × AB) → Prop} (n : Nat) (ct : List Nat) (hle : Nat.ble args.length 9 = true) (hb : belowB n s = true) (h : run Try.prog cx82 n kt82 ct R82 (KV T Try.f82.results.toList n R) 100000 ⟨.code [], [], argEnv 0 args, s⟩) : Contract Try.prog G0 82 args s R :=
  Contract.of_run (cx := cx82) wk82 Try.func82 rfl (enters_of Try.func82 (by kernel_rfl) rfl) rfl (Nat.le_of_ble_eq_true hle) hb h
noncomputable def R83 : Code := Try.f83.body.getD .skip
theorem wk83 : WK Try.prog cx83 kt83 R83 := ⟨tabOK, mixed, ok83⟩
theorem run83 {args : List AV} {s : List (Nat × AB)} {R : AV → List (Nat × AB) → Prop} (n : Nat) (ct : List Nat) (hle : Nat.ble args.length 24 = true) (hb : belowB n s = true) (h : run Try.prog cx83 n kt83 ct R83 (KV T Try.f83.results.toList n R) 100000 ⟨.code [], [], argEnv 0 args, s⟩) : Contract Try.prog G0 83 args s R :=
  Contract.of_run (cx := cx83) wk83 Try.func83 rfl (enters_of Try.func83 (by kernel_rfl) rfl) rfl (Nat.le_of_ble_eq_true hle) hb h
noncomputable def R84 : Code := Try.f84.body.getD .skip
theorem wk84 : WK Try.prog cx84 kt84 R84 := ⟨tabOK, mixed, ok84⟩
noncomputable def R85 : Code := Try.f85.body.getD .skip
theorem wk85 : WK Try.prog cx85 kt85 R85 := ⟨tabOK, mixed, ok85⟩
theorem run85 {args : List AV} {s : List (Nat × AB)} {R : AV → List (Nat × AB) → Prop} (n : Nat) (ct : List Nat) (hle : Nat.ble args.length 22 = true) (hb : belowB n s = true) (h : run Try.prog cx85 n kt85 ct R85 (KV T Try.f85.results.toList n R) 100000 ⟨.code [], [], argEnv 0 args, s⟩) : Contract Try.prog G0 85 args s R :=
  Contract.of_run (cx := cx85) wk85 Try.func85 rfl (enters_of Try.func85 (by kernel_rfl) rfl) rfl (Nat.le_of_ble_eq_true hle) hb h
noncomputable def R86 : Code := Try.f86.body.getD .skip
theorem wk86 : WK Try.prog cx86 kt86 R86 := ⟨tabOK, mixed, ok86⟩
theorem run86 {args : List AV} {s : List (Nat × AB)} {R : AV → List (Nat × AB) → Prop} (n : Nat) (ct : List Nat) (hle : Nat.ble args.length 17 = true) (hb : belowB n s = true) (h : run Try.prog cx86 n kt86 ct R86 (KV T Try.f86.results.toList n R) 100000 ⟨.code [], [], argEnv 0 args, s⟩) : Contract Try.prog G0 86 args s R :=
  Contract.of_run (cx := cx86) wk86 Try.func86 rfl (enters_of Try.func86 (by kernel_rfl) rfl) rfl (Nat.le_of_ble_eq_true hle) hb h
noncomputable def R87 : Code := Try.f87.body.getD .skip
theorem wk87 : WK Try.prog cx87 kt87 R87 := ⟨tabOK, mixed, ok87⟩
theorem run87 {args : List AV} {s : List (Nat × AB)} {R : AV → List (Nat × AB) → Prop} (n : Nat) (ct : List Nat) (hle : Nat.ble args.length 9 = true) (hb : belowB n s = true) (h : run Try.prog cx87 n kt87 ct R87 (KV T Try.f87.results.toList n R) 100000 ⟨.code [], [], argEnv 0 args, s⟩) : Contract Try.prog G0 87 args s R :=
  Contract.of_run (cx := cx87) wk87 Try.func87 rfl (enters_of Try.func87 (by kernel_rfl) rfl) rfl (Nat.le_of_ble_eq_true hle) hb h
noncomputable def R88 : Code := Try.f88.body.getD .skip
theorem wk88 : WK Try.prog cx88 kt88 R88 := ⟨tabOK, mixed, ok88⟩
theorem rung88 {args : List AV} {s : List (Nat × AB)} {R : AV → List (Nat × AB) → Prop} (n : Nat) (ct : List Nat) (hle : Nat.ble args.length 28 = true) (hb : belowB n s = true) (h : run Try.prog cx88 n kt88 ct R88 (KG cx88 Try.f88.results.toList n R) 100000 ⟨.code [], [], argEnv 0 args, s⟩) : Contract Try.prog G0 88 args s R :=
  Contract.of_runG (cx := cx88) wk88 Try.func88 rfl (enters_of Try.func88 (by kernel_rfl) rfl) rfl (Nat.le_of_ble_eq_true hle) hb h
noncomputable def R89 : Code := Try.f89.body.getD .skip
theorem wk89 : WK Try.prog cx89 kt89 R89 := ⟨tabOK, mixed, ok89⟩
theorem run89 {args : List AV} {s : List (Nat × AB)} {R : AV → List (Nat × AB) → Prop} (n : Nat) (ct : List Nat) (hle : Nat.ble args.length 42 = true) (hb : belowB n s = true) (h : run Try.prog cx89 n kt89 ct R89 (KV T Try.f89.results.toList n R) 100000 ⟨.code [], [], argEnv 0 args, s⟩) : Contract Try.prog G0 89 args s R :=
  Contract.of_run (cx := cx89) wk89 Try.func89 rfl (enters_of Try.func89 (by kernel_rfl) rfl) rfl (Nat.le_of_ble_eq_true hle) hb h
noncomputable def R90 : Code := Try.f90.body.getD .skip
theorem wk90 : WK Try.prog cx90 kt90 R90 := ⟨tabOK, mixed, ok90⟩
theorem run90 {args : List AV} {s : List (Nat × AB)} {R : AV → List (Nat × AB) → Prop} (n : Nat) (ct : List Nat) (hle : Nat.ble args.length 9 = true) (hb : belowB n s = true) (h : run Try.prog cx90 n kt90 ct R90 (KV T Try.f90.results.toList n R) 100000 ⟨.code [], [], argEnv 0 args, s⟩) : Contract Try.prog G0 90 args s R :=
  Contract.of_run (cx := cx90) wk90 Try.func90 rfl (enters_of Try.func90 (by kernel_rfl) rfl) rfl (Nat.le_of_ble_eq_true hle) hb h
noncomputable def R91 : Code := Try.f91.body.getD .skip
theorem wk91 : WK Try.prog cx91 kt91 R91 := ⟨tabOK, mixed, ok91⟩
theorem run91 {args : List AV} {s : List (Nat × AB)} {R : AV → List (Nat × AB) → Prop} (n : Nat) (ct : List Nat) (hle : Nat.ble args.length 8 = true) (hb : belowB n s = true) (h : run Try.prog cx91 n kt91 ct R91 (KV T Try.f91.results.toList n R) 100000 ⟨.code [], [], argEnv 0 args, s⟩) : Contract Try.prog G0 91 args s R :=
  Contract.of_run (cx := cx91) wk91 Try.func91 rfl (enters_of Try.func91 (by kernel_rfl) rfl) rfl (Nat.le_of_ble_eq_true hle) hb h
noncomputable def R92 : Code := Try.f92.body.getD .skip
theorem wk92 : WK Try.prog cx92 kt92 R92 := ⟨tabOK, mixed, ok92⟩
theorem run92 {args : List AV} {s : List (Nat × AB)} {R : AV → List (Nat × AB) → Prop} (n : Nat) (ct : List Nat) (hle : Nat.ble args.length 9 = true) (hb : belowB n s = true) (h : run Try.prog cx92 n kt92 ct R92 (KV T Try.f92.results.toList n R) 100000 ⟨.code [], [], argEnv 0 args, s⟩) : Contract Try.prog G0 92 args s R :=
  Contract.of_run (cx := cx92) wk92 Try.func92 rfl (enters_of Try.func92 (by kernel_rfl) rfl) rfl (Nat.le_of_ble_eq_true hle) hb h
noncomputable def R93 : Code := Try.f93.body.getD .skip
theorem wk93 : WK Try.prog cx93 kt93 R93 := ⟨tabOK, mixed, ok93⟩
theorem run93 {args : List AV} {s : List (Nat × AB)} {R : AV → List (Nat × AB) → Prop} (n : Nat) (ct : List Nat) (hle : Nat.ble args.length 21 = true) (hb : belowB n s = true) (h : run Try.prog cx93 n kt93 ct R93 (KV T Try.f93.results.toList n R) 100000 ⟨.code [], [], argEnv 0 args, s⟩) : Contract Try.prog G0 93 args s R :=
  Contract.of_run (cx := cx93) wk93 Try.func93 rfl (enters_of Try.func93 (by kernel_rfl) rfl) rfl (Nat.le_of_ble_eq_true hle) hb h
noncomputable def R94 : Code := Try.f94.body.getD .skip
theorem wk94 : WK Try.prog cx94 kt94 R94 := ⟨tabOK, mixed, ok94⟩
theorem run94 {args : List AV} {s : List (Nat × AB)} {R : AV → List (Nat × AB) → Prop} (n : Nat) (ct : List Nat) (hle : Nat.ble args.length 18 = true) (hb : belowB n s = true) (h : run Try.prog cx94 n kt94 ct R94 (KV T Try.f94.results.toList n R) 100000 ⟨.code [], [], argEnv 0 args, s⟩) : Contract Try.prog G0 94 args s R :=
  Contract.of_run (cx := cx94) wk94 Try.func94 rfl (enters_of Try.func94 (by kernel_rfl) rfl) rfl (Nat.le_of_ble_eq_true hle) hb h
noncomputable def R95 : Code := Try.f95.body.getD .skip
theorem wk95 : WK Try.prog cx95 kt95 R95 := ⟨tabOK, mixed, ok95⟩
theorem run95 {args : List AV} {s : List (Nat × AB)} {R : AV → List (Nat × AB) → Prop} (n : Nat) (ct : List Nat) (hle : Nat.ble args.length 20 = true) (hb : belowB n s = true) (h : run Try.prog cx95 n kt95 ct R95 (KV T Try.f95.results.toList n R) 100000 ⟨.code [], [], argEnv 0 args, s⟩) : Contract Try.prog G0 95 args s R :=
  Contract.of_run (cx := cx95) wk95 Try.func95 rfl (enters_of Try.func95 (by kernel_rfl) rfl) rfl (Nat.le_of_ble_eq_true hle) hb h
noncomputable def R96 : Code := Try.f96.body.getD .skip
theorem wk96 : WK Try.prog cx96 kt96 R96 := ⟨tabOK, mixed, ok96⟩
theorem run96 {args : List AV} {s : List (Nat × AB)} {R : AV → List (Nat × AB) → Prop} (n : Nat) (ct : List Nat) (hle : Nat.ble args.length 19 = true) (hb : belowB n s = true) (h : run Try.prog cx96 n kt96 ct R96 (KV T Try.f96.results.toList n R) 100000 ⟨.code [], [], argEnv 0 args, s⟩) : Contract Try.prog G0 96 args s R :=
  Contract.of_run (cx := cx96) wk96 Try.func96 rfl (enters_of Try.func96 (by kernel_rfl) rfl) rfl (Nat.le_of_ble_eq_true hle) hb h
noncomputable def R97 : Code := Try.f97.body.getD .skip
theorem wk97 : WK Try.prog cx97 kt97 R97 := ⟨tabOK, mixed, ok97⟩
theorem run97 {args : List AV} {s : List (Nat × AB)} {R : AV → List (Nat × AB) → Prop} (n : Nat) (ct : List Nat) (hle : Nat.ble args.length 10 = true) (hb : belowB n s = true) (h : run Try.prog cx97 n kt97 ct R97 (KV T Try.f97.results.toList n R) 100000 ⟨.code [], [], argEnv 0 args, s⟩) : Contract Try.prog G0 97 args s R :=
  Contract.of_run (cx := cx97) wk97 Try.func97 rfl (enters_of Try.func97 (by kernel_rfl) rfl) rfl (Nat.le_of_ble_eq_true hle) hb h
noncomputable def R98 : Code := Try.f98.body.getD .skip
theorem wk98 : WK Try.prog cx98 kt98 R98 := ⟨tabOK, mixed, ok98⟩
theorem run98 {args : List AV} {s : List (Nat × AB)} {R : AV → List (Nat × AB) → Prop} (n : Nat) (ct : List Nat) (hle : Nat.ble args.length 95 = true) (hb : belowB n s = true) (h : run Try.prog cx98 n kt98 ct R98 (KV T Try.f98.results.toList n R) 100000 ⟨.code [], [], argEnv 0 args, s⟩) : Contract Try.prog G0 98 args s R :=
  Contract.of_run (cx := cx98) wk98 Try.func98 rfl (enters_of Try.func98 (by kernel_rfl) rfl) rfl (Nat.le_of_ble_eq_true hle) hb h
noncomputable def R99 : Code := Try.f99.body.getD .skip
theorem wk99 : WK Try.prog cx99 kt99 R99 := ⟨tabOK, mixed, ok99⟩
theorem run99 {args : List AV} {s : List (Nat × AB)} {R : AV → List (Nat × AB) → Prop} (n : Nat) (ct : List Nat) (hle : Nat.ble args.length 29 = true) (hb : belowB n s = true) (h : run Try.prog cx99 n kt99 ct R99 (KV T Try.f99.results.toList n R) 100000 ⟨.code [], [], argEnv 0 args, s⟩) : Contract Try.prog G0 99 args s R :=
  Contract.of_run (cx := cx99) wk99 Try.func99 rfl (enters_of Try.func99 (by kernel_rfl) rfl) rfl (Nat.le_of_ble_eq_true hle) hb h
noncomputable def R100 : Code := Try.f100.body.getD .skip
theorem wk100 : WK Try.prog cx100 kt100 R100 := ⟨tabOK, mixed, ok100⟩
noncomputable def R101 : Code := Try.f101.body.getD .skip
theorem wk101 : WK Try.prog cx101 kt101 R101 := ⟨tabOK, mixed, ok101⟩
noncomputable def R102 : Code := Try.f102.body.getD .skip
theorem wk102 : WK Try.prog cx102 kt102 R102 := ⟨tabOK, mixed, ok102⟩
noncomputable def R103 : Code := Try.f103.body.getD .skip
theorem wk103 : WK Try.prog cx103 kt103 R103 := ⟨tabOK, mixed, ok103⟩
noncomputable def R104 : Code := Try.f104.body.getD .skip
theorem wk104 : WK Try.prog cx104 kt104 R104 := ⟨tabOK, mixed, ok104⟩
noncomputable def R105 : Code := Try.f105.body.getD .skip
theorem wk105 : WK Try.prog cx105 kt105 R105 := ⟨tabOK, mixed, ok105⟩
theorem run105 {args : List AV} {s : List (Nat × AB)} {R : AV → List (Nat × AB) → Prop} (n : Nat) (ct : List Nat) (hle : Nat.ble args.length 19 = true) (hb : belowB n s = true) (h : run Try.prog cx105 n kt105 ct R105 (KV T Try.f105.results.toList n R) 100000 ⟨.code [], [], argEnv 0 args, s⟩) : Contract Try.prog G0 105 args s R :=
  Contract.of_run (cx := cx105) wk105 Try.func105 rfl (enters_of Try.func105 (by kernel_rfl) rfl) rfl (Nat.le_of_ble_eq_true hle) hb h
noncomputable def R106 : Code := Try.f106.body.getD .skip
theorem wk106 : WK Try.prog cx106 kt106 R106 := ⟨tabOK, mixed, ok106⟩
theorem run106 {args : List AV} {s : List (Nat × AB)} {R : AV → List (Nat × AB) → Prop} (n : Nat) (ct : List Nat) (hle : Nat.ble args.length 21 = true) (hb : belowB n s = true) (h : run Try.prog cx106 n kt106 ct R106 (KV T Try.f106.results.toList n R) 100000 ⟨.code [], [], argEnv 0 args, s⟩) : Contract Try.prog G0 106 args s R :=
  Contract.of_run (cx := cx106) wk106 Try.func106 rfl (enters_of Try.func106 (by kernel_rfl) rfl) rfl (Nat.le_of_ble_eq_true hle) hb h
noncomputable def R107 : Code := Try.f107.body.getD .skip
theorem wk107 : WK Try.prog cx107 kt107 R107 := ⟨tabOK, mixed, ok107⟩
theorem run107 {args : List AV} {s : List (Nat × AB)} {R : AV → List (Nat × AB) → Prop} (n : Nat) (ct : List Nat) (hle : Nat.ble args.length 9 = true) (hb : belowB n s = true) (h : run Try.prog cx107 n kt107 ct R107 (KV T Try.f107.results.toList n R) 100000 ⟨.code [], [], argEnv 0 args, s⟩) : Contract Try.prog G0 107 args s R :=
  Contract.of_run (cx := cx107) wk107 Try.func107 rfl (enters_of Try.func107 (by kernel_rfl) rfl) rfl (Nat.le_of_ble_eq_true hle) hb h
noncomputable def R108 : Code := Try.f108.body.getD .skip
theorem wk108 : WK Try.prog cx108 kt108 R108 := ⟨tabOK, mixed, ok108⟩
theorem run108 {args : List AV} {s : List (Nat × AB)} {R : AV → List (Nat × AB) → Prop} (n : Nat) (ct : List Nat) (hle : Nat.ble args.length 60 = true) (hb : belowB n s = true) (h : run Try.prog cx108 n kt108 ct R108 (KV T Try.f108.results.toList n R) 100000 ⟨.code [], [], argEnv 0 args, s⟩) : Contract Try.prog G0 108 args s R :=
  Contract.of_run (cx := cx108) wk108 Try.func108 rfl (enters_of Try.func108 (by kernel_rfl) rfl) rfl (Nat.le_of_ble_eq_true hle) hb h
noncomputable def R109 : Code := Try.f109.body.getD .skip
theorem wk109 : WK Try.prog cx109 kt109 R109 := ⟨tabOK, mixed, ok109⟩
theorem run109 {args : List AV} {s : List (Nat × AB)} {R : AV → List (Nat × AB) → Prop} (n : Nat) (ct : List Nat) (hle : Nat.ble args.length 24 = true) (hb : belowB n s = true) (h : run Try.prog cx109 n kt109 ct R109 (KV T Try.f109.results.toList n R) 100000 ⟨.code [], [], argEnv 0 args, s⟩) : Contract Try.prog G0 109 args s R :=
  Contract.of_run (cx := cx109) wk109 Try.func109 rfl (enters_of Try.func109 (by kernel_rfl) rfl) rfl (Nat.le_of_ble_eq_true hle) hb h
noncomputable def R110 : Code := Try.f110.body.getD .skip
theorem wk110 : WK Try.prog cx110 kt110 R110 := ⟨tabOK, mixed, ok110⟩
theorem run110 {args : List AV} {s : List (Nat × AB)} {R : AV → List (Nat × AB) → Prop} (n : Nat) (ct : List Nat) (hle : Nat.ble args.length 9 = true) (hb : belowB n s = true) (h : run Try.prog cx110 n kt110 ct R110 (KV T Try.f110.results.toList n R) 100000 ⟨.code [], [], argEnv 0 args, s⟩) : Contract Try.prog G0 110 args s R :=
  Contract.of_run (cx := cx110) wk110 Try.func110 rfl (enters_of Try.func110 (by kernel_rfl) rfl) rfl (Nat.le_of_ble_eq_true hle) hb h
noncomputable def R111 : Code := Try.f111.body.getD .skip
theorem wk111 : WK Try.prog cx111 kt111 R111 := ⟨tabOK, mixed, ok111⟩
theorem run111 {args : List AV} {s : List (Nat × AB)} {R : AV → List (Nat × AB) → Prop} (n : Nat) (ct : List Nat) (hle : Nat.ble args.length 8 = true) (hb : belowB n s = true) (h : run Try.prog cx111 n kt111 ct R111 (KV T Try.f111.results.toList n R) 100000 ⟨.code [], [], argEnv 0 args, s⟩) : Contract Try.prog G0 111 args s R :=
  Contract.of_run (cx := cx111) wk111 Try.func111 rfl (enters_of Try.func111 (by kernel_rfl) rfl) rfl (Nat.le_of_ble_eq_true hle) hb h
noncomputable def R112 : Code := Try.f112.body.getD .skip
theorem wk112 : WK Try.prog cx112 kt112 R112 := ⟨tabOK, mixed, ok112⟩
theorem run112 {args : List AV} {s : List (Nat × AB)} {R : AV → List (Nat × AB) → Prop} (n : Nat) (ct : List Nat) (hle : Nat.ble args.length 8 = true) (hb : belowB n s = true) (h : run Try.prog cx112 n kt112 ct R112 (KV T Try.f112.results.toList n R) 100000 ⟨.code [], [], argEnv 0 args, s⟩) : Contract Try.prog G0 112 args s R :=
  Contract.of_run (cx := cx112) wk112 Try.func112 rfl (enters_of Try.func112 (by kernel_rfl) rfl) rfl (Nat.le_of_ble_eq_true hle) hb h
noncomputable def R113 : Code := Try.f113.body.getD .skip
theorem wk113 : WK Try.prog cx113 kt113 R113 := ⟨tabOK, mixed, ok113⟩
theorem run113 {args : List AV} {s : List (Nat × AB)} {R : AV → List (Nat × AB) → Prop} (n : Nat) (ct : List Nat) (hle : Nat.ble args.length 8 = true) (hb : belowB n s = true) (h : run Try.prog cx113 n kt113 ct R113 (KV T Try.f113.results.toList n R) 100000 ⟨.code [], [], argEnv 0 args, s⟩) : Contract Try.prog G0 113 args s R :=
  Contract.of_run (cx := cx113) wk113 Try.func113 rfl (enters_of Try.func113 (by kernel_rfl) rfl) rfl (Nat.le_of_ble_eq_true hle) hb h
noncomputable def R114 : Code := Try.f114.body.getD .skip
theorem wk114 : WK Try.prog cx114 kt114 R114 := ⟨tabOK, mixed, ok114⟩
theorem run114 {args : List AV} {s : List (Nat × AB)} {R : AV → List (Nat × AB) → Prop} (n : Nat) (ct : List Nat) (hle : Nat.ble args.length 8 = true) (hb : belowB n s = true) (h : run Try.prog cx114 n kt114 ct R114 (KV T Try.f114.results.toList n R) 100000 ⟨.code [], [], argEnv 0 args, s⟩) : Contract Try.prog G0 114 args s R :=
  Contract.of_run (cx := cx114) wk114 Try.func114 rfl (enters_of Try.func114 (by kernel_rfl) rfl) rfl (Nat.le_of_ble_eq_true hle) hb h
theorem rung114 {args : List AV} {s : List (Nat × AB)} {R : AV → List (Nat × AB) → Prop} (n : Nat) (ct : List Nat) (hle : Nat.ble args.length 8 = true) (hb : belowB n s = true) (h : run Try.prog cx114 n kt114 ct R114 (KG cx114 Try.f114.results.toList n R) 100000 ⟨.code [], [], argEnv 0 args, s⟩) : Contract Try.prog G0 114 args s R :=
  Contract.of_runG (cx := cx114) wk114 Try.func114 rfl (enters_of Try.func114 (by kernel_rfl) rfl) rfl (Nat.le_of_ble_eq_true hle) hb h
noncomputable def R116 : Code := Try.f116.body.getD .skip
theorem wk116 : WK Try.prog cx116 kt116 R116 := ⟨tabOK, mixed, ok116⟩
theorem run116 {args : List AV} {s : List (Nat × AB)} {R : AV → List (Nat × AB) → Prop} (n : Nat) (ct : List Nat) (hle : Nat.ble args.length 9 = true) (hb : belowB n s = true) (h : run Try.prog cx116 n kt116 ct R116 (KV T Try.f116.results.toList n R) 100000 ⟨.code [], [], argEnv 0 args, s⟩) : Contract Try.prog G0 116 args s R :=
  Contract.of_run (cx := cx116) wk116 Try.func116 rfl (enters_of Try.func116 (by kernel_rfl) rfl) rfl (Nat.le_of_ble_eq_true hle) hb h
noncomputable def R117 : Code := Try.f117.body.getD .skip
theorem wk117 : WK Try.prog cx117 kt117 R117 := ⟨tabOK, mixed, ok117⟩
theorem run117 {args : List AV} {s : List (Nat × AB)} {R : AV → List (Nat × AB) → Prop} (n : Nat) (ct : List Nat) (hle : Nat.ble args.length 19 = true) (hb : belowB n s = true) (h : run Try.prog cx117 n kt117 ct R117 (KV T Try.f117.results.toList n R) 100000 ⟨.code [], [], argEnv 0 args, s⟩) : Contract Try.prog G0 117 args s R :=
  Contract.of_run (cx := cx117) wk117 Try.func117 rfl (enters_of Try.func117 (by kernel_rfl) rfl) rfl (Nat.le_of_ble_eq_true hle) hb h
noncomputable def R118 : Code := Try.f118.body.getD .skip
theorem wk118 : WK Try.prog cx118 kt118 R118 := ⟨tabOK, mixed, ok118⟩
theorem run118 {args : List AV} {s : List (Nat × AB)} {R : AV → List (Nat × AB) → Prop} (n : Nat) (ct : List Nat) (hle : Nat.ble args.length 9 = true) (hb : belowB n s = true) (h : run Try.prog cx118 n kt118 ct R118 (KV T Try.f118.results.toList n R) 100000 ⟨.code [], [], argEnv 0 args, s⟩) : Contract Try.prog G0 118 args s R :=
  Contract.of_run (cx := cx118) wk118 Try.func118 rfl (enters_of Try.func118 (by kernel_rfl) rfl) rfl (Nat.le_of_ble_eq_true hle) hb h
noncomputable def R119 : Code := Try.f119.body.getD .skip
theorem wk119 : WK Try.prog cx119 kt119 R119 := ⟨tabOK, mixed, ok119⟩
theorem rung119 {args : List AV} {s : List (Nat × AB)} {R : AV → List (Nat × AB) → Prop} (n : Nat) (ct : List Nat) (hle : Nat.ble args.length 95 = true) (hb : belowB n s = true) (h : run Try.prog cx119 n kt119 ct R119 (KG cx119 Try.f119.results.toList n R) 100000 ⟨.code [], [], argEnv 0 args, s⟩) : Contract Try.prog G0 119 args s R :=
  Contract.of_runG (cx := cx119) wk119 Try.func119 rfl (enters_of Try.func119 (by kernel_rfl) rfl) rfl (Nat.le_of_ble_eq_true hle) hb h
noncomputable def R120 : Code := Try.f120.body.getD .skip
theorem wk120 : WK Try.prog cx120 kt120 R120 := ⟨tabOK, mixed, ok120⟩
theorem run120 {args : List AV} {s : List (Nat × AB)} {R : AV → List (Nat × AB) → Prop} (n : Nat) (ct : List Nat) (hle : Nat.ble args.length 63 = true) (hb : belowB n s = true) (h : run Try.prog cx120 n kt120 ct R120 (KV T Try.f120.results.toList n R) 100000 ⟨.code [], [], argEnv 0 args, s⟩) : Contract Try.prog G0 120 args s R :=
  Contract.of_run (cx := cx120) wk120 Try.func120 rfl (enters_of Try.func120 (by kernel_rfl) rfl) rfl (Nat.le_of_ble_eq_true hle) hb h
noncomputable def R121 : Code := Try.f121.body.getD .skip
theorem wk121 : WK Try.prog cx121 kt121 R121 := ⟨tabOK, mixed, ok121⟩
theorem run121 {args : List AV} {s : List (Nat × AB)} {R : AV → List (Nat × AB) → Prop} (n : Nat) (ct : List Nat) (hle : Nat.ble args.length 6 = true) (hb : belowB n s = true) (h : run Try.prog cx121 n kt121 ct R121 (KV T Try.f121.results.toList n R) 100000 ⟨.code [], [], argEnv 0 args, s⟩) : Contract Try.prog G0 121 args s R :=
  Contract.of_run (cx := cx121) wk121 Try.func121 rfl (enters_of Try.func121 (by kernel_rfl) rfl) rfl (Nat.le_of_ble_eq_true hle) hb h
noncomputable def R123 : Code := Try.f123.body.getD .skip
theorem wk123 : WK Try.prog cx123 kt123 R123 := ⟨tabOK, mixed, ok123⟩
noncomputable def R124 : Code := Try.f124.body.getD .skip
theorem wk124 : WK Try.prog cx124 kt124 R124 := ⟨tabOK, mixed, ok124⟩
theorem run124 {args : List AV} {s : List (Nat × AB)} {R : AV → List (Nat × AB) → Prop} (n : Nat) (ct : List Nat) (hle : Nat.ble args.length 17 = true) (hb : belowB n s = true) (h : run Try.prog cx124 n kt124 ct R124 (KV T Try.f124.results.toList n R) 100000 ⟨.code [], [], argEnv 0 args, s⟩) : Contract Try.prog G0 124 args s R :=
  Contract.of_run (cx := cx124) wk124 Try.func124 rfl (enters_of Try.func124 (by kernel_rfl) rfl) rfl (Nat.le_of_ble_eq_true hle) hb h
noncomputable def R125 : Code := Try.f125.body.getD .skip
theorem wk125 : WK Try.prog cx125 kt125 R125 := ⟨tabOK, mixed, ok125⟩
noncomputable def R126 : Code := Try.f126.body.getD .skip
theorem wk126 : WK Try.prog cx126 kt126 R126 := ⟨tabOK, mixed, ok126⟩
noncomputable def R127 : Code := Try.f127.body.getD .skip
theorem wk127 : WK Try.prog cx127 kt127 R127 := ⟨tabOK, mixed, ok127⟩
noncomputable def R128 : Code := Try.f128.body.getD .skip
theorem wk128 : WK Try.prog cx128 kt128 R128 := ⟨tabOK, mixed, ok128⟩
noncomputable def R129 : Code := Try.f129.body.getD .skip
theorem wk129 : WK Try.prog cx129 kt129 R129 := ⟨tabOK, mixed, ok129⟩
noncomputable def R130 : Code := Try.f130.body.getD .skip
theorem wk130 : WK Try.prog cx130 kt130 R130 := ⟨tabOK, mixed, ok130⟩
noncomputable def R131 : Code := Try.f131.body.getD .skip
theorem wk131 : WK Try.prog cx131 kt131 R131 := ⟨tabOK, mixed, ok131⟩
noncomputable def R132 : Code := Try.f132.body.getD .skip
theorem wk132 : WK Try.prog cx132 kt132 R132 := ⟨tabOK, mixed, ok132⟩
noncomputable def R133 : Code := Try.f133.body.getD .skip
theorem wk133 : WK Try.prog cx133 kt133 R133 := ⟨tabOK, mixed, ok133⟩
noncomputable def R134 : Code := Try.f134.body.getD .skip
theorem wk134 : WK Try.prog cx134 kt134 R134 := ⟨tabOK, mixed, ok134⟩
noncomputable def R135 : Code := Try.f135.body.getD .skip
theorem wk135 : WK Try.prog cx135 kt135 R135 := ⟨tabOK, mixed, ok135⟩
noncomputable def R136 : Code := Try.f136.body.getD .skip
theorem wk136 : WK Try.prog cx136 kt136 R136 := ⟨tabOK, mixed, ok136⟩
noncomputable def R137 : Code := Try.f137.body.getD .skip
theorem wk137 : WK Try.prog cx137 kt137 R137 := ⟨tabOK, mixed, ok137⟩
noncomputable def R138 : Code := Try.f138.body.getD .skip
theorem wk138 : WK Try.prog cx138 kt138 R138 := ⟨tabOK, mixed, ok138⟩
theorem run138 {args : List AV} {s : List (Nat × AB)} {R : AV → List (Nat × AB) → Prop} (n : Nat) (ct : List Nat) (hle : Nat.ble args.length 19 = true) (hb : belowB n s = true) (h : run Try.prog cx138 n kt138 ct R138 (KV T Try.f138.results.toList n R) 100000 ⟨.code [], [], argEnv 0 args, s⟩) : Contract Try.prog G0 138 args s R :=
  Contract.of_run (cx := cx138) wk138 Try.func138 rfl (enters_of Try.func138 (by kernel_rfl) rfl) rfl (Nat.le_of_ble_eq_true hle) hb h
noncomputable def R139 : Code := Try.f139.body.getD .skip
theorem wk139 : WK Try.prog cx139 kt139 R139 := ⟨tabOK, mixed, ok139⟩
theorem run139 {args : List AV} {s : List (Nat × AB)} {R : AV → List (Nat × AB) → Prop} (n : Nat) (ct : List Nat) (hle : Nat.ble args.length 8 = true) (hb : belowB n s = true) (h : run Try.prog cx139 n kt139 ct R139 (KV T Try.f139.results.toList n R) 100000 ⟨.code [], [], argEnv 0 args, s⟩) : Contract Try.prog G0 139 args s R :=
  Contract.of_run (cx := cx139) wk139 Try.func139 rfl (enters_of Try.func139 (by kernel_rfl) rfl) rfl (Nat.le_of_ble_eq_true hle) hb h
noncomputable def R141 : Code := Try.f141.body.getD .skip
theorem wk141 : WK Try.prog cx141 kt141 R141 := ⟨tabOK, mixed, ok141⟩
noncomputable def R142 : Code := Try.f142.body.getD .skip
theorem wk142 : WK Try.prog cx142 kt142 R142 := ⟨tabOK, mixed, ok142⟩
theorem run142 {args : List AV} {s : List (Nat × AB)} {R : AV → List (Nat × AB) → Prop} (n : Nat) (ct : List Nat) (hle : Nat.ble args.length 53 = true) (hb : belowB n s = true) (h : run Try.prog cx142 n kt142 ct R142 (KV T Try.f142.results.toList n R) 100000 ⟨.code [], [], argEnv 0 args, s⟩) : Contract Try.prog G0 142 args s R :=
  Contract.of_run (cx := cx142) wk142 Try.func142 rfl (enters_of Try.func142 (by kernel_rfl) rfl) rfl (Nat.le_of_ble_eq_true hle) hb h
noncomputable def R143 : Code := Try.f143.body.getD .skip
theorem wk143 : WK Try.prog cx143 kt143 R143 := ⟨tabOK, mixed, ok143⟩
theorem run143 {args : List AV} {s : List (Nat × AB)} {R : AV → List (Nat × AB) → Prop} (n : Nat) (ct : List Nat) (hle : Nat.ble args.length 220 = true) (hb : belowB n s = true) (h : run Try.prog cx143 n kt143 ct R143 (KV T Try.f143.results.toList n R) 100000 ⟨.code [], [], argEnv 0 args, s⟩) : Contract Try.prog G0 143 args s R :=
  Contract.of_run (cx := cx143) wk143 Try.func143 rfl (enters_of Try.func143 (by kernel_rfl) rfl) rfl (Nat.le_of_ble_eq_true hle) hb h
noncomputable def R144 : Code := Try.f144.body.getD .skip
theorem wk144 : WK Try.prog cx144 kt144 R144 := ⟨tabOK, mixed, ok144⟩
noncomputable def R145 : Code := Try.f145.body.getD .skip
theorem wk145 : WK Try.prog cx145 kt145 R145 := ⟨tabOK, mixed, ok145⟩
noncomputable def R146 : Code := Try.f146.body.getD .skip
theorem wk146 : WK Try.prog cx146 kt146 R146 := ⟨tabOK, mixed, ok146⟩
noncomputable def R147 : Code := Try.f147.body.getD .skip
theorem wk147 : WK Try.prog cx147 kt147 R147 := ⟨tabOK, mixed, ok147⟩
noncomputable def R148 : Code := Try.f148.body.getD .skip
theorem wk148 : WK Try.prog cx148 kt148 R148 := ⟨tabOK, mixed, ok148⟩
noncomputable def R149 : Code := Try.f149.body.getD .skip
theorem wk149 : WK Try.prog cx149 kt149 R149 := ⟨tabOK, mixed, ok149⟩
noncomputable def R150 : Code := Try.f150.body.getD .skip
theorem wk150 : WK Try.prog cx150 kt150 R150 := ⟨tabOK, mixed, ok150⟩
noncomputable def R151 : Code := Try.f151.body.getD .skip
theorem wk151 : WK Try.prog cx151 kt151 R151 := ⟨tabOK, mixed, ok151⟩
noncomputable def R152 : Code := Try.f152.body.getD .skip
theorem wk152 : WK Try.prog cx152 kt152 R152 := ⟨tabOK, mixed, ok152⟩
noncomputable def R153 : Code := Try.f153.body.getD .skip
theorem wk153 : WK Try.prog cx153 kt153 R153 := ⟨tabOK, mixed, ok153⟩
noncomputable def R154 : Code := Try.f154.body.getD .skip
theorem wk154 : WK Try.prog cx154 kt154 R154 := ⟨tabOK, mixed, ok154⟩
noncomputable def R155 : Code := Try.f155.body.getD .skip
theorem wk155 : WK Try.prog cx155 kt155 R155 := ⟨tabOK, mixed, ok155⟩
noncomputable def R156 : Code := Try.f156.body.getD .skip
theorem wk156 : WK Try.prog cx156 kt156 R156 := ⟨tabOK, mixed, ok156⟩
noncomputable def R157 : Code := Try.f157.body.getD .skip
theorem wk157 : WK Try.prog cx157 kt157 R157 := ⟨tabOK, mixed, ok157⟩
noncomputable def R158 : Code := Try.f158.body.getD .skip
theorem wk158 : WK Try.prog cx158 kt158 R158 := ⟨tabOK, mixed, ok158⟩
theorem run158 {args : List AV} {s : List (Nat × AB)} {R : AV → List (Nat × AB) → Prop} (n : Nat) (ct : List Nat) (hle : Nat.ble args.length 58 = true) (hb : belowB n s = true) (h : run Try.prog cx158 n kt158 ct R158 (KV T Try.f158.results.toList n R) 100000 ⟨.code [], [], argEnv 0 args, s⟩) : Contract Try.prog G0 158 args s R :=
  Contract.of_run (cx := cx158) wk158 Try.func158 rfl (enters_of Try.func158 (by kernel_rfl) rfl) rfl (Nat.le_of_ble_eq_true hle) hb h
noncomputable def R159 : Code := Try.f159.body.getD .skip
theorem wk159 : WK Try.prog cx159 kt159 R159 := ⟨tabOK, mixed, ok159⟩
noncomputable def R160 : Code := Try.f160.body.getD .skip
theorem wk160 : WK Try.prog cx160 kt160 R160 := ⟨tabOK, mixed, ok160⟩
noncomputable def R161 : Code := Try.f161.body.getD .skip
theorem wk161 : WK Try.prog cx161 kt161 R161 := ⟨tabOK, mixed, ok161⟩
noncomputable def R162 : Code := Try.f162.body.getD .skip
theorem wk162 : WK Try.prog cx162 kt162 R162 := ⟨tabOK, mixed, ok162⟩
noncomputable def R163 : Code := Try.f163.body.getD .skip
theorem wk163 : WK Try.prog cx163 kt163 R163 := ⟨tabOK, mixed, ok163⟩
noncomputable def R164 : Code := Try.f164.body.getD .skip
theorem wk164 : WK Try.prog cx164 kt164 R164 := ⟨tabOK, mixed, ok164⟩
noncomputable def R165 : Code := Try.f165.body.getD .skip
theorem wk165 : WK Try.prog cx165 kt165 R165 := ⟨tabOK, mixed, ok165⟩
theorem run165 {args : List AV} {s : List (Nat × AB)} {R : AV → List (Nat × AB) → Prop} (n : Nat) (ct : List Nat) (hle : Nat.ble args.length 38 = true) (hb : belowB n s = true) (h : run Try.prog cx165 n kt165 ct R165 (KV T Try.f165.results.toList n R) 100000 ⟨.code [], [], argEnv 0 args, s⟩) : Contract Try.prog G0 165 args s R :=
  Contract.of_run (cx := cx165) wk165 Try.func165 rfl (enters_of Try.func165 (by kernel_rfl) rfl) rfl (Nat.le_of_ble_eq_true hle) hb h
noncomputable def R166 : Code := Try.f166.body.getD .skip
theorem wk166 : WK Try.prog cx166 kt166 R166 := ⟨tabOK, mixed, ok166⟩
end Go.Proofs.Ytkenimmellonjaa
