/- The walk's shells of the program YtkenimmellonjaaGreat. -/
import Derived.Test.YtkenimmellonjaaGreatFn
import Derived.Test.YtkenimmellonjaaGreatFrD
namespace Go.Proofs.YtkenimmellonjaaGreat
open Go.Pv Go.RowKit
noncomputable def R2 : Code := Tryz.f2.body.getD .skip
theorem wk2 : WK Tryz.prog cx2 kt2 R2 := ⟨tabOK, mixed, ok2⟩
noncomputable def R3 : Code := Tryz.f3.body.getD .skip
theorem wk3 : WK Tryz.prog cx3 kt3 R3 := ⟨tabOK, mixed, ok3⟩
theorem run3 {args : List AV} {s : List (Nat × AB)} {R : AV → List (Nat × AB) → Prop} (n : Nat) (ct : List Nat) (hle : Nat.ble args.length 181 = true) (hb : belowB n s = true) (h : run Tryz.prog cx3 n kt3 ct R3 (KV T Tryz.f3.results.toList n R) 100000 ⟨.code [], [], argEnv 0 args, s⟩) : Contract Tryz.prog G0 3 args s R :=
  Contract.of_run (cx := cx3) wk3 Tryz.func3 rfl (enters_of Tryz.func3 (by kernel_rfl) rfl) rfl (Nat.le_of_ble_eq_true hle) hb h
noncomputable def R4 : Code := Tryz.f4.body.getD .skip
theorem wk4 : WK Tryz.prog cx4 kt4 R4 := ⟨tabOK, mixed, ok4⟩
theorem run4 {args : List AV} {s : List (Nat × AB)} {R : AV → List (Nat × AB) → Prop} (n : Nat) (ct : List Nat) (hle : Nat.ble args.length 28 = true) (hb : belowB n s = true) (h : run Tryz.prog cx4 n kt4 ct R4 (KV T Tryz.f4.results.toList n R) 100000 ⟨.code [], [], argEnv 0 args, s⟩) : Contract Tryz.prog G0 4 args s R :=
  Contract.of_run (cx := cx4) wk4 Tryz.func4 rfl (enters_of Tryz.func4 (by kernel_rfl) rfl) rfl (Nat.le_of_ble_eq_true hle) hb h
noncomputable def R5 : Code := Tryz.f5.body.getD .skip
theorem wk5 : WK Tryz.prog cx5 kt5 R5 := ⟨tabOK, mixed, ok5⟩
theorem run5 {args : List AV} {s : List (Nat × AB)} {R : AV → List (Nat × AB) → Prop} (n : Nat) (ct : List Nat) (hle : Nat.ble args.length 34 = true) (hb : belowB n s = true) (h : run Tryz.prog cx5 n kt5 ct R5 (KV T Tryz.f5.results.toList n R) 100000 ⟨.code [], [], argEnv 0 args, s⟩) : Contract Tryz.prog G0 5 args s R :=
  Contract.of_run (cx := cx5) wk5 Tryz.func5 rfl (enters_of Tryz.func5 (by kernel_rfl) rfl) rfl (Nat.le_of_ble_eq_true hle) hb h
noncomputable def R6 : Code := Tryz.f6.body.getD .skip
theorem wk6 : WK Tryz.prog cx6 kt6 R6 := ⟨tabOK, mixed, ok6⟩
theorem run6 {args : List AV} {s : List (Nat × AB)} {R : AV → List (Nat × AB) → Prop} (n : Nat) (ct : List Nat) (hle : Nat.ble args.length 32 = true) (hb : belowB n s = true) (h : run Tryz.prog cx6 n kt6 ct R6 (KV T Tryz.f6.results.toList n R) 100000 ⟨.code [], [], argEnv 0 args, s⟩) : Contract Tryz.prog G0 6 args s R :=
  Contract.of_run (cx := cx6) wk6 Tryz.func6 rfl (enters_of Tryz.func6 (by kernel_rfl) rfl) rfl (Nat.le_of_ble_eq_true hle) hb h
noncomputable def R7 : Code := Tryz.f7.body.getD .skip
theorem wk7 : WK Tryz.prog cx7 kt7 R7 := ⟨tabOK, mixed, ok7⟩
theorem run7 {args : List AV} {s : List (Nat × AB)} {R : AV → List (Nat × AB) → Prop} (n : Nat) (ct : List Nat) (hle : Nat.ble args.length 65 = true) (hb : belowB n s = true) (h : run Tryz.prog cx7 n kt7 ct R7 (KV T Tryz.f7.results.toList n R) 100000 ⟨.code [], [], argEnv 0 args, s⟩) : Contract Tryz.prog G0 7 args s R :=
  Contract.of_run (cx := cx7) wk7 Tryz.func7 rfl (enters_of Tryz.func7 (by kernel_rfl) rfl) rfl (Nat.le_of_ble_eq_true hle) hb h
noncomputable def R8 : Code := Tryz.f8.body.getD .skip
theorem wk8 : WK Tryz.prog cx8 kt8 R8 := ⟨tabOK, mixed, ok8⟩
theorem run8 {args : List AV} {s : List (Nat × AB)} {R : AV → List (Nat × AB) → Prop} (n : Nat) (ct : List Nat) (hle : Nat.ble args.length 66 = true) (hb : belowB n s = true) (h : run Tryz.prog cx8 n kt8 ct R8 (KV T Tryz.f8.results.toList n R) 100000 ⟨.code [], [], argEnv 0 args, s⟩) : Contract Tryz.prog G0 8 args s R :=
  Contract.of_run (cx := cx8) wk8 Tryz.func8 rfl (enters_of Tryz.func8 (by kernel_rfl) rfl) rfl (Nat.le_of_ble_eq_true hle) hb h
noncomputable def R9 : Code := Tryz.f9.body.getD .skip
theorem wk9 : WK Tryz.prog cx9 kt9 R9 := ⟨tabOK, mixed, ok9⟩
theorem run9 {args : List AV} {s : List (Nat × AB)} {R : AV → List (Nat × AB) → Prop} (n : Nat) (ct : List Nat) (hle : Nat.ble args.length 61 = true) (hb : belowB n s = true) (h : run Tryz.prog cx9 n kt9 ct R9 (KV T Tryz.f9.results.toList n R) 100000 ⟨.code [], [], argEnv 0 args, s⟩) : Contract Tryz.prog G0 9 args s R :=
  Contract.of_run (cx := cx9) wk9 Tryz.func9 rfl (enters_of Tryz.func9 (by kernel_rfl) rfl) rfl (Nat.le_of_ble_eq_true hle) hb h
noncomputable def R10 : Code := Tryz.f10.body.getD .skip
theorem wk10 : WK Tryz.prog cx10 kt10 R10 := ⟨tabOK, mixed, ok10⟩
theorem run10 {args : List AV} {s : List (Nat × AB)} {R : AV → List (Nat × AB) → Prop} (n : Nat) (ct : List Nat) (hle : Nat.ble args.length 71 = true) (hb : belowB n s = true) (h : run Tryz.prog cx10 n kt10 ct R10 (KV T Tryz.f10.results.toList n R) 100000 ⟨.code [], [], argEnv 0 args, s⟩) : Contract Tryz.prog G0 10 args s R :=
  Contract.of_run (cx := cx10) wk10 Tryz.func10 rfl (enters_of Tryz.func10 (by kernel_rfl) rfl) rfl (Nat.le_of_ble_eq_true hle) hb h
noncomputable def R11 : Code := Tryz.f11.body.getD .skip
theorem wk11 : WK Tryz.prog cx11 kt11 R11 := ⟨tabOK, mixed, ok11⟩
theorem run11 {args : List AV} {s : List (Nat × AB)} {R : AV → List (Nat × AB) → Prop} (n : Nat) (ct : List Nat) (hle : Nat.ble args.length 15 = true) (hb : belowB n s = true) (h : run Tryz.prog cx11 n kt11 ct R11 (KV T Tryz.f11.results.toList n R) 100000 ⟨.code [], [], argEnv 0 args, s⟩) : Contract Tryz.prog G0 11 args s R :=
  Contract.of_run (cx := cx11) wk11 Tryz.func11 rfl (enters_of Tryz.func11 (by kernel_rfl) rfl) rfl (Nat.le_of_ble_eq_true hle) hb h
noncomputable def R12 : Code := Tryz.f12.body.getD .skip
theorem wk12 : WK Tryz.prog cx12 kt12 R12 := ⟨tabOK, mixed, ok12⟩
theorem run12 {args : List AV} {s : List (Nat × AB)} {R : AV → List (Nat × AB) → Prop} (n : Nat) (ct : List Nat) (hle : Nat.ble args.length 16 = true) (hb : belowB n s = true) (h : run Tryz.prog cx12 n kt12 ct R12 (KV T Tryz.f12.results.toList n R) 100000 ⟨.code [], [], argEnv 0 args, s⟩) : Contract Tryz.prog G0 12 args s R :=
  Contract.of_run (cx := cx12) wk12 Tryz.func12 rfl (enters_of Tryz.func12 (by kernel_rfl) rfl) rfl (Nat.le_of_ble_eq_true hle) hb h
noncomputable def R13 : Code := Tryz.f13.body.getD .skip
theorem wk13 : WK Tryz.prog cx13 kt13 R13 := ⟨tabOK, mixed, ok13⟩
theorem run13 {args : List AV} {s : List (Nat × AB)} {R : AV → List (Nat × AB) → Prop} (n : Nat) (ct : List Nat) (hle : Nat.ble args.length 31 = true) (hb : belowB n s = true) (h : run Tryz.prog cx13 n kt13 ct R13 (KV T Tryz.f13.results.toList n R) 100000 ⟨.code [], [], argEnv 0 args, s⟩) : Contract Tryz.prog G0 13 args s R :=
  Contract.of_run (cx := cx13) wk13 Tryz.func13 rfl (enters_of Tryz.func13 (by kernel_rfl) rfl) rfl (Nat.le_of_ble_eq_true hle) hb h
noncomputable def R14 : Code := Tryz.f14.body.getD .skip
theorem wk14 : WK Tryz.prog cx14 kt14 R14 := ⟨tabOK, mixed, ok14⟩
theorem run14 {args : List AV} {s : List (Nat × AB)} {R : AV → List (Nat × AB) → Prop} (n : Nat) (ct : List Nat) (hle : Nat.ble args.length 29 = true) (hb : belowB n s = true) (h : run Tryz.prog cx14 n kt14 ct R14 (KV T Tryz.f14.results.toList n R) 100000 ⟨.code [], [], argEnv 0 args, s⟩) : Contract Tryz.prog G0 14 args s R :=
  Contract.of_run (cx := cx14) wk14 Tryz.func14 rfl (enters_of Tryz.func14 (by kernel_rfl) rfl) rfl (Nat.le_of_ble_eq_true hle) hb h
noncomputable def R15 : Code := Tryz.f15.body.getD .skip
theorem wk15 : WK Tryz.prog cx15 kt15 R15 := ⟨tabOK, mixed, ok15⟩
theorem run15 {args : List AV} {s : List (Nat × AB)} {R : AV → List (Nat × AB) → Prop} (n : Nat) (ct : List Nat) (hle : Nat.ble args.length 13 = true) (hb : belowB n s = true) (h : run Tryz.prog cx15 n kt15 ct R15 (KV T Tryz.f15.results.toList n R) 100000 ⟨.code [], [], argEnv 0 args, s⟩) : Contract Tryz.prog G0 15 args s R :=
  Contract.of_run (cx := cx15) wk15 Tryz.func15 rfl (enters_of Tryz.func15 (by kernel_rfl) rfl) rfl (Nat.le_of_ble_eq_true hle) hb h
noncomputable def R16 : Code := Tryz.f16.body.getD .skip
theorem wk16 : WK Tryz.prog cx16 kt16 R16 := ⟨tabOK, mixed, ok16⟩
theorem run16 {args : List AV} {s : List (Nat × AB)} {R : AV → List (Nat × AB) → Prop} (n : Nat) (ct : List Nat) (hle : Nat.ble args.length 37 = true) (hb : belowB n s = true) (h : run Tryz.prog cx16 n kt16 ct R16 (KV T Tryz.f16.results.toList n R) 100000 ⟨.code [], [], argEnv 0 args, s⟩) : Contract Tryz.prog G0 16 args s R :=
  Contract.of_run (cx := cx16) wk16 Tryz.func16 rfl (enters_of Tryz.func16 (by kernel_rfl) rfl) rfl (Nat.le_of_ble_eq_true hle) hb h
noncomputable def R17 : Code := Tryz.f17.body.getD .skip
theorem wk17 : WK Tryz.prog cx17 kt17 R17 := ⟨tabOK, mixed, ok17⟩
theorem run17 {args : List AV} {s : List (Nat × AB)} {R : AV → List (Nat × AB) → Prop} (n : Nat) (ct : List Nat) (hle : Nat.ble args.length 50 = true) (hb : belowB n s = true) (h : run Tryz.prog cx17 n kt17 ct R17 (KV T Tryz.f17.results.toList n R) 100000 ⟨.code [], [], argEnv 0 args, s⟩) : Contract Tryz.prog G0 17 args s R :=
  Contract.of_run (cx := cx17) wk17 Tryz.func17 rfl (enters_of Tryz.func17 (by kernel_rfl) rfl) rfl (Nat.le_of_ble_eq_true hle) hb h
noncomputable def R18 : Code := Tryz.f18.body.getD .skip
theorem wk18 : WK Tryz.prog cx18 kt18 R18 := ⟨tabOK, mixed, ok18⟩
theorem run18 {args : List AV} {s : List (Nat × AB)} {R : AV → List (Nat × AB) → Prop} (n : Nat) (ct : List Nat) (hle : Nat.ble args.length 120 = true) (hb : belowB n s = true) (h : run Tryz.prog cx18 n kt18 ct R18 (KV T Tryz.f18.results.toList n R) 100000 ⟨.code [], [], argEnv 0 args, s⟩) : Contract Tryz.prog G0 18 args s R :=
  Contract.of_run (cx := cx18) wk18 Tryz.func18 rfl (enters_of Tryz.func18 (by kernel_rfl) rfl) rfl (Nat.le_of_ble_eq_true hle) hb h
noncomputable def R19 : Code := Tryz.f19.body.getD .skip
theorem wk19 : WK Tryz.prog cx19 kt19 R19 := ⟨tabOK, mixed, ok19⟩
theorem run19 {args : List AV} {s : List (Nat × AB)} {R : AV → List (Nat × AB) → Prop} (n : Nat) (ct : List Nat) (hle : Nat.ble args.length 29 = true) (hb : belowB n s = true) (h : run Tryz.prog cx19 n kt19 ct R19 (KV T Tryz.f19.results.toList n R) 100000 ⟨.code [], [], argEnv 0 args, s⟩) : Contract Tryz.prog G0 19 args s R :=
  Contract.of_run (cx := cx19) wk19 Tryz.func19 rfl (enters_of Tryz.func19 (by kernel_rfl) rfl) rfl (Nat.le_of_ble_eq_true hle) hb h
noncomputable def R20 : Code := Tryz.f20.body.getD .skip
theorem wk20 : WK Tryz.prog cx20 kt20 R20 := ⟨tabOK, mixed, ok20⟩
theorem run20 {args : List AV} {s : List (Nat × AB)} {R : AV → List (Nat × AB) → Prop} (n : Nat) (ct : List Nat) (hle : Nat.ble args.length 44 = true) (hb : belowB n s = true) (h : run Tryz.prog cx20 n kt20 ct R20 (KV T Tryz.f20.results.toList n R) 100000 ⟨.code [], [], argEnv 0 args, s⟩) : Contract Tryz.prog G0 20 args s R :=
  Contract.of_run (cx := cx20) wk20 Tryz.func20 rfl (enters_of Tryz.func20 (by kernel_rfl) rfl) rfl (Nat.le_of_ble_eq_true hle) hb h
noncomputable def R21 : Code := Tryz.f21.body.getD .skip
theorem wk21 : WK Tryz.prog cx21 kt21 R21 := ⟨tabOK, mixed, ok21⟩
theorem run21 {args : List AV} {s : List (Nat × AB)} {R : AV → List (Nat × AB) → Prop} (n : Nat) (ct : List Nat) (hle : Nat.ble args.length 49 = true) (hb : belowB n s = true) (h : run Tryz.prog cx21 n kt21 ct R21 (KV T Tryz.f21.results.toList n R) 100000 ⟨.code [], [], argEnv 0 args, s⟩) : Contract Tryz.prog G0 21 args s R :=
  Contract.of_run (cx := cx21) wk21 Tryz.func21 rfl (enters_of Tryz.func21 (by kernel_rfl) rfl) rfl (Nat.le_of_ble_eq_true hle) hb h
noncomputable def R22 : Code := Tryz.f22.body.getD .skip
theorem wk22 : WK Tryz.prog cx22 kt22 R22 := ⟨tabOK, mixed, ok22⟩
theorem run22 {args : List AV} {s : List (Nat × AB)} {R : AV → List (Nat × AB) → Prop} (n : Nat) (ct : List Nat) (hle : Nat.ble args.length 29 = true) (hb : belowB n s = true) (h : run Tryz.prog cx22 n kt22 ct R22 (KV T Tryz.f22.results.toList n R) 100000 ⟨.code [], [], argEnv 0 args, s⟩) : Contract Tryz.prog G0 22 args s R :=
  Contract.of_run (cx := cx22) wk22 Tryz.func22 rfl (enters_of Tryz.func22 (by kernel_rfl) rfl) rfl (Nat.le_of_ble_eq_true hle) hb h
noncomputable def R23 : Code := Tryz.f23.body.getD .skip
theorem wk23 : WK Tryz.prog cx23 kt23 R23 := ⟨tabOK, mixed, ok23⟩
theorem run23 {args : List AV} {s : List (Nat × AB)} {R : AV → List (Nat × AB) → Prop} (n : Nat) (ct : List Nat) (hle : Nat.ble args.length 31 = true) (hb : belowB n s = true) (h : run Tryz.prog cx23 n kt23 ct R23 (KV T Tryz.f23.results.toList n R) 100000 ⟨.code [], [], argEnv 0 args, s⟩) : Contract Tryz.prog G0 23 args s R :=
  Contract.of_run (cx := cx23) wk23 Tryz.func23 rfl (enters_of Tryz.func23 (by kernel_rfl) rfl) rfl (Nat.le_of_ble_eq_true hle) hb h
noncomputable def R24 : Code := Tryz.f24.body.getD .skip
theorem wk24 : WK Tryz.prog cx24 kt24 R24 := ⟨tabOK, mixed, ok24⟩
theorem run24 {args : List AV} {s : List (Nat × AB)} {R : AV → List (Nat × AB) → Prop} (n : Nat) (ct : List Nat) (hle : Nat.ble args.length 36 = true) (hb : belowB n s = true) (h : run Tryz.prog cx24 n kt24 ct R24 (KV T Tryz.f24.results.toList n R) 100000 ⟨.code [], [], argEnv 0 args, s⟩) : Contract Tryz.prog G0 24 args s R :=
  Contract.of_run (cx := cx24) wk24 Tryz.func24 rfl (enters_of Tryz.func24 (by kernel_rfl) rfl) rfl (Nat.le_of_ble_eq_true hle) hb h
noncomputable def R25 : Code := Tryz.f25.body.getD .skip
theorem wk25 : WK Tryz.prog cx25 kt25 R25 := ⟨tabOK, mixed, ok25⟩
theorem run25 {args : List AV} {s : List (Nat × AB)} {R : AV → List (Nat × AB) → Prop} (n : Nat) (ct : List Nat) (hle : Nat.ble args.length 9 = true) (hb : belowB n s = true) (h : run Tryz.prog cx25 n kt25 ct R25 (KV T Tryz.f25.results.toList n R) 100000 ⟨.code [], [], argEnv 0 args, s⟩) : Contract Tryz.prog G0 25 args s R :=
  Contract.of_run (cx := cx25) wk25 Tryz.func25 rfl (enters_of Tryz.func25 (by kernel_rfl) rfl) rfl (Nat.le_of_ble_eq_true hle) hb h
noncomputable def R26 : Code := Tryz.f26.body.getD .skip
theorem wk26 : WK Tryz.prog cx26 kt26 R26 := ⟨tabOK, mixed, ok26⟩
theorem run26 {args : List AV} {s : List (Nat × AB)} {R : AV → List (Nat × AB) → Prop} (n : Nat) (ct : List Nat) (hle : Nat.ble args.length 9 = true) (hb : belowB n s = true) (h : run Tryz.prog cx26 n kt26 ct R26 (KV T Tryz.f26.results.toList n R) 100000 ⟨.code [], [], argEnv 0 args, s⟩) : Contract Tryz.prog G0 26 args s R :=
  Contract.of_run (cx := cx26) wk26 Tryz.func26 rfl (enters_of Tryz.func26 (by kernel_rfl) rfl) rfl (Nat.le_of_ble_eq_true hle) hb h
noncomputable def R27 : Code := Tryz.f27.body.getD .skip
theorem wk27 : WK Tryz.prog cx27 kt27 R27 := ⟨tabOK, mixed, ok27⟩
theorem run27 {args : List AV} {s : List (Nat × AB)} {R : AV → List (Nat × AB) → Prop} (n : Nat) (ct : List Nat) (hle : Nat.ble args.length 31 = true) (hb : belowB n s = true) (h : run Tryz.prog cx27 n kt27 ct R27 (KV T Tryz.f27.results.toList n R) 100000 ⟨.code [], [], argEnv 0 args, s⟩) : Contract Tryz.prog G0 27 args s R :=
  Contract.of_run (cx := cx27) wk27 Tryz.func27 rfl (enters_of Tryz.func27 (by kernel_rfl) rfl) rfl (Nat.le_of_ble_eq_true hle) hb h
noncomputable def R28 : Code := Tryz.f28.body.getD .skip
theorem wk28 : WK Tryz.prog cx28 kt28 R28 := ⟨tabOK, mixed, ok28⟩
theorem run28 {args : List AV} {s : List (Nat × AB)} {R : AV → List (Nat × AB) → Prop} (n : Nat) (ct : List Nat) (hle : Nat.ble args.length 149 = true) (hb : belowB n s = true) (h : run Tryz.prog cx28 n kt28 ct R28 (KV T Tryz.f28.results.toList n R) 100000 ⟨.code [], [], argEnv 0 args, s⟩) : Contract Tryz.prog G0 28 args s R :=
  Contract.of_run (cx := cx28) wk28 Tryz.func28 rfl (enters_of Tryz.func28 (by kernel_rfl) rfl) rfl (Nat.le_of_ble_eq_true hle) hb h
noncomputable def R29 : Code := Tryz.f29.body.getD .skip
theorem wk29 : WK Tryz.prog cx29 kt29 R29 := ⟨tabOK, mixed, ok29⟩
noncomputable def R30 : Code := Tryz.f30.body.getD .skip
theorem wk30 : WK Tryz.prog cx30 kt30 R30 := ⟨tabOK, mixed, ok30⟩
theorem run30 {args : List AV} {s : List (Nat × AB)} {R : AV → List (Nat × AB) → Prop} (n : Nat) (ct : List Nat) (hle : Nat.ble args.length 11 = true) (hb : belowB n s = true) (h : run Tryz.prog cx30 n kt30 ct R30 (KV T Tryz.f30.results.toList n R) 100000 ⟨.code [], [], argEnv 0 args, s⟩) : Contract Tryz.prog G0 30 args s R :=
  Contract.of_run (cx := cx30) wk30 Tryz.func30 rfl (enters_of Tryz.func30 (by kernel_rfl) rfl) rfl (Nat.le_of_ble_eq_true hle) hb h
noncomputable def R31 : Code := Tryz.f31.body.getD .skip
theorem wk31 : WK Tryz.prog cx31 kt31 R31 := ⟨tabOK, mixed, ok31⟩
theorem run31 {args : List AV} {s : List (Nat × AB)} {R : AV → List (Nat × AB) → Prop} (n : Nat) (ct : List Nat) (hle : Nat.ble args.length 12 = true) (hb : belowB n s = true) (h : run Tryz.prog cx31 n kt31 ct R31 (KV T Tryz.f31.results.toList n R) 100000 ⟨.code [], [], argEnv 0 args, s⟩) : Contract Tryz.prog G0 31 args s R :=
  Contract.of_run (cx := cx31) wk31 Tryz.func31 rfl (enters_of Tryz.func31 (by kernel_rfl) rfl) rfl (Nat.le_of_ble_eq_true hle) hb h
noncomputable def R32 : Code := Tryz.f32.body.getD .skip
theorem wk32 : WK Tryz.prog cx32 kt32 R32 := ⟨tabOK, mixed, ok32⟩
theorem run32 {args : List AV} {s : List (Nat × AB)} {R : AV → List (Nat × AB) → Prop} (n : Nat) (ct : List Nat) (hle : Nat.ble args.length 9 = true) (hb : belowB n s = true) (h : run Tryz.prog cx32 n kt32 ct R32 (KV T Tryz.f32.results.toList n R) 100000 ⟨.code [], [], argEnv 0 args, s⟩) : Contract Tryz.prog G0 32 args s R :=
  Contract.of_run (cx := cx32) wk32 Tryz.func32 rfl (enters_of Tryz.func32 (by kernel_rfl) rfl) rfl (Nat.le_of_ble_eq_true hle) hb h
noncomputable def R33 : Code := Tryz.f33.body.getD .skip
theorem wk33 : WK Tryz.prog cx33 kt33 R33 := ⟨tabOK, mixed, ok33⟩
noncomputable def R34 : Code := Tryz.f34.body.getD .skip
theorem wk34 : WK Tryz.prog cx34 kt34 R34 := ⟨tabOK, mixed, ok34⟩
theorem rung34 {args : List AV} {s : List (Nat × AB)} {R : AV → List (Nat × AB) → Prop} (n : Nat) (ct : List Nat) (hle : Nat.ble args.length 28 = true) (hb : belowB n s = true) (h : run Tryz.prog cx34 n kt34 ct R34 (KG cx34 Tryz.f34.results.toList n R) 100000 ⟨.code [], [], argEnv 0 args, s⟩) : Contract Tryz.prog G0 34 args s R :=
  Contract.of_runG (cx := cx34) wk34 Tryz.func34 rfl (enters_of Tryz.func34 (by kernel_rfl) rfl) rfl (Nat.le_of_ble_eq_true hle) hb h
noncomputable def R35 : Code := Tryz.f35.body.getD .skip
theorem wk35 : WK Tryz.prog cx35 kt35 R35 := ⟨tabOK, mixed, ok35⟩
theorem run35 {args : List AV} {s : List (Nat × AB)} {R : AV → List (Nat × AB) → Prop} (n : Nat) (ct : List Nat) (hle : Nat.ble args.length 23 = true) (hb : belowB n s = true) (h : run Tryz.prog cx35 n kt35 ct R35 (KV T Tryz.f35.results.toList n R) 100000 ⟨.code [], [], argEnv 0 args, s⟩) : Contract Tryz.prog G0 35 args s R :=
  Contract.of_run (cx := cx35) wk35 Tryz.func35 rfl (enters_of Tryz.func35 (by kernel_rfl) rfl) rfl (Nat.le_of_ble_eq_true hle) hb h
noncomputable def R36 : Code := Tryz.f36.body.getD .skip
theorem wk36 : WK Tryz.prog cx36 kt36 R36 := ⟨tabOK, mixed, ok36⟩
noncomputable def R37 : Code := Tryz.f37.body.getD .skip
theorem wk37 : WK Tryz.prog cx37 kt37 R37 := ⟨tabOK, mixed, ok37⟩
theorem rung37 {args : List AV} {s : List (Nat × AB)} {R : AV → List (Nat × AB) → Prop} (n : Nat) (ct : List Nat) (hle : Nat.ble args.length 43 = true) (hb : belowB n s = true) (h : run Tryz.prog cx37 n kt37 ct R37 (KG cx37 Tryz.f37.results.toList n R) 100000 ⟨.code [], [], argEnv 0 args, s⟩) : Contract Tryz.prog G0 37 args s R :=
  Contract.of_runG (cx := cx37) wk37 Tryz.func37 rfl (enters_of Tryz.func37 (by kernel_rfl) rfl) rfl (Nat.le_of_ble_eq_true hle) hb h
noncomputable def R38 : Code := Tryz.f38.body.getD .skip
theorem wk38 : WK Tryz.prog cx38 kt38 R38 := ⟨tabOK, mixed, ok38⟩
theorem run38 {args : List AV} {s : List (Nat × AB)} {R : AV → List (Nat × AB) → Prop} (n : Nat) (ct : List Nat) (hle : Nat.ble args.length 26 = true) (hb : belowB n s = true) (h : run Tryz.prog cx38 n kt38 ct R38 (KV T Tryz.f38.results.toList n R) 100000 ⟨.code [], [], argEnv 0 args, s⟩) : Contract Tryz.prog G0 38 args s R :=
  Contract.of_run (cx := cx38) wk38 Tryz.func38 rfl (enters_of Tryz.func38 (by kernel_rfl) rfl) rfl (Nat.le_of_ble_eq_true hle) hb h
noncomputable def R39 : Code := Tryz.f39.body.getD .skip
theorem wk39 : WK Tryz.prog cx39 kt39 R39 := ⟨tabOK, mixed, ok39⟩
theorem run39 {args : List AV} {s : List (Nat × AB)} {R : AV → List (Nat × AB) → Prop} (n : Nat) (ct : List Nat) (hle : Nat.ble args.length 9 = true) (hb : belowB n s = true) (h : run Tryz.prog cx39 n kt39 ct R39 (KV T Tryz.f39.results.toList n R) 100000 ⟨.code [], [], argEnv 0 args, s⟩) : Contract Tryz.prog G0 39 args s R :=
  Contract.of_run (cx := cx39) wk39 Tryz.func39 rfl (enters_of Tryz.func39 (by kernel_rfl) rfl) rfl (Nat.le_of_ble_eq_true hle) hb h
noncomputable def R40 : Code := Tryz.f40.body.getD .skip
theorem wk40 : WK Tryz.prog cx40 kt40 R40 := ⟨tabOK, mixed, ok40⟩
theorem run40 {args : List AV} {s : List (Nat × AB)} {R : AV → List (Nat × AB) → Prop} (n : Nat) (ct : List Nat) (hle : Nat.ble args.length 24 = true) (hb : belowB n s = true) (h : run Tryz.prog cx40 n kt40 ct R40 (KV T Tryz.f40.results.toList n R) 100000 ⟨.code [], [], argEnv 0 args, s⟩) : Contract Tryz.prog G0 40 args s R :=
  Contract.of_run (cx := cx40) wk40 Tryz.func40 rfl (enters_of Tryz.func40 (by kernel_rfl) rfl) rfl (Nat.le_of_ble_eq_true hle) hb h
noncomputable def R41 : Code := Tryz.f41.body.getD .skip
theorem wk41 : WK Tryz.prog cx41 kt41 R41 := ⟨tabOK, mixed, ok41⟩
theorem run41 {args : List AV} {s : List (Nat × AB)} {R : AV → List (Nat × AB) → Prop} (n : Nat) (ct : List Nat) (hle : Nat.ble args.length 19 = true) (hb : belowB n s = true) (h : run Tryz.prog cx41 n kt41 ct R41 (KV T Tryz.f41.results.toList n R) 100000 ⟨.code [], [], argEnv 0 args, s⟩) : Contract Tryz.prog G0 41 args s R :=
  Contract.of_run (cx := cx41) wk41 Tryz.func41 rfl (enters_of Tryz.func41 (by kernel_rfl) rfl) rfl (Nat.le_of_ble_eq_true hle) hb h
noncomputable def R42 : Code := Tryz.f42.body.getD .skip
theorem wk42 : WK Tryz.prog cx42 kt42 R42 := ⟨tabOK, mixed, ok42⟩
theorem run42 {args : List AV} {s : List (Nat × AB)} {R : AV → List (Nat × AB) → Prop} (n : Nat) (ct : List Nat) (hle : Nat.ble args.length 26 = true) (hb : belowB n s = true) (h : run Tryz.prog cx42 n kt42 ct R42 (KV T Tryz.f42.results.toList n R) 100000 ⟨.code [], [], argEnv 0 args, s⟩) : Contract Tryz.prog G0 42 args s R :=
  Contract.of_run (cx := cx42) wk42 Tryz.func42 rfl (enters_of Tryz.func42 (by kernel_rfl) rfl) rfl (Nat.le_of_ble_eq_true hle) hb h
noncomputable def R43 : Code := Tryz.f43.body.getD .skip
theorem wk43 : WK Tryz.prog cx43 kt43 R43 := ⟨tabOK, mixed, ok43⟩
theorem run43 {args : List AV} {s : List (Nat × AB)} {R : AV → List (Nat × AB) → Prop} (n : Nat) (ct : List Nat) (hle : Nat.ble args.length 17 = true) (hb : belowB n s = true) (h : run Tryz.prog cx43 n kt43 ct R43 (KV T Tryz.f43.results.toList n R) 100000 ⟨.code [], [], argEnv 0 args, s⟩) : Contract Tryz.prog G0 43 args s R :=
  Contract.of_run (cx := cx43) wk43 Tryz.func43 rfl (enters_of Tryz.func43 (by kernel_rfl) rfl) rfl (Nat.le_of_ble_eq_true hle) hb h
noncomputable def R44 : Code := Tryz.f44.body.getD .skip
theorem wk44 : WK Tryz.prog cx44 kt44 R44 := ⟨tabOK, mixed, ok44⟩
theorem run44 {args : List AV} {s : List (Nat × AB)} {R : AV → List (Nat × AB) → Prop} (n : Nat) (ct : List Nat) (hle : Nat.ble args.length 29 = true) (hb : belowB n s = true) (h : run Tryz.prog cx44 n kt44 ct R44 (KV T Tryz.f44.results.toList n R) 100000 ⟨.code [], [], argEnv 0 args, s⟩) : Contract Tryz.prog G0 44 args s R :=
  Contract.of_run (cx := cx44) wk44 Tryz.func44 rfl (enters_of Tryz.func44 (by kernel_rfl) rfl) rfl (Nat.le_of_ble_eq_true hle) hb h
noncomputable def R45 : Code := Tryz.f45.body.getD .skip
theorem wk45 : WK Tryz.prog cx45 kt45 R45 := ⟨tabOK, mixed, ok45⟩
theorem run45 {args : List AV} {s : List (Nat × AB)} {R : AV → List (Nat × AB) → Prop} (n : Nat) (ct : List Nat) (hle : Nat.ble args.length 24 = true) (hb : belowB n s = true) (h : run Tryz.prog cx45 n kt45 ct R45 (KV T Tryz.f45.results.toList n R) 100000 ⟨.code [], [], argEnv 0 args, s⟩) : Contract Tryz.prog G0 45 args s R :=
  Contract.of_run (cx := cx45) wk45 Tryz.func45 rfl (enters_of Tryz.func45 (by kernel_rfl) rfl) rfl (Nat.le_of_ble_eq_true hle) hb h
noncomputable def R46 : Code := Tryz.f46.body.getD .skip
theorem wk46 : WK Tryz.prog cx46 kt46 R46 := ⟨tabOK, mixed, ok46⟩
theorem run46 {args : List AV} {s : List (Nat × AB)} {R : AV → List (Nat × AB) → Prop} (n : Nat) (ct : List Nat) (hle : Nat.ble args.length 42 = true) (hb : belowB n s = true) (h : run Tryz.prog cx46 n kt46 ct R46 (KV T Tryz.f46.results.toList n R) 100000 ⟨.code [], [], argEnv 0 args, s⟩) : Contract Tryz.prog G0 46 args s R :=
  Contract.of_run (cx := cx46) wk46 Tryz.func46 rfl (enters_of Tryz.func46 (by kernel_rfl) rfl) rfl (Nat.le_of_ble_eq_true hle) hb h
noncomputable def R47 : Code := Tryz.f47.body.getD .skip
theorem wk47 : WK Tryz.prog cx47 kt47 R47 := ⟨tabOK, mixed, ok47⟩
theorem run47 {args : List AV} {s : List (Nat × AB)} {R : AV → List (Nat × AB) → Prop} (n : Nat) (ct : List Nat) (hle : Nat.ble args.length 9 = true) (hb : belowB n s = true) (h : run Tryz.prog cx47 n kt47 ct R47 (KV T Tryz.f47.results.toList n R) 100000 ⟨.code [], [], argEnv 0 args, s⟩) : Contract Tryz.prog G0 47 args s R :=
  Contract.of_run (cx := cx47) wk47 Tryz.func47 rfl (enters_of Tryz.func47 (by kernel_rfl) rfl) rfl (Nat.le_of_ble_eq_true hle) hb h
noncomputable def R48 : Code := Tryz.f48.body.getD .skip
theorem wk48 : WK Tryz.prog cx48 kt48 R48 := ⟨tabOK, mixed, ok48⟩
theorem run48 {args : List AV} {s : List (Nat × AB)} {R : AV → List (Nat × AB) → Prop} (n : Nat) (ct : List Nat) (hle : Nat.ble args.length 9 = true) (hb : belowB n s = true) (h : run Tryz.prog cx48 n kt48 ct R48 (KV T Tryz.f48.results.toList n R) 100000 ⟨.code [], [], argEnv 0 args, s⟩) : Contract Tryz.prog G0 48 args s R :=
  Contract.of_run (cx := cx48) wk48 Tryz.func48 rfl (enters_of Tryz.func48 (by kernel_rfl) rfl) rfl (Nat.le_of_ble_eq_true hle) hb h
noncomputable def R49 : Code := Tryz.f49.body.getD .skip
theorem wk49 : WK Tryz.prog cx49 kt49 R49 := ⟨tabOK, mixed, ok49⟩
theorem run49 {args : List AV} {s : List (Nat × AB)} {R : AV → List (Nat × AB) → Prop} (n : Nat) (ct : List Nat) (hle : Nat.ble args.length 18 = true) (hb : belowB n s = true) (h : run Tryz.prog cx49 n kt49 ct R49 (KV T Tryz.f49.results.toList n R) 100000 ⟨.code [], [], argEnv 0 args, s⟩) : Contract Tryz.prog G0 49 args s R :=
  Contract.of_run (cx := cx49) wk49 Tryz.func49 rfl (enters_of Tryz.func49 (by kernel_rfl) rfl) rfl (Nat.le_of_ble_eq_true hle) hb h
noncomputable def R50 : Code := Tryz.f50.body.getD .skip
theorem wk50 : WK Tryz.prog cx50 kt50 R50 := ⟨tabOK, mixed, ok50⟩
theorem run50 {args : List AV} {s : List (Nat × AB)} {R : AV → List (Nat × AB) → Prop} (n : Nat) (ct : List Nat) (hle : Nat.ble args.length 8 = true) (hb : belowB n s = true) (h : run Tryz.prog cx50 n kt50 ct R50 (KV T Tryz.f50.results.toList n R) 100000 ⟨.code [], [], argEnv 0 args, s⟩) : Contract Tryz.prog G0 50 args s R :=
  Contract.of_run (cx := cx50) wk50 Tryz.func50 rfl (enters_of Tryz.func50 (by kernel_rfl) rfl) rfl (Nat.le_of_ble_eq_true hle) hb h
noncomputable def R51 : Code := Tryz.f51.body.getD .skip
theorem wk51 : WK Tryz.prog cx51 kt51 R51 := ⟨tabOK, mixed, ok51⟩
theorem run51 {args : List AV} {s : List (Nat × AB)} {R : AV → List (Nat × AB) → Prop} (n : Nat) (ct : List Nat) (hle : Nat.ble args.length 9 = true) (hb : belowB n s = true) (h : run Tryz.prog cx51 n kt51 ct R51 (KV T Tryz.f51.results.toList n R) 100000 ⟨.code [], [], argEnv 0 args, s⟩) : Contract Tryz.prog G0 51 args s R :=
  Contract.of_run (cx := cx51) wk51 Tryz.func51 rfl (enters_of Tryz.func51 (by kernel_rfl) rfl) rfl (Nat.le_of_ble_eq_true hle) hb h
noncomputable def R52 : Code := Tryz.f52.body.getD .skip
theorem wk52 : WK Tryz.prog cx52 kt52 R52 := ⟨tabOK, mixed, ok52⟩
theorem run52 {args : List AV} {s : List (Nat × AB)} {R : AV → List (Nat × AB) → Prop} (n : Nat) (ct : List Nat) (hle : Nat.ble args.length 21 = true) (hb : belowB n s = true) (h : run Tryz.prog cx52 n kt52 ct R52 (KV T Tryz.f52.results.toList n R) 100000 ⟨.code [], [], argEnv 0 args, s⟩) : Contract Tryz.prog G0 52 args s R :=
  Contract.of_run (cx := cx52) wk52 Tryz.func52 rfl (enters_of Tryz.func52 (by kernel_rfl) rfl) rfl (Nat.le_of_ble_eq_true hle) hb h
noncomputable def R53 : Code := Tryz.f53.body.getD .skip
theorem wk53 : WK Tryz.prog cx53 kt53 R53 := ⟨tabOK, mixed, ok53⟩
theorem run53 {args : List AV} {s : List (Nat × AB)} {R : AV → List (Nat × AB) → Prop} (n : Nat) (ct : List Nat) (hle : Nat.ble args.length 18 = true) (hb : belowB n s = true) (h : run Tryz.prog cx53 n kt53 ct R53 (KV T Tryz.f53.results.toList n R) 100000 ⟨.code [], [], argEnv 0 args, s⟩) : Contract Tryz.prog G0 53 args s R :=
  Contract.of_run (cx := cx53) wk53 Tryz.func53 rfl (enters_of Tryz.func53 (by kernel_rfl) rfl) rfl (Nat.le_of_ble_eq_true hle) hb h
noncomputable def R54 : Code := Tryz.f54.body.getD .skip
theorem wk54 : WK Tryz.prog cx54 kt54 R54 := ⟨tabOK, mixed, ok54⟩
theorem run54 {args : List AV} {s : List (Nat × AB)} {R : AV → List (Nat × AB) → Prop} (n : Nat) (ct : List Nat) (hle : Nat.ble args.length 20 = true) (hb : belowB n s = true) (h : run Tryz.prog cx54 n kt54 ct R54 (KV T Tryz.f54.results.toList n R) 100000 ⟨.code [], [], argEnv 0 args, s⟩) : Contract Tryz.prog G0 54 args s R :=
  Contract.of_run (cx := cx54) wk54 Tryz.func54 rfl (enters_of Tryz.func54 (by kernel_rfl) rfl) rfl (Nat.le_of_ble_eq_true hle) hb h
noncomputable def R55 : Code := Tryz.f55.body.getD .skip
theorem wk55 : WK Tryz.prog cx55 kt55 R55 := ⟨tabOK, mixed, ok55⟩
theorem run55 {args : List AV} {s : List (Nat × AB)} {R : AV → List (Nat × AB) → Prop} (n : Nat) (ct : List Nat) (hle : Nat.ble args.length 19 = true) (hb : belowB n s = true) (h : run Tryz.prog cx55 n kt55 ct R55 (KV T Tryz.f55.results.toList n R) 100000 ⟨.code [], [], argEnv 0 args, s⟩) : Contract Tryz.prog G0 55 args s R :=
  Contract.of_run (cx := cx55) wk55 Tryz.func55 rfl (enters_of Tryz.func55 (by kernel_rfl) rfl) rfl (Nat.le_of_ble_eq_true hle) hb h
noncomputable def R56 : Code := Tryz.f56.body.getD .skip
theorem wk56 : WK Tryz.prog cx56 kt56 R56 := ⟨tabOK, mixed, ok56⟩
theorem run56 {args : List AV} {s : List (Nat × AB)} {R : AV → List (Nat × AB) → Prop} (n : Nat) (ct : List Nat) (hle : Nat.ble args.length 10 = true) (hb : belowB n s = true) (h : run Tryz.prog cx56 n kt56 ct R56 (KV T Tryz.f56.results.toList n R) 100000 ⟨.code [], [], argEnv 0 args, s⟩) : Contract Tryz.prog G0 56 args s R :=
  Contract.of_run (cx := cx56) wk56 Tryz.func56 rfl (enters_of Tryz.func56 (by kernel_rfl) rfl) rfl (Nat.le_of_ble_eq_true hle) hb h
noncomputable def R57 : Code := Tryz.f57.body.getD .skip
theorem wk57 : WK Tryz.prog cx57 kt57 R57 := ⟨tabOK, mixed, ok57⟩
theorem run57 {args : List AV} {s : List (Nat × AB)} {R : AV → List (Nat × AB) → Prop} (n : Nat) (ct : List Nat) (hle : Nat.ble args.length 9 = true) (hb : belowB n s = true) (h : run Tryz.prog cx57 n kt57 ct R57 (KV T Tryz.f57.results.toList n R) 100000 ⟨.code [], [], argEnv 0 args, s⟩) : Contract Tryz.prog G0 57 args s R :=
  Contract.of_run (cx := cx57) wk57 Tryz.func57 rfl (enters_of Tryz.func57 (by kernel_rfl) rfl) rfl (Nat.le_of_ble_eq_true hle) hb h
noncomputable def R58 : Code := Tryz.f58.body.getD .skip
theorem wk58 : WK Tryz.prog cx58 kt58 R58 := ⟨tabOK, mixed, ok58⟩
theorem run58 {args : List AV} {s : List (Nat × AB)} {R : AV → List (Nat × AB) → Prop} (n : Nat) (ct : List Nat) (hle : Nat.ble args.length 95 = true) (hb : belowB n s = true) (h : run Tryz.prog cx58 n kt58 ct R58 (KV T Tryz.f58.results.toList n R) 100000 ⟨.code [], [], argEnv 0 args, s⟩) : Contract Tryz.prog G0 58 args s R :=
  Contract.of_run (cx := cx58) wk58 Tryz.func58 rfl (enters_of Tryz.func58 (by kernel_rfl) rfl) rfl (Nat.le_of_ble_eq_true hle) hb h
noncomputable def R59 : Code := Tryz.f59.body.getD .skip
theorem wk59 : WK Tryz.prog cx59 kt59 R59 := ⟨tabOK, mixed, ok59⟩
theorem run59 {args : List AV} {s : List (Nat × AB)} {R : AV → List (Nat × AB) → Prop} (n : Nat) (ct : List Nat) (hle : Nat.ble args.length 24 = true) (hb : belowB n s = true) (h : run Tryz.prog cx59 n kt59 ct R59 (KV T Tryz.f59.results.toList n R) 100000 ⟨.code [], [], argEnv 0 args, s⟩) : Contract Tryz.prog G0 59 args s R :=
  Contract.of_run (cx := cx59) wk59 Tryz.func59 rfl (enters_of Tryz.func59 (by kernel_rfl) rfl) rfl (Nat.le_of_ble_eq_true hle) hb h
noncomputable def R60 : Code := Tryz.f60.body.getD .skip
theorem wk60 : WK Tryz.prog cx60 kt60 R60 := ⟨tabOK, mixed, ok60⟩
theorem run60 {args : List AV} {s : List (Nat × AB)} {R : AV → List (Nat × AB) → Prop} (n : Nat) (ct : List Nat) (hle : Nat.ble args.length 22 = true) (hb : belowB n s = true) (h : run Tryz.prog cx60 n kt60 ct R60 (KV T Tryz.f60.results.toList n R) 100000 ⟨.code [], [], argEnv 0 args, s⟩) : Contract Tryz.prog G0 60 args s R :=
  Contract.of_run (cx := cx60) wk60 Tryz.func60 rfl (enters_of Tryz.func60 (by kernel_rfl) rfl) rfl (Nat.le_of_ble_eq_true hle) hb h
noncomputable def R61 : Code := Tryz.f61.body.getD .skip
theorem wk61 : WK Tryz.prog cx61 kt61 R61 := ⟨tabOK, mixed, ok61⟩
theorem run61 {args : List AV} {s : List (Nat × AB)} {R : AV → List (Nat × AB) → Prop} (n : Nat) (ct : List Nat) (hle : Nat.ble args.length 17 = true) (hb : belowB n s = true) (h : run Tryz.prog cx61 n kt61 ct R61 (KV T Tryz.f61.results.toList n R) 100000 ⟨.code [], [], argEnv 0 args, s⟩) : Contract Tryz.prog G0 61 args s R :=
  Contract.of_run (cx := cx61) wk61 Tryz.func61 rfl (enters_of Tryz.func61 (by kernel_rfl) rfl) rfl (Nat.le_of_ble_eq_true hle) hb h
noncomputable def R62 : Code := Tryz.f62.body.getD .skip
theorem wk62 : WK Tryz.prog cx62 kt62 R62 := ⟨tabOK, mixed, ok62⟩
theorem run62 {args : List AV} {s : List (Nat × AB)} {R : AV → List (Nat × AB) → Prop} (n : Nat) (ct : List Nat) (hle : Nat.ble args.length 17 = true) (hb : belowB n s = true) (h : run Tryz.prog cx62 n kt62 ct R62 (KV T Tryz.f62.results.toList n R) 100000 ⟨.code [], [], argEnv 0 args, s⟩) : Contract Tryz.prog G0 62 args s R :=
  Contract.of_run (cx := cx62) wk62 Tryz.func62 rfl (enters_of Tryz.func62 (by kernel_rfl) rfl) rfl (Nat.le_of_ble_eq_true hle) hb h
noncomputable def R63 : Code := Tryz.f63.body.getD .skip
theorem wk63 : WK Tryz.prog cx63 kt63 R63 := ⟨tabOK, mixed, ok63⟩
theorem run63 {args : List AV} {s : List (Nat × AB)} {R : AV → List (Nat × AB) → Prop} (n : Nat) (ct : List Nat) (hle : Nat.ble args.length 20 = true) (hb : belowB n s = true) (h : run Tryz.prog cx63 n kt63 ct R63 (KV T Tryz.f63.results.toList n R) 100000 ⟨.code [], [], argEnv 0 args, s⟩) : Contract Tryz.prog G0 63 args s R :=
  Contract.of_run (cx := cx63) wk63 Tryz.func63 rfl (enters_of Tryz.func63 (by kernel_rfl) rfl) rfl (Nat.le_of_ble_eq_true hle) hb h
noncomputable def R64 : Code := Tryz.f64.body.getD .skip
theorem wk64 : WK Tryz.prog cx64 kt64 R64 := ⟨tabOK, mixed, ok64⟩
theorem run64 {args : List AV} {s : List (Nat × AB)} {R : AV → List (Nat × AB) → Prop} (n : Nat) (ct : List Nat) (hle : Nat.ble args.length 17 = true) (hb : belowB n s = true) (h : run Tryz.prog cx64 n kt64 ct R64 (KV T Tryz.f64.results.toList n R) 100000 ⟨.code [], [], argEnv 0 args, s⟩) : Contract Tryz.prog G0 64 args s R :=
  Contract.of_run (cx := cx64) wk64 Tryz.func64 rfl (enters_of Tryz.func64 (by kernel_rfl) rfl) rfl (Nat.le_of_ble_eq_true hle) hb h
noncomputable def R65 : Code := Tryz.f65.body.getD .skip
theorem wk65 : WK Tryz.prog cx65 kt65 R65 := ⟨tabOK, mixed, ok65⟩
noncomputable def R66 : Code := Tryz.f66.body.getD .skip
theorem wk66 : WK Tryz.prog cx66 kt66 R66 := ⟨tabOK, mixed, ok66⟩
theorem rung66 {args : List AV} {s : List (Nat × AB)} {R : AV → List (Nat × AB) → Prop} (n : Nat) (ct : List Nat) (hle : Nat.ble args.length 18 = true) (hb : belowB n s = true) (h : run Tryz.prog cx66 n kt66 ct R66 (KG cx66 Tryz.f66.results.toList n R) 100000 ⟨.code [], [], argEnv 0 args, s⟩) : Contract Tryz.prog G0 66 args s R :=
  Contract.of_runG (cx := cx66) wk66 Tryz.func66 rfl (enters_of Tryz.func66 (by kernel_rfl) rfl) rfl (Nat.le_of_ble_eq_true hle) hb h
noncomputable def R67 : Code := Tryz.f67.body.getD .skip
theorem wk67 : WK Tryz.prog cx67 kt67 R67 := ⟨tabOK, mixed, ok67⟩
noncomputable def R68 : Code := Tryz.f68.body.getD .skip
theorem wk68 : WK Tryz.prog cx68 kt68 R68 := ⟨tabOK, mixed, ok68⟩
theorem run68 {args : List AV} {s : List (Nat × AB)} {R : AV → List (Nat × AB) → Prop} (n : Nat) (ct : List Nat) (hle : Nat.ble args.length 32 = true) (hb : belowB n s = true) (h : run Tryz.prog cx68 n kt68 ct R68 (KV T Tryz.f68.results.toList n R) 100000 ⟨.code [], [], argEnv 0 args, s⟩) : Contract Tryz.prog G0 68 args s R :=
  Contract.of_run (cx := cx68) wk68 Tryz.func68 rfl (enters_of Tryz.func68 (by kernel_rfl) rfl) rfl (Nat.le_of_ble_eq_true hle) hb h
noncomputable def R69 : Code := Tryz.f69.body.getD .skip
theorem wk69 : WK Tryz.prog cx69 kt69 R69 := ⟨tabOK, mixed, ok69⟩
theorem run69 {args : List AV} {s : List (Nat × AB)} {R : AV → List (Nat × AB) → Prop} (n : Nat) (ct : List Nat) (hle : Nat.ble args.length 24 = true) (hb : belowB n s = true) (h : run Tryz.prog cx69 n kt69 ct R69 (KV T Tryz.f69.results.toList n R) 100000 ⟨.code [], [], argEnv 0 args, s⟩) : Contract Tryz.prog G0 69 args s R :=
  Contract.of_run (cx := cx69) wk69 Tryz.func69 rfl (enters_of Tryz.func69 (by kernel_rfl) rfl) rfl (Nat.le_of_ble_eq_true hle) hb h
noncomputable def R70 : Code := Tryz.f70.body.getD .skip
theorem wk70 : WK Tryz.prog cx70 kt70 R70 := ⟨tabOK, mixed, ok70⟩
theorem run70 {args : List AV} {s : List (Nat × AB)} {R : AV → List (Nat × AB) → Prop} (n : Nat) (ct : List Nat) (hle : Nat.ble args.length 26 = true) (hb : belowB n s = true) (h : run Tryz.prog cx70 n kt70 ct R70 (KV T Tryz.f70.results.toList n R) 100000 ⟨.code [], [], argEnv 0 args, s⟩) : Contract Tryz.prog G0 70 args s R :=
  Contract.of_run (cx := cx70) wk70 Tryz.func70 rfl (enters_of Tryz.func70 (by kernel_rfl) rfl) rfl (Nat.le_of_ble_eq_true hle) hb h
noncomputable def R71 : Code := Tryz.f71.body.getD .skip
theorem wk71 : WK Tryz.prog cx71 kt71 R71 := ⟨tabOK, mixed, ok71⟩
theorem run71 {args : List AV} {s : List (Nat × AB)} {R : AV → List (Nat × AB) → Prop} (n : Nat) (ct : List Nat) (hle : Nat.ble args.length 21 = true) (hb : belowB n s = true) (h : run Tryz.prog cx71 n kt71 ct R71 (KV T Tryz.f71.results.toList n R) 100000 ⟨.code [], [], argEnv 0 args, s⟩) : Contract Tryz.prog G0 71 args s R :=
  Contract.of_run (cx := cx71) wk71 Tryz.func71 rfl (enters_of Tryz.func71 (by kernel_rfl) rfl) rfl (Nat.le_of_ble_eq_true hle) hb h
noncomputable def R72 : Code := Tryz.f72.body.getD .skip
theorem wk72 : WK Tryz.prog cx72 kt72 R72 := ⟨tabOK, mixed, ok72⟩
theorem run72 {args : List AV} {s : List (Nat × AB)} {R : AV → List (Nat × AB) → Prop} (n : Nat) (ct : List Nat) (hle : Nat.ble args.length 9 = true) (hb : belowB n s = true) (h : run Tryz.prog cx72 n kt72 ct R72 (KV T Tryz.f72.results.toList n R) 100000 ⟨.code [], [], argEnv 0 args, s⟩) : Contract Tryz.prog G0 72 args s R :=
  Contract.of_run (cx := cx72) wk72 Tryz.func72 rfl (enters_of Tryz.func72 (by kernel_rfl) rfl) rfl (Nat.le_of_ble_eq_true hle) hb h
noncomputable def R73 : Code := Tryz.f73.body.getD .skip
theorem wk73 : WK Tryz.prog cx73 kt73 R73 := ⟨tabOK, mixed, ok73⟩
theorem run73 {args : List AV} {s : List (Nat × AB)} {R : AV → List (Nat × AB) → Prop} (n : Nat) (ct : List Nat) (hle : Nat.ble args.length 60 = true) (hb : belowB n s = true) (h : run Tryz.prog cx73 n kt73 ct R73 (KV T Tryz.f73.results.toList n R) 100000 ⟨.code [], [], argEnv 0 args, s⟩) : Contract Tryz.prog G0 73 args s R :=
  Contract.of_run (cx := cx73) wk73 Tryz.func73 rfl (enters_of Tryz.func73 (by kernel_rfl) rfl) rfl (Nat.le_of_ble_eq_true hle) hb h
noncomputable def R74 : Code := Tryz.f74.body.getD .skip
theorem wk74 : WK Tryz.prog cx74 kt74 R74 := ⟨tabOK, mixed, ok74⟩
theorem run74 {args : List AV} {s : List (Nat × AB)} {R : AV → List (Nat × AB) → Prop} (n : Nat) (ct : List Nat) (hle : Nat.ble args.length 22 = true) (hb : belowB n s = true) (h : run Tryz.prog cx74 n kt74 ct R74 (KV T Tryz.f74.results.toList n R) 100000 ⟨.code [], [], argEnv 0 args, s⟩) : Contract Tryz.prog G0 74 args s R :=
  Contract.of_run (cx := cx74) wk74 Tryz.func74 rfl (enters_of Tryz.func74 (by kernel_rfl) rfl) rfl (Nat.le_of_ble_eq_true hle) hb h
noncomputable def R75 : Code := Tryz.f75.body.getD .skip
theorem wk75 : WK Tryz.prog cx75 kt75 R75 := ⟨tabOK, mixed, ok75⟩
theorem rung75 {args : List AV} {s : List (Nat × AB)} {R : AV → List (Nat × AB) → Prop} (n : Nat) (ct : List Nat) (hle : Nat.ble args.length 8 = true) (hb : belowB n s = true) (h : run Tryz.prog cx75 n kt75 ct R75 (KG cx75 Tryz.f75.results.toList n R) 100000 ⟨.code [], [], argEnv 0 args, s⟩) : Contract Tryz.prog G0 75 args s R :=
  Contract.of_runG (cx := cx75) wk75 Tryz.func75 rfl (enters_of Tryz.func75 (by kernel_rfl) rfl) rfl (Nat.le_of_ble_eq_true hle) hb h
noncomputable def R76 : Code := Tryz.f76.body.getD .skip
theorem wk76 : WK Tryz.prog cx76 kt76 R76 := ⟨tabOK, mixed, ok76⟩
theorem run76 {args : List AV} {s : List (Nat × AB)} {R : AV → List (Nat × AB) → Prop} (n : Nat) (ct : List Nat) (hle : Nat.ble args.length 9 = true) (hb : belowB n s = true) (h : run Tryz.prog cx76 n kt76 ct R76 (KV T Tryz.f76.results.toList n R) 100000 ⟨.code [], [], argEnv 0 args, s⟩) : Contract Tryz.prog G0 76 args s R :=
  Contract.of_run (cx := cx76) wk76 Tryz.func76 rfl (enters_of Tryz.func76 (by kernel_rfl) rfl) rfl (Nat.le_of_ble_eq_true hle) hb h
noncomputable def R77 : Code := Tryz.f77.body.getD .skip
theorem wk77 : WK Tryz.prog cx77 kt77 R77 := ⟨tabOK, mixed, ok77⟩
noncomputable def R78 : Code := Tryz.f78.body.getD .skip
theorem wk78 : WK Tryz.prog cx78 kt78 R78 := ⟨tabOK, mixed, ok78⟩
theorem run78 {args : List AV} {s : List (Nat × AB)} {R : AV → List (Nat × AB) → Prop} (n : Nat) (ct : List Nat) (hle : Nat.ble args.length 8 = true) (hb : belowB n s = true) (h : run Tryz.prog cx78 n kt78 ct R78 (KV T Tryz.f78.results.toList n R) 100000 ⟨.code [], [], argEnv 0 args, s⟩) : Contract Tryz.prog G0 78 args s R :=
  Contract.of_run (cx := cx78) wk78 Tryz.func78 rfl (enters_of Tryz.func78 (by kernel_rfl) rfl) rfl (Nat.le_of_ble_eq_true hle) hb h
theorem rung78 {args : List AV} {s : List (Nat × AB)} {R : AV → List (Nat × AB) → Prop} (n : Nat) (ct : List Nat) (hle : Nat.ble args.length 8 = true) (hb : belowB n s = true) (h : run Tryz.prog cx78 n kt78 ct R78 (KG cx78 Tryz.f78.results.toList n R) 100000 ⟨.code [], [], argEnv 0 args, s⟩) : Contract Tryz.prog G0 78 args s R :=
  Contract.of_runG (cx := cx78) wk78 Tryz.func78 rfl (enters_of Tryz.func78 (by kernel_rfl) rfl) rfl (Nat.le_of_ble_eq_true hle) hb h
noncomputable def R79 : Code := Tryz.f79.body.getD .skip
theorem wk79 : WK Tryz.prog cx79 kt79 R79 := ⟨tabOK, mixed, ok79⟩
theorem run79 {args : List AV} {s : List (Nat × AB)} {R : AV → List (Nat × AB) → Prop} (n : Nat) (ct : List Nat) (hle : Nat.ble args.length 8 = true) (hb : belowB n s = true) (h : run Tryz.prog cx79 n kt79 ct R79 (KV T Tryz.f79.results.toList n R) 100000 ⟨.code [], [], argEnv 0 args, s⟩) : Contract Tryz.prog G0 79 args s R :=
  Contract.of_run (cx := cx79) wk79 Tryz.func79 rfl (enters_of Tryz.func79 (by kernel_rfl) rfl) rfl (Nat.le_of_ble_eq_true hle) hb h
noncomputable def R80 : Code := Tryz.f80.body.getD .skip
theorem wk80 : WK Tryz.prog cx80 kt80 R80 := ⟨tabOK, mixed, ok80⟩
theorem run80 {args : List AV} {s : List (Nat × AB)} {R : AV → List (Nat × AB) → Prop} (n : Nat) (ct : List Nat) (hle : Nat.ble args.length 19 = true) (hb : belowB n s = true) (h : run Tryz.prog cx80 n kt80 ct R80 (KV T Tryz.f80.results.toList n R) 100000 ⟨.code [], [], argEnv 0 args, s⟩) : Contract Tryz.prog G0 80 args s R :=
  Contract.of_run (cx := cx80) wk80 Tryz.func80 rfl (enters_of Tryz.func80 (by kernel_rfl) rfl) rfl (Nat.le_of_ble_eq_true hle) hb h
noncomputable def R81 : Code := Tryz.f81.body.getD .skip
theorem wk81 : WK Tryz.prog cx81 kt81 R81 := ⟨tabOK, mixed, ok81⟩
theorem run81 {args : List AV} {s : List (Nat × AB)} {R : AV → List (Nat × AB) → Prop} (n : Nat) (ct : List Nat) (hle : Nat.ble args.length 9 = true) (hb : belowB n s = true) (h : run Tryz.prog cx81 n kt81 ct R81 (KV T Tryz.f81.results.toList n R) 100000 ⟨.code [], [], argEnv 0 args, s⟩) : Contract Tryz.prog G0 81 args s R :=
  Contract.of_run (cx := cx81) wk81 Tryz.func81 rfl (enters_of Tryz.func81 (by kernel_rfl) rfl) rfl (Nat.le_of_ble_eq_true hle) hb h
noncomputable def R82 : Code := Tryz.f82.body.getD .skip
theorem wk82 : WK Tryz.prog cx82 kt82 R82 := ⟨tabOK, mixed, ok82⟩
theorem rung82 {args : List AV} {s : List (Nat × AB)} {R : AV → List (Nat × AB) → Prop} (n : Nat) (ct : List Nat) (hle : Nat.ble args.length 95 = true) (hb : belowB n s = true) (h : run Tryz.prog cx82 n kt82 ct R82 (KG cx82 Tryz.f82.results.toList n R) 100000 ⟨.code [], [], argEnv 0 args, s⟩) : Contract Tryz.prog G0 82 args s R :=
  Contract.of_runG (cx := cx82) wk82 Tryz.func82 rfl (enters_of Tryz.func82 (by kernel_rfl) rfl) rfl (Nat.le_of_ble_eq_true hle) hb h
noncomputable def R83 : Code := Tryz.f83.body.getD .skip
theorem wk83 : WK Tryz.prog cx83 kt83 R83 := ⟨tabOK, mixed, ok83⟩
theorem run83 {args : List AV} {s : List (Nat × AB)} {R : AV → List (Nat × AB) → Prop} (n : Nat) (ct : List Nat) (hle : Nat.ble args.length 24 = true) (hb : belowB n s = true) (h : run Tryz.prog cx83 n kt83 ct R83 (KV T Tryz.f83.results.toList n R) 100000 ⟨.code [], [], argEnv 0 args, s⟩) : Contract Tryz.prog G0 83 args s R :=
  Contract.of_run (cx := cx83) wk83 Tryz.func83 rfl (enters_of Tryz.func83 (by kernel_rfl) rfl) rfl (Nat.le_of_ble_eq_true hle) hb h
noncomputable def R84 : Code := Tryz.f84.body.getD .skip
theorem wk84 : WK Tryz.prog cx84 kt84 R84 := ⟨tabOK, mixed, ok84⟩
theorem run84 {args : List AV} {s : List (Nat × AB)} {R : AV → List (Nat × AB) → Prop} (n : Nat) (ct : List Nat) (hle : Nat.ble args.length 9 = true) (hb : belowB n s = true) (h : run Tryz.prog cx84 n kt84 ct R84 (KV T Tryz.f84.results.toList n R) 100000 ⟨.code [], [], argEnv 0 args, s⟩) : Contract Tryz.prog G0 84 args s R :=
  Contract.of_run (cx := cx84) wk84 Tryz.func84 rfl (enters_of Tryz.func84 (by kernel_rfl) rfl) rfl (Nat.le_of_ble_eq_true hle) hb h
noncomputable def R85 : Code := Tryz.f85.body.getD .skip
theorem wk85 : WK Tryz.prog cx85 kt85 R85 := ⟨tabOK, mixed, ok85⟩
theorem run85 {args : List AV} {s : List (Nat × AB)} {R : AV → List (Nat × AB) → Prop} (n : Nat) (ct : List Nat) (hle : Nat.ble args.length 8 = true) (hb : belowB n s = true) (h : run Tryz.prog cx85 n kt85 ct R85 (KV T Tryz.f85.results.toList n R) 100000 ⟨.code [], [], argEnv 0 args, s⟩) : Contract Tryz.prog G0 85 args s R :=
  Contract.of_run (cx := cx85) wk85 Tryz.func85 rfl (enters_of Tryz.func85 (by kernel_rfl) rfl) rfl (Nat.le_of_ble_eq_true hle) hb h
noncomputable def R86 : Code := Tryz.f86.body.getD .skip
theorem wk86 : WK Tryz.prog cx86 kt86 R86 := ⟨tabOK, mixed, ok86⟩
theorem run86 {args : List AV} {s : List (Nat × AB)} {R : AV → List (Nat × AB) → Prop} (n : Nat) (ct : List Nat) (hle : Nat.ble args.length 8 = true) (hb : belowB n s = true) (h : run Tryz.prog cx86 n kt86 ct R86 (KV T Tryz.f86.results.toList n R) 100000 ⟨.code [], [], argEnv 0 args, s⟩) : Contract Tryz.prog G0 86 args s R :=
  Contract.of_run (cx := cx86) wk86 Tryz.func86 rfl (enters_of Tryz.func86 (by kernel_rfl) rfl) rfl (Nat.le_of_ble_eq_true hle) hb h
noncomputable def R87 : Code := Tryz.f87.body.getD .skip
theorem wk87 : WK Tryz.prog cx87 kt87 R87 := ⟨tabOK, mixed, ok87⟩
theorem run87 {args : List AV} {s : List (Nat × AB)} {R : AV → List (Nat × AB) → Prop} (n : Nat) (ct : List Nat) (hle : Nat.ble args.length 24 = true) (hb : belowB n s = true) (h : run Tryz.prog cx87 n kt87 ct R87 (KV T Tryz.f87.results.toList n R) 100000 ⟨.code [], [], argEnv 0 args, s⟩) : Contract Tryz.prog G0 87 args s R :=
  Contract.of_run (cx := cx87) wk87 Tryz.func87 rfl (enters_of Tryz.func87 (by kernel_rfl) rfl) rfl (Nat.le_of_ble_eq_true hle) hb h
noncomputable def R88 : Code := Tryz.f88.body.getD .skip
theorem wk88 : WK Tryz.prog cx88 kt88 R88 := ⟨tabOK, mixed, ok88⟩
theorem run88 {args : List AV} {s : List (Nat × AB)} {R : AV → List (Nat × AB) → Prop} (n : Nat) (ct : List Nat) (hle : Nat.ble args.length 29 = true) (hb : belowB n s = true) (h : run Tryz.prog cx88 n kt88 ct R88 (KV T Tryz.f88.results.toList n R) 100000 ⟨.code [], [], argEnv 0 args, s⟩) : Contract Tryz.prog G0 88 args s R :=
  Contract.of_run (cx := cx88) wk88 Tryz.func88 rfl (enters_of Tryz.func88 (by kernel_rfl) rfl) rfl (Nat.le_of_ble_eq_true hle) hb h
noncomputable def R89 : Code := Tryz.f89.body.getD .skip
theorem wk89 : WK Tryz.prog cx89 kt89 R89 := ⟨tabOK, mixed, ok89⟩
theorem run89 {args : List AV} {s : List (Nat × AB)} {R : AV → List (Nat × AB) → Prop} (n : Nat) (ct : List Nat) (hle : Nat.ble args.length 19 = true) (hb : belowB n s = true) (h : run Tryz.prog cx89 n kt89 ct R89 (KV T Tryz.f89.results.toList n R) 100000 ⟨.code [], [], argEnv 0 args, s⟩) : Contract Tryz.prog G0 89 args s R :=
  Contract.of_run (cx := cx89) wk89 Tryz.func89 rfl (enters_of Tryz.func89 (by kernel_rfl) rfl) rfl (Nat.le_of_ble_eq_true hle) hb h
noncomputable def R90 : Code := Tryz.f90.body.getD .skip
theorem wk90 : WK Tryz.prog cx90 kt90 R90 := ⟨tabOK, mixed, ok90⟩
theorem run90 {args : List AV} {s : List (Nat × AB)} {R : AV → List (Nat × AB) → Prop} (n : Nat) (ct : List Nat) (hle : Nat.ble args.length 63 = true) (hb : belowB n s = true) (h : run Tryz.prog cx90 n kt90 ct R90 (KV T Tryz.f90.results.toList n R) 100000 ⟨.code [], [], argEnv 0 args, s⟩) : Contract Tryz.prog G0 90 args s R :=
  Contract.of_run (cx := cx90) wk90 Tryz.func90 rfl (enters_of Tryz.func90 (by kernel_rfl) rfl) rfl (Nat.le_of_ble_eq_true hle) hb h
noncomputable def R91 : Code := Tryz.f91.body.getD .skip
theorem wk91 : WK Tryz.prog cx91 kt91 R91 := ⟨tabOK, mixed, ok91⟩
theorem run91 {args : List AV} {s : List (Nat × AB)} {R : AV → List (Nat × AB) → Prop} (n : Nat) (ct : List Nat) (hle : Nat.ble args.length 6 = true) (hb : belowB n s = true) (h : run Tryz.prog cx91 n kt91 ct R91 (KV T Tryz.f91.results.toList n R) 100000 ⟨.code [], [], argEnv 0 args, s⟩) : Contract Tryz.prog G0 91 args s R :=
  Contract.of_run (cx := cx91) wk91 Tryz.func91 rfl (enters_of Tryz.func91 (by kernel_rfl) rfl) rfl (Nat.le_of_ble_eq_true hle) hb h
noncomputable def R92 : Code := Tryz.f92.body.getD .skip
theorem wk92 : WK Tryz.prog cx92 kt92 R92 := ⟨tabOK, mixed, ok92⟩
theorem run92 {args : List AV} {s : List (Nat × AB)} {R : AV → List (Nat × AB) → Prop} (n : Nat) (ct : List Nat) (hle : Nat.ble args.length 17 = true) (hb : belowB n s = true) (h : run Tryz.prog cx92 n kt92 ct R92 (KV T Tryz.f92.results.toList n R) 100000 ⟨.code [], [], argEnv 0 args, s⟩) : Contract Tryz.prog G0 92 args s R :=
  Contract.of_run (cx := cx92) wk92 Tryz.func92 rfl (enters_of Tryz.func92 (by kernel_rfl) rfl) rfl (Nat.le_of_ble_eq_true hle) hb h
noncomputable def R94 : Code := Tryz.f94.body.getD .skip
theorem wk94 : WK Tryz.prog cx94 kt94 R94 := ⟨tabOK, mixed, ok94⟩
noncomputable def R95 : Code := Tryz.f95.body.getD .skip
theorem wk95 : WK Tryz.prog cx95 kt95 R95 := ⟨tabOK, mixed, ok95⟩
noncomputable def R96 : Code := Tryz.f96.body.getD .skip
theorem wk96 : WK Tryz.prog cx96 kt96 R96 := ⟨tabOK, mixed, ok96⟩
noncomputable def R97 : Code := Tryz.f97.body.getD .skip
theorem wk97 : WK Tryz.prog cx97 kt97 R97 := ⟨tabOK, mixed, ok97⟩
theorem rung97 {args : List AV} {s : List (Nat × AB)} {R : AV → List (Nat × AB) → Prop} (n : Nat) (ct : List Nat) (hle : Nat.ble args.length 47 = true) (hb : belowB n s = true) (h : run Tryz.prog cx97 n kt97 ct R97 (KG cx97 Tryz.f97.results.toList n R) 100000 ⟨.code [], [], argEnv 0 args, s⟩) : Contract Tryz.prog G0 97 args s R :=
  Contract.of_runG (cx := cx97) wk97 Tryz.func97 rfl (enters_of Tryz.func97 (by kernel_rfl) rfl) rfl (Nat.le_of_ble_eq_true hle) hb h
noncomputable def R98 : Code := Tryz.f98.body.getD .skip
theorem wk98 : WK Tryz.prog cx98 kt98 R98 := ⟨tabOK, mixed, ok98⟩
noncomputable def R99 : Code := Tryz.f99.body.getD .skip
theorem wk99 : WK Tryz.prog cx99 kt99 R99 := ⟨tabOK, mixed, ok99⟩
theorem run99 {args : List AV} {s : List (Nat × AB)} {R : AV → List (Nat × AB) → Prop} (n : Nat) (ct : List Nat) (hle : Nat.ble args.length 8 = true) (hb : belowB n s = true) (h : run Tryz.prog cx99 n kt99 ct R99 (KV T Tryz.f99.results.toList n R) 100000 ⟨.code [], [], argEnv 0 args, s⟩) : Contract Tryz.prog G0 99 args s R :=
  Contract.of_run (cx := cx99) wk99 Tryz.func99 rfl (enters_of Tryz.func99 (by kernel_rfl) rfl) rfl (Nat.le_of_ble_eq_true hle) hb h
noncomputable def R101 : Code := Tryz.f101.body.getD .skip
theorem wk101 : WK Tryz.prog cx101 kt101 R101 := ⟨tabOK, mixed, ok101⟩
noncomputable def R102 : Code := Tryz.f102.body.getD .skip
theorem wk102 : WK Tryz.prog cx102 kt102 R102 := ⟨tabOK, mixed, ok102⟩
theorem run102 {args : List AV} {s : List (Nat × AB)} {R : AV → List (Nat × AB) → Prop} (n : Nat) (ct : List Nat) (hle : Nat.ble args.length 19 = true) (hb : belowB n s = true) (h : run Tryz.prog cx102 n kt102 ct R102 (KV T Tryz.f102.results.toList n R) 100000 ⟨.code [], [], argEnv 0 args, s⟩) : Contract Tryz.prog G0 102 args s R :=
  Contract.of_run (cx := cx102) wk102 Tryz.func102 rfl (enters_of Tryz.func102 (by kernel_rfl) rfl) rfl (Nat.le_of_ble_eq_true hle) hb h
noncomputable def R103 : Code := Tryz.f103.body.getD .skip
theorem wk103 : WK Tryz.prog cx103 kt103 R103 := ⟨tabOK, mixed, ok103⟩
theorem run103 {args : List AV} {s : List (Nat × AB)} {R : AV → List (Nat × AB) → Prop} (n : Nat) (ct : List Nat) (hle : Nat.ble args.length 17 = true) (hb : belowB n s = true) (h : run Tryz.prog cx103 n kt103 ct R103 (KV T Tryz.f103.results.toList n R) 100000 ⟨.code [], [], argEnv 0 args, s⟩) : Contract Tryz.prog G0 103 args s R :=
  Contract.of_run (cx := cx103) wk103 Tryz.func103 rfl (enters_of Tryz.func103 (by kernel_rfl) rfl) rfl (Nat.le_of_ble_eq_true hle) hb h
noncomputable def R104 : Code := Tryz.f104.body.getD .skip
theorem wk104 : WK Tryz.prog cx104 kt104 R104 := ⟨tabOK, mixed, ok104⟩
theorem run104 {args : List AV} {s : List (Nat × AB)} {R : AV → List (Nat × AB) → Prop} (n : Nat) (ct : List Nat) (hle : Nat.ble args.length 53 = true) (hb : belowB n s = true) (h : run Tryz.prog cx104 n kt104 ct R104 (KV T Tryz.f104.results.toList n R) 100000 ⟨.code [], [], argEnv 0 args, s⟩) : Contract Tryz.prog G0 104 args s R :=
  Contract.of_run (cx := cx104) wk104 Tryz.func104 rfl (enters_of Tryz.func104 (by kernel_rfl) rfl) rfl (Nat.le_of_ble_eq_true hle) hb h
noncomputable def R105 : Code := Tryz.f105.body.getD .skip
theorem wk105 : WK Tryz.prog cx105 kt105 R105 := ⟨tabOK, mixed, ok105⟩
theorem run105 {args : List AV} {s : List (Nat × AB)} {R : AV → List (Nat × AB) → Prop} (n : Nat) (ct : List Nat) (hle : Nat.ble args.length 220 = true) (hb : belowB n s = true) (h : run Tryz.prog cx105 n kt105 ct R105 (KV T Tryz.f105.results.toList n R) 100000 ⟨.code [], [], argEnv 0 args, s⟩) : Contract Tryz.prog G0 105 args s R :=
  Contract.of_run (cx := cx105) wk105 Tryz.func105 rfl (enters_of Tryz.func105 (by kernel_rfl) rfl) rfl (Nat.le_of_ble_eq_true hle) hb h
noncomputable def R106 : Code := Tryz.f106.body.getD .skip
theorem wk106 : WK Tryz.prog cx106 kt106 R106 := ⟨tabOK, mixed, ok106⟩
noncomputable def R107 : Code := Tryz.f107.body.getD .skip
theorem wk107 : WK Tryz.prog cx107 kt107 R107 := ⟨tabOK, mixed, ok107⟩
noncomputable def R108 : Code := Tryz.f108.body.getD .skip
theorem wk108 : WK Tryz.prog cx108 kt108 R108 := ⟨tabOK, mixed, ok108⟩
noncomputable def R109 : Code := Tryz.f109.body.getD .skip
theorem wk109 : WK Tryz.prog cx109 kt109 R109 := ⟨tabOK, mixed, ok109⟩
noncomputable def R110 : Code := Tryz.f110.body.getD .skip
theorem wk110 : WK Tryz.prog cx110 kt110 R110 := ⟨tabOK, mixed, ok110⟩
theorem run110 {args : List AV} {s : List (Nat × AB)} {R : AV → List (Nat × AB) → Prop} (n : Nat) (ct : List Nat) (hle : Nat.ble args.length 58 = true) (hb : belowB n s = true) (h : run Tryz.prog cx110 n kt110 ct R110 (KV T Tryz.f110.results.toList n R) 100000 ⟨.code [], [], argEnv 0 args, s⟩) : Contract Tryz.prog G0 110 args s R :=
  Contract.of_run (cx := cx110) wk110 Tryz.func110 rfl (enters_of Tryz.func110 (by kernel_rfl) rfl) rfl (Nat.le_of_ble_eq_true hle) hb h
noncomputable def R111 : Code := Tryz.f111.body.getD .skip
theorem wk111 : WK Tryz.prog cx111 kt111 R111 := ⟨tabOK, mixed, ok111⟩
noncomputable def R112 : Code := Tryz.f112.body.getD .skip
theorem wk112 : WK Tryz.prog cx112 kt112 R112 := ⟨tabOK, mixed, ok112⟩
noncomputable def R113 : Code := Tryz.f113.body.getD .skip
theorem wk113 : WK Tryz.prog cx113 kt113 R113 := ⟨tabOK, mixed, ok113⟩
noncomputable def R114 : Code := Tryz.f114.body.getD .skip
theorem wk114 : WK Tryz.prog cx114 kt114 R114 := ⟨tabOK, mixed, ok114⟩
noncomputable def R115 : Code := Tryz.f115.body.getD .skip
theorem wk115 : WK Tryz.prog cx115 kt115 R115 := ⟨tabOK, mixed, ok115⟩
noncomputable def R116 : Code := Tryz.f116.body.getD .skip
theorem wk116 : WK Tryz.prog cx116 kt116 R116 := ⟨tabOK, mixed, ok116⟩
noncomputable def R117 : Code := Tryz.f117.body.getD .skip
theorem wk117 : WK Tryz.prog cx117 kt117 R117 := ⟨tabOK, mixed, ok117⟩
noncomputable def R118 : Code := Tryz.f118.body.getD .skip
theorem wk118 : WK Tryz.prog cx118 kt118 R118 := ⟨tabOK, mixed, ok118⟩
noncomputable def R119 : Code := Tryz.f119.body.getD .skip
theorem wk119 : WK Tryz.prog cx119 kt119 R119 := ⟨tabOK, mixed, ok119⟩
noncomputable def R120 : Code := Tryz.f120.body.getD .skip
theorem wk120 : WK Tryz.prog cx120 kt120 R120 := ⟨tabOK, mixed, ok120⟩
noncomputable def R121 : Code := Tryz.f121.body.getD .skip
theorem wk121 : WK Tryz.prog cx121 kt121 R121 := ⟨tabOK, mixed, ok121⟩
noncomputable def R122 : Code := Tryz.f122.body.getD .skip
theorem wk122 : WK Tryz.prog cx122 kt122 R122 := ⟨tabOK, mixed, ok122⟩
noncomputable def R123 : Code := Tryz.f123.body.getD .skip
theorem wk123 : WK Tryz.prog cx123 kt123 R123 := ⟨tabOK, mixed, ok123⟩
noncomputable def R124 : Code := Tryz.f124.body.getD .skip
theorem wk124 : WK Tryz.prog cx124 kt124 R124 := ⟨tabOK, mixed, ok124⟩
theorem run124 {args : List AV} {s : List (Nat × AB)} {R : AV → List (Nat × AB) → Prop} (n : Nat) (ct : List Nat) (hle : Nat.ble args.length 38 = true) (hb : belowB n s = true) (h : run Tryz.prog cx124 n kt124 ct R124 (KV T Tryz.f124.results.toList n R) 100000 ⟨.code [], [], argEnv 0 args, s⟩) : Contract Tryz.prog G0 124 args s R :=
  Contract.of_run (cx := cx124) wk124 Tryz.func124 rfl (enters_of Tryz.func124 (by kernel_rfl) rfl) rfl (Nat.le_of_ble_eq_true hle) hb h
noncomputable def R125 : Code := Tryz.f125.body.getD .skip
theorem wk125 : WK Tryz.prog cx125 kt125 R125 := ⟨tabOK, mixed, ok125⟩
noncomputable def R126 : Code := Tryz.f126.body.getD .skip
theorem wk126 : WK Tryz.prog cx126 kt126 R126 := ⟨tabOK, mixed, ok126⟩
noncomputable def R127 : Code := Tryz.f127.body.getD .skip
theorem wk127 : WK Tryz.prog cx127 kt127 R127 := ⟨tabOK, mixed, ok127⟩
noncomputable def R128 : Code := Tryz.f128.body.getD .skip
theorem wk128 : WK Tryz.prog cx128 kt128 R128 := ⟨tabOK, mixed, ok128⟩
noncomputable def R129 : Code := Tryz.f129.body.getD .skip
theorem wk129 : WK Tryz.prog cx129 kt129 R129 := ⟨tabOK, mixed, ok129⟩
noncomputable def R130 : Code := Tryz.f130.body.getD .skip
theorem wk130 : WK Tryz.prog cx130 kt130 R130 := ⟨tabOK, mixed, ok130⟩
end Go.Proofs.YtkenimmellonjaaGreat
