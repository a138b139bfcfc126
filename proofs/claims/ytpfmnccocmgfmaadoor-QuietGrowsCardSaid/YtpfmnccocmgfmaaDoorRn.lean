/- The walk's shells of the program YtpfmnccocmgfmaaDoor. -/
import Derived.Test.YtpfmnccocmgfmaaDoorFn
import Derived.Test.YtpfmnccocmgfmaaDoorFrD
namespace Go.Proofs.YtpfmnccocmgfmaaDoor
open Go.Pv Go.RowKit
noncomputable def R2 : Code := Tryd.f2.body.getD .skip
theorem wk2 : WK Tryd.prog cx2 kt2 R2 := ⟨tabOK, mixed, ok2⟩
noncomputable def R3 : Code := Tryd.f3.body.getD .skip
theorem wk3 : WK Tryd.prog cx3 kt3 R3 := ⟨tabOK, mixed, ok3⟩
noncomputable def R4 : Code := Tryd.f4.body.getD .skip
theorem wk4 : WK Tryd.prog cx4 kt4 R4 := ⟨tabOK, mixed, ok4⟩
noncomputable def R5 : Code := Tryd.f5.body.getD .skip
theorem wk5 : WK Tryd.prog cx5 kt5 R5 := ⟨tabOK, mixed, ok5⟩
noncomputable def R6 : Code := Tryd.f6.body.getD .skip
theorem wk6 : WK Tryd.prog cx6 kt6 R6 := ⟨tabOK, mixed, ok6⟩
noncomputable def R7 : Code := Tryd.f7.body.getD .skip
theorem wk7 : WK Tryd.prog cx7 kt7 R7 := ⟨tabOK, mixed, ok7⟩
theorem run7 {args : List AV} {s : List (Nat × AB)} {R : AV → List (Nat × AB) → Prop} (n : Nat) (ct : List Nat) (hle : Nat.ble args.length 36 = true) (hb : belowB n s = true) (h : run Tryd.prog cx7 n kt7 ct R7 (KV T Tryd.f7.results.toList n R) 100000 ⟨.code [], [], argEnv 0 args, s⟩) : Contract Tryd.prog (GN) 7 args s R :=
  Contract.of_run (cx := cx7) wk7 Tryd.func7 rfl (enters_of Tryd.func7 (by kernel_rfl) rfl) rfl (Nat.le_of_ble_eq_true hle) hb h
noncomputable def R8 : Code := Tryd.f8.body.getD .skip
theorem wk8 : WK Tryd.prog cx8 kt8 R8 := ⟨tabOK, mixed, ok8⟩
theorem run8 {args : List AV} {s : List (Nat × AB)} {R : AV → List (Nat × AB) → Prop} (n : Nat) (ct : List Nat) (hle : Nat.ble args.length 110 = true) (hb : belowB n s = true) (h : run Tryd.prog cx8 n kt8 ct R8 (KV T Tryd.f8.results.toList n R) 100000 ⟨.code [], [], argEnv 0 args, s⟩) : Contract Tryd.prog (GN) 8 args s R :=
  Contract.of_run (cx := cx8) wk8 Tryd.func8 rfl (enters_of Tryd.func8 (by kernel_rfl) rfl) rfl (Nat.le_of_ble_eq_true hle) hb h
noncomputable def R9 : Code := Tryd.f9.body.getD .skip
theorem wk9 : WK Tryd.prog cx9 kt9 R9 := ⟨tabOK, mixed, ok9⟩
noncomputable def R10 : Code := Tryd.f10.body.getD .skip
theorem wk10 : WK Tryd.prog cx10 kt10 R10 := ⟨tabOK, mixed, ok10⟩
theorem run10 {args : List AV} {s : List (Nat × AB)} {R : AV → List (Nat × AB) → Prop} (n : Nat) (ct : List Nat) (hle : Nat.ble args.length 15 = true) (hb : belowB n s = true) (h : run Tryd.prog cx10 n kt10 ct R10 (KV T Tryd.f10.results.toList n R) 100000 ⟨.code [], [], argEnv 0 args, s⟩) : Contract Tryd.prog (GN) 10 args s R :=
  Contract.of_run (cx := cx10) wk10 Tryd.func10 rfl (enters_of Tryd.func10 (by kernel_rfl) rfl) rfl (Nat.le_of_ble_eq_true hle) hb h
noncomputable def R11 : Code := Tryd.f11.body.getD .skip
theorem wk11 : WK Tryd.prog cx11 kt11 R11 := ⟨tabOK, mixed, ok11⟩
noncomputable def R12 : Code := Tryd.f12.body.getD .skip
theorem wk12 : WK Tryd.prog cx12 kt12 R12 := ⟨tabOK, mixed, ok12⟩
noncomputable def R13 : Code := Tryd.f13.body.getD .skip
theorem wk13 : WK Tryd.prog cx13 kt13 R13 := ⟨tabOK, mixed, ok13⟩
noncomputable def R14 : Code := Tryd.f14.body.getD .skip
theorem wk14 : WK Tryd.prog cx14 kt14 R14 := ⟨tabOK, mixed, ok14⟩
noncomputable def R15 : Code := Tryd.f15.body.getD .skip
theorem wk15 : WK Tryd.prog cx15 kt15 R15 := ⟨tabOK, mixed, ok15⟩
theorem run15 {args : List AV} {s : List (Nat × AB)} {R : AV → List (Nat × AB) → Prop} (n : Nat) (ct : List Nat) (hle : Nat.ble args.length 24 = true) (hb : belowB n s = true) (h : run Tryd.prog cx15 n kt15 ct R15 (KV T Tryd.f15.results.toList n R) 100000 ⟨.code [], [], argEnv 0 args, s⟩) : Contract Tryd.prog (GN) 15 args s R :=
  Contract.of_run (cx := cx15) wk15 Tryd.func15 rfl (enters_of Tryd.func15 (by kernel_rfl) rfl) rfl (Nat.le_of_ble_eq_true hle) hb h
noncomputable def R16 : Code := Tryd.f16.body.getD .skip
theorem wk16 : WK Tryd.prog cx16 kt16 R16 := ⟨tabOK, mixed, ok16⟩
theorem run16 {args : List AV} {s : List (Nat × AB)} {R : AV → List (Nat × AB) → Prop} (n : Nat) (ct : List Nat) (hle : Nat.ble args.length 41 = true) (hb : belowB n s = true) (h : run Tryd.prog cx16 n kt16 ct R16 (KV T Tryd.f16.results.toList n R) 100000 ⟨.code [], [], argEnv 0 args, s⟩) : Contract Tryd.prog (GN) 16 args s R :=
  Contract.of_run (cx := cx16) wk16 Tryd.func16 rfl (enters_of Tryd.func16 (by kernel_rfl) rfl) rfl (Nat.le_of_ble_eq_true hle) hb h
noncomputable def R17 : Code := Tryd.f17.body.getD .skip
theorem wk17 : WK Tryd.prog cx17 kt17 R17 := ⟨tabOK, mixed, ok17⟩
theorem run17 {args : List AV} {s : List (Nat × AB)} {R : AV → List (Nat × AB) → Prop} (n : Nat) (ct : List Nat) (hle : Nat.ble args.length 16 = true) (hb : belowB n s = true) (h : run Tryd.prog cx17 n kt17 ct R17 (KV T Tryd.f17.results.toList n R) 100000 ⟨.code [], [], argEnv 0 args, s⟩) : Contract Tryd.prog (GN) 17 args s R :=
  Contract.of_run (cx := cx17) wk17 Tryd.func17 rfl (enters_of Tryd.func17 (by kernel_rfl) rfl) rfl (Nat.le_of_ble_eq_true hle) hb h
noncomputable def R18 : Code := Tryd.f18.body.getD .skip
theorem wk18 : WK Tryd.prog cx18 kt18 R18 := ⟨tabOK, mixed, ok18⟩
theorem run18 {args : List AV} {s : List (Nat × AB)} {R : AV → List (Nat × AB) → Prop} (n : Nat) (ct : List Nat) (hle : Nat.ble args.length 16 = true) (hb : belowB n s = true) (h : run Tryd.prog cx18 n kt18 ct R18 (KV T Tryd.f18.results.toList n R) 100000 ⟨.code [], [], argEnv 0 args, s⟩) : Contract Tryd.prog (GN) 18 args s R :=
  Contract.of_run (cx := cx18) wk18 Tryd.func18 rfl (enters_of Tryd.func18 (by kernel_rfl) rfl) rfl (Nat.le_of_ble_eq_true hle) hb h
noncomputable def R19 : Code := Tryd.f19.body.getD .skip
theorem wk19 : WK Tryd.prog cx19 kt19 R19 := ⟨tabOK, mixed, ok19⟩
theorem run19 {args : List AV} {s : List (Nat × AB)} {R : AV → List (Nat × AB) → Prop} (n : Nat) (ct : List Nat) (hle : Nat.ble args.length 18 = true) (hb : belowB n s = true) (h : run Tryd.prog cx19 n kt19 ct R19 (KV T Tryd.f19.results.toList n R) 100000 ⟨.code [], [], argEnv 0 args, s⟩) : Contract Tryd.prog (GN) 19 args s R :=
  Contract.of_run (cx := cx19) wk19 Tryd.func19 rfl (enters_of Tryd.func19 (by kernel_rfl) rfl) rfl (Nat.le_of_ble_eq_true hle) hb h
noncomputable def R20 : Code := Tryd.f20.body.getD .skip
theorem wk20 : WK Tryd.prog cx20 kt20 R20 := ⟨tabOK, mixed, ok20⟩
theorem run20 {args : List AV} {s : List (Nat × AB)} {R : AV → List (Nat × AB) → Prop} (n : Nat) (ct : List Nat) (hle : Nat.ble args.length 18 = true) (hb : belowB n s = true) (h : run Tryd.prog cx20 n kt20 ct R20 (KV T Tryd.f20.results.toList n R) 100000 ⟨.code [], [], argEnv 0 args, s⟩) : Contract Tryd.prog (GN) 20 args s R :=
  Contract.of_run (cx := cx20) wk20 Tryd.func20 rfl (enters_of Tryd.func20 (by kernel_rfl) rfl) rfl (Nat.le_of_ble_eq_true hle) hb h
noncomputable def R21 : Code := Tryd.f21.body.getD .skip
theorem wk21 : WK Tryd.prog cx21 kt21 R21 := ⟨tabOK, mixed, ok21⟩
theorem run21 {args : List AV} {s : List (Nat × AB)} {R : AV → List (Nat × AB) → Prop} (n : Nat) (ct : List Nat) (hle : Nat.ble args.length 8 = true) (hb : belowB n s = true) (h : run Tryd.prog cx21 n kt21 ct R21 (KV T Tryd.f21.results.toList n R) 100000 ⟨.code [], [], argEnv 0 args, s⟩) : Contract Tryd.prog (GN) 21 args s R :=
  Contract.of_run (cx := cx21) wk21 Tryd.func21 rfl (enters_of Tryd.func21 (by kernel_rfl) rfl) rfl (Nat.le_of_ble_eq_true hle) hb h
noncomputable def R22 : Code := Tryd.f22.body.getD .skip
theorem wk22 : WK Tryd.prog cx22 kt22 R22 := ⟨tabOK, mixed, ok22⟩
noncomputable def R23 : Code := Tryd.f23.body.getD .skip
theorem wk23 : WK Tryd.prog cx23 kt23 R23 := ⟨tabOK, mixed, ok23⟩
noncomputable def R24 : Code := Tryd.f24.body.getD .skip
theorem wk24 : WK Tryd.prog cx24 kt24 R24 := ⟨tabOK, mixed, ok24⟩
noncomputable def R25 : Code := Tryd.f25.body.getD .skip
theorem wk25 : WK Tryd.prog cx25 kt25 R25 := ⟨tabOK, mixed, ok25⟩
noncomputable def R26 : Code := Tryd.f26.body.getD .skip
theorem wk26 : WK Tryd.prog cx26 kt26 R26 := ⟨tabOK, mixed, ok26⟩
noncomputable def R27 : Code := Tryd.f27.body.getD .skip
theorem wk27 : WK Tryd.prog cx27 kt27 R27 := ⟨tabOK, mixed, ok27⟩
theorem run27 {args : List AV} {s : List (Nat × AB)} {R : AV → List (Nat × AB) → Prop} (n : Nat) (ct : List Nat) (hle : Nat.ble args.length 91 = true) (hb : belowB n s = true) (h : run Tryd.prog cx27 n kt27 ct R27 (KV T Tryd.f27.results.toList n R) 100000 ⟨.code [], [], argEnv 0 args, s⟩) : Contract Tryd.prog (GN) 27 args s R :=
  Contract.of_run (cx := cx27) wk27 Tryd.func27 rfl (enters_of Tryd.func27 (by kernel_rfl) rfl) rfl (Nat.le_of_ble_eq_true hle) hb h
noncomputable def R28 : Code := Tryd.f28.body.getD .skip
theorem wk28 : WK Tryd.prog cx28 kt28 R28 := ⟨tabOK, mixed, ok28⟩
theorem run28 {args : List AV} {s : List (Nat × AB)} {R : AV → List (Nat × AB) → Prop} (n : Nat) (ct : List Nat) (hle : Nat.ble args.length 59 = true) (hb : belowB n s = true) (h : run Tryd.prog cx28 n kt28 ct R28 (KV T Tryd.f28.results.toList n R) 100000 ⟨.code [], [], argEnv 0 args, s⟩) : Contract Tryd.prog (GN) 28 args s R :=
  Contract.of_run (cx := cx28) wk28 Tryd.func28 rfl (enters_of Tryd.func28 (by kernel_rfl) rfl) rfl (Nat.le_of_ble_eq_true hle) hb h
noncomputable def R29 : Code := Tryd.f29.body.getD .skip
theorem wk29 : WK Tryd.prog cx29 kt29 R29 := ⟨tabOK, mixed, ok29⟩
theorem run29 {args : List AV} {s : List (Nat × AB)} {R : AV → List (Nat × AB) → Prop} (n : Nat) (ct : List Nat) (hle : Nat.ble args.length 6 = true) (hb : belowB n s = true) (h : run Tryd.prog cx29 n kt29 ct R29 (KV T Tryd.f29.results.toList n R) 100000 ⟨.code [], [], argEnv 0 args, s⟩) : Contract Tryd.prog (GN) 29 args s R :=
  Contract.of_run (cx := cx29) wk29 Tryd.func29 rfl (enters_of Tryd.func29 (by kernel_rfl) rfl) rfl (Nat.le_of_ble_eq_true hle) hb h
noncomputable def R30 : Code := Tryd.f30.body.getD .skip
theorem wk30 : WK Tryd.prog cx30 kt30 R30 := ⟨tabOK, mixed, ok30⟩
theorem run30 {args : List AV} {s : List (Nat × AB)} {R : AV → List (Nat × AB) → Prop} (n : Nat) (ct : List Nat) (hle : Nat.ble args.length 6 = true) (hb : belowB n s = true) (h : run Tryd.prog cx30 n kt30 ct R30 (KV T Tryd.f30.results.toList n R) 100000 ⟨.code [], [], argEnv 0 args, s⟩) : Contract Tryd.prog (GN) 30 args s R :=
  Contract.of_run (cx := cx30) wk30 Tryd.func30 rfl (enters_of Tryd.func30 (by kernel_rfl) rfl) rfl (Nat.le_of_ble_eq_true hle) hb h
noncomputable def R31 : Code := Tryd.f31.body.getD .skip
theorem wk31 : WK Tryd.prog cx31 kt31 R31 := ⟨tabOK, mixed, ok31⟩
noncomputable def R32 : Code := Tryd.f32.body.getD .skip
theorem wk32 : WK Tryd.prog cx32 kt32 R32 := ⟨tabOK, mixed, ok32⟩
noncomputable def R33 : Code := Tryd.f33.body.getD .skip
theorem wk33 : WK Tryd.prog cx33 kt33 R33 := ⟨tabOK, mixed, ok33⟩
noncomputable def R34 : Code := Tryd.f34.body.getD .skip
theorem wk34 : WK Tryd.prog cx34 kt34 R34 := ⟨tabOK, mixed, ok34⟩
noncomputable def R35 : Code := Tryd.f35.body.getD .skip
theorem wk35 : WK Tryd.prog cx35 kt35 R35 := ⟨tabOK, mixed, ok35⟩
theorem run35 {args : List AV} {s : List (Nat × AB)} {R : AV → List (Nat × AB) → Prop} (n : Nat) (ct : List Nat) (hle : Nat.ble args.length 21 = true) (hb : belowB n s = true) (h : run Tryd.prog cx35 n kt35 ct R35 (KV T Tryd.f35.results.toList n R) 100000 ⟨.code [], [], argEnv 0 args, s⟩) : Contract Tryd.prog (GN) 35 args s R :=
  Contract.of_run (cx := cx35) wk35 Tryd.func35 rfl (enters_of Tryd.func35 (by kernel_rfl) rfl) rfl (Nat.le_of_ble_eq_true hle) hb h
noncomputable def R36 : Code := Tryd.f36.body.getD .skip
theorem wk36 : WK Tryd.prog cx36 kt36 R36 := ⟨tabOK, mixed, ok36⟩
theorem run36 {args : List AV} {s : List (Nat × AB)} {R : AV → List (Nat × AB) → Prop} (n : Nat) (ct : List Nat) (hle : Nat.ble args.length 16 = true) (hb : belowB n s = true) (h : run Tryd.prog cx36 n kt36 ct R36 (KV T Tryd.f36.results.toList n R) 100000 ⟨.code [], [], argEnv 0 args, s⟩) : Contract Tryd.prog (GN) 36 args s R :=
  Contract.of_run (cx := cx36) wk36 Tryd.func36 rfl (enters_of Tryd.func36 (by kernel_rfl) rfl) rfl (Nat.le_of_ble_eq_true hle) hb h
noncomputable def R37 : Code := Tryd.f37.body.getD .skip
theorem wk37 : WK Tryd.prog cx37 kt37 R37 := ⟨tabOK, mixed, ok37⟩
theorem run37 {args : List AV} {s : List (Nat × AB)} {R : AV → List (Nat × AB) → Prop} (n : Nat) (ct : List Nat) (hle : Nat.ble args.length 15 = true) (hb : belowB n s = true) (h : run Tryd.prog cx37 n kt37 ct R37 (KV T Tryd.f37.results.toList n R) 100000 ⟨.code [], [], argEnv 0 args, s⟩) : Contract Tryd.prog (GN) 37 args s R :=
  Contract.of_run (cx := cx37) wk37 Tryd.func37 rfl (enters_of Tryd.func37 (by kernel_rfl) rfl) rfl (Nat.le_of_ble_eq_true hle) hb h
noncomputable def R38 : Code := Tryd.f38.body.getD .skip
theorem wk38 : WK Tryd.prog cx38 kt38 R38 := ⟨tabOK, mixed, ok38⟩
theorem run38 {args : List AV} {s : List (Nat × AB)} {R : AV → List (Nat × AB) → Prop} (n : Nat) (ct : List Nat) (hle : Nat.ble args.length 76 = true) (hb : belowB n s = true) (h : run Tryd.prog cx38 n kt38 ct R38 (KV T Tryd.f38.results.toList n R) 100000 ⟨.code [], [], argEnv 0 args, s⟩) : Contract Tryd.prog (GN) 38 args s R :=
  Contract.of_run (cx := cx38) wk38 Tryd.func38 rfl (enters_of Tryd.func38 (by kernel_rfl) rfl) rfl (Nat.le_of_ble_eq_true hle) hb h
noncomputable def R39 : Code := Tryd.f39.body.getD .skip
theorem wk39 : WK Tryd.prog cx39 kt39 R39 := ⟨tabOK, mixed, ok39⟩
theorem run39 {args : List AV} {s : List (Nat × AB)} {R : AV → List (Nat × AB) → Prop} (n : Nat) (ct : List Nat) (hle : Nat.ble args.length 39 = true) (hb : belowB n s = true) (h : run Tryd.prog cx39 n kt39 ct R39 (KV T Tryd.f39.results.toList n R) 100000 ⟨.code [], [], argEnv 0 args, s⟩) : Contract Tryd.prog (GN) 39 args s R :=
  Contract.of_run (cx := cx39) wk39 Tryd.func39 rfl (enters_of Tryd.func39 (by kernel_rfl) rfl) rfl (Nat.le_of_ble_eq_true hle) hb h
noncomputable def R40 : Code := Tryd.f40.body.getD .skip
theorem wk40 : WK Tryd.prog cx40 kt40 R40 := ⟨tabOK, mixed, ok40⟩
theorem run40 {args : List AV} {s : List (Nat × AB)} {R : AV → List (Nat × AB) → Prop} (n : Nat) (ct : List Nat) (hle : Nat.ble args.length 6 = true) (hb : belowB n s = true) (h : run Tryd.prog cx40 n kt40 ct R40 (KV T Tryd.f40.results.toList n R) 100000 ⟨.code [], [], argEnv 0 args, s⟩) : Contract Tryd.prog (GN) 40 args s R :=
  Contract.of_run (cx := cx40) wk40 Tryd.func40 rfl (enters_of Tryd.func40 (by kernel_rfl) rfl) rfl (Nat.le_of_ble_eq_true hle) hb h
noncomputable def R41 : Code := Tryd.f41.body.getD .skip
theorem wk41 : WK Tryd.prog cx41 kt41 R41 := ⟨tabOK, mixed, ok41⟩
theorem run41 {args : List AV} {s : List (Nat × AB)} {R : AV → List (Nat × AB) → Prop} (n : Nat) (ct : List Nat) (hle : Nat.ble args.length 17 = true) (hb : belowB n s = true) (h : run Tryd.prog cx41 n kt41 ct R41 (KV T Tryd.f41.results.toList n R) 100000 ⟨.code [], [], argEnv 0 args, s⟩) : Contract Tryd.prog (GN) 41 args s R :=
  Contract.of_run (cx := cx41) wk41 Tryd.func41 rfl (enters_of Tryd.func41 (by kernel_rfl) rfl) rfl (Nat.le_of_ble_eq_true hle) hb h
noncomputable def R42 : Code := Tryd.f42.body.getD .skip
theorem wk42 : WK Tryd.prog cx42 kt42 R42 := ⟨tabOK, mixed, ok42⟩
theorem run42 {args : List AV} {s : List (Nat × AB)} {R : AV → List (Nat × AB) → Prop} (n : Nat) (ct : List Nat) (hle : Nat.ble args.length 13 = true) (hb : belowB n s = true) (h : run Tryd.prog cx42 n kt42 ct R42 (KV T Tryd.f42.results.toList n R) 100000 ⟨.code [], [], argEnv 0 args, s⟩) : Contract Tryd.prog (GN) 42 args s R :=
  Contract.of_run (cx := cx42) wk42 Tryd.func42 rfl (enters_of Tryd.func42 (by kernel_rfl) rfl) rfl (Nat.le_of_ble_eq_true hle) hb h
noncomputable def R43 : Code := Tryd.f43.body.getD .skip
theorem wk43 : WK Tryd.prog cx43 kt43 R43 := ⟨tabOK, mixed, ok43⟩
theorem run43 {args : List AV} {s : List (Nat × AB)} {R : AV → List (Nat × AB) → Prop} (n : Nat) (ct : List Nat) (hle : Nat.ble args.length 42 = true) (hb : belowB n s = true) (h : run Tryd.prog cx43 n kt43 ct R43 (KV T Tryd.f43.results.toList n R) 100000 ⟨.code [], [], argEnv 0 args, s⟩) : Contract Tryd.prog (GN) 43 args s R :=
  Contract.of_run (cx := cx43) wk43 Tryd.func43 rfl (enters_of Tryd.func43 (by kernel_rfl) rfl) rfl (Nat.le_of_ble_eq_true hle) hb h
noncomputable def R44 : Code := Tryd.f44.body.getD .skip
theorem wk44 : WK Tryd.prog cx44 kt44 R44 := ⟨tabOK, mixed, ok44⟩
theorem run44 {args : List AV} {s : List (Nat × AB)} {R : AV → List (Nat × AB) → Prop} (n : Nat) (ct : List Nat) (hle : Nat.ble args.length 8 = true) (hb : belowB n s = true) (h : run Tryd.prog cx44 n kt44 ct R44 (KV T Tryd.f44.results.toList n R) 100000 ⟨.code [], [], argEnv 0 args, s⟩) : Contract Tryd.prog (GN) 44 args s R :=
  Contract.of_run (cx := cx44) wk44 Tryd.func44 rfl (enters_of Tryd.func44 (by kernel_rfl) rfl) rfl (Nat.le_of_ble_eq_true hle) hb h
noncomputable def R45 : Code := Tryd.f45.body.getD .skip
theorem wk45 : WK Tryd.prog cx45 kt45 R45 := ⟨tabOK, mixed, ok45⟩
theorem run45 {args : List AV} {s : List (Nat × AB)} {R : AV → List (Nat × AB) → Prop} (n : Nat) (ct : List Nat) (hle : Nat.ble args.length 7 = true) (hb : belowB n s = true) (h : run Tryd.prog cx45 n kt45 ct R45 (KV T Tryd.f45.results.toList n R) 100000 ⟨.code [], [], argEnv 0 args, s⟩) : Contract Tryd.prog (GN) 45 args s R :=
  Contract.of_run (cx := cx45) wk45 Tryd.func45 rfl (enters_of Tryd.func45 (by kernel_rfl) rfl) rfl (Nat.le_of_ble_eq_true hle) hb h
noncomputable def R46 : Code := Tryd.f46.body.getD .skip
theorem wk46 : WK Tryd.prog cx46 kt46 R46 := ⟨tabOK, mixed, ok46⟩
theorem run46 {args : List AV} {s : List (Nat × AB)} {R : AV → List (Nat × AB) → Prop} (n : Nat) (ct : List Nat) (hle : Nat.ble args.length 6 = true) (hb : belowB n s = true) (h : run Tryd.prog cx46 n kt46 ct R46 (KV T Tryd.f46.results.toList n R) 100000 ⟨.code [], [], argEnv 0 args, s⟩) : Contract Tryd.prog (GN) 46 args s R :=
  Contract.of_run (cx := cx46) wk46 Tryd.func46 rfl (enters_of Tryd.func46 (by kernel_rfl) rfl) rfl (Nat.le_of_ble_eq_true hle) hb h
noncomputable def R47 : Code := Tryd.f47.body.getD .skip
theorem wk47 : WK Tryd.prog cx47 kt47 R47 := ⟨tabOK, mixed, ok47⟩
noncomputable def R48 : Code := Tryd.f48.body.getD .skip
theorem wk48 : WK Tryd.prog cx48 kt48 R48 := ⟨tabOK, mixed, ok48⟩
noncomputable def R49 : Code := Tryd.f49.body.getD .skip
theorem wk49 : WK Tryd.prog cx49 kt49 R49 := ⟨tabOK, mixed, ok49⟩
noncomputable def R50 : Code := Tryd.f50.body.getD .skip
theorem wk50 : WK Tryd.prog cx50 kt50 R50 := ⟨tabOK, mixed, ok50⟩
noncomputable def R51 : Code := Tryd.f51.body.getD .skip
theorem wk51 : WK Tryd.prog cx51 kt51 R51 := ⟨tabOK, mixed, ok51⟩
noncomputable def R52 : Code := Tryd.f52.body.getD .skip
theorem wk52 : WK Tryd.prog cx52 kt52 R52 := ⟨tabOK, mixed, ok52⟩
noncomputable def R53 : Code := Tryd.f53.body.getD .skip
theorem wk53 : WK Tryd.prog cx53 kt53 R53 := ⟨tabOK, mixed, ok53⟩
noncomputable def R54 : Code := Tryd.f54.body.getD .skip
theorem wk54 : WK Tryd.prog cx54 kt54 R54 := ⟨tabOK, mixed, ok54⟩
theorem run54 {args : List AV} {s : List (Nat × AB)} {R : AV → List (Nat × AB) → Prop} (n : Nat) (ct : List Nat) (hle : Nat.ble args.length 15 = true) (hb : belowB n s = true) (h : run Tryd.prog cx54 n kt54 ct R54 (KV T Tryd.f54.results.toList n R) 100000 ⟨.code [], [], argEnv 0 args, s⟩) : Contract Tryd.prog (GN) 54 args s R :=
  Contract.of_run (cx := cx54) wk54 Tryd.func54 rfl (enters_of Tryd.func54 (by kernel_rfl) rfl) rfl (Nat.le_of_ble_eq_true hle) hb h
noncomputable def R55 : Code := Tryd.f55.body.getD .skip
theorem wk55 : WK Tryd.prog cx55 kt55 R55 := ⟨tabOK, mixed, ok55⟩
theorem run55 {args : List AV} {s : List (Nat × AB)} {R : AV → List (Nat × AB) → Prop} (n : Nat) (ct : List Nat) (hle : Nat.ble args.length 27 = true) (hb : belowB n s = true) (h : run Tryd.prog cx55 n kt55 ct R55 (KV T Tryd.f55.results.toList n R) 100000 ⟨.code [], [], argEnv 0 args, s⟩) : Contract Tryd.prog (GN) 55 args s R :=
  Contract.of_run (cx := cx55) wk55 Tryd.func55 rfl (enters_of Tryd.func55 (by kernel_rfl) rfl) rfl (Nat.le_of_ble_eq_true hle) hb h
noncomputable def R56 : Code := Tryd.f56.body.getD .skip
theorem wk56 : WK Tryd.prog cx56 kt56 R56 := ⟨tabOK, mixed, ok56⟩
theorem run56 {args : List AV} {s : List (Nat × AB)} {R : AV → List (Nat × AB) → Prop} (n : Nat) (ct : List Nat) (hle : Nat.ble args.length 66 = true) (hb : belowB n s = true) (h : run Tryd.prog cx56 n kt56 ct R56 (KV T Tryd.f56.results.toList n R) 100000 ⟨.code [], [], argEnv 0 args, s⟩) : Contract Tryd.prog (GN) 56 args s R :=
  Contract.of_run (cx := cx56) wk56 Tryd.func56 rfl (enters_of Tryd.func56 (by kernel_rfl) rfl) rfl (Nat.le_of_ble_eq_true hle) hb h
noncomputable def R57 : Code := Tryd.f57.body.getD .skip
theorem wk57 : WK Tryd.prog cx57 kt57 R57 := ⟨tabOK, mixed, ok57⟩
theorem run57 {args : List AV} {s : List (Nat × AB)} {R : AV → List (Nat × AB) → Prop} (n : Nat) (ct : List Nat) (hle : Nat.ble args.length 7 = true) (hb : belowB n s = true) (h : run Tryd.prog cx57 n kt57 ct R57 (KV T Tryd.f57.results.toList n R) 100000 ⟨.code [], [], argEnv 0 args, s⟩) : Contract Tryd.prog (GN) 57 args s R :=
  Contract.of_run (cx := cx57) wk57 Tryd.func57 rfl (enters_of Tryd.func57 (by kernel_rfl) rfl) rfl (Nat.le_of_ble_eq_true hle) hb h
noncomputable def R58 : Code := Tryd.f58.body.getD .skip
theorem wk58 : WK Tryd.prog cx58 kt58 R58 := ⟨tabOK, mixed, ok58⟩
theorem run58 {args : List AV} {s : List (Nat × AB)} {R : AV → List (Nat × AB) → Prop} (n : Nat) (ct : List Nat) (hle : Nat.ble args.length 74 = true) (hb : belowB n s = true) (h : run Tryd.prog cx58 n kt58 ct R58 (KV T Tryd.f58.results.toList n R) 100000 ⟨.code [], [], argEnv 0 args, s⟩) : Contract Tryd.prog (GN) 58 args s R :=
  Contract.of_run (cx := cx58) wk58 Tryd.func58 rfl (enters_of Tryd.func58 (by kernel_rfl) rfl) rfl (Nat.le_of_ble_eq_true hle) hb h
noncomputable def R59 : Code := Tryd.f59.body.getD .skip
theorem wk59 : WK Tryd.prog cx59 kt59 R59 := ⟨tabOK, mixed, ok59⟩
theorem run59 {args : List AV} {s : List (Nat × AB)} {R : AV → List (Nat × AB) → Prop} (n : Nat) (ct : List Nat) (hle : Nat.ble args.length 7 = true) (hb : belowB n s = true) (h : run Tryd.prog cx59 n kt59 ct R59 (KV T Tryd.f59.results.toList n R) 100000 ⟨.code [], [], argEnv 0 args, s⟩) : Contract Tryd.prog (GN) 59 args s R :=
  Contract.of_run (cx := cx59) wk59 Tryd.func59 rfl (enters_of Tryd.func59 (by kernel_rfl) rfl) rfl (Nat.le_of_ble_eq_true hle) hb h
noncomputable def R60 : Code := Tryd.f60.body.getD .skip
theorem wk60 : WK Tryd.prog cx60 kt60 R60 := ⟨tabOK, mixed, ok60⟩
theorem run60 {args : List AV} {s : List (Nat × AB)} {R : AV → List (Nat × AB) → Prop} (n : Nat) (ct : List Nat) (hle : Nat.ble args.length 14 = true) (hb : belowB n s = true) (h : run Tryd.prog cx60 n kt60 ct R60 (KV T Tryd.f60.results.toList n R) 100000 ⟨.code [], [], argEnv 0 args, s⟩) : Contract Tryd.prog (GN) 60 args s R :=
  Contract.of_run (cx := cx60) wk60 Tryd.func60 rfl (enters_of Tryd.func60 (by kernel_rfl) rfl) rfl (Nat.le_of_ble_eq_true hle) hb h
noncomputable def R61 : Code := Tryd.f61.body.getD .skip
theorem wk61 : WK Tryd.prog cx61 kt61 R61 := ⟨tabOK, mixed, ok61⟩
theorem run61 {args : List AV} {s : List (Nat × AB)} {R : AV → List (Nat × AB) → Prop} (n : Nat) (ct : List Nat) (hle : Nat.ble args.length 24 = true) (hb : belowB n s = true) (h : run Tryd.prog cx61 n kt61 ct R61 (KV T Tryd.f61.results.toList n R) 100000 ⟨.code [], [], argEnv 0 args, s⟩) : Contract Tryd.prog (GN) 61 args s R :=
  Contract.of_run (cx := cx61) wk61 Tryd.func61 rfl (enters_of Tryd.func61 (by kernel_rfl) rfl) rfl (Nat.le_of_ble_eq_true hle) hb h
noncomputable def R62 : Code := Tryd.f62.body.getD .skip
theorem wk62 : WK Tryd.prog cx62 kt62 R62 := ⟨tabOK, mixed, ok62⟩
theorem run62 {args : List AV} {s : List (Nat × AB)} {R : AV → List (Nat × AB) → Prop} (n : Nat) (ct : List Nat) (hle : Nat.ble args.length 13 = true) (hb : belowB n s = true) (h : run Tryd.prog cx62 n kt62 ct R62 (KV T Tryd.f62.results.toList n R) 100000 ⟨.code [], [], argEnv 0 args, s⟩) : Contract Tryd.prog (GN) 62 args s R :=
  Contract.of_run (cx := cx62) wk62 Tryd.func62 rfl (enters_of Tryd.func62 (by kernel_rfl) rfl) rfl (Nat.le_of_ble_eq_true hle) hb h
noncomputable def R63 : Code := Tryd.f63.body.getD .skip
theorem wk63 : WK Tryd.prog cx63 kt63 R63 := ⟨tabOK, mixed, ok63⟩
theorem run63 {args : List AV} {s : List (Nat × AB)} {R : AV → List (Nat × AB) → Prop} (n : Nat) (ct : List Nat) (hle : Nat.ble args.length 7 = true) (hb : belowB n s = true) (h : run Tryd.prog cx63 n kt63 ct R63 (KV T Tryd.f63.results.toList n R) 100000 ⟨.code [], [], argEnv 0 args, s⟩) : Contract Tryd.prog (GN) 63 args s R :=
  Contract.of_run (cx := cx63) wk63 Tryd.func63 rfl (enters_of Tryd.func63 (by kernel_rfl) rfl) rfl (Nat.le_of_ble_eq_true hle) hb h
noncomputable def R64 : Code := Tryd.f64.body.getD .skip
theorem wk64 : WK Tryd.prog cx64 kt64 R64 := ⟨tabOK, mixed, ok64⟩
theorem run64 {args : List AV} {s : List (Nat × AB)} {R : AV → List (Nat × AB) → Prop} (n : Nat) (ct : List Nat) (hle : Nat.ble args.length 16 = true) (hb : belowB n s = true) (h : run Tryd.prog cx64 n kt64 ct R64 (KV T Tryd.f64.results.toList n R) 100000 ⟨.code [], [], argEnv 0 args, s⟩) : Contract Tryd.prog (GN) 64 args s R :=
  Contract.of_run (cx := cx64) wk64 Tryd.func64 rfl (enters_of Tryd.func64 (by kernel_rfl) rfl) rfl (Nat.le_of_ble_eq_true hle) hb h
noncomputable def R65 : Code := Tryd.f65.body.getD .skip
theorem wk65 : WK Tryd.prog cx65 kt65 R65 := ⟨tabOK, mixed, ok65⟩
theorem run65 {args : List AV} {s : List (Nat × AB)} {R : AV → List (Nat × AB) → Prop} (n : Nat) (ct : List Nat) (hle : Nat.ble args.length 7 = true) (hb : belowB n s = true) (h : run Tryd.prog cx65 n kt65 ct R65 (KV T Tryd.f65.results.toList n R) 100000 ⟨.code [], [], argEnv 0 args, s⟩) : Contract Tryd.prog (GN) 65 args s R :=
  Contract.of_run (cx := cx65) wk65 Tryd.func65 rfl (enters_of Tryd.func65 (by kernel_rfl) rfl) rfl (Nat.le_of_ble_eq_true hle) hb h
noncomputable def R66 : Code := Tryd.f66.body.getD .skip
theorem wk66 : WK Tryd.prog cx66 kt66 R66 := ⟨tabOK, mixed, ok66⟩
theorem run66 {args : List AV} {s : List (Nat × AB)} {R : AV → List (Nat × AB) → Prop} (n : Nat) (ct : List Nat) (hle : Nat.ble args.length 19 = true) (hb : belowB n s = true) (h : run Tryd.prog cx66 n kt66 ct R66 (KV T Tryd.f66.results.toList n R) 100000 ⟨.code [], [], argEnv 0 args, s⟩) : Contract Tryd.prog (GN) 66 args s R :=
  Contract.of_run (cx := cx66) wk66 Tryd.func66 rfl (enters_of Tryd.func66 (by kernel_rfl) rfl) rfl (Nat.le_of_ble_eq_true hle) hb h
noncomputable def R67 : Code := Tryd.f67.body.getD .skip
theorem wk67 : WK Tryd.prog cx67 kt67 R67 := ⟨tabOK, mixed, ok67⟩
noncomputable def R68 : Code := Tryd.f68.body.getD .skip
theorem wk68 : WK Tryd.prog cx68 kt68 R68 := ⟨tabOK, mixed, ok68⟩
noncomputable def R69 : Code := Tryd.f69.body.getD .skip
theorem wk69 : WK Tryd.prog cx69 kt69 R69 := ⟨tabOK, mixed, ok69⟩
noncomputable def R70 : Code := Tryd.f70.body.getD .skip
theorem wk70 : WK Tryd.prog cx70 kt70 R70 := ⟨tabOK, mixed, ok70⟩
theorem run70 {args : List AV} {s : List (Nat × AB)} {R : AV → List (Nat × AB) → Prop} (n : Nat) (ct : List Nat) (hle : Nat.ble args.length 12 = true) (hb : belowB n s = true) (h : run Tryd.prog cx70 n kt70 ct R70 (KV T Tryd.f70.results.toList n R) 100000 ⟨.code [], [], argEnv 0 args, s⟩) : Contract Tryd.prog (GN) 70 args s R :=
  Contract.of_run (cx := cx70) wk70 Tryd.func70 rfl (enters_of Tryd.func70 (by kernel_rfl) rfl) rfl (Nat.le_of_ble_eq_true hle) hb h
noncomputable def R71 : Code := Tryd.f71.body.getD .skip
theorem wk71 : WK Tryd.prog cx71 kt71 R71 := ⟨tabOK, mixed, ok71⟩
theorem run71 {args : List AV} {s : List (Nat × AB)} {R : AV → List (Nat × AB) → Prop} (n : Nat) (ct : List Nat) (hle : Nat.ble args.length 20 = true) (hb : belowB n s = true) (h : run Tryd.prog cx71 n kt71 ct R71 (KV T Tryd.f71.results.toList n R) 100000 ⟨.code [], [], argEnv 0 args, s⟩) : Contract Tryd.prog (GN) 71 args s R :=
  Contract.of_run (cx := cx71) wk71 Tryd.func71 rfl (enters_of Tryd.func71 (by kernel_rfl) rfl) rfl (Nat.le_of_ble_eq_true hle) hb h
noncomputable def R72 : Code := Tryd.f72.body.getD .skip
theorem wk72 : WK Tryd.prog cx72 kt72 R72 := ⟨tabOK, mixed, ok72⟩
theorem run72 {args : List AV} {s : List (Nat × AB)} {R : AV → List (Nat × AB) → Prop} (n : Nat) (ct : List Nat) (hle : Nat.ble args.length 8 = true) (hb : belowB n s = true) (h : run Tryd.prog cx72 n kt72 ct R72 (KV T Tryd.f72.results.toList n R) 100000 ⟨.code [], [], argEnv 0 args, s⟩) : Contract Tryd.prog (GN) 72 args s R :=
  Contract.of_run (cx := cx72) wk72 Tryd.func72 rfl (enters_of Tryd.func72 (by kernel_rfl) rfl) rfl (Nat.le_of_ble_eq_true hle) hb h
noncomputable def R73 : Code := Tryd.f73.body.getD .skip
theorem wk73 : WK Tryd.prog cx73 kt73 R73 := ⟨tabOK, mixed, ok73⟩
theorem run73 {args : List AV} {s : List (Nat × AB)} {R : AV → List (Nat × AB) → Prop} (n : Nat) (ct : List Nat) (hle : Nat.ble args.length 54 = true) (hb : belowB n s = true) (h : run Tryd.prog cx73 n kt73 ct R73 (KV T Tryd.f73.results.toList n R) 100000 ⟨.code [], [], argEnv 0 args, s⟩) : Contract Tryd.prog (GN) 73 args s R :=
  Contract.of_run (cx := cx73) wk73 Tryd.func73 rfl (enters_of Tryd.func73 (by kernel_rfl) rfl) rfl (Nat.le_of_ble_eq_true hle) hb h
noncomputable def R74 : Code := Tryd.f74.body.getD .skip
theorem wk74 : WK Tryd.prog cx74 kt74 R74 := ⟨tabOK, mixed, ok74⟩
theorem run74 {args : List AV} {s : List (Nat × AB)} {R : AV → List (Nat × AB) → Prop} (n : Nat) (ct : List Nat) (hle : Nat.ble args.length 53 = true) (hb : belowB n s = true) (h : run Tryd.prog cx74 n kt74 ct R74 (KV T Tryd.f74.results.toList n R) 100000 ⟨.code [], [], argEnv 0 args, s⟩) : Contract Tryd.prog (GN) 74 args s R :=
  Contract.of_run (cx := cx74) wk74 Tryd.func74 rfl (enters_of Tryd.func74 (by kernel_rfl) rfl) rfl (Nat.le_of_ble_eq_true hle) hb h
noncomputable def R75 : Code := Tryd.f75.body.getD .skip
theorem wk75 : WK Tryd.prog cx75 kt75 R75 := ⟨tabOK, mixed, ok75⟩
theorem run75 {args : List AV} {s : List (Nat × AB)} {R : AV → List (Nat × AB) → Prop} (n : Nat) (ct : List Nat) (hle : Nat.ble args.length 20 = true) (hb : belowB n s = true) (h : run Tryd.prog cx75 n kt75 ct R75 (KV T Tryd.f75.results.toList n R) 100000 ⟨.code [], [], argEnv 0 args, s⟩) : Contract Tryd.prog (GN) 75 args s R :=
  Contract.of_run (cx := cx75) wk75 Tryd.func75 rfl (enters_of Tryd.func75 (by kernel_rfl) rfl) rfl (Nat.le_of_ble_eq_true hle) hb h
noncomputable def R76 : Code := Tryd.f76.body.getD .skip
theorem wk76 : WK Tryd.prog cx76 kt76 R76 := ⟨tabOK, mixed, ok76⟩
theorem run76 {args : List AV} {s : List (Nat × AB)} {R : AV → List (Nat × AB) → Prop} (n : Nat) (ct : List Nat) (hle : Nat.ble args.length 31 = true) (hb : belowB n s = true) (h : run Tryd.prog cx76 n kt76 ct R76 (KV T Tryd.f76.results.toList n R) 100000 ⟨.code [], [], argEnv 0 args, s⟩) : Contract Tryd.prog (GN) 76 args s R :=
  Contract.of_run (cx := cx76) wk76 Tryd.func76 rfl (enters_of Tryd.func76 (by kernel_rfl) rfl) rfl (Nat.le_of_ble_eq_true hle) hb h
noncomputable def R77 : Code := Tryd.f77.body.getD .skip
theorem wk77 : WK Tryd.prog cx77 kt77 R77 := ⟨tabOK, mixed, ok77⟩
theorem run77 {args : List AV} {s : List (Nat × AB)} {R : AV → List (Nat × AB) → Prop} (n : Nat) (ct : List Nat) (hle : Nat.ble args.length 9 = true) (hb : belowB n s = true) (h : run Tryd.prog cx77 n kt77 ct R77 (KV T Tryd.f77.results.toList n R) 100000 ⟨.code [], [], argEnv 0 args, s⟩) : Contract Tryd.prog (GN) 77 args s R :=
  Contract.of_run (cx := cx77) wk77 Tryd.func77 rfl (enters_of Tryd.func77 (by kernel_rfl) rfl) rfl (Nat.le_of_ble_eq_true hle) hb h
noncomputable def R78 : Code := Tryd.f78.body.getD .skip
theorem wk78 : WK Tryd.prog cx78 kt78 R78 := ⟨tabOK, mixed, ok78⟩
noncomputable def R79 : Code := Tryd.f79.body.getD .skip
theorem wk79 : WK Tryd.prog cx79 kt79 R79 := ⟨tabOK, mixed, ok79⟩
theorem run79 {args : List AV} {s : List (Nat × AB)} {R : AV → List (Nat × AB) → Prop} (n : Nat) (ct : List Nat) (hle : Nat.ble args.length 25 = true) (hb : belowB n s = true) (h : run Tryd.prog cx79 n kt79 ct R79 (KV T Tryd.f79.results.toList n R) 100000 ⟨.code [], [], argEnv 0 args, s⟩) : Contract Tryd.prog (GN) 79 args s R :=
  Contract.of_run (cx := cx79) wk79 Tryd.func79 rfl (enters_of Tryd.func79 (by kernel_rfl) rfl) rfl (Nat.le_of_ble_eq_true hle) hb h
noncomputable def R80 : Code := Tryd.f80.body.getD .skip
theorem wk80 : WK Tryd.prog cx80 kt80 R80 := ⟨tabOK, mixed, ok80⟩
noncomputable def R81 : Code := Tryd.f81.body.getD .skip
theorem wk81 : WK Tryd.prog cx81 kt81 R81 := ⟨tabOK, mixed, ok81⟩
theorem run81 {args : List AV} {s : List (Nat × AB)} {R : AV → List (Nat × AB) → Prop} (n : Nat) (ct : List Nat) (hle : Nat.ble args.length 34 = true) (hb : belowB n s = true) (h : run Tryd.prog cx81 n kt81 ct R81 (KV T Tryd.f81.results.toList n R) 100000 ⟨.code [], [], argEnv 0 args, s⟩) : Contract Tryd.prog (GN) 81 args s R :=
  Contract.of_run (cx := cx81) wk81 Tryd.func81 rfl (enters_of Tryd.func81 (by kernel_rfl) rfl) rfl (Nat.le_of_ble_eq_true hle) hb h
noncomputable def R82 : Code := Tryd.f82.body.getD .skip
theorem wk82 : WK Tryd.prog cx82 kt82 R82 := ⟨tabOK, mixed, ok82⟩
theorem run82 {args : List AV} {s : List (Nat × AB)} {R : AV → List (Nat × AB) → Prop} (n : Nat) (ct : List Nat) (hle : Nat.ble args.length 16 = true) (hb : belowB n s = true) (h : run Tryd.prog cx82 n kt82 ct R82 (KV T Tryd.f82.results.toList n R) 100000 ⟨.code [], [], argEnv 0 args, s⟩) : Contract Tryd.prog (GN) 82 args s R :=
  Contract.of_run (cx := cx82) wk82 Tryd.func82 rfl (enters_of Tryd.func82 (by kernel_rfl) rfl) rfl (Nat.le_of_ble_eq_true hle) hb h
noncomputable def R112 : Code := Tryd.f112.body.getD .skip
theorem wk112 : WK Tryd.prog cx112 kt112 R112 := ⟨tabOK, mixed, ok112⟩
noncomputable def R128 : Code := Tryd.f128.body.getD .skip
theorem wk128 : WK Tryd.prog cx128 kt128 R128 := ⟨tabOK, mixed, ok128⟩
end Go.Proofs.YtpfmnccocmgfmaaDoor
