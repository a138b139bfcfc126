/- The walk's shells of the program YtgadgajhahfabaaDoor. -/
import Derived.Test.YtgadgajhahfabaaDoorFn
import Derived.Test.YtgadgajhahfabaaDoorFrD
namespace Go.Proofs.YtgadgajhahfabaaDoor
open Go.Pv Go.RowKit
noncomputable def R2 : Code := Tryd.f2.body.getD .skip
theorem wk2 {bs : Nat → Addr} : WK Tryd.prog (cx2 bs) kt2 R2 := ⟨tabOK, mixed, ok2⟩
noncomputable def R3 : Code := Tryd.f3.body.getD .skip
theorem wk3 {bs : Nat → Addr} : WK Tryd.prog (cx3 bs) kt3 R3 := ⟨tabOK, mixed, ok3⟩
theorem run3 {bs : Nat → Addr} {args : List AV} {s : List (Nat × AB)} {R : AV → List (Nat × AB) → Prop} (n : Nat) (ct : List Nat) (hle : Nat.ble args.length 162 = true) (hb : belowB n s = true) (h : run Tryd.prog (cx3 bs) n kt3 ct R3 (KV T Tryd.f3.results.toList n R) 100000 ⟨.code [], [], argEnv 0 args, s⟩) : Contract Tryd.prog (G0 bs) 3 args s R :=
  Contract.of_run (cx := cx3 bs) wk3 Tryd.func3 rfl (enters_of Tryd.func3 (by kernel_rfl) rfl) rfl (Nat.le_of_ble_eq_true hle) hb h
noncomputable def R4 : Code := Tryd.f4.body.getD .skip
theorem wk4 {bs : Nat → Addr} : WK Tryd.prog (cx4 bs) kt4 R4 := ⟨tabOK, mixed, ok4⟩
theorem run4 {bs : Nat → Addr} {args : List AV} {s : List (Nat × AB)} {R : AV → List (Nat × AB) → Prop} (n : Nat) (ct : List Nat) (hle : Nat.ble args.length 17 = true) (hb : belowB n s = true) (h : run Tryd.prog (cx4 bs) n kt4 ct R4 (KV T Tryd.f4.results.toList n R) 100000 ⟨.code [], [], argEnv 0 args, s⟩) : Contract Tryd.prog (G0 bs) 4 args s R :=
  Contract.of_run (cx := cx4 bs) wk4 Tryd.func4 rfl (enters_of Tryd.func4 (by kernel_rfl) rfl) rfl (Nat.le_of_ble_eq_true hle) hb h
noncomputable def R5 : Code := Tryd.f5.body.getD .skip
theorem wk5 {bs : Nat → Addr} : WK Tryd.prog (cx5 bs) kt5 R5 := ⟨tabOK, mixed, ok5⟩
theorem run5 {bs : Nat → Addr} {args : List AV} {s : List (Nat × AB)} {R : AV → List (Nat × AB) → Prop} (n : Nat) (ct : List Nat) (hle : Nat.ble args.length 15 = true) (hb : belowB n s = true) (h : run Tryd.prog (cx5 bs) n kt5 ct R5 (KV T Tryd.f5.results.toList n R) 100000 ⟨.code [], [], argEnv 0 args, s⟩) : Contract Tryd.prog (G0 bs) 5 args s R :=
  Contract.of_run (cx := cx5 bs) wk5 Tryd.func5 rfl (enters_of Tryd.func5 (by kernel_rfl) rfl) rfl (Nat.le_of_ble_eq_true hle) hb h
noncomputable def R6 : Code := Tryd.f6.body.getD .skip
theorem wk6 {bs : Nat → Addr} : WK Tryd.prog (cx6 bs) kt6 R6 := ⟨tabOK, mixed, ok6⟩
theorem run6 {bs : Nat → Addr} {args : List AV} {s : List (Nat × AB)} {R : AV → List (Nat × AB) → Prop} (n : Nat) (ct : List Nat) (hle : Nat.ble args.length 51 = true) (hb : belowB n s = true) (h : run Tryd.prog (cx6 bs) n kt6 ct R6 (KV T Tryd.f6.results.toList n R) 100000 ⟨.code [], [], argEnv 0 args, s⟩) : Contract Tryd.prog (G0 bs) 6 args s R :=
  Contract.of_run (cx := cx6 bs) wk6 Tryd.func6 rfl (enters_of Tryd.func6 (by kernel_rfl) rfl) rfl (Nat.le_of_ble_eq_true hle) hb h
noncomputable def R7 : Code := Tryd.f7.body.getD .skip
theorem wk7 {bs : Nat → Addr} : WK Tryd.prog (cx7 bs) kt7 R7 := ⟨tabOK, mixed, ok7⟩
theorem run7 {bs : Nat → Addr} {args : List AV} {s : List (Nat × AB)} {R : AV → List (Nat × AB) → Prop} (n : Nat) (ct : List Nat) (hle : Nat.ble args.length 17 = true) (hb : belowB n s = true) (h : run Tryd.prog (cx7 bs) n kt7 ct R7 (KV T Tryd.f7.results.toList n R) 100000 ⟨.code [], [], argEnv 0 args, s⟩) : Contract Tryd.prog (G0 bs) 7 args s R :=
  Contract.of_run (cx := cx7 bs) wk7 Tryd.func7 rfl (enters_of Tryd.func7 (by kernel_rfl) rfl) rfl (Nat.le_of_ble_eq_true hle) hb h
noncomputable def R8 : Code := Tryd.f8.body.getD .skip
theorem wk8 {bs : Nat → Addr} : WK Tryd.prog (cx8 bs) kt8 R8 := ⟨tabOK, mixed, ok8⟩
theorem run8 {bs : Nat → Addr} {args : List AV} {s : List (Nat × AB)} {R : AV → List (Nat × AB) → Prop} (n : Nat) (ct : List Nat) (hle : Nat.ble args.length 14 = true) (hb : belowB n s = true) (h : run Tryd.prog (cx8 bs) n kt8 ct R8 (KV T Tryd.f8.results.toList n R) 100000 ⟨.code [], [], argEnv 0 args, s⟩) : Contract Tryd.prog (G0 bs) 8 args s R :=
  Contract.of_run (cx := cx8 bs) wk8 Tryd.func8 rfl (enters_of Tryd.func8 (by kernel_rfl) rfl) rfl (Nat.le_of_ble_eq_true hle) hb h
noncomputable def R9 : Code := Tryd.f9.body.getD .skip
theorem wk9 {bs : Nat → Addr} : WK Tryd.prog (cx9 bs) kt9 R9 := ⟨tabOK, mixed, ok9⟩
theorem run9 {bs : Nat → Addr} {args : List AV} {s : List (Nat × AB)} {R : AV → List (Nat × AB) → Prop} (n : Nat) (ct : List Nat) (hle : Nat.ble args.length 9 = true) (hb : belowB n s = true) (h : run Tryd.prog (cx9 bs) n kt9 ct R9 (KV T Tryd.f9.results.toList n R) 100000 ⟨.code [], [], argEnv 0 args, s⟩) : Contract Tryd.prog (G0 bs) 9 args s R :=
  Contract.of_run (cx := cx9 bs) wk9 Tryd.func9 rfl (enters_of Tryd.func9 (by kernel_rfl) rfl) rfl (Nat.le_of_ble_eq_true hle) hb h
noncomputable def R10 : Code := Tryd.f10.body.getD .skip
theorem wk10 {bs : Nat → Addr} : WK Tryd.prog (cx10 bs) kt10 R10 := ⟨tabOK, mixed, ok10⟩
theorem run10 {bs : Nat → Addr} {args : List AV} {s : List (Nat × AB)} {R : AV → List (Nat × AB) → Prop} (n : Nat) (ct : List Nat) (hle : Nat.ble args.length 11 = true) (hb : belowB n s = true) (h : run Tryd.prog (cx10 bs) n kt10 ct R10 (KV T Tryd.f10.results.toList n R) 100000 ⟨.code [], [], argEnv 0 args, s⟩) : Contract Tryd.prog (G0 bs) 10 args s R :=
  Contract.of_run (cx := cx10 bs) wk10 Tryd.func10 rfl (enters_of Tryd.func10 (by kernel_rfl) rfl) rfl (Nat.le_of_ble_eq_true hle) hb h
noncomputable def R11 : Code := Tryd.f11.body.getD .skip
theorem wk11 {bs : Nat → Addr} : WK Tryd.prog (cx11 bs) kt11 R11 := ⟨tabOK, mixed, ok11⟩
theorem run11 {bs : Nat → Addr} {args : List AV} {s : List (Nat × AB)} {R : AV → List (Nat × AB) → Prop} (n : Nat) (ct : List Nat) (hle : Nat.ble args.length 31 = true) (hb : belowB n s = true) (h : run Tryd.prog (cx11 bs) n kt11 ct R11 (KV T Tryd.f11.results.toList n R) 100000 ⟨.code [], [], argEnv 0 args, s⟩) : Contract Tryd.prog (G0 bs) 11 args s R :=
  Contract.of_run (cx := cx11 bs) wk11 Tryd.func11 rfl (enters_of Tryd.func11 (by kernel_rfl) rfl) rfl (Nat.le_of_ble_eq_true hle) hb h
theorem rung11 {bs : Nat → Addr} {args : List AV} {s : List (Nat × AB)} {R : AV → List (Nat × AB) → Prop} (n : Nat) (ct : List Nat) (hle : Nat.ble args.length 31 = true) (hb : belowB n s = true) (h : run Tryd.prog (cx11 bs) n kt11 ct R11 (KG (cx11 bs) Tryd.f11.results.toList n R) 100000 ⟨.code [], [], argEnv 0 args, s⟩) : Contract Tryd.prog (G0 bs) 11 args s R :=
  Contract.of_runG (cx := cx11 bs) wk11 Tryd.func11 rfl (enters_of Tryd.func11 (by kernel_rfl) rfl) rfl (Nat.le_of_ble_eq_true hle) hb h
noncomputable def R12 : Code := Tryd.f12.body.getD .skip
theorem wk12 {bs : Nat → Addr} : WK Tryd.prog (cx12 bs) kt12 R12 := ⟨tabOK, mixed, ok12⟩
noncomputable def R13 : Code := Tryd.f13.body.getD .skip
theorem wk13 {bs : Nat → Addr} : WK Tryd.prog (cx13 bs) kt13 R13 := ⟨tabOK, mixed, ok13⟩
noncomputable def R14 : Code := Tryd.f14.body.getD .skip
theorem wk14 {bs : Nat → Addr} : WK Tryd.prog (cx14 bs) kt14 R14 := ⟨tabOK, mixed, ok14⟩
noncomputable def R15 : Code := Tryd.f15.body.getD .skip
theorem wk15 {bs : Nat → Addr} : WK Tryd.prog (cx15 bs) kt15 R15 := ⟨tabOK, mixed, ok15⟩
theorem run15 {bs : Nat → Addr} {args : List AV} {s : List (Nat × AB)} {R : AV → List (Nat × AB) → Prop} (n : Nat) (ct : List Nat) (hle : Nat.ble args.length 24 = true) (hb : belowB n s = true) (h : run Tryd.prog (cx15 bs) n kt15 ct R15 (KV T Tryd.f15.results.toList n R) 100000 ⟨.code [], [], argEnv 0 args, s⟩) : Contract Tryd.prog (G0 bs) 15 args s R :=
  Contract.of_run (cx := cx15 bs) wk15 Tryd.func15 rfl (enters_of Tryd.func15 (by kernel_rfl) rfl) rfl (Nat.le_of_ble_eq_true hle) hb h
noncomputable def R16 : Code := Tryd.f16.body.getD .skip
theorem wk16 {bs : Nat → Addr} : WK Tryd.prog (cx16 bs) kt16 R16 := ⟨tabOK, mixed, ok16⟩
theorem run16 {bs : Nat → Addr} {args : List AV} {s : List (Nat × AB)} {R : AV → List (Nat × AB) → Prop} (n : Nat) (ct : List Nat) (hle : Nat.ble args.length 38 = true) (hb : belowB n s = true) (h : run Tryd.prog (cx16 bs) n kt16 ct R16 (KV T Tryd.f16.results.toList n R) 100000 ⟨.code [], [], argEnv 0 args, s⟩) : Contract Tryd.prog (G0 bs) 16 args s R :=
  Contract.of_run (cx := cx16 bs) wk16 Tryd.func16 rfl (enters_of Tryd.func16 (by kernel_rfl) rfl) rfl (Nat.le_of_ble_eq_true hle) hb h
noncomputable def R17 : Code := Tryd.f17.body.getD .skip
theorem wk17 {bs : Nat → Addr} : WK Tryd.prog (cx17 bs) kt17 R17 := ⟨tabOK, mixed, ok17⟩
theorem run17 {bs : Nat → Addr} {args : List AV} {s : List (Nat × AB)} {R : AV → List (Nat × AB) → Prop} (n : Nat) (ct : List Nat) (hle : Nat.ble args.length 2 = true) (hb : belowB n s = true) (h : run Tryd.prog (cx17 bs) n kt17 ct R17 (KV T Tryd.f17.results.toList n R) 100000 ⟨.code [], [], argEnv 0 args, s⟩) : Contract Tryd.prog (G0 bs) 17 args s R :=
  Contract.of_run (cx := cx17 bs) wk17 Tryd.func17 rfl (enters_of Tryd.func17 (by kernel_rfl) rfl) rfl (Nat.le_of_ble_eq_true hle) hb h
noncomputable def R18 : Code := Tryd.f18.body.getD .skip
theorem wk18 {bs : Nat → Addr} : WK Tryd.prog (cx18 bs) kt18 R18 := ⟨tabOK, mixed, ok18⟩
theorem run18 {bs : Nat → Addr} {args : List AV} {s : List (Nat × AB)} {R : AV → List (Nat × AB) → Prop} (n : Nat) (ct : List Nat) (hle : Nat.ble args.length 33 = true) (hb : belowB n s = true) (h : run Tryd.prog (cx18 bs) n kt18 ct R18 (KV T Tryd.f18.results.toList n R) 100000 ⟨.code [], [], argEnv 0 args, s⟩) : Contract Tryd.prog (G0 bs) 18 args s R :=
  Contract.of_run (cx := cx18 bs) wk18 Tryd.func18 rfl (enters_of Tryd.func18 (by kernel_rfl) rfl) rfl (Nat.le_of_ble_eq_true hle) hb h
noncomputable def R19 : Code := Tryd.f19.body.getD .skip
theorem wk19 {bs : Nat → Addr} : WK Tryd.prog (cx19 bs) kt19 R19 := ⟨tabOK, mixed, ok19⟩
theorem run19 {bs : Nat → Addr} {args : List AV} {s : List (Nat × AB)} {R : AV → List (Nat × AB) → Prop} (n : Nat) (ct : List Nat) (hle : Nat.ble args.length 110 = true) (hb : belowB n s = true) (h : run Tryd.prog (cx19 bs) n kt19 ct R19 (KV T Tryd.f19.results.toList n R) 100000 ⟨.code [], [], argEnv 0 args, s⟩) : Contract Tryd.prog (G0 bs) 19 args s R :=
  Contract.of_run (cx := cx19 bs) wk19 Tryd.func19 rfl (enters_of Tryd.func19 (by kernel_rfl) rfl) rfl (Nat.le_of_ble_eq_true hle) hb h
noncomputable def R20 : Code := Tryd.f20.body.getD .skip
theorem wk20 {bs : Nat → Addr} : WK Tryd.prog (cx20 bs) kt20 R20 := ⟨tabOK, mixed, ok20⟩
noncomputable def R21 : Code := Tryd.f21.body.getD .skip
theorem wk21 {bs : Nat → Addr} : WK Tryd.prog (cx21 bs) kt21 R21 := ⟨tabOK, mixed, ok21⟩
theorem run21 {bs : Nat → Addr} {args : List AV} {s : List (Nat × AB)} {R : AV → List (Nat × AB) → Prop} (n : Nat) (ct : List Nat) (hle : Nat.ble args.length 14 = true) (hb : belowB n s = true) (h : run Tryd.prog (cx21 bs) n kt21 ct R21 (KV T Tryd.f21.results.toList n R) 100000 ⟨.code [], [], argEnv 0 args, s⟩) : Contract Tryd.prog (G0 bs) 21 args s R :=
  Contract.of_run (cx := cx21 bs) wk21 Tryd.func21 rfl (enters_of Tryd.func21 (by kernel_rfl) rfl) rfl (Nat.le_of_ble_eq_true hle) hb h
noncomputable def R22 : Code := Tryd.f22.body.getD .skip
theorem wk22 {bs : Nat → Addr} : WK Tryd.prog (cx22 bs) kt22 R22 := ⟨tabOK, mixed, ok22⟩
noncomputable def R23 : Code := Tryd.f23.body.getD .skip
theorem wk23 {bs : Nat → Addr} : WK Tryd.prog (cx23 bs) kt23 R23 := ⟨tabOK, mixed, ok23⟩
noncomputable def R24 : Code := Tryd.f24.body.getD .skip
theorem wk24 {bs : Nat → Addr} : WK Tryd.prog (cx24 bs) kt24 R24 := ⟨tabOK, mixed, ok24⟩
noncomputable def R25 : Code := Tryd.f25.body.getD .skip
theorem wk25 {bs : Nat → Addr} : WK Tryd.prog (cx25 bs) kt25 R25 := ⟨tabOK, mixed, ok25⟩
theorem run25 {bs : Nat → Addr} {args : List AV} {s : List (Nat × AB)} {R : AV → List (Nat × AB) → Prop} (n : Nat) (ct : List Nat) (hle : Nat.ble args.length 5 = true) (hb : belowB n s = true) (h : run Tryd.prog (cx25 bs) n kt25 ct R25 (KV T Tryd.f25.results.toList n R) 100000 ⟨.code [], [], argEnv 0 args, s⟩) : Contract Tryd.prog (G0 bs) 25 args s R :=
  Contract.of_run (cx := cx25 bs) wk25 Tryd.func25 rfl (enters_of Tryd.func25 (by kernel_rfl) rfl) rfl (Nat.le_of_ble_eq_true hle) hb h
noncomputable def R26 : Code := Tryd.f26.body.getD .skip
theorem wk26 {bs : Nat → Addr} : WK Tryd.prog (cx26 bs) kt26 R26 := ⟨tabOK, mixed, ok26⟩
theorem run26 {bs : Nat → Addr} {args : List AV} {s : List (Nat × AB)} {R : AV → List (Nat × AB) → Prop} (n : Nat) (ct : List Nat) (hle : Nat.ble args.length 20 = true) (hb : belowB n s = true) (h : run Tryd.prog (cx26 bs) n kt26 ct R26 (KV T Tryd.f26.results.toList n R) 100000 ⟨.code [], [], argEnv 0 args, s⟩) : Contract Tryd.prog (G0 bs) 26 args s R :=
  Contract.of_run (cx := cx26 bs) wk26 Tryd.func26 rfl (enters_of Tryd.func26 (by kernel_rfl) rfl) rfl (Nat.le_of_ble_eq_true hle) hb h
noncomputable def R27 : Code := Tryd.f27.body.getD .skip
theorem wk27 {bs : Nat → Addr} : WK Tryd.prog (cx27 bs) kt27 R27 := ⟨tabOK, mixed, ok27⟩
theorem run27 {bs : Nat → Addr} {args : List AV} {s : List (Nat × AB)} {R : AV → List (Nat × AB) → Prop} (n : Nat) (ct : List Nat) (hle : Nat.ble args.length 71 = true) (hb : belowB n s = true) (h : run Tryd.prog (cx27 bs) n kt27 ct R27 (KV T Tryd.f27.results.toList n R) 100000 ⟨.code [], [], argEnv 0 args, s⟩) : Contract Tryd.prog (G0 bs) 27 args s R :=
  Contract.of_run (cx := cx27 bs) wk27 Tryd.func27 rfl (enters_of Tryd.func27 (by kernel_rfl) rfl) rfl (Nat.le_of_ble_eq_true hle) hb h
noncomputable def R28 : Code := Tryd.f28.body.getD .skip
theorem wk28 {bs : Nat → Addr} : WK Tryd.prog (cx28 bs) kt28 R28 := ⟨tabOK, mixed, ok28⟩
theorem run28 {bs : Nat → Addr} {args : List AV} {s : List (Nat × AB)} {R : AV → List (Nat × AB) → Prop} (n : Nat) (ct : List Nat) (hle : Nat.ble args.length 64 = true) (hb : belowB n s = true) (h : run Tryd.prog (cx28 bs) n kt28 ct R28 (KV T Tryd.f28.results.toList n R) 100000 ⟨.code [], [], argEnv 0 args, s⟩) : Contract Tryd.prog (G0 bs) 28 args s R :=
  Contract.of_run (cx := cx28 bs) wk28 Tryd.func28 rfl (enters_of Tryd.func28 (by kernel_rfl) rfl) rfl (Nat.le_of_ble_eq_true hle) hb h
noncomputable def R29 : Code := Tryd.f29.body.getD .skip
theorem wk29 {bs : Nat → Addr} : WK Tryd.prog (cx29 bs) kt29 R29 := ⟨tabOK, mixed, ok29⟩
theorem run29 {bs : Nat → Addr} {args : List AV} {s : List (Nat × AB)} {R : AV → List (Nat × AB) → Prop} (n : Nat) (ct : List Nat) (hle : Nat.ble args.length 59 = true) (hb : belowB n s = true) (h : run Tryd.prog (cx29 bs) n kt29 ct R29 (KV T Tryd.f29.results.toList n R) 100000 ⟨.code [], [], argEnv 0 args, s⟩) : Contract Tryd.prog (G0 bs) 29 args s R :=
  Contract.of_run (cx := cx29 bs) wk29 Tryd.func29 rfl (enters_of Tryd.func29 (by kernel_rfl) rfl) rfl (Nat.le_of_ble_eq_true hle) hb h
noncomputable def R30 : Code := Tryd.f30.body.getD .skip
theorem wk30 {bs : Nat → Addr} : WK Tryd.prog (cx30 bs) kt30 R30 := ⟨tabOK, mixed, ok30⟩
theorem run30 {bs : Nat → Addr} {args : List AV} {s : List (Nat × AB)} {R : AV → List (Nat × AB) → Prop} (n : Nat) (ct : List Nat) (hle : Nat.ble args.length 104 = true) (hb : belowB n s = true) (h : run Tryd.prog (cx30 bs) n kt30 ct R30 (KV T Tryd.f30.results.toList n R) 100000 ⟨.code [], [], argEnv 0 args, s⟩) : Contract Tryd.prog (G0 bs) 30 args s R :=
  Contract.of_run (cx := cx30 bs) wk30 Tryd.func30 rfl (enters_of Tryd.func30 (by kernel_rfl) rfl) rfl (Nat.le_of_ble_eq_true hle) hb h
noncomputable def R31 : Code := Tryd.f31.body.getD .skip
theorem wk31 {bs : Nat → Addr} : WK Tryd.prog (cx31 bs) kt31 R31 := ⟨tabOK, mixed, ok31⟩
noncomputable def R32 : Code := Tryd.f32.body.getD .skip
theorem wk32 {bs : Nat → Addr} : WK Tryd.prog (cx32 bs) kt32 R32 := ⟨tabOK, mixed, ok32⟩
theorem run32 {bs : Nat → Addr} {args : List AV} {s : List (Nat × AB)} {R : AV → List (Nat × AB) → Prop} (n : Nat) (ct : List Nat) (hle : Nat.ble args.length 148 = true) (hb : belowB n s = true) (h : run Tryd.prog (cx32 bs) n kt32 ct R32 (KV T Tryd.f32.results.toList n R) 100000 ⟨.code [], [], argEnv 0 args, s⟩) : Contract Tryd.prog (G0 bs) 32 args s R :=
  Contract.of_run (cx := cx32 bs) wk32 Tryd.func32 rfl (enters_of Tryd.func32 (by kernel_rfl) rfl) rfl (Nat.le_of_ble_eq_true hle) hb h
noncomputable def R33 : Code := Tryd.f33.body.getD .skip
theorem wk33 {bs : Nat → Addr} : WK Tryd.prog (cx33 bs) kt33 R33 := ⟨tabOK, mixed, ok33⟩
theorem run33 {bs : Nat → Addr} {args : List AV} {s : List (Nat × AB)} {R : AV → List (Nat × AB) → Prop} (n : Nat) (ct : List Nat) (hle : Nat.ble args.length 8 = true) (hb : belowB n s = true) (h : run Tryd.prog (cx33 bs) n kt33 ct R33 (KV T Tryd.f33.results.toList n R) 100000 ⟨.code [], [], argEnv 0 args, s⟩) : Contract Tryd.prog (G0 bs) 33 args s R :=
  Contract.of_run (cx := cx33 bs) wk33 Tryd.func33 rfl (enters_of Tryd.func33 (by kernel_rfl) rfl) rfl (Nat.le_of_ble_eq_true hle) hb h
noncomputable def R34 : Code := Tryd.f34.body.getD .skip
theorem wk34 {bs : Nat → Addr} : WK Tryd.prog (cx34 bs) kt34 R34 := ⟨tabOK, mixed, ok34⟩
noncomputable def R35 : Code := Tryd.f35.body.getD .skip
theorem wk35 {bs : Nat → Addr} : WK Tryd.prog (cx35 bs) kt35 R35 := ⟨tabOK, mixed, ok35⟩
theorem run35 {bs : Nat → Addr} {args : List AV} {s : List (Nat × AB)} {R : AV → List (Nat × AB) → Prop} (n : Nat) (ct : List Nat) (hle : Nat.ble args.length 15 = true) (hb : belowB n s = true) (h : run Tryd.prog (cx35 bs) n kt35 ct R35 (KV T Tryd.f35.results.toList n R) 100000 ⟨.code [], [], argEnv 0 args, s⟩) : Contract Tryd.prog (G0 bs) 35 args s R :=
  Contract.of_run (cx := cx35 bs) wk35 Tryd.func35 rfl (enters_of Tryd.func35 (by kernel_rfl) rfl) rfl (Nat.le_of_ble_eq_true hle) hb h
noncomputable def R36 : Code := Tryd.f36.body.getD .skip
theorem wk36 {bs : Nat → Addr} : WK Tryd.prog (cx36 bs) kt36 R36 := ⟨tabOK, mixed, ok36⟩
theorem run36 {bs : Nat → Addr} {args : List AV} {s : List (Nat × AB)} {R : AV → List (Nat × AB) → Prop} (n : Nat) (ct : List Nat) (hle : Nat.ble args.length 20 = true) (hb : belowB n s = true) (h : run Tryd.prog (cx36 bs) n kt36 ct R36 (KV T Tryd.f36.results.toList n R) 100000 ⟨.code [], [], argEnv 0 args, s⟩) : Contract Tryd.prog (G0 bs) 36 args s R :=
  Contract.of_run (cx := cx36 bs) wk36 Tryd.func36 rfl (enters_of Tryd.func36 (by kernel_rfl) rfl) rfl (Nat.le_of_ble_eq_true hle) hb h
noncomputable def R37 : Code := Tryd.f37.body.getD .skip
theorem wk37 {bs : Nat → Addr} : WK Tryd.prog (cx37 bs) kt37 R37 := ⟨tabOK, mixed, ok37⟩
theorem run37 {bs : Nat → Addr} {args : List AV} {s : List (Nat × AB)} {R : AV → List (Nat × AB) → Prop} (n : Nat) (ct : List Nat) (hle : Nat.ble args.length 24 = true) (hb : belowB n s = true) (h : run Tryd.prog (cx37 bs) n kt37 ct R37 (KV T Tryd.f37.results.toList n R) 100000 ⟨.code [], [], argEnv 0 args, s⟩) : Contract Tryd.prog (G0 bs) 37 args s R :=
  Contract.of_run (cx := cx37 bs) wk37 Tryd.func37 rfl (enters_of Tryd.func37 (by kernel_rfl) rfl) rfl (Nat.le_of_ble_eq_true hle) hb h
noncomputable def R38 : Code := Tryd.f38.body.getD .skip
theorem wk38 {bs : Nat → Addr} : WK Tryd.prog (cx38 bs) kt38 R38 := ⟨tabOK, mixed, ok38⟩
theorem run38 {bs : Nat → Addr} {args : List AV} {s : List (Nat × AB)} {R : AV → List (Nat × AB) → Prop} (n : Nat) (ct : List Nat) (hle : Nat.ble args.length 53 = true) (hb : belowB n s = true) (h : run Tryd.prog (cx38 bs) n kt38 ct R38 (KV T Tryd.f38.results.toList n R) 100000 ⟨.code [], [], argEnv 0 args, s⟩) : Contract Tryd.prog (G0 bs) 38 args s R :=
  Contract.of_run (cx := cx38 bs) wk38 Tryd.func38 rfl (enters_of Tryd.func38 (by kernel_rfl) rfl) rfl (Nat.le_of_ble_eq_true hle) hb h
noncomputable def R39 : Code := Tryd.f39.body.getD .skip
theorem wk39 {bs : Nat → Addr} : WK Tryd.prog (cx39 bs) kt39 R39 := ⟨tabOK, mixed, ok39⟩
noncomputable def R40 : Code := Tryd.f40.body.getD .skip
theorem wk40 {bs : Nat → Addr} : WK Tryd.prog (cx40 bs) kt40 R40 := ⟨tabOK, mixed, ok40⟩
noncomputable def R41 : Code := Tryd.f41.body.getD .skip
theorem wk41 {bs : Nat → Addr} : WK Tryd.prog (cx41 bs) kt41 R41 := ⟨tabOK, mixed, ok41⟩
noncomputable def R42 : Code := Tryd.f42.body.getD .skip
theorem wk42 {bs : Nat → Addr} : WK Tryd.prog (cx42 bs) kt42 R42 := ⟨tabOK, mixed, ok42⟩
noncomputable def R43 : Code := Tryd.f43.body.getD .skip
theorem wk43 {bs : Nat → Addr} : WK Tryd.prog (cx43 bs) kt43 R43 := ⟨tabOK, mixed, ok43⟩
noncomputable def R44 : Code := Tryd.f44.body.getD .skip
theorem wk44 {bs : Nat → Addr} : WK Tryd.prog (cx44 bs) kt44 R44 := ⟨tabOK, mixed, ok44⟩
noncomputable def R45 : Code := Tryd.f45.body.getD .skip
theorem wk45 {bs : Nat → Addr} : WK Tryd.prog (cx45 bs) kt45 R45 := ⟨tabOK, mixed, ok45⟩
noncomputable def R46 : Code := Tryd.f46.body.getD .skip
theorem wk46 {bs : Nat → Addr} : WK Tryd.prog (cx46 bs) kt46 R46 := ⟨tabOK, mixed, ok46⟩
noncomputable def R47 : Code := Tryd.f47.body.getD .skip
theorem wk47 {bs : Nat → Addr} : WK Tryd.prog (cx47 bs) kt47 R47 := ⟨tabOK, mixed, ok47⟩
theorem run47 {bs : Nat → Addr} {args : List AV} {s : List (Nat × AB)} {R : AV → List (Nat × AB) → Prop} (n : Nat) (ct : List Nat) (hle : Nat.ble args.length 25 = true) (hb : belowB n s = true) (h : run Tryd.prog (cx47 bs) n kt47 ct R47 (KV T Tryd.f47.results.toList n R) 100000 ⟨.code [], [], argEnv 0 args, s⟩) : Contract Tryd.prog (G0 bs) 47 args s R :=
  Contract.of_run (cx := cx47 bs) wk47 Tryd.func47 rfl (enters_of Tryd.func47 (by kernel_rfl) rfl) rfl (Nat.le_of_ble_eq_true hle) hb h
noncomputable def R48 : Code := Tryd.f48.body.getD .skip
theorem wk48 {bs : Nat → Addr} : WK Tryd.prog (cx48 bs) kt48 R48 := ⟨tabOK, mixed, ok48⟩
noncomputable def R49 : Code := Tryd.f49.body.getD .skip
theorem wk49 {bs : Nat → Addr} : WK Tryd.prog (cx49 bs) kt49 R49 := ⟨tabOK, mixed, ok49⟩
noncomputable def R50 : Code := Tryd.f50.body.getD .skip
theorem wk50 {bs : Nat → Addr} : WK Tryd.prog (cx50 bs) kt50 R50 := ⟨tabOK, mixed, ok50⟩
noncomputable def R51 : Code := Tryd.f51.body.getD .skip
theorem wk51 {bs : Nat → Addr} : WK Tryd.prog (cx51 bs) kt51 R51 := ⟨tabOK, mixed, ok51⟩
noncomputable def R52 : Code := Tryd.f52.body.getD .skip
theorem wk52 {bs : Nat → Addr} : WK Tryd.prog (cx52 bs) kt52 R52 := ⟨tabOK, mixed, ok52⟩
noncomputable def R53 : Code := Tryd.f53.body.getD .skip
theorem wk53 {bs : Nat → Addr} : WK Tryd.prog (cx53 bs) kt53 R53 := ⟨tabOK, mixed, ok53⟩
noncomputable def R72 : Code := Tryd.f72.body.getD .skip
theorem wk72 {bs : Nat → Addr} : WK Tryd.prog (cx72 bs) kt72 R72 := ⟨tabOK, mixed, ok72⟩
noncomputable def R88 : Code := Tryd.f88.body.getD .skip
theorem wk88 {bs : Nat → Addr} : WK Tryd.prog (cx88 bs) kt88 R88 := ⟨tabOK, mixed, ok88⟩
end Go.Proofs.YtgadgajhahfabaaDoor
