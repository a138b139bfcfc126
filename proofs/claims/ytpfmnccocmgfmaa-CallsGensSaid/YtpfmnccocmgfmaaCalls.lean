/- What the program's functions on sets of calls come to. -/
import Derived.Test.YtpfmnccocmgfmaaBid
import Derived.Test.YtpfmnccocmgfmaaPvU
namespace Go.Proofs.Ytpfmnccocmgfmaa
open Go.Pv Go.RowKit

abbrev Ct := Int × Int
abbrev Lt := Ct × Int
def callv (c : Ct) : AV := .agg [.d (.int .i64 c.1), .d (.int .i64 c.2)]
def latchv (t : Lt) : AV := .agg [.d (.int .i64 t.1.1), .d (.int .i64 t.1.2), .d (.int .i64 t.2)]
def kc (c : Ct) : DX := .agg [.int .i64 c.1, .int .i64 c.2]
def vl (t : Lt) : DX := .agg [.int .i64 t.1.1, .int .i64 t.1.2, .int .i64 t.2]
def encL (l : List Lt) : List (DX × DX) := encM Prod.fst kc vl l
def kcs : Bool × List IntKind := (true, [.i64, .i64])
theorem kc_inj : ∀ a b, kc a = kc b → a = b := fun a b h => by
  simp [kc] at h
  exact Prod.ext h.1 h.2
theorem kc_good (c : Ct) : kgood kcs (kc c) = true := by simp [kgood, kcs, kc, kmatch]
theorem flat30 : flatK T 30 = some kcs := by kernel_rfl
theorem stood30 : Try.prog.stoodInHeld 30 = false := by kernel_rfl
def setst : Option (List Lt) → List (Nat × AB)
  | .none => [(0, .cells [.d (.raw (.map .none))])]
  | .some l => [(0, .cells [.mp (.g 1)]), (1, .dmap (encL l))]

theorem has_none (c : Ct) : Contract Try.prog G0 20 [.ref (.g 0) 0, callv c] (setst .none) (fun r t => r = .d (.bool false) ∧ t = setst .none) := by
  refine Contract.of_vc (cx := ⟨T, G0, 17, [0, 3, 4, 6]⟩) tabOK Try.func20 rfl (enters_of Try.func20 (by kernel_rfl) rfl) rfl (Nat.le_of_ble_eq_true rfl) ?_
  refine VC.seq (VC.region tabOK mixed ⟨2, by kernel_rfl, ?_⟩)
  conv => whnf
  refine VC.seq (VC.region tabOK mixed ⟨10, by kernel_rfl, ?_⟩)
  conv => whnf
  refine ⟨kc_good c, ?_⟩
  conv => whnf
  refine VC.seq (VC.region tabOK mixed ⟨2, by kernel_rfl, ?_⟩)
  conv => whnf
  exact VC.ret ⟨_, rfl, rfl, rfl, rfl⟩
theorem has_some (l : List Lt) (hn : (l.map Prod.fst).Nodup) (c : Ct) : Contract Try.prog G0 20 [.ref (.g 0) 0, callv c] (setst (.some l)) (fun r t => r = .d (.bool (aget Prod.fst l c).isSome) ∧ t = setst (.some l)) := by
  refine Contract.of_vc (cx := ⟨T, G0, 17, [0, 3, 4, 6]⟩) tabOK Try.func20 rfl (enters_of Try.func20 (by kernel_rfl) rfl) rfl (Nat.le_of_ble_eq_true rfl) ?_
  refine VC.seq (VC.region tabOK mixed ⟨2, by kernel_rfl, ?_⟩)
  conv => whnf
  refine VC.seq (VC.region tabOK mixed ⟨10, by kernel_rfl, ?_⟩)
  conv => whnf
  have hg := dget_enc (ev := vl) kc_inj hn c
  cases ha : aget Prod.fst l c with
  | none =>
    rw [ha] at hg
    refine ⟨stood30, .none, ⟨kc_good c, good_enc kc_good l, hg⟩, ?_⟩
    conv => whnf
    refine VC.seq (VC.region tabOK mixed ⟨2, by kernel_rfl, ?_⟩)
    conv => whnf
    exact VC.ret ⟨_, rfl, rfl, rfl, rfl⟩
  | some t =>
    rw [ha] at hg
    refine ⟨stood30, .some (vl t), ⟨kc_good c, good_enc kc_good l, hg⟩, ?_⟩
    conv => whnf
    refine VC.seq (VC.region tabOK mixed ⟨2, by kernel_rfl, ?_⟩)
    conv => whnf
    exact VC.ret ⟨_, rfl, rfl, rfl, rfl⟩
theorem sameCall (a b : Ct) : Contract Try.prog G0 15 [callv a, callv b] [] (fun r t => r = .d (.bool (a == b)) ∧ t = []) := by
  refine Contract.of_vc (cx := ⟨T, G0, 17, [2, 3, 4]⟩) tabOK Try.func15 rfl (enters_of Try.func15 (by kernel_rfl) rfl) rfl (Nat.le_of_ble_eq_true rfl) ?_
  refine VC.seq (VC.region tabOK mixed ⟨3, by kernel_rfl, ?_⟩)
  conv => whnf
  refine VC.seq (VC.region tabOK mixed ⟨13, by kernel_rfl, ?_⟩)
  conv => whnf
  refine VC.ret ⟨_, rfl, rfl, ?_, rfl⟩
  refine congrArg (fun b => AV.d (DV.bool b)) ?_
  show (bif a.1 == b.1 then a.2 == b.2 else false) = (a == b)
  rw [show (a == b) = (a.1 == b.1 && a.2 == b.2) from rfl]
  cases (a.1 == b.1) <;> cases (a.2 == b.2) <;> rfl
theorem sameLatch (a b : Lt) : Contract Try.prog G0 16 [latchv a, latchv b] [] (fun r t => r = .d (.bool (a == b)) ∧ t = []) := by
  refine Contract.of_vc (cx := ⟨T, G0, 17, [2, 3, 4]⟩) tabOK Try.func16 rfl (enters_of Try.func16 (by kernel_rfl) rfl) rfl (Nat.le_of_ble_eq_true rfl) ?_
  refine VC.seq (VC.region tabOK mixed ⟨3, by kernel_rfl, ?_⟩)
  conv => whnf
  refine VC.seq (VC.region tabOK mixed ⟨13, by kernel_rfl, ?_⟩)
  conv => whnf
  refine ⟨[callv a.1, callv b.1], _, ⟨WkL.refl _, rfl, sameCall _ _⟩, ?_⟩
  conv => whnf
  refine VC.ret ⟨_, rfl, rfl, ?_, rfl⟩
  refine congrArg (fun b => AV.d (DV.bool b)) ?_
  show (bif a.1 == b.1 then a.2 == b.2 else false) = (a == b)
  rw [show (a == b) = (a.1 == b.1 && a.2 == b.2) from rfl]
  cases (a.1 == b.1) <;> cases (a.2 == b.2) <;> rfl
def lenO : Option (List Lt) → Nat
  | .none => 0
  | .some l => l.length
theorem len_ (m : Option (List Lt)) : Contract Try.prog G0 17 [.ref (.g 0) 0] (setst m) (fun r t => r = .d (.int .i64 (lenO m)) ∧ t = setst m) := by
  refine Contract.of_vc (cx := ⟨T, G0, 8, [2]⟩) tabOK Try.func17 rfl (enters_of Try.func17 (by kernel_rfl) rfl) rfl (Nat.le_of_ble_eq_true rfl) ?_
  cases m with
  | none =>
    refine VC.seq (VC.region tabOK mixed ⟨1, by kernel_rfl, ?_⟩)
    conv => whnf
    refine VC.seq (VC.region tabOK mixed ⟨6, by kernel_rfl, ?_⟩)
    conv => whnf
    exact VC.ret ⟨_, rfl, rfl, rfl, rfl⟩
  | some l =>
    refine VC.seq (VC.region tabOK mixed ⟨1, by kernel_rfl, ?_⟩)
    conv => whnf
    refine VC.seq (VC.region tabOK mixed ⟨6, by kernel_rfl, ?_⟩)
    conv => whnf
    refine VC.ret ⟨_, rfl, rfl, ?_, rfl⟩
    refine congrArg (fun n => AV.d (DV.int .i64 n)) ?_
    simp [encL, encM, lenO]
end Go.Proofs.Ytpfmnccocmgfmaa
