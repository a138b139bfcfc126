/- Put, Del, Get. -/
import Derived.Test.YtpfmnccocmgfmaaCalls
namespace Go.Proofs.Ytpfmnccocmgfmaa
open Go.Pv Go.RowKit

theorem put_none (t : Lt) : Contract Try.prog G0 13 [.ref (.g 0) 0, latchv t] (setst .none) (fun r s => r = .d (.bool true) ∧ s = setst (.some [t])) := by
  refine Contract.of_vc (cx := ⟨T, G0, 29, [0, 3, 4, 5, 15]⟩) tabOK Try.func13 rfl (enters_of Try.func13 (by kernel_rfl) rfl) rfl (Nat.le_of_ble_eq_true rfl) ?_
  refine VC.seq (VC.region tabOK mixed ⟨2, by kernel_rfl, ?_⟩)
  conv => whnf
  refine VC.seq (VC.region tabOK mixed ⟨3, by kernel_rfl, ?_⟩)
  conv => whnf
  refine .inr ⟨[0], [.ref (.g 0) 0, callv t.1], setst .none, _, rfl, WkL.refl _, rfl, has_none t.1, fun res s1 h => ?_⟩
  obtain ⟨rfl, rfl⟩ := h
  refine ⟨[], rfl, ?_⟩
  conv => whnf
  refine VC.seq (VC.seq (VC.region tabOK mixed ⟨6, by kernel_rfl, ?_⟩))
  conv => whnf
  refine VC.cond ?_
  conv => whnf
  refine ⟨fun _ => ?_, fun h => (by cases h)⟩
  refine VC.region tabOK mixed ⟨1, by kernel_rfl, ?_⟩
  conv => whnf
  refine VC.seq (VC.region tabOK mixed ⟨7, by kernel_rfl, ?_⟩)
  conv => whnf
  refine ⟨stood30, encL [t], ⟨kc_good t.1, fun e he => (by cases he), .inl ⟨fun e he => (by cases he), rfl⟩⟩, ?_⟩
  conv => whnf
  refine VC.seq (VC.region tabOK mixed ⟨3, by kernel_rfl, ?_⟩)
  conv => whnf
  exact VC.ret ⟨_, rfl, rfl, rfl, rfl⟩
theorem put_some (l : List Lt) (hn : (l.map Prod.fst).Nodup) (hne : l ≠ []) (t : Lt) : Contract Try.prog G0 13 [.ref (.g 0) 0, latchv t] (setst (.some l)) (fun r s => r = .d (.bool !(aget Prod.fst l t.1).isSome) ∧ s = setst (.some (aput Prod.fst l t))) := by
  refine Contract.of_vc (cx := ⟨T, G0, 29, [0, 3, 4, 5, 15]⟩) tabOK Try.func13 rfl (enters_of Try.func13 (by kernel_rfl) rfl) rfl (Nat.le_of_ble_eq_true rfl) ?_
  refine VC.seq (VC.region tabOK mixed ⟨2, by kernel_rfl, ?_⟩)
  conv => whnf
  refine VC.seq (VC.region tabOK mixed ⟨3, by kernel_rfl, ?_⟩)
  conv => whnf
  refine .inr ⟨[0, 1], [.ref (.g 0) 0, callv t.1], setst (.some l), _, rfl, WkL.refl _, rfl, has_some l hn t.1, fun res s1 h => ?_⟩
  obtain ⟨rfl, rfl⟩ := h
  refine ⟨[], rfl, ?_⟩
  conv => whnf
  refine VC.seq (VC.seq (VC.region tabOK mixed ⟨6, by kernel_rfl, ?_⟩))
  conv => whnf
  refine VC.cond ?_
  conv => whnf
  refine ⟨fun h => ?_, fun _ => ?_⟩
  · exfalso
    cases l with
    | nil => exact hne rfl
    | cons x r =>
      simp [encL, encM] at h
      omega
  refine VC.skip ?_
  conv => whnf
  refine VC.seq (VC.region tabOK mixed ⟨7, by kernel_rfl, ?_⟩)
  conv => whnf
  refine ⟨stood30, encL (aput Prod.fst l t), ⟨kc_good t.1, good_enc kc_good l, dput_enc (ev := vl) kc_inj hn t⟩, ?_⟩
  conv => whnf
  refine VC.seq (VC.region tabOK mixed ⟨3, by kernel_rfl, ?_⟩)
  conv => whnf
  exact VC.ret ⟨_, rfl, rfl, rfl, rfl⟩
theorem del_some (l : List Lt) (hn : (l.map Prod.fst).Nodup) (c : Ct) : Contract Try.prog G0 18 [.ref (.g 0) 0, callv c] (setst (.some l)) (fun r s => r = .d (.bool (aget Prod.fst l c).isSome) ∧ s = setst (.some (adel Prod.fst l c))) := by
  refine Contract.of_vc (cx := ⟨T, G0, 15, [0, 3, 4, 5]⟩) tabOK Try.func18 rfl (enters_of Try.func18 (by kernel_rfl) rfl) rfl (Nat.le_of_ble_eq_true rfl) ?_
  refine VC.seq (VC.region tabOK mixed ⟨2, by kernel_rfl, ?_⟩)
  conv => whnf
  refine VC.seq (VC.region tabOK mixed ⟨2, by kernel_rfl, ?_⟩)
  conv => whnf
  refine .inr ⟨[0, 1], [.ref (.g 0) 0, callv c], setst (.some l), _, rfl, WkL.refl _, rfl, has_some l hn c, fun res s1 h => ?_⟩
  obtain ⟨rfl, rfl⟩ := h
  refine ⟨[], rfl, ?_⟩
  conv => whnf
  refine VC.seq (VC.region tabOK mixed ⟨5, by kernel_rfl, ?_⟩)
  conv => whnf
  refine ⟨stood30, encL (adel Prod.fst l c), ⟨kc_good c, good_enc kc_good l, ddel_enc (ev := vl) kc_inj hn c⟩, ?_⟩
  conv => whnf
  refine VC.seq (VC.region tabOK mixed ⟨2, by kernel_rfl, ?_⟩)
  conv => whnf
  exact VC.ret ⟨_, rfl, rfl, rfl, rfl⟩
def getv : Option Lt → AV
  | .some t => .tup [latchv t, .d (.bool true)]
  | .none => .tup [latchv ((0, 0), 0), .d (.bool false)]
theorem get_some (l : List Lt) (hn : (l.map Prod.fst).Nodup) (c : Ct) : Contract Try.prog G0 14 [.ref (.g 0) 0, callv c] (setst (.some l)) (fun r s => r = getv (aget Prod.fst l c) ∧ s = setst (.some l)) := by
  refine Contract.of_vc (cx := ⟨T, G0, 19, [3, 4, 5, 6, 7]⟩) tabOK Try.func14 rfl (enters_of Try.func14 (by kernel_rfl) rfl) rfl (Nat.le_of_ble_eq_true rfl) ?_
  refine VC.seq (VC.region tabOK mixed ⟨3, by kernel_rfl, ?_⟩)
  conv => whnf
  refine VC.seq (VC.region tabOK mixed ⟨10, by kernel_rfl, ?_⟩)
  conv => whnf
  have hg := dget_enc (ev := vl) kc_inj hn c
  cases ha : aget Prod.fst l c with
  | none =>
    rw [ha] at hg
    refine ⟨stood30, .none, ⟨kc_good c, good_enc kc_good l, hg⟩, ?_⟩
    conv => whnf
    refine VC.seq (VC.region tabOK mixed ⟨2, by kernel_rfl, ?_⟩)
    conv => whnf
    exact VC.ret ⟨_, rfl, rfl, rfl, rfl⟩
  | some t =>
    rw [ha] at hg
    refine ⟨stood30, .some (vl t), ⟨kc_good c, good_enc kc_good l, hg⟩, ?_⟩
    conv => whnf
    refine VC.seq (VC.region tabOK mixed ⟨2, by kernel_rfl, ?_⟩)
    conv => whnf
    exact VC.ret ⟨_, rfl, rfl, rfl, rfl⟩
theorem one_ (b : Bool) : Contract Try.prog G0 19 [.d (.bool b)] [] (fun r s => r = .d (.int .i64 (if b then 1 else 0)) ∧ s = []) := by
  refine Contract.of_vc (cx := ⟨T, G0, 4, [2, 3]⟩) tabOK Try.func19 rfl (enters_of Try.func19 (by kernel_rfl) rfl) rfl (Nat.le_of_ble_eq_true rfl) ?_
  refine VC.seq (VC.region tabOK mixed ⟨1, by kernel_rfl, ?_⟩)
  conv => whnf
  refine VC.seq (VC.seq (VC.region tabOK mixed ⟨1, by kernel_rfl, ?_⟩))
  conv => whnf
  refine VC.cond ?_
  conv => whnf
  refine ⟨fun h => ?_, fun h => ?_⟩
  · refine VC.seq (VC.region tabOK mixed ⟨1, by kernel_rfl, ?_⟩)
    conv => whnf
    subst h
    exact VC.ret ⟨_, rfl, rfl, rfl, rfl⟩
  · refine VC.skip ?_
    conv => whnf
    refine VC.seq (VC.region tabOK mixed ⟨1, by kernel_rfl, ?_⟩)
    conv => whnf
    subst h
    exact VC.ret ⟨_, rfl, rfl, rfl, rfl⟩
end Go.Proofs.Ytpfmnccocmgfmaa
