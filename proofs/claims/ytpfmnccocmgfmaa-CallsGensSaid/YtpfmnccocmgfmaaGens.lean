/- CallsGens returns true. -/
import Derived.Test.YtpfmnccocmgfmaaCalls2
namespace Go.Proofs.Ytpfmnccocmgfmaa
open Go.Pv Go.RowKit

theorem firstCalls : Contract Try.prog G0 12 [] [] (fun r s => r = .d (.bool true) ∧ s = []) := by
  refine Contract.of_vcD (cx := ⟨T, G0, 16, [0, 1, 2]⟩) tabOK Try.func12 rfl (enters_of Try.func12 (by kernel_rfl) rfl) rfl (Nat.le_of_ble_eq_true rfl) ?_
  refine VC.seq (VC.region tabOK mixed ⟨1, by kernel_rfl, ?_⟩)
  conv => whnf
  refine VC.seq (VC.region tabOK mixed ⟨0, by kernel_rfl, ?_⟩)
  conv => whnf
  refine VC.seq (VC.region tabOK mixed ⟨3, by kernel_rfl, ?_⟩)
  conv => whnf
  refine VC.seq (VC.region tabOK mixed ⟨1, by kernel_rfl, ?_⟩)
  conv => whnf
  refine .inr ⟨[0], [.ref (.g 0) 0, latchv ((1, 1), 1)], setst .none, _, rfl, WkL.refl _, rfl, put_none ((1, 1), 1), fun res s1 h => ?_⟩
  obtain ⟨rfl, rfl⟩ := h
  refine ⟨[1], rfl, ?_⟩
  conv => whnf
  refine .inr ⟨fun _ => ?_, fun h => absurd rfl h⟩
  conv => whnf
  refine ⟨[0, 1], [.ref (.g 0) 0, latchv ((1, 1), 1)], setst (.some [((1, 1), 1)]), _, rfl, WkL.refl _, rfl, put_some [((1, 1), 1)] (by simp) (by simp) ((1, 1), 1), fun res s1 h => ?_⟩
  obtain ⟨rfl, rfl⟩ := h
  refine ⟨[], rfl, ?_⟩
  conv => whnf
  refine .inr ⟨fun _ => ?_, fun h => absurd rfl h⟩
  conv => whnf
  refine ⟨[0, 1], [.ref (.g 0) 0], setst (.some [((1, 1), 1)]), _, rfl, WkL.refl _, rfl, len_ (.some [((1, 1), 1)]), fun res s1 h => ?_⟩
  obtain ⟨rfl, rfl⟩ := h
  refine ⟨[], rfl, ?_⟩
  conv => whnf
  refine VC.ret ⟨_, rfl, [], rfl, rfl, rfl⟩
theorem gens_some (a b : Lt) : Contract Try.prog G0 4 [latchv a, latchv b, callv a.1] [] (fun r s => r = .d (.bool true) ∧ s = []) := by
  have hl : aput Prod.fst [a] (a.1, b.2) = [(a.1, b.2)] := by simp [aput]
  have hg1 : aget Prod.fst [a] a.1 = .some a := by simp [aget]
  have hg2 : aget Prod.fst [(a.1, b.2)] a.1 = .some (a.1, b.2) := by simp [aget]
  refine Contract.of_vcD (cx := ⟨T, G0, 81, [3, 4, 5, 6, 7, 8, 9, 10, 12, 13, 16, 26, 58]⟩) tabOK Try.func4 rfl (enters_of Try.func4 (by kernel_rfl) rfl) rfl (Nat.le_of_ble_eq_true rfl) ?_
  refine VC.seq (VC.region tabOK mixed ⟨4, by kernel_rfl, ?_⟩)
  conv => whnf
  refine VC.seq (VC.region tabOK mixed ⟨2, by kernel_rfl, ?_⟩)
  conv => whnf
  refine ⟨[], _, ⟨WkL.refl _, rfl, firstCalls⟩, ?_⟩
  conv => whnf
  refine VC.seq (VC.seq (VC.region tabOK mixed ⟨2, by kernel_rfl, ?_⟩))
  conv => whnf
  refine VC.cond ?_
  conv => whnf
  refine ⟨fun h => (by cases h), fun _ => ?_⟩
  refine VC.skip ?_
  conv => whnf
  refine VC.seq (VC.region tabOK mixed ⟨3, by kernel_rfl, ?_⟩)
  conv => whnf
  refine VC.seq (VC.region tabOK mixed ⟨0, by kernel_rfl, ?_⟩)
  conv => whnf
  refine VC.seq (VC.seq (VC.region tabOK mixed ⟨1, by kernel_rfl, ?_⟩))
  conv => whnf
  refine .inr ⟨[0], [.ref (.g 0) 0, latchv a], setst .none, _, rfl, WkL.refl _, rfl, put_none a, fun res s1 h => ?_⟩
  obtain ⟨rfl, rfl⟩ := h
  refine ⟨[1], rfl, ?_⟩
  conv => whnf
  refine .inr ⟨fun _ => ?_, fun h => absurd rfl h⟩
  conv => whnf
  refine ⟨[0, 1], [.ref (.g 0) 0, latchv (a.1, b.2)], setst (.some [a]), _, rfl, WkL.refl _, rfl, put_some [a] (by simp) (by simp) (a.1, b.2), fun res s1 h => ?_⟩
  rw [hl, hg1] at h
  obtain ⟨rfl, rfl⟩ := h
  refine ⟨[], rfl, ?_⟩
  conv => whnf
  refine VC.cond ?_
  conv => whnf
  refine ⟨fun h => (by cases h), fun _ => ?_⟩
  refine VC.skip ?_
  conv => whnf
  refine VC.seq (VC.region tabOK mixed ⟨2, by kernel_rfl, ?_⟩)
  conv => whnf
  refine .inr ⟨[0, 1], [.ref (.g 0) 0, callv a.1], setst (.some [(a.1, b.2)]), _, rfl, WkL.refl _, rfl, get_some [(a.1, b.2)] (by simp) a.1, fun res s1 h => ?_⟩
  rw [hg2] at h
  obtain ⟨rfl, rfl⟩ := h
  refine ⟨[], rfl, ?_⟩
  conv => whnf
  refine VC.seq (VC.region tabOK mixed ⟨1, by kernel_rfl, ?_⟩)
  conv => whnf
  refine .inr ⟨[0, 1], [.ref (.g 0) 0, callv a.1], setst (.some [(a.1, b.2)]), _, rfl, WkL.refl _, rfl, get_some [(a.1, b.2)] (by simp) a.1, fun res s1 h => ?_⟩
  rw [hg2] at h
  obtain ⟨rfl, rfl⟩ := h
  refine ⟨[], rfl, ?_⟩
  conv => whnf
  refine VC.seq (VC.region tabOK mixed ⟨5, by kernel_rfl, ?_⟩)
  conv => whnf
  refine ⟨[callv a.1, callv a.1], _, ⟨WkL.refl _, rfl, sameCall _ _⟩, ?_⟩
  conv => whnf
  refine VC.seq (VC.seq (VC.region tabOK mixed ⟨14, by kernel_rfl, ?_⟩))
  conv => whnf
  refine ⟨[latchv (a.1, b.2), latchv (a.1, b.2)], _, fun _ => ⟨WkL.refl _, rfl, sameLatch _ _⟩, ?_⟩
  conv => whnf
  refine .inr ⟨fun _ => ?_, fun h => absurd (show (bif bif !true then true else !((a.1, b.2) == (a.1, b.2)) then true else (!(true == (a.1 == a.1)))) = false by simp) h⟩
  conv => whnf
  refine ⟨[0, 1], [.ref (.g 0) 0], setst (.some [(a.1, b.2)]), _, rfl, WkL.refl _, rfl, len_ (.some [(a.1, b.2)]), fun res s1 h => ?_⟩
  obtain ⟨rfl, rfl⟩ := h
  refine ⟨[], rfl, ?_⟩
  conv => whnf
  refine VC.cond ?_
  conv => whnf
  refine ⟨fun h => ?_, fun _ => ?_⟩
  · simp [lenO] at h
  refine VC.skip ?_
  conv => whnf
  have hd : adel Prod.fst [(a.1, b.2)] a.1 = [] := by simp [adel]
  refine VC.seq (VC.region tabOK mixed ⟨3, by kernel_rfl, ?_⟩)
  conv => whnf
  refine .inr ⟨fun _ => ?_, fun h => absurd rfl h⟩
  conv => whnf
  refine ⟨[0, 1], [.ref (.g 0) 0, callv a.1], setst (.some [(a.1, b.2)]), _, rfl, WkL.refl _, rfl, del_some [(a.1, b.2)] (by simp) a.1, fun res s1 h => ?_⟩
  rw [hg2, hd] at h
  obtain ⟨rfl, rfl⟩ := h
  refine ⟨[], rfl, ?_⟩
  conv => whnf
  refine .inr ⟨fun _ => ?_, fun h => absurd (show (bif true then (true == (a.1 == a.1)) else false) = true by simp) h⟩
  conv => whnf
  refine ⟨[0, 1], [.ref (.g 0) 0], setst (.some []), _, rfl, WkL.refl _, rfl, len_ (.some []), fun res s1 h => ?_⟩
  obtain ⟨rfl, rfl⟩ := h
  refine ⟨[], rfl, ?_⟩
  conv => whnf
  refine .inl ⟨[.d (.bool (a.1 == a.1))], _, fun _ => ⟨WkL.refl _, rfl, one_ _⟩, ?_⟩
  conv => whnf
  refine .inr ⟨fun _ => ?_, fun h => (h ?_).elim⟩
  · conv => whnf
    refine ⟨[0, 1], [.ref (.g 0) 0, callv a.1], setst (.some []), _, rfl, WkL.refl _, rfl, has_some [] (by simp) a.1, fun res s1 h => ?_⟩
    obtain ⟨rfl, rfl⟩ := h
    refine ⟨[], rfl, ?_⟩
    conv => whnf
    refine VC.ret ⟨_, rfl, [], rfl, ?_, rfl⟩
    refine congrArg (fun b => AV.d (DV.bool b)) ?_
    have : (a.1 == a.1) = true := by simp
    rw [this]
    rfl
  · show _ = true
    have : (a.1 == a.1) = true := by simp
    rw [this]
    rfl
theorem gens_none (a b : Lt) (c : Ct) (hc : c ≠ a.1) : Contract Try.prog G0 4 [latchv a, latchv b, callv c] [] (fun r s => r = .d (.bool true) ∧ s = []) := by
  have hl : aput Prod.fst [a] (a.1, b.2) = [(a.1, b.2)] := by simp [aput]
  have hg1 : aget Prod.fst [a] a.1 = .some a := by simp [aget]
  have hg2 : aget Prod.fst [(a.1, b.2)] a.1 = .some (a.1, b.2) := by simp [aget]
  have hq : (c == a.1) = false := by simpa using hc
  have hg3 : aget Prod.fst [(a.1, b.2)] c = .none := by simp [aget, Ne.symm hc]
  refine Contract.of_vcD (cx := ⟨T, G0, 81, [3, 4, 5, 6, 7, 8, 9, 10, 12, 13, 16, 26, 58]⟩) tabOK Try.func4 rfl (enters_of Try.func4 (by kernel_rfl) rfl) rfl (Nat.le_of_ble_eq_true rfl) ?_
  refine VC.seq (VC.region tabOK mixed ⟨4, by kernel_rfl, ?_⟩)
  conv => whnf
  refine VC.seq (VC.region tabOK mixed ⟨2, by kernel_rfl, ?_⟩)
  conv => whnf
  refine ⟨[], _, ⟨WkL.refl _, rfl, firstCalls⟩, ?_⟩
  conv => whnf
  refine VC.seq (VC.seq (VC.region tabOK mixed ⟨2, by kernel_rfl, ?_⟩))
  conv => whnf
  refine VC.cond ?_
  conv => whnf
  refine ⟨fun h => (by cases h), fun _ => ?_⟩
  refine VC.skip ?_
  conv => whnf
  refine VC.seq (VC.region tabOK mixed ⟨3, by kernel_rfl, ?_⟩)
  conv => whnf
  refine VC.seq (VC.region tabOK mixed ⟨0, by kernel_rfl, ?_⟩)
  conv => whnf
  refine VC.seq (VC.seq (VC.region tabOK mixed ⟨1, by kernel_rfl, ?_⟩))
  conv => whnf
  refine .inr ⟨[0], [.ref (.g 0) 0, latchv a], setst .none, _, rfl, WkL.refl _, rfl, put_none a, fun res s1 h => ?_⟩
  obtain ⟨rfl, rfl⟩ := h
  refine ⟨[1], rfl, ?_⟩
  conv => whnf
  refine .inr ⟨fun _ => ?_, fun h => absurd rfl h⟩
  conv => whnf
  refine ⟨[0, 1], [.ref (.g 0) 0, latchv (a.1, b.2)], setst (.some [a]), _, rfl, WkL.refl _, rfl, put_some [a] (by simp) (by simp) (a.1, b.2), fun res s1 h => ?_⟩
  rw [hl, hg1] at h
  obtain ⟨rfl, rfl⟩ := h
  refine ⟨[], rfl, ?_⟩
  conv => whnf
  refine VC.cond ?_
  conv => whnf
  refine ⟨fun h => (by cases h), fun _ => ?_⟩
  refine VC.skip ?_
  conv => whnf
  refine VC.seq (VC.region tabOK mixed ⟨2, by kernel_rfl, ?_⟩)
  conv => whnf
  refine .inr ⟨[0, 1], [.ref (.g 0) 0, callv a.1], setst (.some [(a.1, b.2)]), _, rfl, WkL.refl _, rfl, get_some [(a.1, b.2)] (by simp) a.1, fun res s1 h => ?_⟩
  rw [hg2] at h
  obtain ⟨rfl, rfl⟩ := h
  refine ⟨[], rfl, ?_⟩
  conv => whnf
  refine VC.seq (VC.region tabOK mixed ⟨1, by kernel_rfl, ?_⟩)
  conv => whnf
  refine .inr ⟨[0, 1], [.ref (.g 0) 0, callv c], setst (.some [(a.1, b.2)]), _, rfl, WkL.refl _, rfl, get_some [(a.1, b.2)] (by simp) c, fun res s1 h => ?_⟩
  rw [hg3] at h
  obtain ⟨rfl, rfl⟩ := h
  refine ⟨[], rfl, ?_⟩
  conv => whnf
  refine VC.seq (VC.region tabOK mixed ⟨5, by kernel_rfl, ?_⟩)
  conv => whnf
  refine ⟨[callv c, callv a.1], _, ⟨WkL.refl _, rfl, sameCall _ _⟩, ?_⟩
  conv => whnf
  refine VC.seq (VC.seq (VC.region tabOK mixed ⟨14, by kernel_rfl, ?_⟩))
  conv => whnf
  refine ⟨[latchv (a.1, b.2), latchv (a.1, b.2)], _, fun _ => ⟨WkL.refl _, rfl, sameLatch _ _⟩, ?_⟩
  conv => whnf
  refine .inr ⟨fun _ => ?_, fun h => absurd (show (bif bif !true then true else !((a.1, b.2) == (a.1, b.2)) then true else (!(false == (c == a.1)))) = false by simp [hq]) h⟩
  conv => whnf
  refine ⟨[0, 1], [.ref (.g 0) 0], setst (.some [(a.1, b.2)]), _, rfl, WkL.refl _, rfl, len_ (.some [(a.1, b.2)]), fun res s1 h => ?_⟩
  obtain ⟨rfl, rfl⟩ := h
  refine ⟨[], rfl, ?_⟩
  conv => whnf
  refine VC.cond ?_
  conv => whnf
  refine ⟨fun h => ?_, fun _ => ?_⟩
  · simp [lenO, hq] at h
  refine VC.skip ?_
  conv => whnf
  have hd : adel Prod.fst [(a.1, b.2)] c = [(a.1, b.2)] := by simp [adel, Ne.symm hc]
  refine VC.seq (VC.region tabOK mixed ⟨3, by kernel_rfl, ?_⟩)
  conv => whnf
  refine .inr ⟨fun _ => ?_, fun h => absurd rfl h⟩
  conv => whnf
  refine ⟨[0, 1], [.ref (.g 0) 0, callv c], setst (.some [(a.1, b.2)]), _, rfl, WkL.refl _, rfl, del_some [(a.1, b.2)] (by simp) c, fun res s1 h => ?_⟩
  rw [hg3, hd] at h
  obtain ⟨rfl, rfl⟩ := h
  refine ⟨[], rfl, ?_⟩
  conv => whnf
  refine .inr ⟨fun _ => ?_, fun h => absurd (show (bif true then (false == (c == a.1)) else false) = true by simp [hq]) h⟩
  conv => whnf
  refine ⟨[0, 1], [.ref (.g 0) 0], setst (.some [(a.1, b.2)]), _, rfl, WkL.refl _, rfl, len_ (.some [(a.1, b.2)]), fun res s1 h => ?_⟩
  obtain ⟨rfl, rfl⟩ := h
  refine ⟨[], rfl, ?_⟩
  conv => whnf
  refine .inl ⟨[.d (.bool (c == a.1))], _, fun _ => ⟨WkL.refl _, rfl, one_ _⟩, ?_⟩
  conv => whnf
  refine .inr ⟨fun _ => ?_, fun h => (h ?_).elim⟩
  · conv => whnf
    refine ⟨[0, 1], [.ref (.g 0) 0, callv a.1], setst (.some [(a.1, b.2)]), _, rfl, WkL.refl _, rfl, has_some [(a.1, b.2)] (by simp) a.1, fun res s1 h => ?_⟩
    rw [hg2] at h
    obtain ⟨rfl, rfl⟩ := h
    refine ⟨[], rfl, ?_⟩
    conv => whnf
    refine VC.ret ⟨_, rfl, [], rfl, ?_, rfl⟩
    refine congrArg (fun b => AV.d (DV.bool b)) ?_
    rw [hq]
    rfl
  · show _ = true
    rw [hq]
    rfl
end Go.Proofs.Ytpfmnccocmgfmaa
