/- BidOrder returns true. -/
import Derived.Test.YtpfmnccocmgfmaaBid
namespace Go.Proofs.Ytpfmnccocmgfmaa
open Go.Pv Go.RowKit

theorem first : Contract Try.prog G0 8 [] [] (fun r t => r = .d (.bool true) ∧ t = []) := by
  refine Contract.of_vc (cx := ⟨T, G0, 16, [0, 1, 2]⟩) tabOK Try.func8 rfl (enters_of Try.func8 (by kernel_rfl) rfl) rfl (Nat.le_of_ble_eq_true rfl) ?_
  refine VC.seq (VC.region tabOK mixed ⟨1, by kernel_rfl, ?_⟩)
  conv => whnf
  refine VC.seq (VC.region tabOK mixed ⟨8, by kernel_rfl, ?_⟩)
  conv => whnf
  refine ⟨[.d (.list 2 (rowsB [(2, 5), (1, 5)]))], _, ⟨WkL.refl _, rfl, least [(2, 5), (1, 5)] (by decide)⟩, ?_⟩
  conv => whnf
  refine VC.seq (VC.region tabOK mixed ⟨7, by kernel_rfl, ?_⟩)
  conv => whnf
  refine VC.ret ⟨_, rfl, rfl, ?_, rfl⟩
  rfl

theorem less_asymm {a b : B} (h : lessB a b = true) : lessB b a = false := by
  simp [lessB] at h ⊢; omega
theorem less_or {a b : B} : sameB a b = !(lessB a b || lessB b a) := by
  rw [Bool.eq_iff_iff]
  simp [lessB, sameB]; omega
theorem less_trans {a b c : B} (h : lessB a b = true) (k : lessB b c = true) : lessB a c = true := by
  simp [lessB] at h k ⊢; omega
theorem less_le {a b c : B} (h : lessB a b = false) (k : lessB a c = true) : lessB b c = true := by
  simp [lessB] at h k ⊢; omega
theorem less_irr (a : B) : lessB a a = false := by
  simp [lessB]
theorem leastFrom_le : ∀ (l : List B) (best x : B), (x = best ∨ x ∈ l) → lessB x (leastFrom best l) = false
  | [], best, x, h => by
    rcases h with rfl | h
    · exact less_irr x
    · cases h
  | b :: r, best, x, h => by
    simp only [leastFrom]
    cases hb : lessB b best with
    | true =>
      rw [if_pos rfl]
      have hbl := leastFrom_le r b b (.inl rfl)
      rcases h with rfl | h
      · cases hx : lessB x (leastFrom b r) with
        | false => rfl
        | true => rw [less_trans hb hx] at hbl; cases hbl
      · rcases List.mem_cons.1 h with rfl | h
        · exact hbl
        · exact leastFrom_le r b x (.inr h)
    | false =>
      rw [if_neg (by simp)]
      have hbl := leastFrom_le r best best (.inl rfl)
      rcases h with rfl | h
      · exact hbl
      · rcases List.mem_cons.1 h with rfl | h
        · cases hx : lessB x (leastFrom best r) with
          | false => rfl
          | true => rw [less_le hb hx] at hbl; cases hbl
        · exact leastFrom_le r best x (.inr h)
theorem order_a (a b c : B) : (bif bif bif lessB a b then lessB b a else false then true else (bif lessB a b then true else lessB b a) == sameB a b then true
    else bif bif lessB a b then lessB b c else false then !lessB a c else false) = false := by
  rw [less_or]
  cases h1 : lessB a b with
  | false => cases h2 : lessB b a <;> rfl
  | true =>
    rw [less_asymm h1]
    cases h2 : lessB b c with
    | false => rfl
    | true => rw [less_trans h1 h2]; rfl
theorem bidOrder (a b c : B) : Contract Try.prog G0 3 [bidv a, bidv b, bidv c] [] (fun r t => r = .d (.bool true) ∧ t = []) := by
  refine Contract.of_vc (cx := ⟨T, G0, 105, [3, 4, 5, 6, 7, 8, 9, 10, 12, 15, 54]⟩) tabOK Try.func3 rfl (enters_of Try.func3 (by kernel_rfl) rfl) rfl (Nat.le_of_ble_eq_true rfl) ?_
  refine VC.seq (VC.region tabOK mixed ⟨4, by kernel_rfl, ?_⟩)
  conv => whnf
  refine VC.seq (VC.region tabOK mixed ⟨2, by kernel_rfl, ?_⟩)
  conv => whnf
  refine ⟨[], _, ⟨WkL.refl _, rfl, first⟩, ?_⟩
  conv => whnf
  refine VC.seq (VC.seq (VC.region tabOK mixed ⟨2, by kernel_rfl, ?_⟩))
  conv => whnf
  refine VC.cond ?_
  conv => whnf
  refine ⟨fun h => (by cases h), fun _ => ?_⟩
  refine VC.skip ?_
  conv => whnf
  refine VC.seq (VC.region tabOK mixed ⟨4, by kernel_rfl, ?_⟩)
  conv => whnf
  refine ⟨[bidv a, bidv b], _, ⟨WkL.refl _, rfl, same _ _⟩, ?_⟩
  conv => whnf
  refine VC.seq (VC.seq (VC.region tabOK mixed ⟨36, by kernel_rfl, ?_⟩))
  conv => whnf
  refine ⟨[bidv a, bidv b], _, ⟨WkL.refl _, rfl, less _ _⟩, ?_⟩
  conv => whnf
  refine ⟨[bidv b, bidv a], _, fun _ => ⟨WkL.refl _, rfl, less _ _⟩, ?_⟩
  conv => whnf
  refine ⟨[bidv a, bidv b], _, fun _ => ⟨WkL.refl _, rfl, less _ _⟩, ?_⟩
  conv => whnf
  refine ⟨[bidv b, bidv a], _, fun _ => ⟨WkL.refl _, rfl, less _ _⟩, ?_⟩
  conv => whnf
  refine ⟨[bidv a, bidv b], _, fun _ => ⟨WkL.refl _, rfl, less _ _⟩, ?_⟩
  conv => whnf
  refine ⟨[bidv b, bidv c], _, fun _ => ⟨WkL.refl _, rfl, less _ _⟩, ?_⟩
  conv => whnf
  refine ⟨[bidv a, bidv c], _, fun _ => ⟨WkL.refl _, rfl, less _ _⟩, ?_⟩
  conv => whnf
  refine VC.cond ?_
  conv => whnf
  refine ⟨fun h => ?_, fun _ => ?_⟩
  · rw [order_a] at h
    cases h
  refine VC.skip ?_
  conv => whnf
  refine VC.seq (VC.region tabOK mixed ⟨9, by kernel_rfl, ?_⟩)
  conv => whnf
  refine ⟨[.d (.list 2 (rowsB [a, b, c]))], _, ⟨WkL.refl _, rfl, least [a, b, c] (by simp)⟩, ?_⟩
  conv => whnf
  refine VC.seq (VC.region tabOK mixed ⟨5, by kernel_rfl, ?_⟩)
  conv => whnf
  refine ⟨[.d (.list 2 (rowsB []))], _, ⟨.n 2 .nil, rfl, least [] (by simp)⟩, ?_⟩
  conv => whnf
  refine VC.seq (VC.region tabOK mixed ⟨39, by kernel_rfl, ?_⟩)
  conv => whnf
  refine ⟨[bidv a, bidv (leastB [a, b, c])], _, fun _ => ⟨WkL.refl _, rfl, less _ _⟩, ?_⟩
  conv => whnf
  refine ⟨[bidv b, bidv (leastB [a, b, c])], _, fun _ => ⟨WkL.refl _, rfl, less _ _⟩, ?_⟩
  conv => whnf
  refine ⟨[bidv c, bidv (leastB [a, b, c])], _, fun _ => ⟨WkL.refl _, rfl, less _ _⟩, ?_⟩
  conv => whnf
  refine ⟨[bidv a, bidv b], _, fun _ => ⟨WkL.refl _, rfl, less _ _⟩, ?_⟩
  conv => whnf
  refine VC.ret ⟨_, rfl, rfl, ?_, rfl⟩
  refine congrArg (fun b => AV.d (DV.bool b)) ?_
  show (bif bif bif bif true && !false then !lessB a (leastB [a, b, c]) else false then !lessB b (leastB [a, b, c]) else false then !lessB c (leastB [a, b, c]) else false then bif decide (a.2 ≥ b.2) then true else lessB a b else false) = true
  have hl : ∀ x, x ∈ [a, b, c] → lessB x (leastB [a, b, c]) = false := fun x hx => leastFrom_le _ _ _ (.inr hx)
  rw [hl a (by simp), hl b (by simp), hl c (by simp)]
  by_cases h : a.2 ≥ b.2
  · simp [h]
  · have : lessB a b = true := by simp [lessB]; omega
    simp [this]
end Go.Proofs.Ytpfmnccocmgfmaa
