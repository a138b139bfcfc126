/- What the program's functions on bids come to: Less, Least, SameBid. -/
import Derived.Test.YtpfmnccocmgfmaaTab
import Derived.Test.YtpfmnccocmgfmaaPvR
import Derived.Shelf.Abstract
namespace Go.Proofs.Ytpfmnccocmgfmaa
open Go.Pv Go.RowKit
def G0 : Gl := fun _ => .none
theorem mixed : Try.prog.follows .mixedOrders = true := by kernel_rfl
abbrev B := Int × Int
def bidv (b : B) : AV := .agg [.d (.int .i64 b.1), .d (.int .i64 b.2)]
def lessB (a b : B) : Bool := decide (a.2 < b.2) || (a.2 == b.2 && decide (a.1 < b.1))
def sameB (a b : B) : Bool := a.1 == b.1 && a.2 == b.2
def rowB (b : B) : List DV := [.int .i64 b.1, .int .i64 b.2]
def rowsB (l : List B) : List (List DV) := l.map rowB
def leastFrom (best : B) : List B → B
  | [] => best
  | b :: r => leastFrom (if lessB b best then b else best) r
def leastB : List B → B
  | [] => (0, 0)
  | b :: r => leastFrom b (b :: r)

theorem less (a b : B) : Contract Try.prog G0 10 [bidv a, bidv b] [] (fun r t => r = .d (.bool (lessB a b)) ∧ t = []) := by
  refine Contract.of_vc (cx := ⟨T, G0, 24, [2, 3, 4]⟩) tabOK Try.func10 rfl (enters_of Try.func10 (by kernel_rfl) rfl) rfl (Nat.le_of_ble_eq_true rfl) ?_
  refine VC.seq (VC.region tabOK mixed ⟨3, by kernel_rfl, ?_⟩)
  conv => whnf
  refine VC.seq (VC.region tabOK mixed ⟨20, by kernel_rfl, ?_⟩)
  conv => whnf
  refine VC.ret ⟨_, rfl, rfl, ?_, rfl⟩
  refine congrArg (fun b => AV.d (DV.bool b)) ?_
  show (bif decide (a.2 < b.2) then true else bif a.2 == b.2 then decide (a.1 < b.1) else false) = lessB a b
  unfold lessB
  cases decide (a.2 < b.2) <;> cases decide (a.1 < b.1) <;> cases (a.2 == b.2) <;> rfl

theorem same (a b : B) : Contract Try.prog G0 9 [bidv a, bidv b] [] (fun r t => r = .d (.bool (sameB a b)) ∧ t = []) := by
  refine Contract.of_vc (cx := ⟨T, G0, 17, [2, 3, 4]⟩) tabOK Try.func9 rfl (enters_of Try.func9 (by kernel_rfl) rfl) rfl (Nat.le_of_ble_eq_true rfl) ?_
  refine VC.seq (VC.region tabOK mixed ⟨3, by kernel_rfl, ?_⟩)
  conv => whnf
  refine VC.seq (VC.region tabOK mixed ⟨13, by kernel_rfl, ?_⟩)
  conv => whnf
  refine VC.ret ⟨_, rfl, rfl, ?_, rfl⟩
  refine congrArg (fun b => AV.d (DV.bool b)) ?_
  show (bif a.1 == b.1 then a.2 == b.2 else false) = sameB a b
  unfold sameB
  cases (a.1 == b.1) <;> cases (a.2 == b.2) <;> rfl

theorem wrap_id {n : Int} (h0 : -9223372036854775808 ≤ n) (h1 : n ≤ 9223372036854775807) : IntKind.wrap .i64 n = n := by
  unfold IntKind.wrap
  simp [IntKind.signed, IntKind.bits]
  omega

theorem least (bs : List B) (hbig : bs.length ≤ 9223372036854775807) : Contract Try.prog G0 11 [.d (.list 2 (rowsB bs))] [] (fun r t => r = .tup [bidv (leastB bs), .d (.bool !bs.isEmpty)] ∧ t = []) := by
  refine Contract.of_vc (cx := ⟨T, G0, 26, [0, 2, 3, 4, 6, 9, 14, 15, 16, 17, 22]⟩) tabOK Try.func11 rfl (enters_of Try.func11 (by kernel_rfl) rfl) rfl (Nat.le_of_ble_eq_true rfl) ?_
  refine VC.seq (VC.region tabOK mixed ⟨2, by kernel_rfl, ?_⟩)
  conv => whnf
  refine VC.seq (VC.seq (VC.region tabOK mixed ⟨3, by kernel_rfl, ?_⟩))
  conv => whnf
  refine VC.cond ?_
  conv => whnf
  refine ⟨fun h => ?_, fun h => ?_⟩
  · refine VC.seq (VC.region tabOK mixed ⟨1, by kernel_rfl, ?_⟩)
    conv => whnf
    refine VC.ret ⟨_, rfl, rfl, ?_, rfl⟩
    have : bs = [] := by
      cases bs with
      | nil => rfl
      | cons b r => simp [rowsB] at h; omega
    subst this
    rfl
  · refine VC.skip ?_
    conv => whnf
    obtain ⟨b0, r0, rfl⟩ : ∃ b r, bs = b :: r := by
      cases bs with
      | nil => simp [rowsB] at h
      | cons b r => exact ⟨b, r, rfl⟩
    clear h
    generalize hbs : b0 :: r0 = bs at hbig
    have hne : bs.isEmpty = false := by rw [← hbs]; rfl
    have hleast : leastFrom b0 (bs.drop 0) = leastB bs := by rw [← hbs]; rfl
    have h0 : (rowsB bs)[(0 : Int).toNat]? = some (rowB b0) := by rw [← hbs]; rfl
    have hlen : (rowsB bs).length = bs.length := by simp [rowsB]
    refine VC.seq (VC.region tabOK mixed ⟨4, by kernel_rfl, ?_⟩)
    conv => whnf
    refine ⟨rowB b0, ⟨by decide, h0⟩, ?_⟩
    conv => whnf
    refine VC.seq (VC.seq (VC.region tabOK mixed ⟨3, by kernel_rfl, ?_⟩))
    conv => whnf
    refine VC.block (VC.rounds (fun n env L s => ∃ (i : Nat) (best : B), i ≤ bs.length ∧ n = bs.length - i ∧ leastFrom best (bs.drop i) = leastB bs ∧
      env = [(0, .d (.list 2 (rowsB bs))), (2, .ref (.l 0) 0), (3, .d (.bool false)), (4, .ref (.l 1) 0), (14, .d (.list 2 (rowsB bs))), (15, .d (.int .i64 ((rowsB bs).length : Int))), (16, .d (.int .i64 i))] ∧
      L = [.cells [.d (.int .i64 0), .d (.int .i64 0)], .cells [.d (.int .i64 best.1), .d (.int .i64 best.2)]] ∧ s = [])
      ⟨_, _, _, Ghost.gather [0, 1] [0, 2, 3, 4, 14, 15, 16] rfl rfl, bs.length, 0, b0, Nat.zero_le _, rfl, hleast, rfl, rfl, rfl⟩ ?_)
    rintro n env L s ⟨i, best, hi, rfl, hbest, rfl, rfl, rfl⟩
    refine VC.seq (VC.region tabOK mixed ⟨1, by kernel_rfl, ?_⟩)
    conv => whnf
    refine VC.seq (VC.cond ?_)
    conv => whnf
    refine ⟨fun h => ?_, fun h => ?_⟩
    · refine VC.skip ?_
      conv => whnf
      have hlt : i < bs.length := by
        rw [hlen] at h
        simp at h
        omega
      obtain ⟨b, hb⟩ : ∃ b, bs[i]? = some b := ⟨_, List.getElem?_eq_getElem hlt⟩
      have hdrop : bs.drop i = b :: bs.drop (i + 1) := by
        rw [List.drop_eq_getElem_cons hlt]
        rw [List.getElem?_eq_getElem hlt] at hb
        cases hb
        rfl
      have hw : IntKind.wrap .i64 ((i : Int) + 1) = ((i + 1 : Nat) : Int) := by
        rw [wrap_id (by omega) (by omega)]
        rfl
      refine VC.seq (VC.block (VC.seq (VC.region tabOK mixed ⟨3, by kernel_rfl, ?_⟩)))
      conv => whnf
      refine ⟨rowB b, ⟨Int.natCast_nonneg i, by simp [rowsB, hb]⟩, ?_⟩
      conv => whnf
      refine VC.seq (VC.region tabOK mixed ⟨3, by kernel_rfl, ?_⟩)
      conv => whnf
      refine ⟨[bidv b, bidv best], _, ⟨WkL.refl _, rfl, less _ _⟩, ?_⟩
      conv => whnf
      refine VC.cond ?_
      conv => whnf
      refine ⟨fun h2 => ?_, fun h2 => ?_⟩
      · refine VC.region tabOK mixed ⟨1, by kernel_rfl, ?_⟩
        conv => whnf
        refine VC.region tabOK mixed ⟨2, by kernel_rfl, ?_⟩
        conv => whnf
        refine ⟨_, _, _, Ghost.gather [0, 1] [0, 2, 3, 4, 14, 15, 16] rfl rfl, bs.length - (i + 1), by omega, i + 1, b, hlt, rfl, ?_, ?_, rfl, rfl⟩
        · rw [← hbest, hdrop, leastFrom, if_pos h2]
        · rw [← hw]; rfl
      · refine VC.skip ?_
        conv => whnf
        refine VC.region tabOK mixed ⟨2, by kernel_rfl, ?_⟩
        conv => whnf
        refine ⟨_, _, _, Ghost.gather [0, 1] [0, 2, 3, 4, 14, 15, 16] rfl rfl, bs.length - (i + 1), by omega, i + 1, best, hlt, rfl, ?_, ?_, rfl, rfl⟩
        · have h2 : lessB b best = false := h2
          rw [← hbest, hdrop, leastFrom, h2]
          rfl
        · rw [← hw]; rfl
    · refine VC.exit ?_
      conv => whnf
      have hil : i = bs.length := by
        rw [hlen] at h
        simp at h
        omega
      subst hil
      rw [List.drop_length, leastFrom] at hbest
      refine VC.seq (VC.region tabOK mixed ⟨1, by kernel_rfl, ?_⟩)
      conv => whnf
      refine VC.ret ⟨_, rfl, rfl, ?_, rfl⟩
      rw [← hbest, hne]
      rfl
end Go.Proofs.Ytpfmnccocmgfmaa
