/- Of, Full, Number, first: seat r1. -/
import Derived.Test.YtpfmnccocmgfmaaD
namespace Go.Proofs.Ytpfmnccocmgfmaa
open Go.Pv Go.RowKit

def ofB (l : List B) (car : Int) : B × Bool := match l.find? (fun x => x.1 == car) with
  | .some b => (b, true)
  | .none => ((0, 0), false)
theorem of_ (l : List B) (hl : l.length ≤ 4611686018427387904) (car : Int) : Contract Try.prog G0 21 [.d (.list 2 (rowsB l)), .d (.int .i64 car)] [] (fun r t => r = .tup [bidv (ofB l car).1, .d (.bool (ofB l car).2)] ∧ t = []) := by
  refine con21 0 rfl rfl ?_
  conv => whnf
  refine .inl (.inl ⟨[.d (.list 2 (rowsB l)), .d (.int .i64 car)], _, ⟨.refl _, rfl, at_ l hl car⟩, ?_⟩)
  conv => whnf
  refine bcase_intro (fun h => ?_) (fun h => ?_)
  · obtain ⟨h1, h2⟩ := idx_lt' h
    conv => whnf
    rw [show ofB l car = ((0, 0), false) by simp only [ofB, h2]]
    exact ⟨rfl, rfl⟩
  · obtain ⟨k, x, h1, h2, h3⟩ := idx_ge' h
    conv => whnf
    rw [h1]
    refine ⟨rowB x, ⟨by omega, row_i h2⟩, ?_⟩
    conv => whnf
    rw [show ofB l car = (x, true) by simp only [ofB, h3]]
    exact ⟨rfl, rfl⟩
def rowI (n : Int) : List DV := [.int .i64 n]
def rowsI (l : List Int) : List (List DV) := l.map rowI
theorem indexInt (l : List Int) (hl : l.length ≤ 4611686018427387904) (p : Int → Bool) (f : Nat) (cs : List DV) (hf : ∀ x, Contract Try.prog G0 f [.d (.int .i64 x), .d (.ptr cs 0)] [] (fun r t => r = .d (.bool (p x)) ∧ t = [])) :
    Contract Try.prog G0 42 [.d (.list 1 (rowsI l)), .fn f [.d (.ptr cs 0)]] [] (fun r t => r = .d (.int .i64 (idxFrom p l 0)) ∧ t = []) := by
  have hlen : (rowsI l).length = l.length := by simp [rowsI]
  refine con42 0 rfl rfl ?_
  conv => whnf
  refine V.rounds (fun m env s => ∃ i : Nat, i ≤ l.length ∧ m = l.length - i ∧ idxFrom p (l.drop i) i = idxFrom p l 0 ∧
    env = [(0, .d (.list 1 (rowsI l))), (1, .fn f [.d (.ptr cs 0)]), (4, .d (.int .i64 0)), (5, .undef), (7, .d (.int .i64 ((rowsI l).length : Int))), (8, .d (.int .i64 (i : Int))), (9, .undef), (16, .undef)] ∧ s = [])
    ⟨_, _, GV.drop [0, 1, 4, 7, 8], _, 0, Nat.zero_le _, rfl, rfl, rfl, rfl⟩ ?_
  rintro m env s ⟨i, hi, rfl, hidx, rfl, rfl⟩
  refine V.of (kt := kt42) tabOK mixed (by kernel_rfl) ?_
  conv => whnf
  refine bcase_intro (fun h => ?_) (fun h => ?_) <;> conv => whnf
  · have h := lt_of h
    rw [hlen] at h
    obtain ⟨x, hx, hdrop⟩ := at_i h
    refine ⟨rowI x, ⟨by omega, row_i hx⟩, ?_⟩
    conv => whnf
    refine .inl (.inl ⟨[.d (.int .i64 x), .d (.ptr cs 0)], _, ⟨.refl _, rfl, hf x⟩, ?_⟩)
    conv => whnf
    rw [hdrop, idxFrom] at hidx
    refine bcase_intro (fun h2 => ?_) (fun h2 => ?_) <;> conv => whnf
    · rw [if_pos h2] at hidx
      exact ⟨rd_int hidx, rfl⟩
    · refine ⟨_, _, GV.drop [0, 1, 4, 7, 8], _, by omega, i + 1, h, rfl, ?_, ?_, rfl⟩
      · rw [if_neg (by simp [h2])] at hidx
        exact hidx
      · rw [← succ_i h hl]; rfl
  · have h := ge_of h
    rw [hlen] at h
    rw [List.drop_eq_nil_of_le h, idxFrom] at hidx
    exact ⟨rd_int hidx, rfl⟩
theorem idx_any {α : Type} (p : α → Bool) (l : List α) : decide (idxFrom p l 0 ≥ 0) = l.any p := by
  rcases idx_cases0 p l with ⟨h, k⟩ | ⟨k, x, h, _, g⟩
  · rw [h]
    simp only [List.find?_eq_none] at k
    symm; rw [show decide ((-1 : Int) ≥ 0) = false from rfl, List.any_eq_false]
    exact k
  · rw [h]
    have h1 := List.find?_some g
    have h2 := List.mem_of_find?_eq_some g
    symm; rw [show decide ((k : Int) ≥ 0) = true by simp, List.any_eq_true]
    exact ⟨x, h2, h1⟩
theorem anyInt (l : List Int) (hl : l.length ≤ 4611686018427387904) (p : Int → Bool) (f : Nat) (cs : List DV) (hf : ∀ x, Contract Try.prog G0 f [.d (.int .i64 x), .d (.ptr cs 0)] [] (fun r t => r = .d (.bool (p x)) ∧ t = [])) :
    Contract Try.prog G0 37 [.d (.list 1 (rowsI l)), .fn f [.d (.ptr cs 0)]] [] (fun r t => r = .d (.bool (l.any p)) ∧ t = []) := by
  refine con37 0 rfl rfl ?_
  conv => whnf
  refine .inl (.inl ⟨[.d (.list 1 (rowsI l)), .fn f [.d (.ptr cs 0)]], _, ⟨.refl _, rfl, indexInt l hl p f cs hf⟩, ?_⟩)
  conv => whnf
  exact ⟨rd_bool (idx_any p l), rfl⟩
theorem full1 (l : List B) (hl : l.length ≤ 4611686018427387904) (x : Int) : Contract Try.prog G0 38 [.d (.int .i64 x), .d (.ptr [.list 2 (rowsB l)] 0)] [] (fun r t => r = .d (.bool (!l.any fun b => b.1 == x)) ∧ t = []) := by
  refine con38 0 rfl rfl ?_
  conv => whnf
  refine .inl (.inl ⟨[.d (.list 2 (rowsB l)), .d (.int .i64 x)], _, ⟨.refl _, rfl, at_ l hl x⟩, ?_⟩)
  conv => whnf
  refine ⟨rd_bool ?_, rfl⟩
  rw [← idx_any]
  rcases idx_cases0 (fun b : B => b.1 == x) l with ⟨h, _⟩ | ⟨k, x, h, _, g⟩ <;> rw [h]
  · rfl
  · simp
def fullB (ms : List Int) (l : List B) : Bool := !ms.any fun x => !l.any fun b => b.1 == x
theorem full (ms : List Int) (hm : ms.length ≤ 4611686018427387904) (l : List B) (hl : l.length ≤ 4611686018427387904) : Contract Try.prog G0 28 [.d (.list 1 (rowsI ms)), .d (.list 2 (rowsB l))] [] (fun r t => r = .d (.bool (fullB ms l)) ∧ t = []) := by
  refine con28 0 rfl rfl ?_
  conv => whnf
  refine .inl (.inl ⟨[.d (.list 1 (rowsI ms)), .fn 38 [.d (.ptr [.list 2 (rowsB l)] 0)]], _, ⟨.fz 0 _ rfl (by simp) (by repeat' first | exact trivial | apply And.intro) (.refl _), rfl, anyInt ms hm _ 38 _ fun x => full1 l hl x⟩, ?_⟩)
  conv => whnf
  exact ⟨rfl, rfl⟩
/-- A number below, of a number. -/
def numB (n : Int) (m : Nat) : Nat := (if n.tmod m < 0 then n.tmod m + m else n.tmod m).toNat
theorem numB_lt (n : Int) {m : Nat} (hm : 0 < m) : numB n m < m := by
  have h1 := Int.lt_tmod_of_pos n (show (0 : Int) < (m : Int) by omega)
  have h2 := Int.tmod_lt_of_pos n (show (0 : Int) < (m : Int) by omega)
  unfold numB
  split <;> omega
theorem number (n : Int) (m : Nat) (hm : 0 < m) (hm2 : m ≤ 4611686018427387904) : Contract Try.prog G0 30 [.d (.int .i64 n), .d (.int .i64 (m : Int))] [] (fun r t => r = .d (.int .i64 (numB n m : Int)) ∧ t = []) := by
  refine con30 0 rfl rfl ?_
  conv => whnf
  refine ⟨⟨rfl, by omega⟩, ?_⟩
  conv => whnf
  refine bcase_intro (fun h => ?_) (fun h => ?_) <;> conv => whnf
  · have h := of_decide_eq_true h
    have h1 := Int.lt_tmod_of_pos n (show (0 : Int) < (m : Int) by omega)
    refine ⟨?_, rfl⟩
    rw [wrap_id (by omega) (by omega)]
    refine rd_int ?_
    unfold numB
    rw [if_pos h]
    omega
  · have h := of_decide_eq_false h
    refine ⟨rd_int ?_, rfl⟩
    unfold numB
    rw [if_neg h]
    omega
def leastFrom (best : B) : List B → B
  | [] => best
  | b :: r => leastFrom (if lessB b best then b else best) r
def leastB : List B → B × Bool
  | [] => ((0, 0), false)
  | b :: r => (leastFrom b r, true)
theorem least (l : List B) (hl : l.length ≤ 4611686018427387904) : Contract Try.prog G0 11 [.d (.list 2 (rowsB l))] [] (fun r t => r = .tup [bidv (leastB l).1, .d (.bool (leastB l).2)] ∧ t = []) := by
  have hlen : (rowsB l).length = l.length := by simp [rowsB]
  refine con11 0 rfl rfl ?_
  conv => whnf
  cases l with
  | nil =>
    conv => whnf
    exact ⟨rfl, rfl⟩
  | cons b0 r0 =>
  conv => whnf
  generalize hb : b0 :: r0 = l at hl hlen
  have hbest : leastFrom b0 (l.drop 0) = (leastB l).1 := by
    rw [← hb]; simp [leastFrom, leastB]
  have h2 : (leastB l).2 = true := by rw [← hb]; rfl
  rw [h2]
  refine ⟨rowB b0, ⟨by omega, by rw [← hb]; rfl⟩, ?_⟩
  conv => whnf
  refine V.rounds (fun m env s => ∃ (i : Nat) (best : B), i ≤ l.length ∧ m = l.length - i ∧ leastFrom best (l.drop i) = (leastB l).1 ∧
    env = [(0, .d (.list 2 (rowsB l))), (2, .ref (.g 0) 0), (3, .d (.bool false)), (4, .ref (.g 1) 0), (6, .undef), (9, .undef), (14, .d (.list 2 (rowsB l))), (15, .d (.int .i64 ((rowsB l).length : Int))), (16, .d (.int .i64 i)), (17, .undef), (22, .undef)] ∧
    s = [(0, .cells [.d (.int .i64 0), .d (.int .i64 0)]), (1, .cells [.d (.int .i64 best.1), .d (.int .i64 best.2)])])
    ⟨_, _, GV.drop [0, 2, 3, 4, 14, 15, 16], _, 0, b0, Nat.zero_le _, rfl, hbest, ?_, ?_⟩ ?_
  · rfl
  · rfl
  rintro m env s ⟨i, best, hi, rfl, hbest, rfl, rfl⟩
  refine V.of (kt := kt11) tabOK mixed (by kernel_rfl) ?_
  conv => whnf
  refine bcase_intro (fun h => ?_) (fun h => ?_) <;> conv => whnf
  · have h := lt_of h
    rw [hlen] at h
    obtain ⟨x, hx, hdrop⟩ := at_i h
    refine ⟨rowB x, ⟨by omega, row_i hx⟩, ?_⟩
    conv => whnf
    refine .inl (.inl ⟨[bidv x, bidv best], _, ⟨.refl _, rfl, less _ _⟩, ?_⟩)
    conv => whnf
    rw [hdrop, leastFrom] at hbest
    refine bcase_intro (fun h2 => ?_) (fun h2 => ?_) <;> conv => whnf
    · rw [if_pos h2] at hbest
      refine ⟨_, _, GV.trans (GV.gather [0, 1] rfl rfl rfl) (GV.drop [0, 2, 3, 4, 14, 15, 16]), _, by omega, i + 1, x, h, rfl, hbest, ?_, ?_⟩
      · rw [← succ_i h hl]; rfl
      · rfl
    · rw [if_neg (by simp [h2])] at hbest
      refine ⟨_, _, GV.trans (GV.gather [0, 1] rfl rfl rfl) (GV.drop [0, 2, 3, 4, 14, 15, 16]), _, by omega, i + 1, best, h, rfl, hbest, ?_, ?_⟩
      · rw [← succ_i h hl]; rfl
      · rfl
  · have h := ge_of h
    rw [hlen] at h
    rw [List.drop_eq_nil_of_le h, leastFrom] at hbest
    rw [← hbest]
    exact ⟨rfl, rfl⟩
theorem first8 : Contract Try.prog G0 8 [] [] (fun r t => r = .d (.bool true) ∧ t = []) := by
  refine con8 0 rfl rfl ?_
  conv => whnf
  refine .inl (.inl ⟨[.d (.list 2 (rowsB [(2, 5), (1, 5)]))], _, ⟨.refl _, rfl, least [(2, 5), (1, 5)] (by decide)⟩, ?_⟩)
  conv => whnf
  exact ⟨rfl, rfl⟩
end Go.Proofs.Ytpfmnccocmgfmaa
