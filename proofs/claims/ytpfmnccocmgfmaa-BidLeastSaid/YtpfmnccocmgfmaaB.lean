/- What the program's functions on bids come to. -/
import Derived.Test.YtpfmnccocmgfmaaFn
namespace Go.Proofs.Ytpfmnccocmgfmaa
open Go.Pv Go.RowKit
abbrev B := Int × Int
def bidv (b : B) : AV := .agg [.d (.int .i64 b.1), .d (.int .i64 b.2)]
def lessB (a b : B) : Bool := decide (a.2 < b.2) || (a.2 == b.2 && decide (a.1 < b.1))
def sameB (a b : B) : Bool := a.1 == b.1 && a.2 == b.2
def rowB (b : B) : List DV := [.int .i64 b.1, .int .i64 b.2]
def rowsB (l : List B) : List (List DV) := l.map rowB
theorem rd_bool {a b : Bool} (h : a = b) : AV.d (.bool a) = .d (.bool b) := by rw [h]
theorem rd_int {a b : Int} (h : a = b) : AV.d (.int .i64 a) = .d (.int .i64 b) := by rw [h]
theorem bif_or (a b : Bool) : (bif a then true else b) = (a || b) := by cases a <;> rfl
theorem bif_and (a b : Bool) : (bif a then b else false) = (a && b) := by cases a <;> rfl
theorem wrap_id {n : Int} (h0 : -9223372036854775808 ≤ n) (h1 : n ≤ 9223372036854775807) : IntKind.wrap .i64 n = n := by
  unfold IntKind.wrap
  simp [IntKind.signed, IntKind.bits]
  omega

theorem less (a b : B) : Contract Try.prog G0 10 [bidv a, bidv b] [] (fun r t => r = .d (.bool (lessB a b)) ∧ t = []) := by
  refine con10 0 rfl rfl ?_
  conv => whnf
  refine ⟨rd_bool ?_, rfl⟩
  simp only [bif_or, bif_and, lessB]
theorem less18 (a b : B) : Contract Try.prog G0 26 [bidv a, bidv b] [] (fun r t => r = .d (.bool (lessB a b)) ∧ t = []) := by
  refine con26 0 rfl rfl ?_
  conv => whnf
  refine ⟨rd_bool ?_, rfl⟩
  simp only [bif_or, bif_and, lessB]
theorem same (a b : B) : Contract Try.prog G0 9 [bidv a, bidv b] [] (fun r t => r = .d (.bool (sameB a b)) ∧ t = []) := by
  refine con9 0 rfl rfl ?_
  conv => whnf
  refine ⟨rd_bool ?_, rfl⟩
  simp only [bif_and, sameB]
/-- at's question, Put's. -/
theorem at1 (b : B) (car : Int) : Contract Try.prog G0 39 [bidv b, .d (.ptr [.int .i64 car] 0)] [] (fun r s => r = .d (.bool (b.1 == car)) ∧ s = []) := by
  refine con39 0 rfl rfl ?_
  conv => whnf
  exact ⟨rfl, rfl⟩
theorem put1 (x b : B) : Contract Try.prog G0 34 [bidv x, .d (.ptr (rowB b) 0)] [] (fun r s => r = .d (.bool (decide (x.1 > b.1))) ∧ s = []) := by
  refine con34 0 rfl rfl ?_
  conv => whnf
  exact ⟨rfl, rfl⟩

/-- The i-th of a list. -/
theorem at_i {α : Type} {l : List α} {i : Nat} (h : i < l.length) : ∃ x, l[i]? = some x ∧ l.drop i = x :: l.drop (i + 1) := by
  refine ⟨l[i], List.getElem?_eq_getElem h, ?_⟩
  rw [List.drop_eq_getElem_cons h]
theorem row_i {α : Type} {row : α → List DV} {l : List α} {i : Nat} {x : α} (h : l[i]? = some x) : (l.map row)[(i : Int).toNat]? = some (row x) := by simp [h]
theorem succ_i {i n : Nat} (h : i < n) (hn : n ≤ 4611686018427387904) : IntKind.wrap .i64 ((i : Int) + 1) = ((i + 1 : Nat) : Int) := by
  rw [wrap_id (by omega) (by omega)]
  rfl
theorem lt_of {i n : Nat} (h : decide ((i : Int) < (n : Int)) = true) : i < n := by simpa using h
theorem ge_of {i n : Nat} (h : decide ((i : Int) < (n : Int)) = false) : n ≤ i := by simpa using h

/-- Where the first one is of which p holds, from i on. -/
def idxFrom {α : Type} (p : α → Bool) : List α → Int → Int
  | [], _ => -1
  | x :: r, i => if p x then i else idxFrom p r (i + 1)
theorem indexFunc (l : List B) (hl : l.length ≤ 4611686018427387904) (p : B → Bool) (f : Nat) (cs : List DV) (hf : ∀ x, Contract Try.prog G0 f [bidv x, .d (.ptr cs 0)] [] (fun r t => r = .d (.bool (p x)) ∧ t = [])) :
    Contract Try.prog G0 33 [.d (.list 2 (rowsB l)), .fn f [.d (.ptr cs 0)]] [] (fun r t => r = .d (.int .i64 (idxFrom p l 0)) ∧ t = []) := by
  have hlen : (rowsB l).length = l.length := by simp [rowsB]
  refine con33 0 rfl rfl ?_
  conv => whnf
  refine V.rounds (fun m env s => ∃ i : Nat, i ≤ l.length ∧ m = l.length - i ∧ idxFrom p (l.drop i) i = idxFrom p l 0 ∧
    env = [(0, .d (.list 2 (rowsB l))), (1, .fn f [.d (.ptr cs 0)]), (4, .d (.int .i64 0)), (5, .undef), (7, .d (.int .i64 ((rowsB l).length : Int))), (8, .d (.int .i64 (i : Int))), (9, .undef), (16, .undef)] ∧ s = [])
    ⟨_, _, GV.drop [0, 1, 4, 7, 8], _, 0, Nat.zero_le _, rfl, rfl, rfl, rfl⟩ ?_
  rintro m env s ⟨i, hi, rfl, hidx, rfl, rfl⟩
  refine V.of (kt := kt33) tabOK mixed (by kernel_rfl) ?_
  conv => whnf
  refine bcase_intro (fun h => ?_) (fun h => ?_) <;> conv => whnf
  · have h := lt_of h
    rw [hlen] at h
    obtain ⟨x, hx, hdrop⟩ := at_i h
    refine ⟨rowB x, ⟨by omega, row_i hx⟩, ?_⟩
    conv => whnf
    refine .inl (.inl ⟨[bidv x, .d (.ptr cs 0)], _, ⟨.refl _, rfl, hf x⟩, ?_⟩)
    conv => whnf
    rw [hdrop, idxFrom] at hidx
    refine bcase_intro (fun h2 => ?_) (fun h2 => ?_) <;> conv => whnf
    · rw [if_pos h2] at hidx
      exact ⟨rd_int hidx, rfl⟩
    · refine ⟨_, _, GV.drop [0, 1, 4, 7, 8], _, by omega, i + 1, h, rfl, ?_, ?_, rfl⟩
      · rw [if_neg (by simp [h2])] at hidx
        exact hidx
      · rw [← succ_i h hl]; rfl
  · have h := ge_of h
    rw [hlen] at h
    rw [List.drop_eq_nil_of_le h, idxFrom] at hidx
    exact ⟨rd_int hidx, rfl⟩
theorem at_ (l : List B) (hl : l.length ≤ 4611686018427387904) (car : Int) : Contract Try.prog G0 31 [.d (.list 2 (rowsB l)), .d (.int .i64 car)] [] (fun r t => r = .d (.int .i64 (idxFrom (fun b => b.1 == car) l 0)) ∧ t = []) := by
  refine con31 0 rfl rfl ?_
  conv => whnf
  refine .inl (.inl ⟨[.d (.list 2 (rowsB l)), .fn 39 [.d (.ptr [.int .i64 car] 0)]], _, ⟨.fz 0 _ rfl (by simp) ⟨trivial, ⟨trivial, trivial⟩, trivial⟩ (.refl _), rfl, indexFunc l hl _ 39 _ fun b => at1 b car⟩, ?_⟩)
  conv => whnf
  exact ⟨rfl, rfl⟩
end Go.Proofs.Ytpfmnccocmgfmaa
