/- Put, Of, Full, and the document's own. -/
import Derived.Test.YtpfmnccocmgfmaaC
namespace Go.Proofs.Ytpfmnccocmgfmaa
open Go.Pv Go.RowKit

theorem insert_none (e : DV) (he : e = .nil ∨ e = .emp) (x : List DV) :
    Contract Try.prog G0 35 [.d e, .d (.int .i64 0), .d (.list 2 [x])] [] (fun r t => r = .d (.list 2 [x]) ∧ t = []) := by
  refine conG35 0 rfl rfl ?_
  rcases he with rfl | rfl
  all_goals
    conv => whnf
    refine ⟨⟨by omega, by omega⟩, ?_⟩
    conv => whnf
    refine ⟨⟨?_, ?_⟩, ?_⟩
    · show (2 * 1 + 1024) * 16 ≤ 281474976710656; omega
    · show 1 ≤ _; omega
    conv => whnf
    intro c hc
    conv => whnf
    refine ⟨_, _, GV.freeze 0 rfl (by simp) (by repeat' first | exact trivial | apply And.intro | decide | (simp; done)) (by repeat' first | exact trivial | apply And.intro), ?_⟩
    conv => whnf
    exact ⟨rfl, rfl⟩

theorem idx_cases {α : Type} (p : α → Bool) : ∀ (l : List α) (i : Nat), (idxFrom p l i = -1 ∧ l.find? p = .none) ∨ ∃ k x, idxFrom p l i = ((i + k : Nat) : Int) ∧ l[k]? = .some x ∧ l.find? p = .some x
  | [], i => .inl ⟨rfl, rfl⟩
  | y :: r, i => by
    simp only [idxFrom, List.find?]
    cases h : p y with
    | true => exact .inr ⟨0, y, by simp, rfl, rfl⟩
    | false =>
      simp only [Bool.false_eq_true, if_false]
      rcases idx_cases p r (i + 1) with ⟨h1, h2⟩ | ⟨k, x, h1, h2, h3⟩
      · exact .inl ⟨by simpa using h1, h2⟩
      · exact .inr ⟨k + 1, x, by rw [show (i : Int) + 1 = ((i + 1 : Nat) : Int) by simp, h1]; congr 1; omega, by simpa using h2, h3⟩
theorem idx_cases0 {α : Type} (p : α → Bool) (l : List α) : (idxFrom p l 0 = -1 ∧ l.find? p = .none) ∨ ∃ k x, idxFrom p l 0 = ((k : Nat) : Int) ∧ l[k]? = .some x ∧ l.find? p = .some x := by
  have := idx_cases p l 0
  simpa using this
theorem idx_ge {α : Type} {p : α → Bool} {l : List α} (h : decide (idxFrom p l 0 ≥ 0) = true) : ∃ k x, idxFrom p l 0 = ((k : Nat) : Int) ∧ l[k]? = .some x ∧ l.find? p = .some x := by
  rcases idx_cases0 p l with ⟨h1, _⟩ | q
  · rw [h1] at h; simp at h
  · exact q
theorem idx_lt {α : Type} {p : α → Bool} {l : List α} (h : decide (idxFrom p l 0 ≥ 0) = false) : idxFrom p l 0 = -1 ∧ l.find? p = .none := by
  rcases idx_cases0 p l with q | ⟨k, x, h1, _⟩
  · exact q
  · rw [h1] at h; simp at h
theorem idx_ge' {α : Type} {p : α → Bool} {l : List α} (h : decide (idxFrom p l 0 < 0) = false) : ∃ k x, idxFrom p l 0 = ((k : Nat) : Int) ∧ l[k]? = .some x ∧ l.find? p = .some x := by
  rcases idx_cases0 p l with ⟨h1, _⟩ | q
  · rw [h1] at h; simp at h
  · exact q
theorem idx_lt' {α : Type} {p : α → Bool} {l : List α} (h : decide (idxFrom p l 0 < 0) = true) : idxFrom p l 0 = -1 ∧ l.find? p = .none := by
  rcases idx_cases0 p l with q | ⟨k, x, h1, _⟩
  · exact q
  · rw [h1] at h; simp at h; omega
/-- Put: the bids, and whether one more is there. -/
def insB (l : List B) (b : B) : List B := match idxFrom (fun x => decide (x.1 > b.1)) l 0 with
  | .ofNat k => l.take k ++ b :: l.drop k
  | .negSucc _ => l ++ [b]
def putB (l : List B) (b : B) : List B × Bool := match l.find? (fun x => x.1 == b.1) with
  | .some _ => (l, false)
  | .none => (insB l b, true)
theorem put (l : List B) (hl : l.length ≤ 10000) (b : B) : Contract Try.prog G0 22 [.d (.list 2 (rowsB l)), bidv b] [] (fun r t => r = .tup [.d (.list 2 (rowsB (putB l b).1)), .d (.bool (putB l b).2)] ∧ t = []) := by
  have hlen : (rowsB l).length = l.length := by simp [rowsB]
  cases l with
  | nil =>
    refine conG22 0 rfl rfl ?_
    conv => whnf
    refine .inr (.inl ⟨_, _, ⟨WkL.refl _, clone_nil⟩, fun res s1 h => ?_⟩)
    obtain ⟨h, rfl⟩ := h
    rcases h with rfl | rfl
    all_goals
      conv => whnf
      refine .inl (.inl ⟨[.d (.list 2 (rowsB [])), .d (.int .i64 b.1)], _, ⟨.refl _, rfl, at_ [] (by simp) b.1⟩, ?_⟩)
      conv => whnf
      refine .inl (.inl ⟨[.d (.list 2 (rowsB [])), .fn 34 [.d (.ptr (rowB b) 0)]], _, ⟨.fz 0 _ rfl (by simp) (by repeat' first | exact trivial | apply And.intro) (.refl _), rfl, indexFunc [] (by simp) _ 34 _ fun x => put1 x b⟩, ?_⟩)
      conv => whnf
      refine .inl (.inr ⟨_, .d (.list 2 [rowB b]), ⟨WkL.refl _, rfl, insert_none _ (by simp) (rowB b)⟩, ?_⟩)
      conv => whnf
      refine ⟨_, _, .refl, ?_⟩
      conv => whnf
      exact ⟨rfl, rfl⟩
  | cons b0 l0 =>
    have hl0 : l0.length + 1 ≤ 10000 := by simpa using hl
    refine conG22 0 rfl rfl ?_
    conv => whnf
    refine .inr (.inl ⟨_, _, ⟨WkL.refl _, clone_cons (rowB b0) (rowsB l0) (by simp [rowsB]; omega)⟩, fun res s1 h => ?_⟩)
    obtain ⟨c, hc, rfl, rfl⟩ := h
    conv => whnf
    refine .inl (.inl ⟨[.d (.list 2 (rowsB (b0 :: l0))), .d (.int .i64 b.1)], _, ⟨.refl _, rfl, at_ (b0 :: l0) (by simp; omega) b.1⟩, ?_⟩)
    conv => whnf
    refine bcase_intro (fun h => ?_) (fun h => ?_)
    · obtain ⟨k, x, h1, h2, h3⟩ := idx_ge h
      conv => whnf
      refine ⟨_, _, GV.freeze 1 rfl (by simp) (by repeat' first | exact trivial | apply And.intro | decide | (simp; done)) (by repeat' first | exact trivial | apply And.intro), ?_⟩
      conv => whnf
      have hp : putB (b0 :: l0) b = (b0 :: l0, false) := by simp only [putB, h3]
      rw [hp]
      refine ⟨?_, rfl⟩
      refine congrArg (fun q => AV.tup [AV.d (.list 2 q), AV.d (.bool false)]) ?_
      rw [List.drop_zero, List.take_of_length_le (by simp)]
      rfl
    · obtain ⟨h1, h2⟩ := idx_lt h
      conv => whnf
      refine .inl (.inl ⟨[.d (.list 2 (rowsB (b0 :: l0))), .fn 34 [.d (.ptr (rowB b) 0)]], _, ⟨.fz 0 _ rfl (by simp) (by repeat' first | exact trivial | apply And.intro) (.refl _), rfl, indexFunc (b0 :: l0) (by simp; omega) _ 34 _ fun x => put1 x b⟩, ?_⟩)
      conv => whnf
      refine bcase_intro (fun h => ?_) (fun h => ?_)
      · obtain ⟨g1, g2⟩ := idx_lt' h
        conv => whnf
        refine .inr (.inl ⟨_, _, ⟨WkL.refl _, insert_own (rowB b0 :: rowsB l0) (by simp [rowsB]; omega) ((rowsB l0).length + 1) (by simp) c hc (rowB b)⟩, fun res s1 h => ?_⟩)
        obtain ⟨rfl, rfl⟩ := h
        conv => whnf
        refine ⟨_, _, .refl, ?_⟩
        conv => whnf
        refine ⟨?_, rfl⟩
        have hp : putB (b0 :: l0) b = (b0 :: l0 ++ [b], true) := by
          simp only [putB, h2, insB, g1]
          rfl
        rw [hp]
        refine congrArg (fun q => AV.tup [AV.d (.list 2 q), AV.d (.bool true)]) ?_
        rw [show rowB b0 :: rowsB l0 = rowsB (b0 :: l0) from rfl, List.take_of_length_le (by simp [rowsB]), List.drop_eq_nil_of_le (by simp [rowsB])]
        simp [rowsB]
      · obtain ⟨k, x, g1, g2, g3⟩ := idx_ge' h
        conv => whnf
        rw [g1]
        have hk := (List.getElem?_eq_some_iff.1 g2).1
        simp only [List.length_cons] at hk
        refine .inr (.inl ⟨_, _, ⟨WkL.refl _, insert_own (rowB b0 :: rowsB l0) (by simp [rowsB]; omega) k (by simp [rowsB]; omega) c hc (rowB b)⟩, fun res s1 h => ?_⟩)
        obtain ⟨rfl, rfl⟩ := h
        conv => whnf
        refine ⟨_, _, .refl, ?_⟩
        conv => whnf
        refine ⟨?_, rfl⟩
        have hp : putB (b0 :: l0) b = ((b0 :: l0).take k ++ b :: (b0 :: l0).drop k, true) := by
          simp only [putB, h2, insB, g1]
        rw [hp]
        refine congrArg (fun q => AV.tup [AV.d (.list 2 q), AV.d (.bool true)]) ?_
        rw [show rowB b0 :: rowsB l0 = rowsB (b0 :: l0) from rfl]
        simp [rowsB, List.map_take, List.map_drop]
end Go.Proofs.Ytpfmnccocmgfmaa
