/- OrderSays. -/
import Derived.Test.YtkenimmellonjaaK
namespace Go.Proofs.Ytkenimmellonjaa
open Go.Pv Go.RowKit Go.Shelf

/-- The least so far, as the statement reckons it. -/
def lstI : List Int → Int → Int
  | [], a => a
  | x :: r, a => lstI r (if x < a then x else a)
theorem lstI_min : ∀ (r : List Int) (a : Int), lstI r a = minI a r
  | [], _ => rfl
  | x :: r, a => by rw [lstI, minI, lstI_min r]
set_option maxRecDepth 100000 in
theorem orderSays (l m : List Int) (x : Int) : Contract Try.prog G0 9 [.d (.list 1 (rowsI l)), .d (.list 1 (rowsI m)), .d (.int .i64 x)] [] (fun r t => r = .d (.bool true) ∧ t = []) := by
  have hlen := rowsI_len l
  have hlem := rowsI_len m
  refine run9 0 [] rfl rfl ?_
  conv => whnf
  refine .scal [] _ ⟨.refl _, rfl, first18⟩ ?_
  conv => whnf
  refine bcase_intro (fun h => ?_) (fun h => ?_) <;> conv => whnf
  · exact ⟨rfl, rfl⟩
  have hl : l.length ≤ 20 ∧ m.length ≤ 20 := by
    rw [hlen, hlem] at h
    rcases Nat.lt_or_ge 20 l.length with h1 | h1
    · rw [decide_eq_true (show (l.length : Int) > 20 by omega)] at h
      cases h
    · rw [decide_eq_false (show ¬ (l.length : Int) > 20 by omega)] at h
      have := of_decide_eq_false h
      omega
  obtain ⟨hl, hm⟩ := hl
  clear h
  refine .data [.d (.list 1 (rowsI l))] _ ⟨WkL.refl _, rfl, set40 l (by omega)⟩ ?_
  rw [set6_eq]
  have hs := setI_len l
  have hinc := setI_inc l
  have hset := set19 l (by omega)
  generalize setI l = s at hs hinc hset
  conv => whnf
  refine .scal [.d (.list 1 (rowsI s)), .d (.int .i64 x)] _ ⟨.refl _, rfl, next20 s (by omega) x⟩ ?_
  rw [(next6_inc hinc x).1, (next6_inc hinc x).2]
  conv => whnf
  refine .scal [.d (.list 1 (rowsI s)), .d (.int .i64 x)] _ ⟨.refl _, rfl, next41 s (by omega) x⟩ ?_
  conv => whnf
  refine .scal [.d (.list 1 (rowsI l))] _ ⟨.refl _, rfl, least42 l (by omega)⟩ ?_
  conv => whnf
  refine StopG.rounds wk9 [] [0, 1, 2, 7, 8, 9, 10, 11, 12, 13, 14, 15, 16] (fun q env st => ∃ (i : Nat) (a : Int), i ≤ l.length ∧ q = l.length - i ∧ (i = 0 → a = 0) ∧ (0 < i → lstI (l.drop i) a = (leastI l).1) ∧
    env = [(0, .d (.list 1 (rowsI l))), (1, .d (.list 1 (rowsI m))), (2, .d (.int .i64 x)), (7, .d (.bool true)), (8, .d (.list 1 (rowsI s))), (9, .d (.int .i64 (next6 s x).1)), (10, .d (.bool (next6 s x).2)), (11, .d (.int .i64 (next6 s x).1)), (12, .d (.bool (next6 s x).2)), (13, .d (.int .i64 (leastI l).1)), (14, .d (.bool (leastI l).2)), (15, .d (.int .i64 a)), (16, .d (.int .i64 (i : Int)))] ∧ st = []) rfl ?_ ?_
  · conv => whnf
    exact ⟨_, 0, 0, Nat.zero_le _, rfl, fun _ => rfl, fun h => absurd h (by omega), rfl, rfl⟩
  rintro q env st ⟨i, a, hi, rfl, ha0, ha, rfl, rfl⟩
  conv => whnf
  refine bcase_intro (fun h => ?_) (fun h => ?_) <;> conv => whnf
  · have h := lt_of h
    rw [hlen] at h
    obtain ⟨y, hy, hdrop⟩ := at_i h
    refine ⟨rowI y, fun _ => ⟨by omega, row_i hy⟩, ?_⟩
    conv => whnf
    have hlst : lstI (l.drop (i + 1)) (if (bif (i : Int) == 0 then true else decide (y < a)) = true then y else a) = (leastI l).1 := by
      rcases Nat.eq_zero_or_pos i with rfl | h0
      · cases l with
        | nil => simp at h
        | cons z r =>
          simp at hy
          subst hy
          simpa [leastI] using lstI_min r z
      · have := ha h0
        rw [hdrop, lstI] at this
        rw [show ((i : Int) == 0) = false by simp; omega]
        simpa using this
    refine bcase_intro (fun h2 => ?_) (fun h2 => ?_) <;> conv => whnf
    · rw [if_pos h2] at hlst
      refine ⟨rowI y, ⟨by omega, row_i hy⟩, ?_⟩
      conv => whnf
      rw [succ_i h (by omega)]
      exact ⟨_, by omega, i + 1, y, h, rfl, fun h => absurd h (by omega), fun _ => hlst, rfl, rfl⟩
    · rw [if_neg (by simp [h2])] at hlst
      rw [succ_i h (by omega)]
      exact ⟨_, by omega, i + 1, a, h, rfl, fun h => absurd h (by omega), fun _ => hlst, rfl, rfl⟩
  · have h := ge_of h
    rw [hlen] at h
    have hil : i = l.length := by omega
    have hk : (leastI l).1 = a := by
      rcases Nat.eq_zero_or_pos i with rfl | h0
      · have : l = [] := List.eq_nil_of_length_eq_zero (by omega)
        rw [this, ha0 rfl]; rfl
      · have := ha h0
        rw [List.drop_eq_nil_of_le h, lstI] at this
        exact this.symm
    refine .data [.d (.list 1 (rowsI l))] _ (fun _ => ⟨WkL.refl _, rfl, hset⟩) ?_
    conv => whnf
    refine .scal [.d (.list 1 (rowsI s)), .d (.list 1 (rowsI s))] _ (fun _ => ⟨.refl _, rfl, sameInts34 s s (by omega)⟩) ?_
    conv => whnf
    refine .scal [.d (.list 1 (rowsI l)), .d (.int .i64 x)] _ (fun _ => ⟨.refl _, rfl, has l (by omega) x⟩) ?_
    conv => whnf
    refine .scal [.d (.list 1 (rowsI l)), .d (.int .i64 x)] _ (fun _ => ⟨.refl _, rfl, among l (by omega) x⟩) ?_
    conv => whnf
    refine .scal [.d (.list 1 (rowsI l)), .d (.list 1 (rowsI m))] _ (fun _ => ⟨.refl _, rfl, same22 l m (by omega)⟩) ?_
    conv => whnf
    refine .scal [.d (.list 1 (rowsI l)), .d (.list 1 (rowsI m))] _ (fun _ => ⟨.refl _, rfl, sameInts34 l m (by omega)⟩) ?_
    conv => whnf
    refine ⟨rd_bool ?_, rfl⟩
    have e1 : (l.any fun y => x == y) = l.any fun y => y == x := by
      congr 1
      funext y
      exact Bool.eq_iff_iff.2 ⟨fun h => by simpa using (by simpa using h : x = y).symm, fun h => by simpa using (by simpa using h : y = x).symm⟩
    have e2 : (leastI l).2 = decide (((rowsI l).length : Int) > 0) := by
      rw [hlen]
      cases l with
      | nil => rfl
      | cons z r => symm; exact decide_eq_true (by simp)
    rw [e1, e2, hk]
    simp
end Go.Proofs.Ytkenimmellonjaa
