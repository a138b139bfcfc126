/- BidSays. -/
import Derived.Test.YtpfmnccocmgfmaaG
namespace Go.Proofs.Ytpfmnccocmgfmaa
open Go.Pv Go.RowKit

/-- Where the least is, from k and what it is on. -/
def leastGo : Nat → B → Nat → List B → Nat
  | k, _, _, [] => k
  | k, best, i, x :: r => if lessB x best then leastGo i x (i + 1) r else leastGo k best (i + 1) r
def leastI : List B → Int
  | [] => -1
  | b :: r => leastGo 0 b 1 r
theorem leastGo_get : ∀ (r : List B) (l : List B) (k i : Nat) (best : B), l[k]? = .some best → l.drop i = r → l[leastGo k best i r]? = .some (leastFrom best r)
  | [], l, k, i, best, h, _ => h
  | x :: r, l, k, i, best, h, hd => by
    simp only [leastGo, leastFrom]
    have hx : l[i]? = .some x := by
      have := congrArg List.head? hd
      simpa [List.head?_drop] using this
    have hd2 : l.drop (i + 1) = r := by
      have := congrArg List.tail hd
      simpa [List.tail_drop] using this
    split
    · exact leastGo_get r l i (i + 1) x hx hd2
    · exact leastGo_get r l k (i + 1) best h hd2
theorem least23 (l : List B) (hl : l.length ≤ 4611686018427387904) : Contract Try.prog G0 23 [.d (.list 2 (rowsB l))] [] (fun r t => r = .d (.int .i64 (leastI l)) ∧ t = []) := by
  have hlen : (rowsB l).length = l.length := by simp [rowsB]
  refine con23 0 rfl rfl ?_
  conv => whnf
  refine V.rounds (fun m env s => ∃ (i : Nat) (best : Int), i ≤ l.length ∧ m = l.length - i ∧ ((i = 0 ∧ best = -1) ∨ ∃ (k : Nat) (y : B), 0 < i ∧ best = k ∧ l[k]? = .some y ∧ leastI l = leastGo k y i (l.drop i)) ∧
    env = [(0, .d (.list 2 (rowsB l))), (2, .d (.int .i64 0)), (3, .d (.int .i64 best)), (4, .d (.int .i64 (i : Int))), (8, .undef), (23, .undef)] ∧ s = [])
    ⟨_, _, GV.drop [0, 2, 3, 4], _, 0, -1, Nat.zero_le _, rfl, .inl ⟨rfl, rfl⟩, rfl, rfl⟩ ?_
  rintro m env s ⟨i, best, hi, rfl, hb, rfl, rfl⟩
  refine V.of (kt := kt23) tabOK mixed (by kernel_rfl) ?_
  conv => whnf
  refine bcase_intro (fun h => ?_) (fun h => ?_)
  · have h := lt_of h
    rw [hlen] at h
    obtain ⟨x, hx, hdrop⟩ := at_i h
    rcases hb with ⟨rfl, rfl⟩ | ⟨k, y, hi0, rfl, hy, hgo⟩
    · conv => whnf
      refine ⟨rowB x, fun _ => ⟨by omega, row_i hx⟩, ?_⟩
      conv => whnf
      refine ⟨rowB x, fun hg => absurd hg (by simp [HG, lit, rfind]), ?_⟩
      conv => whnf
      refine .inl (.inl ⟨[bidv x, bidv x], _, fun _ => ⟨.refl _, rfl, less18 x x⟩, ?_⟩)
      conv => whnf
      refine ⟨_, _, GV.drop [0, 2, 3, 4], _, by omega, 1, 0, by omega, rfl, .inr ⟨0, x, by omega, rfl, hx, ?_⟩, rfl, rfl⟩
      cases l with
      | nil => cases hx
      | cons y r => cases hx; rfl
    · conv => whnf
      refine ⟨rowB x, fun _ => ⟨by omega, row_i hx⟩, ?_⟩
      conv => whnf
      refine ⟨rowB y, fun _ => ⟨by omega, row_i hy⟩, ?_⟩
      conv => whnf
      refine .inl (.inl ⟨[bidv x, bidv y], _, fun _ => ⟨.refl _, rfl, less18 x y⟩, ?_⟩)
      rw [decide_eq_false (show ¬ (k : Int) < 0 by omega)]
      conv => whnf
      rw [hdrop, leastGo] at hgo
      refine bcase_intro (fun h2 => ?_) (fun h2 => ?_) <;> conv => whnf
      · have h2 : lessB x y = true := h2
        rw [if_pos h2] at hgo
        refine ⟨_, _, GV.drop [0, 2, 3, 4], _, by omega, i + 1, i, h, rfl, .inr ⟨i, x, by omega, rfl, hx, hgo⟩, ?_, ?_⟩
        · rw [← succ_i h hl]; rfl
        · rfl
      · have h2 : lessB x y = false := h2
        rw [if_neg (by simp [h2])] at hgo
        refine ⟨_, _, GV.drop [0, 2, 3, 4], _, by omega, i + 1, k, h, rfl, .inr ⟨k, y, by omega, rfl, hy, hgo⟩, ?_, ?_⟩
        · rw [← succ_i h hl]; rfl
        · rfl
  · have h := ge_of h
    rw [hlen] at h
    conv => whnf
    rcases hb with ⟨rfl, rfl⟩ | ⟨k, y, hi0, rfl, hy, hgo⟩
    · have : l = [] := List.eq_nil_of_length_eq_zero (by omega)
      subst this
      exact ⟨rfl, rfl⟩
    · rw [List.drop_eq_nil_of_le h, leastGo] at hgo
      exact ⟨rd_int hgo.symm, rfl⟩
theorem leastI_least : ∀ (l : List B), ((leastB l).2 = false ∧ leastI l = -1) ∨ ∃ k : Nat, (leastB l).2 = true ∧ leastI l = k ∧ l[k]? = .some (leastB l).1
  | [] => .inl ⟨rfl, rfl⟩
  | b :: r => .inr ⟨_, rfl, rfl, leastGo_get r (b :: r) 0 1 b rfl rfl⟩
theorem less_same (b : B) : sameB b b = true := same_iff.2 rfl
abbrev EnvS (l : List B) (b : B) (ms : List Int) (car : Int) (i : Nat) : Env :=
  [(0, .d (.list 2 (rowsB l))), (1, .undef), (2, .d (.list 1 (rowsI ms))), (3, .d (.int .i64 car)), (5, .ref (.g 0) 0), (8, .d (.bool false)), (9, .d (.bool true)), (10, .undef), (11, .undef), (12, .undef), (13, .d (.list 2 (rowsB (putB l b).1))),
    (14, .d (.bool (putB l b).2)), (15, .d (.list 2 (rowsB (putB l b).1))), (16, .d (.bool (putB l b).2)), (17, .ref (.g 1) 0), (18, .d (.bool (ofB l car).2)), (19, .d (.int .i64 (idxFrom (fun b : B => b.1 == car) l 0))), (20, .d (.int .i64 i)),
    (23, .undef), (31, .undef), (55, .undef), (80, .undef), (95, .undef)]
theorem bidSays (l : List B) (b : B) (ms : List Int) (car : Int) : Contract Try.prog G0 6 [.d (.list 2 (rowsB l)), bidv b, .d (.list 1 (rowsI ms)), .d (.int .i64 car)] [] (fun r t => r = .d (.bool true) ∧ t = []) := by
  have hlen : (rowsB l).length = l.length := by simp [rowsB]
  have hlen2 : (rowsI ms).length = ms.length := by simp [rowsI]
  refine con6 0 rfl rfl ?_
  conv => whnf
  refine .inl (.inl ⟨[], _, ⟨.refl _, rfl, first8⟩, ?_⟩)
  conv => whnf
  refine bcase_intro (fun h => ?_) (fun h => ?_) <;> conv => whnf
  · exact ⟨rfl, rfl⟩
  have hl : l.length ≤ 20 ∧ ms.length ≤ 20 := by
    cases h1 : decide (((rowsB l).length : Int) > 20) with
    | true => rw [h1] at h; cases h
    | false =>
      rw [h1] at h
      have h : decide (((rowsI ms).length : Int) > 20) = false := h
      have := of_decide_eq_false h
      have := of_decide_eq_false h1
      omega
  refine .inl (.inl ⟨[.d (.list 2 (rowsB l))], _, ⟨.refl _, rfl, least23 l (by omega)⟩, ?_⟩)
  conv => whnf
  refine .inl (.inl ⟨[.d (.list 2 (rowsB l))], _, ⟨.refl _, rfl, least l (by omega)⟩, ?_⟩)
  conv => whnf
  have hI : decide (leastI l ≥ 0) = (leastB l).2 := by
    rcases leastI_least l with ⟨h1, h2⟩ | ⟨k, h1, h2, h3⟩
    · rw [h1, h2]; rfl
    · rw [h1, h2]; simp
  refine ⟨rowB (leastB l).1, fun hg => ?_, ?_⟩
  · have hg : (leastB l).2 = true := by simpa [HG, lit, rfind] using hg.1
    rcases leastI_least l with ⟨h1, h2⟩ | ⟨k, h1, h2, h3⟩
    · rw [h1] at hg; cases hg
    · rw [h2]; exact ⟨by omega, row_i h3⟩
  conv => whnf
  refine .inl (.inl ⟨[bidv (leastB l).1, bidv (leastB l).1], _, fun _ => ⟨.refl _, rfl, same _ _⟩, ?_⟩)
  conv => whnf
  refine bcase_intro (fun h2 => ?_) (fun h2 => ?_) <;> conv => whnf
  · rw [hI, less_same] at h2
    cases h3 : (leastB l).2 <;> rw [h3] at h2 <;> cases h2
  refine .inl (.inr ⟨[.d (.list 2 (rowsB l)), bidv b], _, ⟨WkL.refl _, rfl, put l (by omega) b⟩, ?_⟩)
  conv => whnf
  refine .inl (.inr ⟨[.d (.list 2 (rowsB l)), bidv b], _, ⟨WkL.refl _, rfl, put24 l (by omega) b⟩, ?_⟩)
  conv => whnf
  refine .inl (.inl ⟨[.d (.list 2 (rowsB l)), .d (.int .i64 car)], _, ⟨.refl _, rfl, of_ l (by omega) car⟩, ?_⟩)
  conv => whnf
  refine .inl (.inl ⟨[.d (.list 2 (rowsB l)), .d (.int .i64 car)], _, ⟨.refl _, rfl, find25 l (by omega) car⟩, ?_⟩)
  conv => whnf
  refine V.rounds (fun m env s => ∃ i : Nat, i ≤ l.length ∧ m = l.length - i ∧ env = EnvS l b ms car i ∧ s = [(0, .cells [.d (.int .i64 b.1), .d (.int .i64 b.2)]), (1, .cells [.d (.int .i64 (ofB l car).1.1), .d (.int .i64 (ofB l car).1.2)])])
    ⟨_, _, GV.trans (GV.gather [0, 2] rfl rfl rfl) (GV.drop [0, 2, 3, 5, 8, 9, 13, 14, 15, 16, 17, 18, 19, 20]), _, 0, Nat.zero_le _, rfl, ?_, ?_⟩ ?_
  · rfl
  · rfl
  rintro m env s ⟨i, hi, rfl, rfl, rfl⟩
  refine V.of (kt := kt6) tabOK mixed (by kernel_rfl) ?_
  conv => whnf
  refine bcase_intro (fun h => ?_) (fun h => ?_) <;> conv => whnf
  · have h := lt_of h
    rw [hlen] at h
    obtain ⟨x, hx, hdrop⟩ := at_i h
    refine ⟨rowB x, ⟨by omega, row_i hx⟩, ?_⟩
    conv => whnf
    refine .inl ⟨[bidv x, bidv b], _, ⟨.refl _, rfl, less x b⟩, ?_⟩
    conv => whnf
    refine ⟨rowB x, ⟨by omega, row_i hx⟩, ?_⟩
    conv => whnf
    refine .inl (.inl ⟨[bidv x, bidv b], _, ⟨.refl _, rfl, less18 x b⟩, ?_⟩)
    conv => whnf
    refine bcase_intro (fun h3 => ?_) (fun h3 => ?_) <;> conv => whnf
    · simp at h3
    refine ⟨_, _, GV.drop [0, 2, 3, 5, 8, 9, 13, 14, 15, 16, 17, 18, 19, 20], _, by omega, i + 1, h, rfl, ?_, ?_⟩
    · rw [succ_i h (by omega)]; rfl
    · rfl
  · refine .inl ⟨[.d (.list 2 (rowsB (putB l b).1)), .d (.list 2 (rowsB (putB l b).1))], _, fun _ => ⟨.refl _, rfl, same27 (putB l b).1 (putB l b).1 (by have := putB_len l b; omega) rfl⟩, ?_⟩
    conv => whnf
    have hO : decide (idxFrom (fun b : B => b.1 == car) l 0 ≥ 0) = (ofB l car).2 := by rw [idx_any, ofB_snd]
    refine ⟨rowB (ofB l car).1, fun hg => ?_, ?_⟩
    · have hg : (ofB l car).2 = true := by simpa [HG, lit, rfind] using hg.1
      rw [hg] at hO
      obtain ⟨k, x, h1, h2, h3⟩ := idx_ge hO
      rw [h1, show ofB l car = (x, true) by simp only [ofB, h3]]
      exact ⟨by omega, row_i h2⟩
    conv => whnf
    refine .inl ⟨[bidv (ofB l car).1, bidv (ofB l car).1], _, fun _ => ⟨.refl _, rfl, same _ _⟩, ?_⟩
    conv => whnf
    refine .inl ⟨[.d (.list 1 (rowsI ms)), .d (.list 2 (rowsB l))], _, fun _ => ⟨.refl _, rfl, full ms (by omega) l (by omega)⟩, ?_⟩
    conv => whnf
    refine .inl (.inl ⟨[.d (.list 1 (rowsI ms)), .d (.list 2 (rowsB l))], _, fun _ => ⟨.refl _, rfl, full29 ms (by omega) l (by omega)⟩, ?_⟩)
    conv => whnf
    refine ⟨rd_bool ?_, rfl⟩
    rw [hO, less_same]
    simp [sameL]
end Go.Proofs.Ytpfmnccocmgfmaa
