/- BidLeast. -/
import Derived.Test.YtpfmnccocmgfmaaH
namespace Go.Proofs.Ytpfmnccocmgfmaa
open Go.Pv Go.RowKit

theorem less_asymm {a b : B} (h : lessB a b = true) : lessB b a = false := by
  simp [lessB] at h ⊢; omega
theorem less_trans {a b c : B} (h : lessB a b = true) (k : lessB b c = true) : lessB a c = true := by
  simp [lessB] at h k ⊢; omega
theorem less_le {a b c : B} (h : lessB a b = false) (k : lessB a c = true) : lessB b c = true := by
  simp [lessB] at h k ⊢; omega
theorem less_irr (a : B) : lessB a a = false := by
  simp [lessB]
theorem leastFrom_le : ∀ (l : List B) (best x : B), (x = best ∨ x ∈ l) → lessB x (leastFrom best l) = false
  | [], best, x, h => by
    rcases h with rfl | h
    · exact less_irr x
    · cases h
  | b :: r, best, x, h => by
    simp only [leastFrom]
    cases hb : lessB b best with
    | true =>
      rw [if_pos rfl]
      have hbl := leastFrom_le r b b (.inl rfl)
      rcases h with rfl | h
      · cases hx : lessB x (leastFrom b r) with
        | false => rfl
        | true => rw [less_trans hb hx] at hbl; cases hbl
      · rcases List.mem_cons.1 h with rfl | h
        · exact hbl
        · exact leastFrom_le r b x (.inr h)
    | false =>
      rw [if_neg (by simp)]
      have hbl := leastFrom_le r best best (.inl rfl)
      rcases h with rfl | h
      · exact hbl
      · rcases List.mem_cons.1 h with rfl | h
        · cases hx : lessB x (leastFrom best r) with
          | false => rfl
          | true => rw [less_le hb hx] at hbl; cases hbl
        · exact leastFrom_le r best x (.inr h)
theorem leastFrom_app (b : B) : ∀ (l : List B) (best : B), leastFrom best (l ++ [b]) = if lessB b (leastFrom best l) then b else leastFrom best l
  | [], best => rfl
  | x :: r, best => by
    simp only [List.cons_append, leastFrom]
    exact leastFrom_app b r _
theorem leastB_app (b : B) {l : List B} (h : l ≠ []) : (leastB (l ++ [b])).1 = if lessB b (leastB l).1 then b else (leastB l).1 := by
  cases l with
  | nil => exact absurd rfl h
  | cons x r => exact leastFrom_app b r x
theorem leastB_is {l : List B} (h : l ≠ []) : (leastB l).2 = true := by
  cases l with
  | nil => exact absurd rfl h
  | cons x r => rfl
theorem leastB_le {l : List B} {x : B} (h : x ∈ l) : lessB x (leastB l).1 = false := by
  cases l with
  | nil => cases h
  | cons y r => exact leastFrom_le r y x (List.mem_cons.1 h)
abbrev EnvL (l : List B) (i : Nat) : Env :=
  [(0, .d (.list 2 (rowsB l))), (1, .undef), (3, .ref (.g 0) 0), (4, .d (.bool false)), (5, .d (.bool true)), (6, .ref (.g 1) 0), (7, .undef), (8, .d (.int .i64 i)), (9, .undef), (10, .undef), (11, .undef), (12, .undef), (14, .undef), (15, .undef), (16, .undef), (17, .undef), (20, .undef), (28, .undef), (36, .undef), (40, .undef), (48, .undef), (70, .undef), (74, .undef), (98, .undef), (103, .undef), (117, .undef)]
abbrev EnvL2 (l : List B) : Env :=
  [(0, .d (.list 2 (rowsB l))), (1, .undef), (3, .ref (.g 0) 0), (4, .d (.bool false)), (5, .d (.bool true)), (6, .ref (.g 1) 0), (7, .undef), (8, .undef), (9, .ref (.g 2) 0), (10, .d (.bool true)), (11, .undef), (12, .undef), (14, .undef), (15, .undef), (16, .undef), (17, .undef), (20, .undef), (28, .undef), (36, .undef), (40, .undef), (48, .undef), (70, .undef), (74, .undef), (98, .undef), (103, .undef), (117, .undef)]
abbrev SL2 (l : List B) (b : B) : List (Nat × AB) := [(0, .cells [.d (.int .i64 b.1), .d (.int .i64 b.2)]), (1, .cells [.d (.int .i64 (leastB l).1.1), .d (.int .i64 (leastB l).1.2)]), (2, .cells [.d (.int .i64 (leastB (l ++ [b])).1.1), .d (.int .i64 (leastB (l ++ [b])).1.2)])]
abbrev SL (l : List B) (b : B) : List (Nat × AB) := [(0, .cells [.d (.int .i64 b.1), .d (.int .i64 b.2)]), (1, .cells [.d (.int .i64 (leastB l).1.1), .d (.int .i64 (leastB l).1.2)])]
abbrev EnvL3 (l a : List B) (i : Nat) : Env :=
  [(0, .d (.list 2 (rowsB l))), (1, .undef), (3, .undef), (4, .d (.bool false)), (5, .d (.bool true)), (6, .undef), (7, .undef), (8, .undef), (9, .undef), (10, .undef), (11, .d (.list 2 (rowsB a))), (12, .d (.int .i64 i)), (14, .undef), (15, .undef), (16, .undef), (17, .undef), (20, .undef), (28, .undef), (36, .undef), (40, .undef), (48, .undef), (70, .undef), (74, .undef), (98, .undef), (103, .undef), (117, .undef)]
abbrev EnvL4 (a : List B) (j : Nat) : Env :=
  [(0, .undef), (1, .undef), (3, .undef), (4, .d (.bool false)), (5, .d (.bool true)), (6, .undef), (7, .undef), (8, .undef), (9, .undef), (10, .undef), (11, .d (.list 2 (rowsB a))), (12, .undef), (14, .undef), (15, .undef), (16, .undef), (17, .d (.int .i64 j)), (20, .undef), (28, .undef), (36, .undef), (40, .undef), (48, .undef), (70, .undef), (74, .undef), (98, .undef), (103, .undef), (117, .undef)]
def insS (b : B) : List B → List B
  | [] => [b]
  | x :: r => if x.1 ≤ b.1 then x :: insS b r else b :: x :: r
theorem insS_eq (b : B) : ∀ l : List B, l.take (upTo b l) ++ b :: l.drop (upTo b l) = insS b l
  | [] => rfl
  | x :: r => by
    simp only [upTo, insS]
    split
    · rw [List.take_succ_cons, List.drop_succ_cons, List.cons_append, insS_eq b r]
    · rfl
theorem insS_mem (b x : B) : ∀ l : List B, x ∈ insS b l → x = b ∨ x ∈ l
  | [], h => by simpa [insS] using h
  | y :: r, h => by
    simp only [insS] at h
    split at h
    · rcases List.mem_cons.1 h with rfl | h
      · exact .inr (by simp)
      · rcases insS_mem b x r h with h | h
        · exact .inl h
        · exact .inr (by simp [h])
    · simpa using h
abbrev Inc (l : List B) : Prop := l.Pairwise fun x y => x.1 < y.1
theorem insS_inc (b : B) : ∀ l : List B, Inc l → l.find? (fun x => x.1 == b.1) = .none → Inc (insS b l)
  | [], _, _ => by simp [insS, Inc]
  | x :: r, h, hf => by
    have h' := List.pairwise_cons.1 h
    simp only [List.find?_cons] at hf
    split at hf
    · cases hf
    rename_i hx
    simp only [beq_eq_false_iff_ne] at hx
    simp only [insS]
    split
    · rename_i hxb
      refine List.pairwise_cons.2 ⟨fun y hy => ?_, insS_inc b r h'.2 hf⟩
      rcases insS_mem b y r hy with rfl | hy
      · omega
      · exact h'.1 y hy
    · rename_i hxb
      refine List.pairwise_cons.2 ⟨fun y hy => ?_, h⟩
      rcases List.mem_cons.1 hy with rfl | hy
      · omega
      · have := h'.1 y hy; omega
theorem putB_inc {l : List B} (h : Inc l) (b : B) : Inc (putB l b).1 := by
  unfold putB
  split
  · exact h
  · rename_i hf
    rw [insB_upTo, insS_eq]
    exact insS_inc b l h hf
theorem putB_pos (l : List B) (b : B) : 0 < (putB l b).1.length := by
  unfold putB
  split
  · rename_i x h
    have := List.mem_of_find?_eq_some h
    exact List.length_pos_of_mem this
  · rw [insB_len]; omega
theorem bidLeast (l : List B) (b : B) : Contract Try.prog G0 5 [.d (.list 2 (rowsB l)), bidv b] [] (fun r t => r = .d (.bool true) ∧ t = []) := by
  have hlen : (rowsB l).length = l.length := by simp [rowsB]
  refine con5 0 rfl rfl ?_
  conv => whnf
  refine .inl (.inl ⟨[], _, ⟨.refl _, rfl, first8⟩, ?_⟩)
  conv => whnf
  refine bcase_intro (fun h => ?_) (fun h => ?_) <;> conv => whnf
  · exact ⟨rfl, rfl⟩
  have hl : 0 < l.length ∧ l.length ≤ 16 := by
    cases h1 : ((((rowsB l).length : Int)) == 0) with
    | true => rw [h1] at h; cases h
    | false =>
      rw [h1] at h
      have h : decide (((rowsB l).length : Int) > 16) = false := h
      have := of_decide_eq_false h
      simp [hlen] at h1
      have : l.length ≠ 0 := fun e => h1 (List.eq_nil_of_length_eq_zero e)
      omega
  have hne : l ≠ [] := fun e => by rw [e] at hl; simp at hl
  refine .inl (.inl ⟨[.d (.list 2 (rowsB l))], _, ⟨.refl _, rfl, least l (by omega)⟩, ?_⟩)
  rw [leastB_is hne]
  conv => whnf
  refine V.rounds (fun m env s => ∃ i : Nat, i ≤ l.length ∧ m = l.length - i ∧ env = EnvL l i ∧ s = SL l b)
    ⟨_, _, GV.drop [0, 3, 4, 5, 6, 8], _, 0, Nat.zero_le _, rfl, ?_, ?_⟩ ?_
  · rfl
  · rfl
  rintro m env s ⟨i, hi, rfl, rfl, rfl⟩
  refine V.of (kt := kt5) tabOK mixed (by kernel_rfl) ?_
  conv => whnf
  refine bcase_intro (fun h => ?_) (fun h => ?_) <;> conv => whnf
  · have h := lt_of h
    rw [hlen] at h
    obtain ⟨x, hx, hdrop⟩ := at_i h
    refine ⟨rowB x, ⟨by omega, row_i hx⟩, ?_⟩
    conv => whnf
    refine .inl (.inl ⟨[bidv x, bidv (leastB l).1], _, ⟨.refl _, rfl, less _ _⟩, ?_⟩)
    rw [leastB_le (List.mem_of_getElem? hx)]
    conv => whnf
    rw [succ_i h (by omega)]
    exact ⟨_, _, GV.drop [0, 3, 4, 5, 6, 8], _, by omega, i + 1, h, rfl, rfl, rfl⟩
  refine V.drawS tabOK mixed sp5_14 (by kernel_rfl) (by kernel_rfl) (fun env s => env = EnvL2 l ∧ s = SL2 l b) ?_ ?_
  · obtain ⟨x0, r0, rfl⟩ : ∃ x r, l = x :: r := by
      cases l with
      | nil => exact absurd rfl hne
      | cons x r => exact ⟨x, r, rfl⟩
    have hlb := least (x0 :: r0 ++ [b]) (by simp at hl ⊢; omega)
    rw [leastB_is (by simp)] at hlb
    simp only [List.length_cons] at hl
    conv => whnf
    repeat' first
      | (refine Both.mk ?_ ?_ <;> conv => whnf)
      | (refine ⟨⟨by show (2 * ((List.map rowB r0).length + 1) + 1024) * 16 ≤ 281474976710656; rw [List.length_map]; omega, by show (List.map rowB r0).length + 1 ≤ _; rw [List.length_map]; omega⟩, ?_⟩; (conv => whnf); intro c hc; (conv => whnf))
      | (refine ⟨by simp, ⟨by show (2 * ((List.map rowB r0).length + 1 + 1) + 1024) * 16 ≤ 281474976710656; rw [List.length_map]; omega, by show (List.map rowB r0).length + 1 + 1 ≤ _; rw [List.length_map]; omega⟩, ?_⟩; (conv => whnf); intro c hc; (conv => whnf))
      | (refine .inl (.inl ⟨[.d (.list 2 (rowsB (x0 :: r0 ++ [b])))], _, ⟨.own _ 2 0 _ _ _ _ rfl (by simp) (by decide) (by simp [rowsB, rowB]; rw [List.take_of_length_le (by simp), List.take_of_length_le (by simp)]) .nil, rfl, hlb⟩, ?_⟩); (conv => whnf))
      | exact ⟨_, _, GV.trans (GV.gather [0, 1, 4] rfl rfl rfl) (GV.drop [0, 3, 4, 5, 6, 9, 10]), rfl, rfl⟩
      | exact ⟨_, _, GV.trans (GV.gather [0, 1, 3] rfl rfl rfl) (GV.drop [0, 3, 4, 5, 6, 9, 10]), rfl, rfl⟩
      | exact ⟨_, _, GV.trans (GV.gather [0, 1, 2] rfl rfl rfl) (GV.drop [0, 3, 4, 5, 6, 9, 10]), rfl, rfl⟩
  · rintro env s ⟨rfl, rfl⟩
    conv => whnf
    refine .inl ⟨[bidv b, bidv (leastB l).1], _, fun _ => ⟨.refl _, rfl, less _ _⟩, ?_⟩
    conv => whnf
    refine .inl (.inl ⟨[bidv (leastB (l ++ [b])).1, bidv (leastB l).1], _, fun _ => ⟨.refl _, rfl, same _ _⟩, ?_⟩)
    conv => whnf
    have hsm : sameB (leastB (l ++ [b])).1 (leastB l).1 = !lessB b (leastB l).1 := by
      rw [leastB_app b hne]
      cases hlx : lessB b (leastB l).1 with
      | true =>
        rw [if_pos rfl]
        cases hs : sameB b (leastB l).1 with
        | false => rfl
        | true => rw [same_iff.1 hs, less_irr] at hlx; cases hlx
      | false => rw [if_neg (by simp), less_same]; rfl
    rw [hsm, Bool.not_not, show (lessB b (leastB l).1 == lessB b (leastB l).1) = true by simp]
    conv => whnf
    refine V.rounds (fun m env s => ∃ (i : Nat) (a : List B), i ≤ l.length ∧ m = l.length - i ∧ a.length ≤ i ∧ Inc a ∧ (0 < i → 0 < a.length) ∧ env = EnvL3 l a i ∧ s = [])
      ⟨_, _, GV.trans (GV.gather [] rfl rfl rfl) (GV.trans (GV.wk 11 2) (GV.drop [0, 4, 5, 11, 12])), _, 0, [], Nat.zero_le _, rfl, Nat.zero_le _, List.Pairwise.nil, fun h => absurd h (Nat.lt_irrefl 0), rfl, rfl⟩ ?_
    rintro m env s ⟨i, a, hi, rfl, ha, hinc, hpos, rfl, rfl⟩
    refine V.of (kt := kt5) tabOK mixed (by kernel_rfl) ?_
    conv => whnf
    refine bcase_intro (fun h => ?_) (fun h => ?_) <;> conv => whnf
    · have h := lt_of h
      rw [hlen] at h
      obtain ⟨x, hx, hdrop⟩ := at_i h
      refine ⟨rowB x, ⟨by omega, row_i hx⟩, ?_⟩
      conv => whnf
      refine .inl (.inl ⟨[.d (.list 2 (rowsB a)), .d (.int .i64 x.1)], _, ⟨.refl _, rfl, of_ a (by omega) x.1⟩, ?_⟩)
      conv => whnf
      refine ⟨rowB x, ⟨by omega, row_i hx⟩, ?_⟩
      conv => whnf
      refine .inl (.inr ⟨[.d (.list 2 (rowsB a)), bidv x], _, ⟨WkL.refl _, rfl, put a (by omega) x⟩, ?_⟩)
      conv => whnf
      have hpn : ((putB a x).2 == (ofB a x.1).2) = false := by rw [putB_snd]; simp
      rw [hpn]
      conv => whnf
      rw [succ_i h (by omega)]
      have hlp := putB_len a x
      have hpp := putB_pos a x
      exact ⟨_, _, GV.trans (GV.gather [] rfl rfl rfl) (GV.drop [0, 4, 5, 11, 12]), _, by omega, i + 1, (putB a x).1, h, rfl, by omega, putB_inc hinc x, fun _ => hpp, rfl, rfl⟩
    have h := ge_of h
    rw [hlen] at h
    have hpos := hpos (by omega)
    have hla : (rowsB a).length = a.length := by simp [rowsB]
    refine V.rounds (fun m env s => ∃ (j : Nat), 0 < j ∧ j ≤ a.length ∧ m = a.length - j ∧ env = EnvL4 a j ∧ s = [])
      ⟨_, _, GV.drop [4, 5, 11, 17], _, 1, by omega, by omega, rfl, rfl, rfl⟩ ?_
    rintro m env s ⟨j, hj0, hj, rfl, rfl, rfl⟩
    refine V.of (kt := kt5) tabOK mixed (by kernel_rfl) ?_
    conv => whnf
    refine bcase_intro (fun h => ?_) (fun h => ?_) <;> conv => whnf
    · have h := lt_of h
      rw [hla] at h
      have hw : IntKind.i64.wrap ((j : Int) - 1) = ((j - 1 : Nat) : Int) := by
        rw [wrap_id (by omega) (by omega)]; omega
      rw [hw]
      obtain ⟨x, hx⟩ := list_has a (j - 1) (by omega)
      obtain ⟨y, hy⟩ := list_has a j h
      refine ⟨rowB x, ⟨by omega, row_i hx⟩, ?_⟩
      conv => whnf
      refine ⟨rowB y, ⟨by omega, row_i hy⟩, ?_⟩
      conv => whnf
      have hxy : x.1 < y.1 := by
        obtain ⟨q1, q2⟩ := List.getElem?_eq_some_iff.1 hx
        obtain ⟨q3, q4⟩ := List.getElem?_eq_some_iff.1 hy
        have := List.pairwise_iff_getElem.1 hinc (j - 1) j q1 q3 (by omega)
        rwa [q2, q4] at this
      rw [decide_eq_false (show ¬ x.1 ≥ y.1 by omega)]
      conv => whnf
      rw [succ_i h (by omega)]
      exact ⟨_, _, GV.drop [4, 5, 11, 17], _, by omega, j + 1, by omega, h, rfl, rfl, rfl⟩
    · refine ⟨rd_bool ?_, rfl⟩
      rw [decide_eq_true (show ((rowsB a).length : Int) > 0 by omega)]
      rfl
end Go.Proofs.Ytpfmnccocmgfmaa
