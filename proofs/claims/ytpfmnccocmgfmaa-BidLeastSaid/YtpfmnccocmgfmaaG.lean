/- The other law's bids: Least, Find, Full, SameBids, Bids, Put. -/
import Derived.Test.YtpfmnccocmgfmaaF
namespace Go.Proofs.Ytpfmnccocmgfmaa
open Go.Pv Go.RowKit

theorem idxFrom_add {α : Type} (p : α → Bool) : ∀ (l : List α) (i : Nat), idxFrom p l i = -1 ∨ ∃ k : Nat, idxFrom p l i = (k : Int)
  | [], i => .inl rfl
  | x :: r, i => by
    simp only [idxFrom]
    split
    · exact .inr ⟨i, rfl⟩
    · exact idxFrom_add p r (i + 1)
theorem find25 (l : List B) (hl : l.length ≤ 4611686018427387904) (car : Int) : Contract Try.prog G0 25 [.d (.list 2 (rowsB l)), .d (.int .i64 car)] [] (fun r t => r = .d (.int .i64 (idxFrom (fun b => b.1 == car) l 0)) ∧ t = []) := by
  have hlen : (rowsB l).length = l.length := by simp [rowsB]
  refine con25 0 rfl rfl ?_
  conv => whnf
  refine V.rounds (fun m env s => ∃ i : Nat, i ≤ l.length ∧ m = l.length - i ∧ idxFrom (fun b : B => b.1 == car) (l.drop i) i = idxFrom (fun b : B => b.1 == car) l 0 ∧
    env = [(0, .d (.list 2 (rowsB l))), (1, .d (.int .i64 car)), (4, .d (.int .i64 0)), (5, .d (.int .i64 (i : Int))), (9, .undef), (18, .undef)] ∧ s = [])
    ⟨_, _, GV.drop [0, 1, 4, 5], _, 0, Nat.zero_le _, rfl, rfl, rfl, rfl⟩ ?_
  rintro m env s ⟨i, hi, rfl, hidx, rfl, rfl⟩
  refine V.of (kt := kt25) tabOK mixed (by kernel_rfl) ?_
  conv => whnf
  refine bcase_intro (fun h => ?_) (fun h => ?_) <;> conv => whnf
  · have h := lt_of h
    rw [hlen] at h
    obtain ⟨x, hx, hdrop⟩ := at_i h
    refine ⟨rowB x, ⟨by omega, row_i hx⟩, ?_⟩
    conv => whnf
    rw [hdrop, idxFrom] at hidx
    refine bcase_intro (fun h2 => ?_) (fun h2 => ?_) <;> conv => whnf
    · rw [if_pos h2] at hidx
      exact ⟨rd_int hidx, rfl⟩
    · refine ⟨_, _, GV.drop [0, 1, 4, 5], _, by omega, i + 1, h, rfl, ?_, ?_, rfl⟩
      · rw [if_neg (by simp [h2])] at hidx
        exact hidx
      · rw [← succ_i h hl]; rfl
  · have h := ge_of h
    rw [hlen] at h
    rw [List.drop_eq_nil_of_le h, idxFrom] at hidx
    exact ⟨rd_int hidx, rfl⟩
theorem full29 (ms : List Int) (hm : ms.length ≤ 4611686018427387904) (l : List B) (hl : l.length ≤ 4611686018427387904) : Contract Try.prog G0 29 [.d (.list 1 (rowsI ms)), .d (.list 2 (rowsB l))] [] (fun r t => r = .d (.bool (fullB ms l)) ∧ t = []) := by
  have hlen : (rowsI ms).length = ms.length := by simp [rowsI]
  refine con29 0 rfl rfl ?_
  conv => whnf
  refine V.rounds (fun m env s => ∃ i : Nat, i ≤ ms.length ∧ m = ms.length - i ∧ fullB (ms.drop i) l = fullB ms l ∧
    env = [(0, .d (.list 1 (rowsI ms))), (1, .d (.list 2 (rowsB l))), (4, .d (.bool false)), (5, .d (.int .i64 (i : Int))), (9, .undef), (18, .undef)] ∧ s = [])
    ⟨_, _, GV.drop [0, 1, 4, 5], _, 0, Nat.zero_le _, rfl, rfl, rfl, rfl⟩ ?_
  rintro m env s ⟨i, hi, rfl, hidx, rfl, rfl⟩
  refine V.of (kt := kt29) tabOK mixed (by kernel_rfl) ?_
  conv => whnf
  refine bcase_intro (fun h => ?_) (fun h => ?_) <;> conv => whnf
  · have h := lt_of h
    rw [hlen] at h
    obtain ⟨x, hx, hdrop⟩ := at_i h
    refine ⟨rowI x, ⟨by omega, row_i hx⟩, ?_⟩
    conv => whnf
    refine .inl (.inl ⟨[.d (.list 2 (rowsB l)), .d (.int .i64 x)], _, ⟨.refl _, rfl, find25 l hl x⟩, ?_⟩)
    conv => whnf
    have ha : (l.any fun b => b.1 == x) = decide (idxFrom (fun b : B => b.1 == x) l 0 ≥ 0) := (idx_any _ _).symm
    refine bcase_intro (fun h2 => ?_) (fun h2 => ?_) <;> conv => whnf
    · refine ⟨rd_bool ?_, rfl⟩
      rw [← hidx, hdrop, fullB, List.any_cons, ha]
      have h3 := of_decide_eq_true h2
      rw [decide_eq_false (by omega)]
      rfl
    · refine ⟨_, _, GV.drop [0, 1, 4, 5], _, by omega, i + 1, h, rfl, ?_, ?_, rfl⟩
      · rw [← hidx, hdrop]
        simp only [fullB, List.any_cons, ha]
        have h3 := of_decide_eq_false h2
        rw [decide_eq_true (by omega)]
        rfl
      · rw [← succ_i h hm]; rfl
  · have h := ge_of h
    rw [hlen] at h
    rw [List.drop_eq_nil_of_le h] at hidx
    exact ⟨rd_bool hidx, rfl⟩
/-- Are they the same, one by one? -/
def sameL (a b : List B) : Bool := a == b
theorem same_iff {a b : B} : sameB a b = true ↔ a = b := by
  obtain ⟨a1, a2⟩ := a; obtain ⟨b1, b2⟩ := b; simp [sameB]
theorem same27 (a b : List B) (ha : a.length ≤ 4611686018427387904) (hab : a.length = b.length) : Contract Try.prog G0 27 [.d (.list 2 (rowsB a)), .d (.list 2 (rowsB b))] [] (fun r t => r = .d (.bool (sameL a b)) ∧ t = []) := by
  have hlen : (rowsB a).length = a.length := by simp [rowsB]
  have hlen2 : (rowsB b).length = b.length := by simp [rowsB]
  refine con27 0 rfl rfl ?_
  conv => whnf
  refine bcase_intro (fun h => ?_) (fun h => ?_) <;> conv => whnf
  · rw [hlen, hlen2, hab] at h
    simp at h
  refine V.rounds (fun m env s => ∃ i : Nat, i ≤ a.length ∧ m = a.length - i ∧ a.take i = b.take i ∧
    env = [(0, .d (.list 2 (rowsB a))), (1, .d (.list 2 (rowsB b))), (4, .d (.bool false)), (5, .d (.int .i64 (i : Int))), (6, .undef), (11, .undef), (15, .undef), (28, .undef)] ∧ s = [])
    ⟨_, _, GV.drop [0, 1, 4, 5], _, 0, Nat.zero_le _, rfl, rfl, rfl, rfl⟩ ?_
  rintro m env s ⟨i, hi, rfl, heq, rfl, rfl⟩
  refine V.of (kt := kt27) tabOK mixed (by kernel_rfl) ?_
  conv => whnf
  refine bcase_intro (fun h => ?_) (fun h => ?_) <;> conv => whnf
  · have h := lt_of h
    rw [hlen] at h
    obtain ⟨x, hx, hdrop⟩ := at_i h
    obtain ⟨y, hy, hdrop2⟩ := at_i (l := b) (i := i) (by omega)
    refine ⟨rowB x, ⟨by omega, row_i hx⟩, ?_⟩
    conv => whnf
    refine ⟨rowB y, ⟨by omega, row_i hy⟩, ?_⟩
    conv => whnf
    refine .inl (.inl ⟨[bidv x, bidv y], _, ⟨.refl _, rfl, same x y⟩, ?_⟩)
    conv => whnf
    refine bcase_intro (fun h2 => ?_) (fun h2 => ?_) <;> conv => whnf
    · refine ⟨rd_bool ?_, rfl⟩
      symm
      unfold sameL
      rw [beq_eq_false_iff_ne]
      intro e
      subst e
      rw [hx] at hy
      cases hy
      simp [same_iff.2] at h2
    · refine ⟨_, _, GV.drop [0, 1, 4, 5], _, by omega, i + 1, h, rfl, ?_, ?_, rfl⟩
      · simp only [Bool.not_eq_false'] at h2
        rw [List.take_add_one, List.take_add_one, heq, hx, hy, same_iff.1 h2]
      · rw [← succ_i h ha]; rfl
  · have h := ge_of h
    rw [hlen] at h
    refine ⟨rd_bool ?_, rfl⟩
    rw [List.take_of_length_le h, List.take_of_length_le (by omega)] at heq
    symm
    simp [sameL, heq]
theorem bids (l : List B) (hl : l.length ≤ 10000) : Contract Try.prog G0 36 [.d (.list 2 (rowsB l))] [] (fun r t => ∃ c, l.length ≤ c ∧ r = .slc (.g 0) 2 0 l.length c ∧ t = [(0, .row 2 (rowsB l))]) := by
  have hlen : (rowsB l).length = l.length := by simp [rowsB]
  refine conG36 0 rfl rfl ?_
  conv => whnf
  refine ⟨0, l.length, ⟨rfl, by rw [hlen], Nat.zero_le _, by show l.length * 16 ≤ _; omega, by omega⟩, ?_⟩
  conv => whnf
  refine V.rounds (fun m env s => ∃ i c : Nat, i ≤ l.length ∧ m = l.length - i ∧ i ≤ c ∧
    env = [(0, .d (.list 2 (rowsB l))), (2, .d .nil), (3, .slc (.g 0) 2 0 i c), (4, .d (.int .i64 (i : Int))), (11, .undef)] ∧ s = [(0, .row 2 (rowsB (l.take i)))])
    ⟨_, _, GV.drop [0, 2, 3, 4], _, 0, l.length, Nat.zero_le _, rfl, Nat.zero_le _, rfl, rfl⟩ ?_
  rintro m env s ⟨i, c, hi, rfl, hic, rfl, rfl⟩
  refine V.of (kt := kt36) tabOK mixed (by kernel_rfl) ?_
  conv => whnf
  refine bcase_intro (fun h => ?_) (fun h => ?_) <;> conv => whnf
  · have h := lt_of h
    rw [hlen] at h
    obtain ⟨x, hx, hdrop⟩ := at_i h
    refine ⟨rowB x, ⟨by omega, row_i hx⟩, ?_⟩
    conv => whnf
    refine ⟨by simp [rowsB]; omega, ⟨?_, ?_⟩, ?_⟩
    · show (2 * (i + 1) + 1024) * 16 ≤ 281474976710656; omega
    · show i + 1 ≤ _; omega
    conv => whnf
    intro c2 hc2
    conv => whnf
    refine ⟨_, _, GV.trans (GV.gather [1] rfl rfl rfl) (GV.drop [0, 2, 3, 4]), _, by omega, i + 1, c2, h, rfl, hc2, ?_, ?_⟩
    · rw [← succ_i h (by omega)]; rfl
    · refine congrArg (fun q => [(0, AB.row 2 q)]) ?_
      rw [List.take_of_length_le (by simp [rowsB]; omega), List.take_add_one, hx]
      simp [rowsB, rowB]
  · have h := ge_of h
    rw [hlen] at h
    have : i = l.length := by omega
    subst this
    refine ⟨_, _, .refl, ?_⟩
    conv => whnf
    refine ⟨c, hic, rfl, ?_⟩
    rw [List.take_of_length_le (Nat.le_refl _)]
/-- Where a bid goes: behind those of a car that is not above its own. -/
def upTo (b : B) : List B → Nat
  | [] => 0
  | x :: r => if x.1 ≤ b.1 then upTo b r + 1 else 0
theorem upTo_le (b : B) : ∀ l : List B, upTo b l ≤ l.length
  | [] => Nat.le_refl _
  | x :: r => by
    have := upTo_le b r
    simp only [upTo, List.length_cons]
    split <;> omega
theorem upTo_idx (b : B) : ∀ (l : List B) (i : Nat), (idxFrom (fun x : B => decide (x.1 > b.1)) l i = -1 ∧ upTo b l = l.length) ∨ idxFrom (fun x : B => decide (x.1 > b.1)) l i = ((i + upTo b l : Nat) : Int)
  | [], i => .inl ⟨rfl, rfl⟩
  | x :: r, i => by
    simp only [idxFrom, upTo, decide_eq_true_eq]
    by_cases h : x.1 > b.1
    · rw [if_pos h, if_neg (by omega)]; exact .inr rfl
    · rw [if_neg h, if_pos (by omega)]
      rcases upTo_idx b r (i + 1) with ⟨h1, h2⟩ | h1
      · exact .inl ⟨h1, by simp [h2]⟩
      · refine .inr ?_
        rw [show ((i : Int) + 1) = ((i + 1 : Nat) : Int) from rfl, h1]
        congr 1
        omega
theorem insB_upTo (l : List B) (b : B) : insB l b = l.take (upTo b l) ++ b :: l.drop (upTo b l) := by
  unfold insB
  rcases upTo_idx b l 0 with ⟨h1, h2⟩ | h1
  · rw [show ((0 : Nat) : Int) = 0 from rfl] at h1
    rw [h1, h2, List.take_length, List.drop_length]
    rfl
  · rw [show ((0 : Nat) : Int) = 0 from rfl, Nat.zero_add] at h1
    rw [h1]
theorem put24 (l : List B) (hl : l.length ≤ 10000) (b : B) : Contract Try.prog G0 24 [.d (.list 2 (rowsB l)), bidv b] [] (fun r t => r = .tup [.d (.list 2 (rowsB (putB l b).1)), .d (.bool (putB l b).2)] ∧ t = []) := by
  have hlen : (rowsB l).length = l.length := by simp [rowsB]
  refine conG24 0 rfl rfl ?_
  conv => whnf
  refine .inl (.inl ⟨[.d (.list 2 (rowsB l)), .d (.int .i64 b.1)], _, ⟨.refl _, rfl, find25 l (by omega) b.1⟩, ?_⟩)
  conv => whnf
  refine bcase_intro (fun h => ?_) (fun h => ?_)
  · obtain ⟨k, x, h1, h2, h3⟩ := idx_ge h
    conv => whnf
    refine .inr (.inl ⟨_, _, ⟨WkL.refl _, bids l hl⟩, fun res s1 h => ?_⟩)
    obtain ⟨c, hc, rfl, rfl⟩ := h
    conv => whnf
    refine ⟨_, _, GV.freeze 1 rfl (by simp) (by repeat' first | exact trivial | apply And.intro | decide | (simp; done) | (simp; omega)) (by repeat' first | exact trivial | apply And.intro), ?_⟩
    conv => whnf
    have hp : putB l b = (l, false) := by simp only [putB, h3]
    rw [hp]
    refine ⟨?_, rfl⟩
    refine congrArg (fun q => AV.tup [AV.d (.list 2 q), AV.d (.bool false)]) ?_
    rw [List.drop_zero, List.take_of_length_le (by simp [rowsB])]
  · obtain ⟨h1, h2⟩ := idx_lt h
    conv => whnf
    refine V.rounds (fun m env s => ∃ i : Nat, i ≤ l.length ∧ m = l.length - i ∧ i + upTo b (l.drop i) = upTo b l ∧
      env = [(0, .d (.list 2 (rowsB l))), (1, bidv b), (3, .ref (.g 0) 0), (4, .d .nil), (5, .d (.bool false)), (6, .d (.int .i64 (i : Int))), (7, .undef), (12, .undef), (28, .undef)] ∧ s = [(0, .cells [.d (.int .i64 b.1), .d (.int .i64 b.2)])])
      ⟨_, _, GV.drop [0, 1, 3, 4, 5, 6], _, 0, Nat.zero_le _, rfl, by simp, ?_, ?_⟩ ?_
    · rfl
    · rfl
    rintro m env s ⟨i, hi, rfl, hidx, rfl, rfl⟩
    refine V.of (kt := kt24) tabOK mixed (by kernel_rfl) ?_
    conv => whnf
    obtain ⟨x, hx⟩ : ∃ x : B, x = (l[i]?).getD (0, 0) := ⟨_, rfl⟩
    have hx2 : i < l.length → l[i]? = .some x := fun h => by rw [hx, List.getElem?_eq_getElem h]; rfl
    refine ⟨rowB x, fun hg => ?_, ?_⟩
    · have hg : decide ((i : Int) < ((rowsB l).length : Int)) = true := by simpa [HG, lit, rfind] using hg
      exact ⟨by omega, row_i (hx2 (by have := of_decide_eq_true hg; omega))⟩
    conv => whnf
    refine bcase_intro (fun h3 => ?_) (fun h3 => ?_) <;> conv => whnf
    · simp only [bif_and, Bool.and_eq_true, decide_eq_true_eq, hlen] at h3
      obtain ⟨h3, h4⟩ := h3
      have hlt : i < l.length := by omega
      obtain ⟨y, hy, hdrop⟩ := at_i hlt
      rw [hx2 hlt] at hy
      cases hy
      rw [hdrop, upTo, if_pos h4] at hidx
      refine ⟨_, _, GV.drop [0, 1, 3, 4, 5, 6], _, by omega, i + 1, hlt, rfl, by omega, ?_, rfl⟩
      rw [← succ_i hlt (by omega)]; rfl
    · have hiu : i = upTo b l := by
        rcases Nat.lt_or_ge i l.length with hlt | hge
        · obtain ⟨y, hy, hdrop⟩ := at_i hlt
          rw [hx2 hlt] at hy
          cases hy
          simp only [bif_and, hlen, decide_eq_true (show (i : Int) < (l.length : Int) by omega), Bool.true_and, decide_eq_false_iff_not] at h3
          rw [hdrop, upTo, if_neg h3] at hidx
          omega
        · rw [List.drop_eq_nil_of_le hge, upTo] at hidx
          omega
      subst hiu
      refine V.drawS tabOK mixed sp24_6 (by kernel_rfl) (by kernel_rfl) (fun env s => ∃ c, upTo b l + 1 ≤ c ∧ env = [(0, .d (.list 2 (rowsB l))), (1, .undef), (3, .undef), (4, .d .nil), (5, .d (.bool false)), (6, .d (.int .i64 (upTo b l : Int))), (7, .slc (.g 0) 2 0 (upTo b l + 1) c), (12, .undef), (28, .undef)] ∧ s = [(0, .row 2 (rowsB (l.take (upTo b l) ++ [b])))]) ?_ ?_
      · conv => whnf
        have hb := bids (l.take (upTo b l)) (by rw [List.length_take]; omega)
        rw [List.length_take, Nat.min_eq_left hi] at hb
        have hrow : rowsB (l.take (upTo b l)) = ((rowsB l).drop 0).take (upTo b l) := by simp [rowsB, List.map_take]
        rw [hrow] at hb
        repeat' first
          | (refine Both.mk ?_ ?_ <;> conv => whnf)
          | (refine ⟨⟨by omega, by omega, by omega⟩, ?_⟩; conv => whnf)
          | (refine .inr (.inl ⟨_, _, ⟨WkL.refl _, hb⟩, fun res s1 h => ?_⟩); obtain ⟨c, hc, rfl, rfl⟩ := h; conv => whnf)
          | (refine ⟨by simp [rowsB]; omega, ⟨by show (2 * (upTo b l + 1) + 1024) * 16 ≤ 281474976710656; omega, by show upTo b l + 1 ≤ _; omega⟩, ?_⟩; (conv => whnf); intro c2 hc2; (conv => whnf))
          | exact ⟨_, _, GV.trans (GV.gather [2] rfl rfl rfl) (GV.drop [0, 4, 5, 6, 7]), _, by assumption, rfl, congrArg (fun q => [(0, AB.row 2 q)]) (by rw [List.take_of_length_le (by simp [rowsB]; omega), ← hrow]; simp [rowsB, rowB])⟩
      · rintro env s ⟨c, hc, rfl, rfl⟩
        conv => whnf
        refine ⟨⟨by omega, by omega, by omega⟩, ?_⟩
        conv => whnf
        have hd : List.drop ((upTo b l : Int)).toNat (List.take (((rowsB l).length : Int)).toNat (rowsB l)) = rowsB (l.drop (upTo b l)) := by
          rw [Int.toNat_natCast, Int.toNat_natCast, List.take_length]
          simp [rowsB, List.map_drop]
        have hdl : (rowsB (l.drop (upTo b l))).length = l.length - upTo b l := by simp [rowsB]
        rw [hd]
        refine ⟨by simp [rowsB]; omega, ⟨?_, ?_⟩, ?_⟩
        · show (2 * (upTo b l + 1 + (rowsB (l.drop (upTo b l))).length) + 1024) * 16 ≤ 281474976710656
          rw [hdl]; omega
        · show upTo b l + 1 + (rowsB (l.drop (upTo b l))).length ≤ _
          rw [hdl]; omega
        conv => whnf
        intro c2 hc2
        conv => whnf
        refine ⟨_, _, GV.freeze 1 rfl (by simp) (by repeat' first | exact trivial | apply And.intro | decide | (simp; done) | (simp [rowsB]; omega)) (by repeat' first | exact trivial | apply And.intro), ?_⟩
        conv => whnf
        have hp : putB l b = (l.take (upTo b l) ++ b :: l.drop (upTo b l), true) := by
          simp only [putB, h2, insB_upTo]
        rw [hp]
        refine ⟨?_, rfl⟩
        refine congrArg (fun q => AV.tup [AV.d (.list 2 q), AV.d (.bool true)]) ?_
        rw [List.drop_zero, List.take_of_length_le (by simp [rowsB]; omega), List.take_of_length_le (by simp [rowsB]; omega)]
        simp [rowsB]
end Go.Proofs.Ytpfmnccocmgfmaa
