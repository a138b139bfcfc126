/- Seat r2: sets of ints. -/
import Derived.Test.YtkenimmellonjaaFn
import Derived.Test.YtkenimmellonjaaFrD
namespace Go.Proofs.Ytkenimmellonjaa
open Go.Pv Go.RowKit

theorem clone_nil : Contract Try.prog G0 67 [.d (.list 1 [])] [] (fun r t => (r = .d .nil ∨ r = .d .emp) ∧ t = []) := by
  refine con67 0 rfl rfl ?_
  conv => whnf
  refine ⟨?_, ?_⟩ <;> conv => whnf
  · exact ⟨.inl rfl, rfl⟩
  · refine ⟨⟨by decide, by decide⟩, ?_⟩
    conv => whnf
    exact ⟨.inr rfl, rfl⟩
theorem clone_cons (r0 : List DV) (rs : List (List DV)) (hl : rs.length ≤ 100000) : Contract Try.prog G0 67 [.d (.list 1 (r0 :: rs))] [] (fun r t => ∃ c, rs.length + 1 ≤ c ∧ r = .slc (.g 0) 1 0 (rs.length + 1) c ∧ t = [(0, .row 1 (r0 :: rs))]) := by
  refine con67 0 rfl rfl ?_
  conv => whnf
  refine ⟨⟨?_, ?_⟩, ?_⟩
  · show (2 * (rs.length + 1) + 1024) * 8 ≤ 281474976710656; omega
  · show rs.length + 1 ≤ _; omega
  conv => whnf
  intro c hc
  conv => whnf
  exact ⟨c, hc, rfl, rfl⟩
theorem index (l : List Int) (hl : l.length ≤ 4611686018427387904) (x : Int) : Contract Try.prog G0 70 [.d (.list 1 (rowsI l)), .d (.int .i64 x)] [] (fun r t => r = .d (.int .i64 (idxFrom (fun y => x == y) l 0)) ∧ t = []) := by
  have hlen := rowsI_len l
  refine con70 0 rfl rfl ?_
  conv => whnf
  refine V.rounds (fun m env s => ∃ i : Nat, i ≤ l.length ∧ m = l.length - i ∧ idxFrom (fun y => x == y) (l.drop i) i = idxFrom (fun y => x == y) l 0 ∧
    env = [(0, .d (.list 1 (rowsI l))), (1, .d (.int .i64 x)), (4, .d (.int .i64 0)), (5, .undef), (7, .d (.int .i64 ((rowsI l).length : Int))), (8, .d (.int .i64 (i : Int))), (9, .undef), (16, .undef)] ∧ s = [])
    ⟨_, _, GV.drop [0, 1, 4, 7, 8], _, 0, Nat.zero_le _, rfl, rfl, rfl, rfl⟩ ?_
  rintro m env s ⟨i, hi, rfl, hidx, rfl, rfl⟩
  refine V.of (kt := kt70) tabOK mixed (by kernel_rfl) ?_
  conv => whnf
  refine bcase_intro (fun h => ?_) (fun h => ?_) <;> conv => whnf
  · have h := lt_of h
    rw [hlen] at h
    obtain ⟨y, hy, hdrop⟩ := at_i h
    refine ⟨rowI y, ⟨by omega, row_i hy⟩, ?_⟩
    conv => whnf
    rw [hdrop, idxFrom] at hidx
    refine bcase_intro (fun h2 => ?_) (fun h2 => ?_) <;> conv => whnf
    · rw [if_pos h2] at hidx
      exact ⟨rd_int hidx, rfl⟩
    · refine ⟨_, _, GV.drop [0, 1, 4, 7, 8], _, by omega, i + 1, h, rfl, ?_, ?_, rfl⟩
      · rw [if_neg (by simp [h2])] at hidx
        exact hidx
      · rw [← succ_i h hl]; rfl
  · have h := ge_of h
    rw [hlen] at h
    rw [List.drop_eq_nil_of_le h, idxFrom] at hidx
    exact ⟨rd_int hidx, rfl⟩
theorem contains (l : List Int) (hl : l.length ≤ 4611686018427387904) (x : Int) : Contract Try.prog G0 72 [.d (.list 1 (rowsI l)), .d (.int .i64 x)] [] (fun r t => r = .d (.bool (l.any fun y => x == y)) ∧ t = []) := by
  refine con72 0 rfl rfl ?_
  conv => whnf
  refine .inl (.inl ⟨[.d (.list 1 (rowsI l)), .d (.int .i64 x)], _, ⟨.refl _, rfl, index l hl x⟩, ?_⟩)
  conv => whnf
  exact ⟨rd_bool (idx_any _ _), rfl⟩
theorem has (l : List Int) (hl : l.length ≤ 4611686018427387904) (x : Int) : Contract Try.prog G0 23 [.d (.list 1 (rowsI l)), .d (.int .i64 x)] [] (fun r t => r = .d (.bool (l.any fun y => x == y)) ∧ t = []) := by
  refine con23 0 rfl rfl ?_
  conv => whnf
  refine .inl (.inl ⟨[.d (.list 1 (rowsI l)), .d (.int .i64 x)], _, ⟨.refl _, rfl, contains l hl x⟩, ?_⟩)
  conv => whnf
  exact ⟨rfl, rfl⟩
theorem among (l : List Int) (hl : l.length ≤ 4611686018427387904) (x : Int) : Contract Try.prog G0 21 [.d (.list 1 (rowsI l)), .d (.int .i64 x)] [] (fun r t => r = .d (.bool (l.any fun y => y == x)) ∧ t = []) := by
  have hlen := rowsI_len l
  refine con21 0 rfl rfl ?_
  conv => whnf
  refine V.rounds (fun m env s => ∃ i : Nat, i ≤ l.length ∧ m = l.length - i ∧ (l.drop i).any (fun y => y == x) = l.any (fun y => y == x) ∧
    env = [(0, .d (.list 1 (rowsI l))), (1, .d (.int .i64 x)), (4, .d (.bool false)), (5, .d (.int .i64 (i : Int))), (9, .undef), (17, .undef)] ∧ s = [])
    ⟨_, _, GV.drop [0, 1, 4, 5], _, 0, Nat.zero_le _, rfl, rfl, rfl, rfl⟩ ?_
  rintro m env s ⟨i, hi, rfl, hidx, rfl, rfl⟩
  refine V.of (kt := kt21) tabOK mixed (by kernel_rfl) ?_
  conv => whnf
  refine bcase_intro (fun h => ?_) (fun h => ?_) <;> conv => whnf
  · have h := lt_of h
    rw [hlen] at h
    obtain ⟨y, hy, hdrop⟩ := at_i h
    refine ⟨rowI y, ⟨by omega, row_i hy⟩, ?_⟩
    conv => whnf
    rw [hdrop, List.any_cons] at hidx
    refine bcase_intro (fun h2 => ?_) (fun h2 => ?_) <;> conv => whnf
    · rw [h2, Bool.true_or] at hidx
      exact ⟨rd_bool hidx, rfl⟩
    · refine ⟨_, _, GV.drop [0, 1, 4, 5], _, by omega, i + 1, h, rfl, ?_, ?_, rfl⟩
      · rw [h2, Bool.false_or] at hidx
        exact hidx
      · rw [← succ_i h hl]; rfl
  · have h := ge_of h
    rw [hlen] at h
    rw [List.drop_eq_nil_of_le h] at hidx
    exact ⟨rd_bool hidx, rfl⟩
theorem number (n : Int) (m : Nat) (hm : 0 < m) (hm2 : m ≤ 4611686018427387904) : Contract Try.prog G0 24 [.d (.int .i64 n), .d (.int .i64 (m : Int))] [] (fun r t => r = .d (.int .i64 (numB n m : Int)) ∧ t = []) := by
  refine con24 0 rfl rfl ?_
  conv => whnf
  refine ⟨⟨rfl, by omega⟩, ?_⟩
  conv => whnf
  refine bcase_intro (fun h => ?_) (fun h => ?_) <;> conv => whnf
  · have h := of_decide_eq_true h
    have h1 := Int.lt_tmod_of_pos n (show (0 : Int) < (m : Int) by omega)
    refine ⟨?_, rfl⟩
    rw [wrap_id (by omega) (by omega)]
    refine rd_int ?_
    unfold numB
    rw [if_pos h]
    omega
  · have h := of_decide_eq_false h
    refine ⟨rd_int ?_, rfl⟩
    unfold numB
    rw [if_neg h]
    omega
theorem next (l : List Int) (hl : l.length ≤ 1000000) (x : Int) : Contract Try.prog G0 20 [.d (.list 1 (rowsI l)), .d (.int .i64 x)] []
    (fun r t => r = .tup [.d (.int .i64 (match idxFrom (fun y => x == y) l 0 with | .ofNat k => (l[(k + 1) % l.length]?).getD 0 | .negSucc _ => 0)), .d (.bool (l.any fun y => x == y))] ∧ t = []) := by
  have hlen := rowsI_len l
  refine con20 0 rfl rfl ?_
  conv => whnf
  refine .inl (.inl ⟨[.d (.list 1 (rowsI l)), .d (.int .i64 x)], _, ⟨.refl _, rfl, index l (by omega) x⟩, ?_⟩)
  conv => whnf
  rw [← idx_any]
  rcases idx_cases0 (fun y => x == y) l with ⟨h1, h2⟩ | ⟨k, y, h1, h2, h3⟩ <;> rw [h1]
  · conv => whnf
    exact ⟨rfl, rfl⟩
  · rw [decide_eq_false (show ¬ (k : Int) < 0 by omega)]
    conv => whnf
    have hk := (List.getElem?_eq_some_iff.1 h2).1
    refine ⟨⟨rfl, by rw [hlen]; omega⟩, ?_⟩
    conv => whnf
    have hw : Int.tmod (IntKind.i64.wrap ((k : Int) + 1)) ((rowsI l).length : Int) = (((k + 1) % l.length : Nat) : Int) := by
      rw [wrap_id (by omega) (by omega), hlen, Int.tmod_eq_emod_of_nonneg (by omega)]
      simp
    rw [hw]
    obtain ⟨z, hz⟩ := list_has l ((k + 1) % l.length) (Nat.mod_lt _ (by omega))
    refine ⟨rowI z, ⟨by omega, row_i hz⟩, ?_⟩
    conv => whnf
    refine ⟨?_, rfl⟩
    rw [show ((k : Nat) : Int) = Int.ofNat k from rfl]
    simp only [hz]
    rfl
end Go.Proofs.Ytkenimmellonjaa
