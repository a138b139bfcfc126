/- Seat r2: the reference's sets. -/
import Derived.Test.YtkenimmellonjaaG
import Derived.Test.YtkenimmellonjaaRn
namespace Go.Proofs.Ytkenimmellonjaa
open Go.Pv Go.RowKit Go.Shelf

theorem sameInts34 (a b : List Int) (ha : a.length ≤ 4611686018427387904) : Contract Try.prog G0 34 [.d (.list 1 (rowsI a)), .d (.list 1 (rowsI b))] [] (fun r t => r = .d (.bool (a == b)) ∧ t = []) := by
  have hlen := rowsI_len a
  have hlen2 := rowsI_len b
  refine run34 0 [] rfl rfl ?_
  conv => whnf
  refine bcase_intro (fun h => ?_) (fun h => ?_) <;> conv => whnf
  · rw [hlen, hlen2] at h
    refine ⟨rd_bool ?_, rfl⟩
    symm
    rw [beq_eq_false_iff_ne]
    rintro rfl
    simp at h
  have hab : a.length = b.length := by
    rw [hlen, hlen2] at h
    simp at h
    omega
  refine StopG.rounds wk34 [] [0, 1, 5] (fun m env s => ∃ i : Nat, i ≤ a.length ∧ m = a.length - i ∧ a.take i = b.take i ∧
    env = [(0, .d (.list 1 (rowsI a))), (1, .d (.list 1 (rowsI b))), (5, .d (.int .i64 (i : Int)))] ∧ s = []) rfl ?_ ?_
  · conv => whnf
    exact ⟨_, 0, Nat.zero_le _, rfl, rfl, rfl, rfl⟩
  rintro m env s ⟨i, hi, rfl, heq, rfl, rfl⟩
  conv => whnf
  refine bcase_intro (fun h => ?_) (fun h => ?_) <;> conv => whnf
  · have h := lt_of h
    rw [hlen] at h
    obtain ⟨x, hx, hdrop⟩ := at_i h
    obtain ⟨y, hy, hdrop2⟩ := at_i (l := b) (i := i) (by omega)
    refine ⟨rowI x, ⟨by omega, row_i hx⟩, ?_⟩
    conv => whnf
    refine ⟨rowI y, ⟨by omega, row_i hy⟩, ?_⟩
    conv => whnf
    refine bcase_intro (fun h2 => ?_) (fun h2 => ?_) <;> conv => whnf
    · refine ⟨rd_bool ?_, rfl⟩
      symm
      rw [beq_eq_false_iff_ne]
      intro e
      subst e
      rw [hx] at hy
      cases hy
      simp at h2
    · rw [succ_i h ha]
      refine ⟨_, by omega, i + 1, h, rfl, ?_, rfl, rfl⟩
      have h2 : x = y := by simpa using h2
      rw [List.take_add_one, List.take_add_one, heq, hx, hy, h2]
  · have h := ge_of h
    rw [hlen] at h
    refine ⟨rd_bool ?_, rfl⟩
    rw [List.take_of_length_le h, List.take_of_length_le (by omega)] at heq
    symm
    simp [heq]

def ltN (l : List Int) (n : Int) : Nat := (l.takeWhile fun x => decide (x < n)).length
/-- Put in where it belongs. -/
def putI (l : List Int) (n : Int) : List Int := if l[ltN l n]? = some n then l else l.take (ltN l n) ++ n :: l.drop (ltN l n)
theorem ltN_le (l : List Int) (n : Int) : ltN l n ≤ l.length := (List.takeWhile_sublist _).length_le
theorem ltN_cons (x : Int) (l : List Int) (n : Int) : ltN (x :: l) n = if x < n then ltN l n + 1 else 0 := by
  unfold ltN
  rw [List.takeWhile_cons]
  split <;> simp_all
theorem put39 (l : List Int) (n : Int) (hl : l.length ≤ 100000) : Contract Try.prog G0 39 [.d (.list 1 (rowsI l)), .d (.int .i64 n)] [] (fun r t => r = .d (.list 1 (rowsI (putI l n))) ∧ t = []) := by
  have hlen := rowsI_len l
  refine rung39 0 [] rfl rfl ?_
  conv => whnf
  refine StopG.rounds wk39 [] [0, 1, 5] (fun m env s => ∃ i : Nat, i ≤ l.length ∧ m = l.length - i ∧ i + ltN (l.drop i) n = ltN l n ∧
    env = [(0, .d (.list 1 (rowsI l))), (1, .d (.int .i64 n)), (5, .d (.int .i64 (i : Int)))] ∧ s = []) rfl ?_ ?_
  · conv => whnf
    exact ⟨_, 0, Nat.zero_le _, rfl, by simp, rfl, rfl⟩
  rintro m env s ⟨i, hi, rfl, heq, rfl, rfl⟩
  conv => whnf
  obtain ⟨x, hx⟩ : ∃ y : Int, y = (l[i]?).getD 0 := ⟨_, rfl⟩
  have hx2 : i < l.length → l[i]? = .some x := fun h0 => by rw [hx, List.getElem?_eq_getElem h0]; rfl
  refine ⟨rowI x, fun hg => ?_, ?_⟩
  · have h0 := lt_of (show decide ((i : Int) < ((rowsI l).length : Int)) = true from hg)
    rw [hlen] at h0
    exact ⟨by omega, row_i (hx2 h0)⟩
  conv => whnf
  refine bcase_intro (fun h => ?_) (fun h => ?_) <;> conv => whnf
  · rw [bif_and, Bool.and_eq_true] at h
    obtain ⟨h, h2⟩ := h
    have h := lt_of h
    rw [hlen] at h
    have h2 := of_decide_eq_true h2
    obtain ⟨y, hy, hdrop⟩ := at_i h
    rw [hx2 h] at hy
    cases hy
    rw [hdrop, ltN_cons, if_pos h2] at heq
    rw [succ_i h (by omega)]
    exact ⟨_, by omega, i + 1, h, rfl, by omega, rfl, rfl⟩
  · have hk : i = ltN l n := by
      rcases Nat.lt_or_ge i l.length with h1 | h1
      · obtain ⟨y, hy, hdrop⟩ := at_i h1
        rw [hx2 h1] at hy
        cases hy
        rw [hdrop, ltN_cons] at heq
        have h2 : ¬ x < n := by
          intro h2
          rw [hlen, decide_eq_true (show (i : Int) < (l.length : Int) by omega), decide_eq_true h2] at h
          cases h
        rw [if_neg h2] at heq
        omega
      · rw [List.drop_eq_nil_of_le h1] at heq
        simpa [ltN] using heq
    clear heq h
    refine ⟨rowI x, fun hg => ?_, ?_⟩
    · have h0 := lt_of (show decide ((i : Int) < ((rowsI l).length : Int)) = true from hg)
      rw [hlen] at h0
      exact ⟨by omega, row_i (hx2 h0)⟩
    conv => whnf
    have hb : (bif decide ((i : Int) < ((rowsI l).length : Int)) then x == n else false) = decide (l[ltN l n]? = some n) := by
      rw [← hk, hlen]
      rcases Nat.lt_or_ge i l.length with h1 | h1
      · rw [decide_eq_true (show (i : Int) < (l.length : Int) by omega), hx2 h1]
        simp [Bool.beq_eq_decide_eq]
      · rw [decide_eq_false (show ¬ (i : Int) < (l.length : Int) by omega), List.getElem?_eq_none h1]
        rfl
    rw [hb]
    refine bcase_intro (fun h => ?_) (fun h => ?_) <;> conv => whnf
    · have h := of_decide_eq_true h
      refine .obj rfl ?_
      conv => whnf
      refine ⟨_, _, ⟨WkL.refl _, ints43 l (by omega)⟩, fun res s1 h => ?_⟩
      obtain ⟨c, hc, rfl, rfl⟩ := h
      conv => whnf
      refine ⟨_, _, GV.freeze 0 rfl (by simp) (by repeat' first | exact trivial | apply And.intro | decide | (simp; done) | omega) (by repeat' first | exact trivial | apply And.intro), ?_⟩
      conv => whnf
      refine ⟨?_, rfl⟩
      rw [List.drop_zero, List.take_of_length_le (by omega), putI, if_pos h]
    · have h := of_decide_eq_false h
      refine ⟨⟨by omega, by omega, by omega⟩, ?_⟩
      conv => whnf
      have e1 : List.drop (Int.toNat 0) (List.take ((i : Int)).toNat (rowsI l)) = rowsI (l.take i) := by simp [rowsI, List.map_take]
      have e2 : (l.take i).length = i := by rw [List.length_take]; omega
      rw [e1]
      refine .obj rfl ?_
      conv => whnf
      have hin := ints43 (l.take i) (by omega)
      rw [e2] at hin
      refine ⟨_, _, ⟨WkL.refl _, hin⟩, fun res s1 h => ?_⟩
      obtain ⟨c, hc, rfl, rfl⟩ := h
      conv => whnf
      have e3 := rowsI_len (l.take i)
      rw [e2] at e3
      refine ⟨by omega, ⟨?_, ?_⟩, ?_⟩
      · show (2 * (i + 1) + 1024) * 8 ≤ 281474976710656; omega
      · show i + 1 ≤ _; omega
      conv => whnf
      intro c2 hc2
      conv => whnf
      refine ⟨⟨by omega, by omega, by omega⟩, ?_⟩
      conv => whnf
      have e4 : (List.drop ((i : Int)).toNat (List.take (((rowsI l).length : Int)).toNat (rowsI l))) = rowsI (l.drop i) := by rw [Int.toNat_natCast, Int.toNat_natCast, List.take_of_length_le (Nat.le_refl _)]; simp [rowsI]
      have e5 : (rowsI (l.drop i)).length = l.length - i := by rw [rowsI_len, List.length_drop]
      rw [e4]
      refine ⟨by simp [e3], ⟨?_, ?_⟩, ?_⟩
      · show (2 * (i + 1 + (rowsI (l.drop i)).length) + 1024) * 8 ≤ 281474976710656; rw [e5]; omega
      · show i + 1 + (rowsI (l.drop i)).length ≤ _; rw [e5]; omega
      conv => whnf
      intro c3 hc3
      conv => whnf
      refine ⟨_, _, GV.freeze 2 rfl (by simp) (by repeat' first | exact trivial | apply And.intro | decide | (simp [e3]; done) | omega) (by repeat' first | exact trivial | apply And.intro), ?_⟩
      conv => whnf
      refine ⟨?_, rfl⟩
      refine congrArg (fun q => AV.d (.list 1 q)) ?_
      rw [putI, if_neg h, ← hk, List.drop_zero]
      have e6 : List.take i (rowsI (l.take i)) = rowsI (l.take i) := List.take_of_length_le (by omega)
      rw [e6, List.take_of_length_le (by simp [e3]), List.take_of_length_le (by simp [e3])]
      simp [rowsI, rowI]
end Go.Proofs.Ytkenimmellonjaa
