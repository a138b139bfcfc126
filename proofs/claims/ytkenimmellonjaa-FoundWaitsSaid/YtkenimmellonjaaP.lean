/- FoundWaits. -/
import Derived.Test.YtkenimmellonjaaO
namespace Go.Proofs.Ytkenimmellonjaa
open Go.Pv Go.RowKit Go.Shelf

/-- So many numbers, from one on. -/
def upI (a n : Nat) : List Int := (List.range' a n).map fun k : Nat => (k : Int)
theorem upI_len (a n : Nat) : (upI a n).length = n := by simp [upI]
theorem upI_succ (a n : Nat) : upI a (n + 1) = upI a n ++ [((a + n : Nat) : Int)] := by simp [upI, List.range'_concat]
theorem upI_mem (a n : Nat) (x : Int) : x ∈ upI a n ↔ (a : Int) ≤ x ∧ x < ((a + n : Nat) : Int) := by
  simp only [upI, List.mem_map, List.mem_range'_1]
  constructor
  · rintro ⟨k, ⟨h1, h2⟩, rfl⟩
    omega
  · intro h
    exact ⟨x.toNat, ⟨by omega, by omega⟩, by omega⟩
theorem upI_inc (a n : Nat) : IncI (upI a n) := by
  unfold IncI upI
  rw [List.pairwise_map]
  exact (List.pairwise_lt_range' (s := a) (n := n) (step := 1)).imp fun h => by omega
theorem upI_take (a n m : Nat) (h : m ≤ n) : (upI a n).take m = upI a m := by
  refine List.ext_getElem (by rw [List.length_take, upI_len, upI_len]; omega) fun k h1 h2 => ?_
  simp [upI]
theorem memb_up (n : Nat) (hn : 1 ≤ n) : membI (upI 1 (n - 1)) 0 = upI 0 n := by
  refine inc_eq (setI_inc _) (upI_inc 0 n) fun x => ?_
  rw [membI, setI_mem, List.mem_append, List.mem_singleton, upI_mem, upI_mem]
  omega
theorem head_up (n : Nat) (hn : 1 ≤ n) : headI (upI 0 n) = 0 := by
  obtain ⟨m, rfl⟩ : ∃ m, n = m + 1 := ⟨n - 1, by omega⟩
  simp [headI, upI, List.range'_succ]
theorem memb_02 : membI [0, 2] 1 = [0, 1, 2] := inc_eq (setI_inc _) (by decide) fun x => by rw [membI, setI_mem]; simp; omega
theorem memb_2 : membI [2] 1 = [1, 2] := inc_eq (setI_inc _) (by decide) fun x => by rw [membI, setI_mem]; simp; omega
theorem up_ne {n m : Nat} (h : n ≠ m) : (upI 0 n == upI 0 m) = false := by
  rw [beq_eq_false_iff_ne]
  intro e
  have := congrArg List.length e
  rw [upI_len, upI_len] at this
  exact h this
theorem dle (a b : Int) : decide (a ≤ b) = !decide (a > b) := by
  rw [← decide_not]
  congr 1
  exact propext ⟨fun h => by omega, fun h => by omega⟩
def lateI2 (out : Bool) (waited p : Int) : Bool := bif !out then decide (waited > p) else false
theorem sh1 (n : Nat) (hn : 1 ≤ n) (cars : Int) (out : Bool) (since waited : Int) : shouldI 0 cars out true (upI 1 (n - 1)) (upI 0 n) since waited = bif lateI2 out waited (patI cars) then decide (since > patI cars) else false := by
  unfold shouldI lateI2
  rw [memb_up n hn, head_up n hn, dle]
  cases out <;> cases decide (waited > patI cars) <;> simp
theorem sh2 (n : Nat) (hn : 2 ≤ n) (cars : Int) (out : Bool) (since waited : Int) : shouldI 0 cars out true (upI 1 (n - 1)) (upI 0 (n - 1)) since waited = lateI2 out waited (patI cars) := by
  unfold shouldI lateI2
  rw [memb_up n (by omega), head_up n (by omega), dle, up_ne (show n - 1 ≠ n by omega)]
  cases out <;> cases decide (waited > patI cars) <;> simp
theorem sh3 (n : Nat) (hn : 2 ≤ n) (cars : Int) (out : Bool) (since waited : Int) : shouldI 0 cars out true (upI 1 (n - 2)) (upI 0 n) since waited = lateI2 out waited (patI cars) := by
  unfold shouldI lateI2
  have e := memb_up (n - 1) (by omega)
  rw [show n - 1 - 1 = n - 2 by omega] at e
  rw [e, head_up (n - 1) (by omega), dle, up_ne (show n ≠ n - 1 by omega)]
  cases out <;> cases decide (waited > patI cars) <;> simp
theorem sh4 (r : List Int) (cars : Int) (out : Bool) (since waited : Int) : shouldI 1 cars out false [0, 2] r since waited = false := by
  unfold shouldI
  rw [memb_02]
  cases out <;> rfl
theorem sh5 (r : List Int) (cars : Int) (out : Bool) (since waited : Int) : shouldI 1 cars out false [2] r since waited = lateI2 out waited (patI cars) := by
  unfold shouldI lateI2
  rw [memb_2, dle]
  cases out <;> cases decide (waited > patI cars) <;> rfl
abbrev EnvU (since waited : Int) (out : Bool) (n i : Nat) (v10 v11 : AV) : Env :=
  [(0, .d (.int .i64 (n : Int))), (1, .d (.int .i64 since)), (2, .d (.int .i64 waited)), (3, .d (.bool out)), (9, .d (.bool true)), (10, v10), (11, v11), (12, .d (.int .i64 (i : Int)))]
set_option maxRecDepth 100000 in
theorem foundWaits (cars0 since0 waited0 : Int) (out : Bool) : Contract Try.prog G0 8 [.d (.int .i64 cars0), .d (.int .i64 since0), .d (.int .i64 waited0), .d (.bool out)] [] (fun r t => r = .d (.bool true) ∧ t = []) := by
  refine run8 0 [] rfl rfl ?_
  conv => whnf
  refine .scal [] _ ⟨.refl _, rfl, first31⟩ ?_
  conv => whnf
  refine .scal [.d (.int .i64 cars0), .d (.int .i64 ((14 : Nat) : Int))] _ ⟨.refl _, rfl, num24 cars0 14 (by omega) (by omega)⟩ ?_
  have hnb := numB_lt cars0 (m := 14) (by omega)
  generalize numB cars0 14 = nb at hnb
  conv => whnf
  rw [show IntKind.i64.wrap ((nb : Int) + 2) = ((nb + 2 : Nat) : Int) by rw [wrap_id (by omega) (by omega)]; omega]
  obtain ⟨n, hn⟩ : ∃ n, nb + 2 = n := ⟨_, rfl⟩
  rw [hn]
  have hn2 : 2 ≤ n := by omega
  have hn15 : n ≤ 15 := by omega
  clear hn hnb nb
  refine .scal [.d (.int .i64 since0), .d (.int .i64 ((200 : Nat) : Int))] _ ⟨.refl _, rfl, num24 since0 200 (by omega) (by omega)⟩ ?_
  generalize ((numB since0 200 : Nat) : Int) = since
  conv => whnf
  refine .scal [.d (.int .i64 waited0), .d (.int .i64 ((200 : Nat) : Int))] _ ⟨.refl _, rfl, num24 waited0 200 (by omega) (by omega)⟩ ?_
  generalize ((numB waited0 200 : Nat) : Int) = waited
  conv => whnf
  refine ⟨⟨show (2 * 1 + 1024) * 8 ≤ 281474976710656 by omega, show 1 ≤ 4611686018427387904 by omega⟩, ?_⟩
  conv => whnf
  intro c0 hc0
  conv => whnf
  refine StopG.roundsS wk8 [] [0, 1, 2, 3, 9, 10, 11, 12] (fun m env s => ∃ (i : Nat) (v10 v11 : AV), 1 ≤ i ∧ i ≤ n ∧ m = n - i ∧
      ((i = 1 ∧ v10 = .d .nil ∧ ∃ c, 1 ≤ c ∧ v11 = .slc (.g 0) 1 0 1 c ∧ s = [(0, .row 1 (rowsI (upI 0 1)))]) ∨
        ∃ c c', 1 < i ∧ i - 1 ≤ c ∧ i ≤ c' ∧ v10 = .slc (.g 0) 1 0 (i - 1) c ∧ v11 = .slc (.g 1) 1 0 i c' ∧ s = [(0, .row 1 (rowsI (upI 1 (i - 1)))), (1, .row 1 (rowsI (upI 0 i)))]) ∧
      env = EnvU since waited out n i v10 v11) rfl ?_ ?_
  · conv => whnf
    exact ⟨_, 1, _, _, by omega, by omega, rfl, .inl ⟨rfl, rfl, c0, hc0, rfl, rfl⟩, rfl⟩
  rintro m env s ⟨i, v10, v11, hi1, hi, rfl, hv, rfl⟩
  rcases Nat.lt_or_ge i n with h | h
  · refine .go wk8 [] ?_
    have hdec : decide ((i : Int) < (n : Int)) = true := decide_eq_true (by omega)
    rcases hv with ⟨rfl, rfl, c, hc, rfl, rfl⟩ | ⟨c, c', hi2, hc, hc', rfl, rfl, rfl⟩
    · conv => whnf
      rw [hdec]
      conv => whnf
      refine ⟨⟨show (2 * 1 + 1024) * 8 ≤ 281474976710656 by omega, show 1 ≤ 4611686018427387904 by omega⟩, ?_⟩
      conv => whnf
      intro c1 hc1
      conv => whnf
      refine ⟨by rw [rowsI_len, upI_len]; exact Nat.le_refl _, ⟨show (2 * (1 + 1) + 1024) * 8 ≤ 281474976710656 by omega, show 1 + 1 ≤ 4611686018427387904 by omega⟩, ?_⟩
      conv => whnf
      intro c2 hc2
      conv => whnf
      exact ⟨_, by omega, 2, _, _, by omega, by omega, rfl, .inr ⟨c1, c2, by omega, hc1, hc2, rfl, rfl, rfl⟩, rfl⟩
    · conv => whnf
      rw [hdec]
      conv => whnf
      refine ⟨by rw [rowsI_len, upI_len]; exact Nat.le_refl _, ⟨?_, ?_⟩, ?_⟩
      · show (2 * (i - 1 + 1) + 1024) * 8 ≤ 281474976710656; omega
      · show i - 1 + 1 ≤ _; omega
      conv => whnf
      intro c1 hc1
      conv => whnf
      refine ⟨by rw [rowsI_len, upI_len]; exact Nat.le_refl _, ⟨?_, ?_⟩, ?_⟩
      · show (2 * (i + 1) + 1024) * 8 ≤ 281474976710656; omega
      · show i + 1 ≤ _; omega
      conv => whnf
      intro c2 hc2
      conv => whnf
      rw [succ_i h (by omega)]
      obtain ⟨j, rfl⟩ : ∃ j, i = j + 1 := ⟨i - 1, by omega⟩
      refine ⟨_, by omega, j + 1 + 1, _, _, by omega, h, rfl, .inr ⟨c1, c2, by omega, hc1, hc2, rfl, rfl, ?_⟩, rfl⟩
      rw [List.take_of_length_le (by rw [rowsI_len, upI_len]; exact Nat.le_refl _), List.take_of_length_le (by rw [rowsI_len, upI_len]; exact Nat.le_refl _)]
      simp only [Nat.add_sub_cancel]
      rw [upI_succ 1 j, upI_succ 0 (j + 1)]
      simp [rowsI, rowI, Nat.add_comm]
  · have hin : i = n := by omega
    subst hin
    have hdec : decide ((i : Int) < (i : Int)) = false := decide_eq_false (by omega)
    refine .ghost (env' := EnvU since waited out i i (.d (.list 1 (rowsI (upI 1 (i - 1))))) (.d (.list 1 (rowsI (upI 0 i))))) (s' := []) ?_ (.go wk8 [] ?_)
    · rcases hv with ⟨h1, _⟩ | ⟨c, c', hi2, hc, hc', rfl, rfl, rfl⟩
      · omega
      · have e1 := rowsI_len (upI 1 (i - 1))
        have e2 := rowsI_len (upI 0 i)
        rw [upI_len] at e1 e2
        refine GV.trans (GV.freeze 0 rfl (by simp) (by repeat' first | exact trivial | apply And.intro | decide | (simp; done) | omega) (by repeat' first | exact trivial | apply And.intro)) ?_
        refine GV.trans (GV.freeze 1 rfl (by intro h; cases h) (by repeat' first | exact trivial | apply And.intro | decide | (simp; done) | omega) (by repeat' first | exact trivial | apply And.intro)) (GV.tidied [0, 1, 2, 3, 9, 10, 11, 12] ?_)
        conv => whnf
        rw [List.drop_zero, List.take_of_length_le (by omega), List.drop_zero, List.take_of_length_le (by omega)]
        exact ⟨rfl, rfl⟩
    conv => whnf
    rw [hdec]
    conv => whnf
    have l1 := upI_len 1 (i - 1)
    have l0 := upI_len 0 i
    refine .scal [.d (.int .i64 (i : Int))] _ ⟨.refl _, rfl, pat37 i⟩ ?_
    conv => whnf
    refine .scal [cV 0 i out true (upI 1 (i - 1)) (upI 0 i) since waited] _ ⟨.refl _, rfl, should32 0 i out true _ _ since waited (by omega) (by omega)⟩ ?_
    rw [sh1 i (by omega)]
    conv => whnf
    refine .data [cV 0 i out true (upI 1 (i - 1)) (upI 0 i) since waited] _ (fun _ => ⟨WkL.refl _, rfl, memb35 0 i out true _ _ since waited (by omega)⟩) ?_
    rw [memb_up i (by omega)]
    conv => whnf
    refine .scal [.d (.list 1 (rowsI (upI 0 i))), .d (.list 1 (rowsI (upI 0 i)))] _ (fun _ => ⟨.refl _, rfl, sameInts34 _ _ (by omega)⟩) ?_
    conv => whnf
    refine bcase_intro (fun hx => ?_) (fun _ => ?_)
    · exfalso
      simp [lateI2] at hx
    conv => whnf
    rw [show IntKind.i64.wrap ((i : Int) - 1) = ((i - 1 : Nat) : Int) from pred_i (by omega) (by omega)]
    have e0 := rowsI_len (upI 0 i)
    refine ⟨⟨by omega, by omega, by omega⟩, ?_⟩
    conv => whnf
    have e1 : List.drop (Int.toNat 0) (List.take (((i - 1 : Nat) : Int)).toNat (rowsI (upI 0 i))) = rowsI (upI 0 (i - 1)) := by
      rw [Int.toNat_natCast, ← upI_take 0 i (i - 1) (by omega)]
      simp [rowsI, List.map_take]
    rw [e1]
    have l2 := upI_len 0 (i - 1)
    refine .scal [cV 0 i out true (upI 1 (i - 1)) (upI 0 (i - 1)) since waited] _ ⟨.refl _, rfl, should32 0 i out true _ _ since waited (by omega) (by omega)⟩ ?_
    rw [sh2 i (by omega)]
    conv => whnf
    refine bcase_intro (fun hx => ?_) (fun _ => ?_)
    · exfalso
      simp [lateI2] at hx
    conv => whnf
    have e3 := rowsI_len (upI 1 (i - 1))
    rw [show IntKind.i64.wrap (((rowsI (upI 1 (i - 1))).length : Int) - 1) = ((i - 2 : Nat) : Int) by rw [e3, l1, pred_i (by omega) (by omega)]; rfl]
    refine ⟨⟨by omega, by omega, by omega⟩, ?_⟩
    conv => whnf
    have e4 : List.drop (Int.toNat 0) (List.take (((i - 2 : Nat) : Int)).toNat (rowsI (upI 1 (i - 1)))) = rowsI (upI 1 (i - 2)) := by
      rw [Int.toNat_natCast, ← upI_take 1 (i - 1) (i - 2) (by omega)]
      simp [rowsI, List.map_take]
    rw [e4]
    have l3 := upI_len 1 (i - 2)
    refine .scal [cV 0 i out true (upI 1 (i - 2)) (upI 0 i) since waited] _ ⟨.refl _, rfl, should32 0 i out true _ _ since waited (by omega) (by omega)⟩ ?_
    rw [sh3 i (by omega)]
    conv => whnf
    refine bcase_intro (fun hx => ?_) (fun _ => ?_)
    · exfalso
      simp [lateI2] at hx
    conv => whnf
    refine .scal [cV 1 i out false [0, 2] (upI 0 i) since waited] _ ⟨.refl _, rfl, should32 1 i out false [0, 2] _ since waited (by simp) (by omega)⟩ ?_
    rw [sh4]
    conv => whnf
    refine .scal [cV 1 i out false [2] (upI 0 i) since waited] _ (fun _ => ⟨.refl _, rfl, should32 1 i out false [2] _ since waited (by simp) (by omega)⟩) ?_
    rw [sh5]
    conv => whnf
    refine ⟨rd_bool ?_, rfl⟩
    simp [lateI2]
end Go.Proofs.Ytkenimmellonjaa
