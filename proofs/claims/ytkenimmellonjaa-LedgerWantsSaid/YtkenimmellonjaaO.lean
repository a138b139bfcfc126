/- FoundLeast. -/
import Derived.Test.YtkenimmellonjaaM
import Derived.Test.YtkenimmellonjaaFrD
namespace Go.Proofs.Ytkenimmellonjaa
open Go.Pv Go.RowKit Go.Shelf

theorem num24 (n : Int) (m : Nat) (hm : 0 < m) (hm2 : m ≤ 4611686018427387904) : Contract Try.prog G0 24 [.d (.int .i64 n), .d (.int .i64 (m : Int))] [] (fun r t => r = .d (.int .i64 (numB n m : Int)) ∧ t = []) := number n m hm hm2
def butI (l : List Int) (k : Nat) : List Int := l.take k ++ l.drop (k + 1)
def putsI (l : List Int) : List Int := set6 (l.map fun x => ((numB x 16 : Nat) : Int))
theorem putsI_inc (l : List Int) : IncI (putsI l) := by unfold putsI; rw [set6_eq]; exact setI_inc _
theorem memb_but {l : List Int} (h : IncI l) {k : Nat} {x : Int} (hx : l[k]? = some x) : membI (butI l k) x = l := by
  refine inc_eq (setI_inc _) h fun y => ?_
  obtain ⟨hk, hkx⟩ := List.getElem?_eq_some_iff.1 hx
  have e : l = l.take k ++ x :: l.drop (k + 1) := by
    conv => lhs; rw [← List.take_append_drop k l, List.drop_eq_getElem_cons hk, hkx]
  rw [membI, setI_mem, butI]
  conv => rhs; rw [e]
  simp only [List.mem_append, List.mem_cons]
  constructor
  · rintro ((h | h) | h)
    · exact .inl h
    · exact .inr (.inr h)
    · rcases h with h | h
      · exact .inr (.inl h)
      · cases h
  · rintro (h | h | h)
    · exact .inl (.inl h)
    · exact .inr (.inl h)
    · exact .inl (.inr h)
def wantI (since waited : Int) (inr : Bool) : Bool := bif decide (waited > 72) then (bif !inr then true else decide (since > 72)) else false
theorem pat16 : patI 16 = 72 := by decide
theorem should_at {l : List Int} (h : IncI l) {k : Nat} {x : Int} (hx : l[k]? = some x) (since waited : Int) (inr : Bool) :
    shouldI x 16 false inr (butI l k) (if inr then l else []) since waited = (bif k == 0 then wantI since waited inr else false) := by
  unfold shouldI wantI
  rw [memb_but h hx, pat16]
  obtain ⟨hk, hkx⟩ := List.getElem?_eq_some_iff.1 hx
  have hw : decide (waited ≤ 72) = !decide (waited > 72) := by
    rw [← decide_not]
    congr 1
    exact propext ⟨fun h => by omega, fun h => by omega⟩
  rw [hw]
  cases k with
  | zero =>
    have : headI l = x := by simp [headI, hx]
    rw [this]
    cases inr <;> cases decide (waited > 72) <;> simp
  | succ k =>
    have : (headI l == x) = false := by
      have h0 : 0 < l.length := by omega
      have h1 : headI l = l[0] := by simp [headI, List.getElem?_eq_getElem h0]
      have h2 := List.pairwise_iff_getElem.1 h 0 (k + 1) h0 hk (by omega)
      rw [h1]
      rw [hkx] at h2
      simp
      omega
    rw [this]
    simp
/-- The others, so far. -/
def butN (l : List Int) (k i : Nat) : List Int := (butI (l.take i) k)
theorem butN_step {l : List Int} {k i : Nat} {x : Int} (hx : l[i]? = some x) : butN l k (i + 1) = if i = k then butN l k i else butN l k i ++ [x] := by
  have hi := (List.getElem?_eq_some_iff.1 hx).1
  unfold butN butI
  rw [List.take_add_one, hx]
  simp only [Option.toList_some]
  have hl : (l.take i).length = i := by rw [List.length_take]; omega
  split
  · rename_i h
    subst h
    rw [List.take_append_of_le_length (by omega), List.drop_append, hl, List.drop_eq_nil_of_le (by omega)]
    simp
  · rename_i h
    rcases Nat.lt_or_ge i k with h1 | h1
    · rw [List.take_of_length_le (l := l.take i ++ [x]) (by simp; omega), @List.drop_eq_nil_of_le _ (l.take i ++ [x]) _ (by simp; omega), List.take_of_length_le (l := l.take i) (by omega), @List.drop_eq_nil_of_le _ (l.take i) _ (by omega)]
      simp
    · rw [List.take_append_of_le_length (by omega), List.drop_append_of_le_length (by omega), List.append_assoc]
theorem putsI_take {l : List Int} {i : Nat} {x : Int} (hx : l[i]? = some x) : putsI (l.take (i + 1)) = putI (putsI (l.take i)) ((numB x 16 : Nat) : Int) := by
  unfold putsI set6
  rw [List.take_add_one, hx]
  simp [List.foldl_append]
theorem putsI_len (l : List Int) : (putsI l).length ≤ l.length := by
  have := set6_len (l.map fun x => ((numB x 16 : Nat) : Int))
  simpa [putsI] using this
abbrev EnvL (l all : List Int) (since waited : Int) (inr : Bool) (n : Int) (k : Nat) : Env :=
  [(0, .d (.list 1 (rowsI l))), (1, .d (.int .i64 since)), (2, .d (.int .i64 waited)), (3, .d (.bool inr)), (9, .d (.bool true)), (10, .d (.int .i64 16)), (11, .d (.list 1 (rowsI all))), (13, .d (.int .i64 n)), (14, .d (.int .i64 (k : Int)))]
set_option maxRecDepth 100000 in
theorem foundLeast (l : List Int) (since0 waited0 : Int) (inr : Bool) : Contract Try.prog G0 7 [.d (.list 1 (rowsI l)), .d (.int .i64 since0), .d (.int .i64 waited0), .d (.bool inr)] [] (fun r t => r = .d (.bool true) ∧ t = []) := by
  have hlen := rowsI_len l
  refine run7 0 [] rfl rfl ?_
  conv => whnf
  refine .scal [] _ ⟨.refl _, rfl, first31⟩ ?_
  conv => whnf
  refine bcase_intro (fun h => ?_) (fun h => ?_) <;> conv => whnf
  · exact ⟨rfl, rfl⟩
  have hl : 0 < l.length ∧ l.length ≤ 16 := by
    rw [hlen] at h
    rcases Nat.eq_zero_or_pos l.length with h1 | h1
    · rw [h1] at h
      cases h
    · rw [show ((l.length : Int) == 0) = false by rw [beq_eq_false_iff_ne]; omega] at h
      have := of_decide_eq_false h
      omega
  obtain ⟨hl0, hl⟩ := hl
  clear h
  refine .scal [.d (.int .i64 since0), .d (.int .i64 ((200 : Nat) : Int))] _ ⟨.refl _, rfl, num24 since0 200 (by omega) (by omega)⟩ ?_
  generalize ((numB since0 200 : Nat) : Int) = since
  conv => whnf
  refine .scal [.d (.int .i64 waited0), .d (.int .i64 ((200 : Nat) : Int))] _ ⟨.refl _, rfl, num24 waited0 200 (by omega) (by omega)⟩ ?_
  generalize ((numB waited0 200 : Nat) : Int) = waited
  conv => whnf
  -- the numbers, as a set
  refine StopG.roundsM wk7 [] [0, 1, 2, 3, 9, 10, 11, 12] (fun m env s => ∃ i : Nat, i ≤ l.length ∧ m = l.length - i ∧
    env = [(0, .d (.list 1 (rowsI l))), (1, .d (.int .i64 since)), (2, .d (.int .i64 waited)), (3, .d (.bool inr)), (9, .d (.bool true)), (10, .d (.int .i64 16)), (11, .d (.list 1 (rowsI (putsI (l.take i))))), (12, .d (.int .i64 (i : Int)))] ∧ s = []) rfl ?_ ?_
  · refine ⟨_, _, GV.wk 11 1, ?_⟩
    conv => whnf
    exact ⟨_, 0, Nat.zero_le _, rfl, rfl, rfl⟩
  rintro m env s ⟨i, hi, rfl, rfl, rfl⟩
  conv => whnf
  refine bcase_intro (fun h => ?_) (fun h => ?_) <;> conv => whnf
  · have h := lt_of h
    rw [hlen] at h
    obtain ⟨x, hx, hdrop⟩ := at_i h
    refine ⟨rowI x, ⟨by omega, row_i hx⟩, ?_⟩
    conv => whnf
    refine .scal [.d (.int .i64 x), .d (.int .i64 ((16 : Nat) : Int))] _ ⟨.refl _, rfl, num24 x 16 (by omega) (by omega)⟩ ?_
    conv => whnf
    have h6 := putsI_len (l.take i)
    rw [List.length_take] at h6
    refine .data [.d (.list 1 (rowsI (putsI (l.take i)))), .d (.int .i64 ((numB x 16 : Nat) : Int))] _ ⟨WkL.refl _, rfl, put39 _ _ (by omega)⟩ ?_
    rw [← putsI_take hx]
    conv => whnf
    refine ⟨_, _, .refl, ?_⟩
    conv => whnf
    rw [succ_i h (by omega)]
    exact ⟨_, by omega, i + 1, h, rfl, rfl, rfl⟩
  · have h := ge_of h
    rw [hlen] at h
    rw [List.take_of_length_le h]
    have hainc := putsI_inc l
    have halen := putsI_len l
    have hane : 0 < (putsI l).length := by
      cases l with
      | nil => simp at hl0
      | cons x r => exact List.length_pos_of_mem (a := ((numB x 16 : Nat) : Int)) (((foldPut _ [] .nil).2.1 _).2 (.inr (by simp)))
    clear h
    generalize putsI l = all at hainc halen hane
    have hal := rowsI_len all
    -- each of them
    refine StopG.rounds wk7 [] [0, 1, 2, 3, 9, 10, 11, 13, 14] (fun m env s => ∃ k : Nat, k ≤ all.length ∧ m = all.length - k ∧
      env = EnvL l all since waited inr (if 0 < k then (if wantI since waited inr then 1 else 0) else 0) k ∧ s = []) rfl ?_ ?_
    · conv => whnf
      exact ⟨_, 0, Nat.zero_le _, rfl, rfl, rfl⟩
    rintro m env s ⟨k, hk, rfl, rfl, rfl⟩
    conv => whnf
    refine bcase_intro (fun h => ?_) (fun h => ?_) <;> conv => whnf
    · have h := lt_of h
      rw [hal] at h
      obtain ⟨x, hx, hdrop⟩ := at_i h
      have hkb : ∀ i, i ≤ all.length → (butN all k i).length ≤ 16 := fun i hi => by
        unfold butN butI
        rw [List.length_append, List.length_take, List.length_drop, List.length_take]
        omega
      have hb0 : butN all k 0 = [] := by simp [butN, butI]
      refine StopG.roundsS wk7 [] [0, 1, 2, 3, 9, 10, 11, 13, 14, 15, 16] (fun m env s => ∃ (i : Nat) (v : AV), i ≤ all.length ∧ m = all.length - i ∧
        ((butN all k i = [] ∧ v = .d .nil ∧ s = []) ∨ ∃ c, (butN all k i).length ≤ c ∧ v = .slc (.g 0) 1 0 (butN all k i).length c ∧ s = [(0, .row 1 (rowsI (butN all k i)))]) ∧
        env = EnvL l all since waited inr (if 0 < k then (if wantI since waited inr then 1 else 0) else 0) k ++ [(15, v), (16, .d (.int .i64 (i : Int)))]) rfl ?_ ?_
      · conv => whnf
        exact ⟨_, 0, _, Nat.zero_le _, rfl, .inl ⟨hb0, rfl, rfl⟩, rfl⟩
      rintro m env s ⟨i, v, hi, rfl, hv, rfl⟩
      rcases Nat.lt_or_ge i all.length with h2 | h2
      · obtain ⟨y, hy, hdrop2⟩ := at_i h2
        have hst := butN_step (k := k) hy
        have hkb2 := hkb i (by omega)
        have hdec : decide ((i : Int) < ((rowsI all).length : Int)) = true := decide_eq_true (by omega)
        refine .go wk7 [] ?_
        rcases hv with ⟨hv1, rfl, rfl⟩ | ⟨c, hc, rfl, rfl⟩
        · conv => whnf
          rw [hdec]
          conv => whnf
          rw [hv1] at hst
          refine bcase_intro (fun hik => ?_) (fun hik => ?_) <;> conv => whnf
          · have hik : (i : Int) ≠ (k : Int) := by simpa using hik
            have hik : i ≠ k := by omega
            rw [if_neg hik] at hst
            refine ⟨rowI y, ⟨by omega, row_i hy⟩, ?_⟩
            conv => whnf
            refine ⟨⟨show (2 * 1 + 1024) * 8 ≤ 281474976710656 by omega, show 1 ≤ 4611686018427387904 by omega⟩, ?_⟩
            conv => whnf
            intro c2 hc2
            conv => whnf
            rw [succ_i h2 (by omega)]
            exact ⟨_, by omega, i + 1, _, h2, rfl, .inr ⟨c2, by rw [hst]; exact hc2, by rw [hst]; rfl, by rw [hst]; rfl⟩, rfl⟩
          · have hik : (i : Int) = (k : Int) := by simpa using hik
            have hik : i = k := by omega
            rw [if_pos hik] at hst
            rw [succ_i h2 (by omega)]
            exact ⟨_, by omega, i + 1, _, h2, rfl, .inl ⟨by rw [hst], rfl, rfl⟩, rfl⟩
        · conv => whnf
          rw [hdec]
          conv => whnf
          refine bcase_intro (fun hik => ?_) (fun hik => ?_) <;> conv => whnf
          · have hik : (i : Int) ≠ (k : Int) := by simpa using hik
            have hik : i ≠ k := by omega
            rw [if_neg hik] at hst
            refine ⟨rowI y, ⟨by omega, row_i hy⟩, ?_⟩
            conv => whnf
            refine ⟨by rw [rowsI_len]; exact Nat.le_refl _, ⟨?_, ?_⟩, ?_⟩
            · show (2 * ((butN all k i).length + 1) + 1024) * 8 ≤ 281474976710656; omega
            · show (butN all k i).length + 1 ≤ _; omega
            conv => whnf
            intro c2 hc2
            conv => whnf
            rw [succ_i h2 (by omega)]
            refine ⟨_, by omega, i + 1, _, h2, rfl, .inr ⟨c2, by rw [hst]; simpa using hc2, by rw [hst]; simp, ?_⟩, rfl⟩
            rw [hst, List.take_of_length_le (by rw [rowsI_len]; exact Nat.le_refl _)]
            simp [rowsI, rowI]
          · have hik : (i : Int) = (k : Int) := by simpa using hik
            have hik : i = k := by omega
            rw [if_pos hik] at hst
            rw [succ_i h2 (by omega)]
            exact ⟨_, by omega, i + 1, _, h2, rfl, .inr ⟨c, by rw [hst]; exact hc, by rw [hst], by rw [hst]⟩, rfl⟩
      · have hil : i = all.length := by omega
        have hbt : butN all k i = butI all k := by rw [hil]; simp [butN]
        have hkb2 := hkb i (by omega)
        have hdec : decide ((i : Int) < ((rowsI all).length : Int)) = false := decide_eq_false (by omega)
        rw [hbt] at hv hkb2
        have hshould := should_at hainc hx since waited inr
        generalize butI all k = oth at hv hkb2 hshould
        have hol := rowsI_len oth
        refine .ghost (env' := EnvL l all since waited inr (if 0 < k then (if wantI since waited inr then 1 else 0) else 0) k ++ [(15, .d (.list 1 (rowsI oth))), (16, .d (.int .i64 (i : Int)))]) (s' := []) ?_ (.go wk7 [] ?_)
        · rcases hv with ⟨rfl, rfl, rfl⟩ | ⟨c, hc, rfl, rfl⟩
          · exact GV.wk 15 1
          · refine GV.trans (GV.freeze 0 rfl (by simp) (by repeat' first | exact trivial | apply And.intro | decide | (simp; done) | omega) (by repeat' first | exact trivial | apply And.intro)) (GV.tidied [0, 1, 2, 3, 9, 10, 11, 13, 14, 15, 16] ?_)
            conv => whnf
            rw [List.drop_zero, List.take_of_length_le (by omega)]
            exact ⟨rfl, rfl⟩
        conv => whnf
        rw [hdec]
        conv => whnf
        refine ⟨rowI x, ⟨by omega, row_i hx⟩, ?_⟩
        conv => whnf
        have hn2 : (if 0 < k then (if wantI since waited inr then (1 : Int) else 0) else 0) = 0 ∨ 0 < k := by
          rcases Nat.eq_zero_or_pos k with h0 | h0
          · exact .inl (by rw [if_neg (by omega)])
          · exact .inr h0
        have fin : ∀ (q : Bool), q = (bif k == 0 then wantI since waited inr else false) → (q = true → k = 0 ∧ wantI since waited inr = true) ∧ (q = false → k = 0 → wantI since waited inr = false) := by
          rintro q rfl
          cases k with
          | zero => exact ⟨fun h => ⟨rfl, h⟩, fun h _ => h⟩
          | succ k => exact ⟨(fun h => by cases h), (fun _ h => by cases h)⟩
        have fin := fin _ hshould
        refine bcase_intro (fun hin => ?_) (fun hin => ?_) <;> conv => whnf
        · subst hin
          refine .scal [cV x 16 false true oth all since waited] _ ⟨.a (.s _ (.s _ (.s _ (.s _ (.s _ (.s _ (.s _ (.s _ .nil)))))))) .nil, rfl, should32 x 16 false true oth all since waited (by omega) (by omega)⟩ ?_
          rw [if_pos rfl] at fin
          generalize shouldI x 16 false true oth all since waited = q at fin
          conv => whnf
          refine bcase_intro (fun hw => ?_) (fun hw => ?_)
          · obtain ⟨rfl, hw2⟩ := fin.1 hw
            conv => whnf
            exact ⟨_, by omega, 1, by omega, rfl, by rw [hw2]; rfl, rfl⟩
          · conv => whnf
            rw [succ_i h (by omega)]
            refine ⟨_, by omega, k + 1, by omega, rfl, ?_, rfl⟩
            cases k with
            | zero => rw [fin.2 hw rfl]; rfl
            | succ k => rfl
        · subst hin
          refine .scal [cV x 16 false false oth [] since waited] _ ⟨.a (.s _ (.s _ (.s _ (.s _ (.s _ (.n 1 (.s _ (.s _ .nil)))))))) .nil, rfl, should32 x 16 false false oth [] since waited (by omega) (by simp)⟩ ?_
          rw [if_neg (by simp)] at fin
          generalize shouldI x 16 false false oth [] since waited = q at fin
          conv => whnf
          refine bcase_intro (fun hw => ?_) (fun hw => ?_)
          · obtain ⟨rfl, hw2⟩ := fin.1 hw
            conv => whnf
            exact ⟨_, by omega, 1, by omega, rfl, by rw [hw2]; rfl, rfl⟩
          · conv => whnf
            rw [succ_i h (by omega)]
            refine ⟨_, by omega, k + 1, by omega, rfl, ?_, rfl⟩
            cases k with
            | zero => rw [fin.2 hw rfl]; rfl
            | succ k => rfl
    · have h := ge_of h
      rw [hal] at h
      have hk0 : 0 < k := by omega
      rw [if_pos hk0]
      refine .scal [.d (.int .i64 16)] _ ⟨.refl _, rfl, pat37 16⟩ ?_
      rw [pat16]
      conv => whnf
      refine .scal [.d (.int .i64 16)] _ (fun _ => ⟨.refl _, rfl, pat37 16⟩) ?_
      rw [pat16]
      conv => whnf
      refine ⟨rd_bool ?_, rfl⟩
      have hwd : wantI since waited inr = (bif decide (waited > 72) then (bif !inr then true else decide (since > 72)) else false) := rfl
      rw [← hwd]
      cases wantI since waited inr <;> rfl
end Go.Proofs.Ytkenimmellonjaa
