/- The seat's texts, part 4: what single functions of the program compute; no statement of its own. -/
import Derived.Test.YtkenimmellonjaaGC
/- Seat r2: all latches of a set, as data. -/
namespace Go.Proofs.Ytkenimmellonjaa
open Go.Pv Go.RowKit
set_option maxRecDepth 100000 in
theorem all27D (l : List Kl) (hl : l.length ≤ 100000) : Contract Try.prog G0 27 [.ref (.g 0) 0] (setS l) (fun r t => ∃ q : List Kl, q.Perm l ∧ Srd q ∧ r = .d (.list 3 (rowsK q)) ∧ t = setS l) := by
  refine rung27 2 [] rfl rfl ?_
  conv => whnf
  refine .obj rfl ?_
  conv => whnf
  refine ⟨_, _, ⟨WkL.refl _, values74 l⟩, fun res s1 h => ?_⟩
  obtain ⟨rfl, rfl⟩ := h
  conv => whnf
  refine .obj rfl ?_
  conv => whnf
  refine ⟨_, _, ⟨WkL.refl _, sorted73 l hl⟩, fun res s1 h => ?_⟩
  obtain ⟨q, hq, hs, ⟨rfl, rfl, rfl⟩ | ⟨c, hc, rfl, rfl⟩⟩ := h
  · conv => whnf
    refine ⟨_, _, GV.wk 2 3, ?_⟩
    conv => whnf
    exact ⟨[], hq, hs, rfl, rfl⟩
  · have hr := rowsK_len q
    conv => whnf
    refine ⟨_, _, GV.freeze 3 rfl (by simp) (by repeat' first | exact trivial | apply And.intro | decide | (simp; done) | omega) (by repeat' first | exact trivial | apply And.intro | decide | (simp; done)), ?_⟩
    conv => whnf
    rw [List.drop_zero, List.take_of_length_le (by omega)]
    exact ⟨q, hq, hs, rfl, rfl⟩
end Go.Proofs.Ytkenimmellonjaa
/- Seat r2: what is kept: the walk. -/
namespace Go.Proofs.Ytkenimmellonjaa
open Go.Pv Go.RowKit Go.Shelf
theorem hasK_iff {l : List Kl} {k : Kl} : hasK l k = true ↔ k ∈ l := by
  unfold hasK
  rw [List.any_eq_true]
  constructor
  · rintro ⟨x, hx, h⟩
    have : x = k := by
      unfold sameK at h
      cases h1 : x.1 == k.1 with
      | false => rw [h1] at h; cases h
      | true =>
        rw [h1] at h
        cases h2 : x.2.1 == k.2.1 with
        | false => rw [h2] at h; cases h
        | true =>
          rw [h2] at h
          exact Prod.ext (by simpa using h1) (Prod.ext (by simpa using h2) (by simpa using h))
    exact this ▸ hx
  · intro h
    exact ⟨k, h, by simp [sameK]⟩
theorem any_eqK (l : List Kl) (k : Kl) : l.any (eqK k) = hasK l k := by
  rw [Bool.eq_iff_iff, hasK_iff, List.any_eq_true]
  constructor
  · rintro ⟨x, hx, h⟩
    have : k = x := by
      unfold eqK at h
      cases h1 : k.1 == x.1 with
      | false => rw [h1] at h; cases h
      | true =>
        rw [h1] at h
        cases h2 : k.2.1 == x.2.1 with
        | false => rw [h2] at h; cases h
        | true =>
          rw [h2] at h
          exact Prod.ext (by simpa using h1) (Prod.ext (by simpa using h2) (by simpa using h))
    exact this ▸ hx
  · intro h
    exact ⟨k, h, by simp [eqK]⟩
theorem keepH (l : List Kl) (hn : Ks l) (hl : l.length ≤ 100000) (ks : List Kl) (hk : ks.length ≤ 100000) : Contract Try.prog G0 44 [.ref (.g 0) 0, .d (.list 3 (rowsK ks))] (setS l) (fun r t => r = .d (.int .i64 ((l.filter fun k => !hasK ks k).length : Int)) ∧ t = setS (l.filter (hasK ks))) := by
  have := keep44 l hn hl ks hk
  simp only [any_eqK] at this
  exact this
def putN (l : List Kl) (i : Nat) : List Kl := puts (l.take i)
theorem putN_succ {l : List Kl} {i : Nat} {x : Kl} (hx : l[i]? = some x) : putN l (i + 1) = putL (putN l i) x := by
  unfold putN
  rw [List.take_add_one, hx]
  exact puts_snoc _ _
theorem putN_ne {l : List Kl} {i : Nat} (hi : 0 < i) (hl : i ≤ l.length) : putN l i ≠ [] := puts_ne fun e => by
  have := congrArg List.length e
  simp only [List.length_take, List.length_nil] at this
  omega
set_option maxHeartbeats 4000000 in
set_option maxRecDepth 100000 in
theorem callsKeep (l ks : List Kl) : Contract Try.prog G0 11 [.d (.list 3 (rowsK l)), .d (.list 3 (rowsK ks))] [] (fun r t => r = .d (.bool true) ∧ t = []) := by
  have hlen := rowsK_len l
  have hken := rowsK_len ks
  refine run11 0 [] rfl rfl ?_
  conv => whnf
  refine .scal [] _ ⟨.refl _, rfl, first25⟩ ?_
  conv => whnf
  refine bcase_intro (fun h => ?_) (fun h => ?_) <;> conv => whnf
  · exact ⟨rfl, rfl⟩
  have h : (bif decide (((rowsK l).length : Int) > 20) then true else decide (((rowsK ks).length : Int) > 20)) = false := h
  have h20 : l.length ≤ 20 ∧ ks.length ≤ 20 := by
    rw [hlen, hken] at h
    cases h1 : decide ((l.length : Int) > 20) with
    | true => rw [h1] at h; cases h
    | false =>
      rw [h1] at h
      have := of_decide_eq_false h1
      have := of_decide_eq_false (show decide ((ks.length : Int) > 20) = false from h)
      omega
  refine StopG.rounds wk11 [] [0, 1, 5, 6, 7] (fun m env s => ∃ i : Nat, i ≤ l.length ∧ m = l.length - i ∧ env = [(0, .d (.list 3 (rowsK l))), (1, .d (.list 3 (rowsK ks))), (5, .d (.bool true)), (6, .ref (.g 0) 0), (7, .d (.int .i64 (i : Int)))] ∧
    ((i = 0 ∧ s = [(0, nilC)]) ∨ (0 < i ∧ s = setS (putN l i)))) rfl ?_ ?_
  · conv => whnf
    exact ⟨_, 0, Nat.zero_le _, rfl, rfl, .inl ⟨rfl, rfl⟩⟩
  rintro m env s ⟨i, hi, rfl, rfl, hs⟩
  rcases Nat.lt_or_ge i l.length with hil | hil
  · obtain ⟨x, hx, _⟩ := at_i hil
    rcases hs with ⟨rfl, rfl⟩ | ⟨hi0, rfl⟩
    · conv => whnf
      rw [hlen, decide_eq_true (show ((0 : Nat) : Int) < (l.length : Int) by omega)]
      conv => whnf
      refine ⟨rowK x, ⟨by omega, row_i hx⟩, ?_⟩
      conv => whnf
      refine .obj rfl ?_
      conv => whnf
      refine ⟨_, _, ⟨WkL.refl _, put_none x⟩, fun res s1 h => ?_⟩
      obtain ⟨rfl, rfl⟩ := h
      conv => whnf
      rw [succ_i hil (by omega)]
      have f1 : putN l (0 + 1) = [x] := by rw [putN_succ hx]; rfl
      exact ⟨_, by omega, 0 + 1, hil, rfl, rfl, .inr ⟨by omega, by rw [f1]; rfl⟩⟩
    · conv => whnf
      rw [hlen, decide_eq_true (show (i : Int) < (l.length : Int) by omega)]
      conv => whnf
      refine ⟨rowK x, ⟨by omega, row_i hx⟩, ?_⟩
      conv => whnf
      refine .obj rfl ?_
      conv => whnf
      refine ⟨_, _, ⟨WkL.refl _, put_some (putN l i) (puts_ks _) (putN_ne hi0 hi) x⟩, fun res s1 h => ?_⟩
      obtain ⟨rfl, rfl⟩ := h
      conv => whnf
      rw [succ_i hil (by omega)]
      exact ⟨_, by omega, i + 1, hil, rfl, rfl, .inr ⟨by omega, by rw [putN_succ hx]; rfl⟩⟩
  have hie : i = l.length := by omega
  subst hie
  rcases hs with ⟨hl0, rfl⟩ | ⟨hi0, rfl⟩
  · have hl0 : l = [] := List.eq_nil_of_length_eq_zero hl0
    subst hl0
    conv => whnf
    refine .obj rfl ?_
    conv => whnf
    refine ⟨_, _, ⟨WkL.refl _, all27_none⟩, fun res s1 h => ?_⟩
    obtain ⟨rfl, rfl⟩ := h
    conv => whnf
    refine .obj rfl ?_
    conv => whnf
    refine ⟨_, _, ⟨WkL.refl _, keep44_none _⟩, fun res s1 h => ?_⟩
    obtain ⟨rfl, rfl⟩ := h
    conv => whnf
    refine .obj rfl ?_
    conv => whnf
    refine ⟨_, _, ⟨WkL.refl _, all27_none⟩, fun res s1 h => ?_⟩
    obtain ⟨rfl, rfl⟩ := h
    conv => whnf
    refine StopG.rounds wk11 [] [1, 5, 6, 8, 9, 10, 11, 12] (fun m env s => m = 0 ∧ env = [(1, .d (.list 3 (rowsK ks))), (5, .d (.bool true)), (6, .ref (.g 0) 0), (8, .d (.list 3 [])), (9, .d (.int .i64 0)), (10, .d (.list 3 [])), (11, .d (.int .i64 0)), (12, .d (.int .i64 0))] ∧ s = [(0, nilC)]) rfl ?_ ?_
    · conv => whnf
      exact ⟨_, rfl, rfl, rfl⟩
    rintro m env s ⟨rfl, rfl, rfl⟩
    conv => whnf
    refine StopG.rounds wk11 [] [5, 6, 8, 9, 10, 11, 14] (fun m env s => m = 0 ∧ env = [(5, .d (.bool true)), (6, .ref (.g 0) 0), (8, .d (.list 3 [])), (9, .d (.int .i64 0)), (10, .d (.list 3 [])), (11, .d (.int .i64 0)), (14, .d (.int .i64 0))] ∧ s = [(0, nilC)]) rfl ?_ ?_
    · conv => whnf
      exact ⟨_, rfl, rfl, rfl⟩
    rintro m env s ⟨rfl, rfl, rfl⟩
    conv => whnf
    refine .obj rfl ?_
    conv => whnf
    refine ⟨_, _, ⟨WkL.refl _, all27_none⟩, fun res s1 h => ?_⟩
    obtain ⟨rfl, rfl⟩ := h
    conv => whnf
    refine StopG.rounds wk11 [] [5, 6, 8, 9, 10, 11, 15, 16] (fun m env s => m = 0 ∧ env = [(5, .d (.bool true)), (6, .ref (.g 0) 0), (8, .d (.list 3 [])), (9, .d (.int .i64 0)), (10, .d (.list 3 [])), (11, .d (.int .i64 0)), (15, .d (.list 3 [])), (16, .d (.int .i64 0))] ∧ s = [(0, nilC)]) rfl ?_ ?_
    · conv => whnf
      exact ⟨_, rfl, rfl, rfl⟩
    rintro m env s ⟨rfl, rfl, rfl⟩
    conv => whnf
    refine .objg (fun _ => ?_) (fun h => absurd ?_ h)
    · conv => whnf
      refine ⟨_, _, ⟨WkL.refl _, len_none⟩, fun res s1 h => ?_⟩
      obtain ⟨rfl, rfl⟩ := h
      conv => whnf
      refine .objg (fun _ => ?_) (fun h => absurd ?_ h)
      · conv => whnf
        refine ⟨_, _, ⟨WkL.refl _, keep44_none _⟩, fun res s1 h => ?_⟩
        obtain ⟨rfl, rfl⟩ := h
        conv => whnf
        refine .objg (fun _ => ?_) (fun h => absurd ?_ h)
        · conv => whnf
          refine ⟨_, _, ⟨WkL.refl _, len_none⟩, fun res s1 h => ?_⟩
          obtain ⟨rfl, rfl⟩ := h
          conv => whnf
          exact ⟨rfl, rfl⟩
        · exact rfl
      · exact rfl
    · exact rfl
  · have hAk := puts_ks (l.take l.length)
    have hAl := puts_len (l.take l.length)
    have hA0 := putN_ne hi0 (Nat.le_refl _)
    rw [List.length_take, Nat.min_self] at hAl
    change Ks (putN l l.length) at hAk
    change (putN l l.length).length ≤ l.length at hAl
    generalize putN l l.length = A at *
    have hgo : ((A.filter fun k => !hasK ks k).length : Int) = (A.length : Int) - ((A.filter (hasK ks)).length : Int) := by
      have : ∀ (r : List Kl), (r.filter fun k => !hasK ks k).length + (r.filter (hasK ks)).length = r.length := by
        intro r
        induction r with
        | nil => rfl
        | cons x r ih =>
          rw [List.filter_cons, List.filter_cons]
          cases hasK ks x
          · simp only [Bool.not_false, if_true, Bool.false_eq_true, if_false, List.length_cons]; omega
          · simp only [Bool.not_true, if_true, Bool.false_eq_true, if_false, List.length_cons]; omega
      have := this A
      omega
    have hBk : Ks (A.filter (hasK ks)) := hAk.sublist (List.filter_sublist.map _)
    have hBl : (A.filter (hasK ks)).length ≤ A.length := List.length_filter_le ..
    have hBmem : ∀ x, x ∈ A.filter (hasK ks) ↔ x ∈ A ∧ hasK ks x = true := fun x => List.mem_filter
    have hk44 := keepH A hAk (by omega) ks (by omega)
    have hcnt : ∀ q : List Kl, q.Perm A → (q.filter (hasK ks)).length = (A.filter (hasK ks)).length := fun q hq => (hq.filter _).length_eq
    generalize A.filter (hasK ks) = B at *
    generalize ((A.filter fun k => !hasK ks k).length : Int) = gone at *
    conv => whnf
    rw [hlen, decide_eq_false (show ¬ (l.length : Int) < (l.length : Int) by omega)]
    conv => whnf
    refine .obj rfl ?_
    conv => whnf
    refine ⟨_, _, ⟨WkL.refl _, all27D A (by omega)⟩, fun res s1 h => ?_⟩
    obtain ⟨q1, hq1, _, rfl, rfl⟩ := h
    have hr1 := rowsK_len q1
    have hl1 := hq1.length_eq
    have hcq := hcnt q1 hq1
    conv => whnf
    refine .obj rfl ?_
    conv => whnf
    refine ⟨_, _, ⟨WkL.refl _, hk44⟩, fun res s1 h => ?_⟩
    obtain ⟨rfl, rfl⟩ := h
    conv => whnf
    refine .obj rfl ?_
    conv => whnf
    refine ⟨_, _, ⟨WkL.refl _, all27 B (by omega)⟩, fun res s1 h => ?_⟩
    obtain ⟨q2, hq2, _, hs2⟩ := h
    have hr2 := rowsK_len q2
    have hl2 := hq2.length_eq
    have hsame : ∀ x ∈ q1, hasK q2 x = hasK ks x := fun x hx => by
      rw [Bool.eq_iff_iff, hasK_iff, hq2.mem_iff, hBmem]
      exact ⟨fun h => h.2, fun h => ⟨hq1.subset hx, h⟩⟩
    have hcs : ∀ (j : Nat) (x : Kl), q1[j]? = some x → ((q1.take (j + 1)).filter (hasK ks)).length = ((q1.take j).filter (hasK ks)).length + (if hasK ks x = true then 1 else 0) := fun j x hx => by
      rw [List.take_add_one, hx, List.filter_append, List.length_append]
      simp only [Option.toList, List.filter_cons, List.filter_nil]
      split <;> rfl
    have hcl : ∀ j, ((q1.take j).filter (hasK ks)).length ≤ 20 := fun j => by
      have h1 := List.length_filter_le (hasK ks) (q1.take j)
      rw [List.length_take] at h1
      omega
    rcases hs2 with ⟨rfl, rfl, rfl⟩ | ⟨c, hc, rfl, rfl⟩
    · conv => whnf
      refine StopG.rounds wk11 [] [1, 5, 6, 8, 9, 10, 11, 12] (fun m env s => ∃ j : Nat, j ≤ q1.length ∧ m = q1.length - j ∧ env = [(1, .d (.list 3 (rowsK ks))), (5, .d (.bool true)), (6, .ref (.g 0) 0), (8, .d (.list 3 (rowsK q1))), (9, .d (.int .i64 gone)), (10, .d .nil), (11, .d (.int .i64 (((q1.take j).filter (hasK ks)).length : Int))), (12, .d (.int .i64 (j : Int)))] ∧ s = setS B) rfl ?_ ?_
      · conv => whnf
        exact ⟨_, 0, Nat.zero_le _, rfl, rfl, rfl⟩
      rintro m env s ⟨j, hj, rfl, rfl, rfl⟩
      conv => whnf
      refine bcase_intro (fun h => ?_) (fun h => ?_) <;> conv => whnf
      · have hjl := lt_of h
        rw [hr1] at hjl
        obtain ⟨x, hx, _⟩ := at_i hjl
        have hsx := hsame x (List.mem_of_getElem? hx)
        have hcx := hcs j x hx
        have hcj := hcl j
        refine ⟨rowK x, ⟨by omega, row_i hx⟩, ?_⟩
        conv => whnf
        refine .scal [.d (.list 3 (rowsK ks)), latV x.1 x.2.1 x.2.2] _ ⟨.refl _, rfl, hasLatch ks (by omega) _ _ _⟩ ?_
        conv => whnf
        refine ⟨rowK x, ⟨by omega, row_i hx⟩, ?_⟩
        conv => whnf
        refine .scal [.d (.list 3 (rowsK [])), latV x.1 x.2.1 x.2.2] _ ⟨.n 3 (.refl _), rfl, hasLatch [] (by decide) _ _ _⟩ ?_
        conv => whnf
        refine bcase_intro (fun hg => ?_) (fun hg => ?_)
        · exfalso
          have hg : (hasK [] x != hasK ks x) = true := hg
          rw [hsx] at hg
          simp at hg
        conv => whnf
        refine bcase_intro (fun hg2 => ?_) (fun hg2 => ?_) <;> conv => whnf
        · have hg2 : hasK ks x = true := hg2
          rw [hg2, if_pos rfl] at hcx
          rw [succ_i hjl (by omega)]
          refine ⟨_, by omega, j + 1, hjl, rfl, ?_, rfl⟩
          rw [hcx, wrap_id (by omega) (by omega)]
          rfl
        · have hg2 : hasK ks x = false := hg2
          rw [hg2, if_neg (by simp)] at hcx
          rw [succ_i hjl (by omega)]
          refine ⟨_, by omega, j + 1, hjl, rfl, ?_, rfl⟩
          rw [hcx]
          rfl
      have hjl := ge_of h
      rw [hr1] at hjl
      rw [List.take_of_length_le hjl, hcq]
      refine StopG.rounds wk11 [] [5, 6, 8, 9, 10, 11, 14] (fun m env s => m = 0 ∧ env = [(5, .d (.bool true)), (6, .ref (.g 0) 0), (8, .d (.list 3 (rowsK q1))), (9, .d (.int .i64 gone)), (10, .d .nil), (11, .d (.int .i64 (B.length : Int))), (14, .d (.int .i64 0))] ∧ s = setS B) rfl ?_ ?_
      · conv => whnf
        exact ⟨_, rfl, rfl, rfl⟩
      rintro m env s ⟨rfl, rfl, rfl⟩
      conv => whnf
      refine .obj rfl ?_
      conv => whnf
      refine ⟨_, _, ⟨WkL.refl _, all27D B (by omega)⟩, fun res s1 h => ?_⟩
      obtain ⟨q3, hq3, _, rfl, rfl⟩ := h
      have hr3 := rowsK_len q3
      have hl3 := hq3.length_eq
      conv => whnf
      refine StopG.rounds wk11 [] [5, 6, 8, 9, 10, 11, 15, 16] (fun m env s => ∃ j : Nat, j ≤ q3.length ∧ m = q3.length - j ∧ env = [(5, .d (.bool true)), (6, .ref (.g 0) 0), (8, .d (.list 3 (rowsK q1))), (9, .d (.int .i64 gone)), (10, .d .nil), (11, .d (.int .i64 (B.length : Int))), (15, .d (.list 3 (rowsK q3))), (16, .d (.int .i64 (j : Int)))] ∧ s = setS B) rfl ?_ ?_
      · conv => whnf
        exact ⟨_, 0, Nat.zero_le _, rfl, rfl, rfl⟩
      rintro m env s ⟨j3, hj3, rfl, rfl, rfl⟩
      conv => whnf
      refine bcase_intro (fun h => ?_) (fun h => ?_) <;> conv => whnf
      · have hjl := lt_of h
        rw [hr3] at hjl
        obtain ⟨x, hx, _⟩ := at_i hjl
        have hwas : hasK q1 x = true := hasK_iff.2 (hq1.symm.subset ((hBmem x).1 (hq3.subset (List.mem_of_getElem? hx))).1)
        refine ⟨rowK x, ⟨by omega, row_i hx⟩, ?_⟩
        conv => whnf
        have hhl := hasLatch q1 (by omega) x.1 x.2.1 x.2.2
        rw [show hasK q1 (x.1, x.2.1, x.2.2) = true from hwas] at hhl
        refine .scal [.d (.list 3 (rowsK q1)), latV x.1 x.2.1 x.2.2] _ ⟨.refl _, rfl, hhl⟩ ?_
        conv => whnf
        rw [succ_i hjl (by omega)]
        exact ⟨_, by omega, j3 + 1, hjl, rfl, rfl, rfl⟩
      have hk2 := keepH B hBk (by omega) [] (by decide)
      have e0 : B.filter (hasK []) = [] := List.filter_eq_nil_iff.2 fun x _ => by simp [hasK]
      have e1 : B.filter (fun k => !hasK [] k) = B := List.filter_eq_self.2 fun x _ => by simp [hasK]
      rw [e0, e1] at hk2
      have k1 : ((0 : Int) == (B.length : Int)) = true := by rw [← hl2]; rfl
      have k2 : (gone == IntKind.wrap .i64 (((rowsK q1).length : Int) - (B.length : Int))) = true := by
        rw [hr1, hl1, wrap_id (by omega) (by omega), hgo]; simp
      have k3 : ((B.length : Int) == (B.length : Int)) = true := by simp
      rw [k1, k2]
      refine .objg (fun _ => ?_) (fun h => absurd ?_ h)
      · conv => whnf
        refine ⟨_, _, ⟨WkL.refl _, len_some B⟩, fun res s1 h => ?_⟩
        obtain ⟨rfl, rfl⟩ := h
        conv => whnf
        rw [k3]
        refine .objg (fun _ => ?_) (fun h => absurd ?_ h)
        · conv => whnf
          refine ⟨_, _, ⟨.s _ (.n 3 .nil), hk2⟩, fun res s1 h => ?_⟩
          obtain ⟨rfl, rfl⟩ := h
          conv => whnf
          rw [k3]
          refine .objg (fun _ => ?_) (fun h => absurd ?_ h)
          · conv => whnf
            refine ⟨_, _, ⟨WkL.refl _, len_some []⟩, fun res s1 h => ?_⟩
            obtain ⟨rfl, rfl⟩ := h
            conv => whnf
            exact ⟨rfl, rfl⟩
          · exact rfl
        · exact rfl
      · exact rfl
    · conv => whnf
      refine StopG.rounds wk11 [] [1, 5, 6, 8, 9, 10, 11, 12] (fun m env s => ∃ j : Nat, j ≤ q1.length ∧ m = q1.length - j ∧ env = [(1, .d (.list 3 (rowsK ks))), (5, .d (.bool true)), (6, .ref (.g 0) 0), (8, .d (.list 3 (rowsK q1))), (9, .d (.int .i64 gone)), (10, .slc (.g 1) 3 0 q2.length c), (11, .d (.int .i64 (((q1.take j).filter (hasK ks)).length : Int))), (12, .d (.int .i64 (j : Int)))] ∧ s = [(0, .cells [.mp (.g 2)]), (1, .row 3 (rowsK q2)), (2, .dmap (encL B))]) rfl ?_ ?_
      · conv => whnf
        exact ⟨_, 0, Nat.zero_le _, rfl, rfl, rfl⟩
      rintro m env s ⟨j, hj, rfl, rfl, rfl⟩
      conv => whnf
      refine bcase_intro (fun h => ?_) (fun h => ?_) <;> conv => whnf
      · have hjl := lt_of h
        rw [hr1] at hjl
        obtain ⟨x, hx, _⟩ := at_i hjl
        have hsx := hsame x (List.mem_of_getElem? hx)
        have hcx := hcs j x hx
        have hcj := hcl j
        refine ⟨rowK x, ⟨by omega, row_i hx⟩, ?_⟩
        conv => whnf
        refine .scal [.d (.list 3 (rowsK ks)), latV x.1 x.2.1 x.2.2] _ ⟨.refl _, rfl, hasLatch ks (by omega) _ _ _⟩ ?_
        conv => whnf
        refine ⟨rowK x, ⟨by omega, row_i hx⟩, ?_⟩
        conv => whnf
        refine .scal [.d (.list 3 (rowsK q2)), latV x.1 x.2.1 x.2.2] _ ⟨.own 1 3 0 q2.length c (rowsK q2) (rowsK q2) rfl (by omega) (by decide) (by rw [List.drop_zero, List.take_of_length_le (by omega)]) (.refl _), rfl, hasLatch q2 (by omega) _ _ _⟩ ?_
        conv => whnf
        refine bcase_intro (fun hg => ?_) (fun hg => ?_)
        · exfalso
          have hg : (hasK q2 x != hasK ks x) = true := hg
          rw [hsx] at hg
          simp at hg
        conv => whnf
        refine bcase_intro (fun hg2 => ?_) (fun hg2 => ?_) <;> conv => whnf
        · have hg2 : hasK ks x = true := hg2
          rw [hg2, if_pos rfl] at hcx
          rw [succ_i hjl (by omega)]
          refine ⟨_, by omega, j + 1, hjl, rfl, ?_, rfl⟩
          rw [hcx, wrap_id (by omega) (by omega)]
          rfl
        · have hg2 : hasK ks x = false := hg2
          rw [hg2, if_neg (by simp)] at hcx
          rw [succ_i hjl (by omega)]
          refine ⟨_, by omega, j + 1, hjl, rfl, ?_, rfl⟩
          rw [hcx]
          rfl
      have hjl := ge_of h
      rw [hr1] at hjl
      rw [List.take_of_length_le hjl, hcq]
      refine StopG.rounds wk11 [] [5, 6, 8, 9, 10, 11, 14] (fun m env s => ∃ (j : Nat) (q : List Kl), j ≤ q2.length ∧ m = q2.length - j ∧ q.length = q2.length ∧ env = [(5, .d (.bool true)), (6, .ref (.g 0) 0), (8, .d (.list 3 (rowsK q1))), (9, .d (.int .i64 gone)), (10, .slc (.g 1) 3 0 q2.length c), (11, .d (.int .i64 (B.length : Int))), (14, .d (.int .i64 (j : Int)))] ∧ s = [(0, .cells [.mp (.g 2)]), (1, .row 3 (rowsK q)), (2, .dmap (encL B))]) rfl ?_ ?_
      · conv => whnf
        exact ⟨_, 0, q2, Nat.zero_le _, rfl, rfl, rfl, rfl⟩
      rintro m env s ⟨j2, q, hj2, rfl, hql, rfl, rfl⟩
      have hqr := rowsK_len q
      conv => whnf
      refine bcase_intro (fun h => ?_) (fun h => ?_) <;> conv => whnf
      · have hjl := lt_of h
        obtain ⟨x, hx, _⟩ := at_i (l := q) (i := j2) (by omega)
        refine ⟨⟨by omega, by omega⟩, ?_⟩
        conv => whnf
        refine ⟨rowK x, row_g hx, ?_⟩
        conv => whnf
        rw [succ_i hjl (by omega)]
        exact ⟨_, by omega, j2 + 1, q.set j2 (x.1, x.2.1, -7), hjl, rfl, by rw [List.length_set]; exact hql, rfl, congrArg (fun r => [(0, AB.cells [.mp (.g 2)]), (1, AB.row 3 r), (2, AB.dmap (encL B))]) (set_row (row := rowK) (x.1, x.2.1, -7))⟩
      refine .obj rfl ?_
      conv => whnf
      refine ⟨_, _, ⟨WkL.refl _, all27D B (by omega)⟩, fun res s1 h => ?_⟩
      obtain ⟨q3, hq3, _, rfl, rfl⟩ := h
      have hr3 := rowsK_len q3
      have hl3 := hq3.length_eq
      conv => whnf
      refine StopG.rounds wk11 [] [5, 6, 8, 9, 10, 11, 15, 16] (fun m env s => ∃ j : Nat, j ≤ q3.length ∧ m = q3.length - j ∧ env = [(5, .d (.bool true)), (6, .ref (.g 0) 0), (8, .d (.list 3 (rowsK q1))), (9, .d (.int .i64 gone)), (10, .slc (.g 1) 3 0 q2.length c), (11, .d (.int .i64 (B.length : Int))), (15, .d (.list 3 (rowsK q3))), (16, .d (.int .i64 (j : Int)))] ∧ s = [(0, .cells [.mp (.g 2)]), (1, .row 3 (rowsK q)), (2, .dmap (encL B))]) rfl ?_ ?_
      · conv => whnf
        exact ⟨_, 0, Nat.zero_le _, rfl, rfl, rfl⟩
      rintro m env s ⟨j3, hj3, rfl, rfl, rfl⟩
      conv => whnf
      refine bcase_intro (fun h => ?_) (fun h => ?_) <;> conv => whnf
      · have hjl := lt_of h
        rw [hr3] at hjl
        obtain ⟨x, hx, _⟩ := at_i hjl
        have hwas : hasK q1 x = true := hasK_iff.2 (hq1.symm.subset ((hBmem x).1 (hq3.subset (List.mem_of_getElem? hx))).1)
        refine ⟨rowK x, ⟨by omega, row_i hx⟩, ?_⟩
        conv => whnf
        have hhl := hasLatch q1 (by omega) x.1 x.2.1 x.2.2
        rw [show hasK q1 (x.1, x.2.1, x.2.2) = true from hwas] at hhl
        refine .scal [.d (.list 3 (rowsK q1)), latV x.1 x.2.1 x.2.2] _ ⟨.refl _, rfl, hhl⟩ ?_
        conv => whnf
        rw [succ_i hjl (by omega)]
        exact ⟨_, by omega, j3 + 1, hjl, rfl, rfl, rfl⟩
      have hk2 := keepH B hBk (by omega) [] (by decide)
      have e0 : B.filter (hasK []) = [] := List.filter_eq_nil_iff.2 fun x _ => by simp [hasK]
      have e1 : B.filter (fun k => !hasK [] k) = B := List.filter_eq_self.2 fun x _ => by simp [hasK]
      rw [e0, e1] at hk2
      have k1 : ((q2.length : Int) == (B.length : Int)) = true := by rw [hl2]; simp
      have k2 : (gone == IntKind.wrap .i64 (((rowsK q1).length : Int) - (B.length : Int))) = true := by
        rw [hr1, hl1, wrap_id (by omega) (by omega), hgo]; simp
      have k3 : ((B.length : Int) == (B.length : Int)) = true := by simp
      rw [k1, k2]
      refine .objg (fun _ => ?_) (fun h => absurd ?_ h)
      · conv => whnf
        refine ⟨_, _, ⟨WkL.refl _, len_some B⟩, fun res s1 h => ?_⟩
        obtain ⟨rfl, rfl⟩ := h
        conv => whnf
        rw [k3]
        refine .objg (fun _ => ?_) (fun h => absurd ?_ h)
        · conv => whnf
          refine ⟨_, _, ⟨.s _ (.n 3 .nil), hk2⟩, fun res s1 h => ?_⟩
          obtain ⟨rfl, rfl⟩ := h
          conv => whnf
          rw [k3]
          refine .objg (fun _ => ?_) (fun h => absurd ?_ h)
          · conv => whnf
            refine ⟨_, _, ⟨WkL.refl _, len_some []⟩, fun res s1 h => ?_⟩
            obtain ⟨rfl, rfl⟩ := h
            conv => whnf
            exact ⟨rfl, rfl⟩
          · exact rfl
        · exact rfl
      · exact rfl
end Go.Proofs.Ytkenimmellonjaa
/- Seat r2: what is kept: what comes in. -/
namespace Go.Proofs.Ytkenimmellonjaa
open Go.Pv Go.RowKit
theorem dat_lat {n : Nat} {r : List DV} (h : Dat T (n + 3) 38 r) : ∃ k : Int × Int × Int, r = rowK k := by
  obtain ⟨_, _, rfl, ⟨_, _, rfl, ⟨fl, _, _, rfl⟩, _, _, rfl, ⟨dr, _, _, rfl⟩, rfl⟩, _, _, rfl, ⟨gn, _, _, rfl⟩, rfl⟩ := h
  exact ⟨(fl, dr, gn), rfl⟩
theorem dat_lats {n : Nat} {r : List DV} (h : Dat T (n + 4) 30 r) : ∃ (x : DV) (l : List (Int × Int × Int)), r = [x] ∧ l.length ≤ maxLen ∧ WkD x (.list 3 (rowsK l)) := by
  rcases h with h | ⟨rows, h1, h2, h⟩
  · exact ⟨.nil, [], h, by simp, WkD.nil 3⟩
  · have : ∃ l : List (Int × Int × Int), rows = rowsK l := by
      clear h1 h
      induction rows with
      | nil => exact ⟨[], rfl⟩
      | cons r rs ih =>
        obtain ⟨l, h3⟩ := ih fun x hx => h2 x (List.mem_cons_of_mem _ hx)
        obtain ⟨b, h4⟩ := dat_lat (h2 r (List.mem_cons_self ..))
        exact ⟨b :: l, by rw [h3, h4]; rfl⟩
    obtain ⟨l, rfl⟩ := this
    exact ⟨_, l, h, by simpa [rowsK] using h1, WkD.refl _⟩
theorem arg_lats {n : Nat} {x : AV} (h : ArgD T (n + 5) 30 x) : ∃ l : List (Int × Int × Int), l.length ≤ maxLen ∧ ∀ {r r' : List AV}, WkL r r' → WkL (x :: r) (.d (.list 3 (rowsK l)) :: r') := by
  obtain ⟨y, h, rfl⟩ := h
  obtain ⟨z, l, hz, hl, hw⟩ := dat_lats h
  cases hz
  exact ⟨l, hl, fun h => .w hw h⟩
end Go.Proofs.Ytkenimmellonjaa
