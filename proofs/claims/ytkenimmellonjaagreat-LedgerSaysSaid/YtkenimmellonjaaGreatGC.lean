/- The seat's texts, part 3: what single functions of the program compute; no statement of its own. -/
import Derived.Test.YtkenimmellonjaaGreatGB
import Derived.Test.YtkenimmellonjaaGreatGA
/- Seat Z: two ranges in order made one: many against many. -/
namespace Go.Proofs.YtkenimmellonjaaGreat
open Go.Pv Go.RowKit Go.Shelf
theorem bif_lt {a b d e : Nat} (h : (bif decide ((a : Int) < (b : Int)) then decide ((d : Int) < (e : Int)) else false) = true) : a < b ∧ d < e := by
  cases h1 : decide ((a : Int) < (b : Int)) with
  | false => rw [h1] at h; cases h
  | true =>
    rw [h1] at h
    have h1 := of_decide_eq_true h1
    have h2 : decide ((d : Int) < (e : Int)) = true := h
    have h2 := of_decide_eq_true h2
    omega
theorem bif_ge {a b d e : Nat} (h : (bif decide ((a : Int) < (b : Int)) then decide ((d : Int) < (e : Int)) else false) = false) : b ≤ a ∨ e ≤ d := by
  cases h1 : decide ((a : Int) < (b : Int)) with
  | false => have h1 := of_decide_eq_false h1; omega
  | true =>
    rw [h1] at h
    have h2 : decide ((d : Int) < (e : Int)) = false := h
    have h2 := of_decide_eq_false h2
    omega
set_option maxHeartbeats 4000000 in
set_option maxRecDepth 100000 in
theorem symTail (f : Nat) (c : Kt → Kt → Int) (O : Ordr c) (hf : ∀ x y : Kt, Contract Tryz.prog G0 f [latV x.1 x.2.1 x.2.2, latV y.1 y.2.1 y.2.2] [] (fun r t => r = .d (.int .i64 (c x y)) ∧ t = []))
    (n : Nat) (ih : ∀ (P A B Q : List Kt), A.length + B.length ≤ n → 1 ≤ A.length → 1 ≤ B.length → Srt c A → Srt c B → ∀ N, P.length + A.length + B.length + Q.length = N → N ≤ 100000 → ∀ cap,
      Contract Tryz.prog G0 105 [.slc (.g 0) 3 0 N cap, .d (.int .i64 (P.length : Int)), .d (.int .i64 ((P.length + A.length : Nat) : Int)), .d (.int .i64 ((P.length + A.length + B.length : Nat) : Int)), .fn f []] [(0, .row 3 (rowsK (P ++ A ++ B ++ Q)))]
        (fun r t => ∃ o, r = .tup [] ∧ Srt c o ∧ Stb c (A ++ B) o ∧ t = [(0, .row 3 (rowsK (P ++ o ++ Q)))]))
    (P A B Q : List Kt) (hn : A.length + B.length ≤ n + 1) (hA2 : 2 ≤ A.length) (hB2 : 2 ≤ B.length) (hA : Srt c A) (hB : Srt c B) (N : Nat) (hN : P.length + A.length + B.length + Q.length = N) (hl : N ≤ 100000) (cap : Nat)
    (mid : Nat) (hmid : (P.length + (P.length + A.length + B.length)) / 2 = mid) (lo hi : Nat) (b0 : Bool) (hlo : lo = P.length ∨ lo + B.length = mid) (hhi : hi = P.length + A.length ∨ hi = mid) (h1 : P.length ≤ lo) (h2 : mid ≤ lo + B.length) (h3 : lo ≤ hi) (h4 : hi ≤ P.length + A.length) (h5 : hi ≤ mid) :
    StopG Tryz.prog cx105 1 R105 (KV T Tryz.f105.results.toList 1 fun r t => ∃ o, r = .tup [] ∧ Srt c o ∧ Stb c (A ++ B) o ∧ t = [(0, .row 3 (rowsK (P ++ o ++ Q)))])
      [0, 0, 1, 1, 1, 1, 1, 1, 1] [Fr.bl 8, Fr.sq [1, 1, 1, 1, 1, 1, 1, 1]]
      [(0, .slc (.g 0) 3 0 N cap), (1, .d (.int .i64 (P.length : Int))), (2, .d (.int .i64 ((P.length + A.length : Nat) : Int))), (3, .d (.int .i64 ((P.length + A.length + B.length : Nat) : Int))), (4, .fn f []),
        (18, .d (.int .i64 (mid : Int))), (19, .d (.int .i64 ((mid + (P.length + A.length) : Nat) : Int))), (20, .d (.int .i64 (lo : Int))), (21, .d (.int .i64 (hi : Int))), (22, .d (.int .i64 ((mid + (P.length + A.length) - 1 : Nat) : Int))), (28, .d (.bool false)), (80, .d (.bool false)), (140, .d (.bool b0))]
      [(0, .row 3 (rowsK (P ++ A ++ B ++ Q)))] := by
  refine StopG.rounds wk105 [] [0, 1, 2, 3, 4, 18, 19, 20, 21, 22] (fun m env s => ∃ st r : Nat, P.length ≤ st ∧ mid ≤ st + B.length ∧ st ≤ r ∧ r ≤ P.length + A.length ∧ r ≤ mid ∧
    (st = P.length ∨ st + B.length = mid ∨ (P.length < st ∧ ∀ x y, A[st - 1 - P.length]? = some x → B[mid - st]? = some y → ¬ c y x < 0)) ∧
    (r = P.length + A.length ∨ r = mid ∨ ∀ x y, A[r - P.length]? = some x → B[mid - 1 - r]? = some y → c y x < 0) ∧ m = r - st ∧
    env = [(0, .slc (.g 0) 3 0 N cap), (1, .d (.int .i64 (P.length : Int))), (2, .d (.int .i64 ((P.length + A.length : Nat) : Int))), (3, .d (.int .i64 ((P.length + A.length + B.length : Nat) : Int))), (4, .fn f []),
        (18, .d (.int .i64 (mid : Int))), (19, .d (.int .i64 ((mid + (P.length + A.length) : Nat) : Int))), (20, .d (.int .i64 (st : Int))), (21, .d (.int .i64 (r : Int))), (22, .d (.int .i64 ((mid + (P.length + A.length) - 1 : Nat) : Int)))] ∧ s = [(0, .row 3 (rowsK (P ++ A ++ B ++ Q)))]) rfl ?_ ?_
  · conv => whnf
    exact ⟨_, lo, hi, h1, h2, h3, h4, h5, hlo.elim .inl fun h => .inr (.inl h), hhi.elim .inl fun h => .inr (.inl h), rfl, rfl, rfl⟩
  clear hlo hhi h1 h2 h3 h4 h5 lo hi b0
  rintro m env s ⟨st, r, h1, h2, h3, h4, h5, hlo, hhi, rfl, rfl, rfl⟩
  conv => whnf
  refine bcase_intro (fun h => ?_) (fun h => ?_) <;> conv => whnf
  · have hlt := lt_of h
    rw [half_i (by omega)]
    obtain ⟨k, hk⟩ : ∃ k, (st + r) / 2 = k := ⟨_, rfl⟩
    rw [hk]
    obtain ⟨x, hx, _⟩ := at_i (show k - P.length < A.length by omega)
    obtain ⟨y, hy, _⟩ := at_i (show mid - 1 - k < B.length by omega)
    have hxr : (rowsK (P ++ A ++ B ++ Q))[0 + (k : Int).toNat]? = some (rowK x) := by
      refine rowK_at ?_
      rw [List.append_assoc, List.append_assoc, List.getElem?_append_right (by omega), List.getElem?_append_left (by omega)]
      exact hx
    have hyr : (rowsK (P ++ A ++ B ++ Q))[0 + ((P.length + A.length + (mid - 1 - k) : Nat) : Int).toNat]? = some (rowK y) := by
      refine rowK_at ?_
      rw [List.append_assoc, List.getElem?_append_right (by rw [List.length_append]; omega), List.getElem?_append_left (by rw [List.length_append]; omega), List.length_append, Nat.add_sub_cancel_left]
      exact hy
    have hw : IntKind.wrap .i64 (((mid + (P.length + A.length) - 1 : Nat) : Int) - (k : Int)) = ((P.length + A.length + (mid - 1 - k) : Nat) : Int) := sub_i (by omega) (by omega)
    have bb : 0 ≤ ((P.length + A.length + (mid - 1 - k) : Nat) : Int) ∧ ((P.length + A.length + (mid - 1 - k) : Nat) : Int) < (N : Int) := ⟨by omega, by omega⟩
    rw [← hw] at hyr bb
    refine ⟨bb, ?_⟩
    conv => whnf
    refine ⟨rowK y, hyr, rfl, ?_⟩
    conv => whnf
    refine ⟨⟨by omega, by omega⟩, ?_⟩
    conv => whnf
    refine ⟨rowK x, hxr, rfl, ?_⟩
    conv => whnf
    refine .scal [latV y.1 y.2.1 y.2.2, latV x.1 x.2.1 x.2.2] _ ⟨.refl _, rfl, hf y x⟩ ?_
    conv => whnf
    refine bcase_intro (fun h6 => ?_) (fun h6 => ?_) <;> conv => whnf
    · have h6 : ¬ c y x < 0 := by simpa using h6
      rw [succ_i (i := k) (Nat.lt_succ_self _) (by omega)]
      refine ⟨_, ?_, k + 1, r, by omega, by omega, by omega, h4, h5, .inr (.inr ⟨by omega, fun x' y' hx' hy' => ?_⟩), hhi, rfl, rfl, rfl⟩
      · omega
      · rw [Nat.add_sub_cancel, hx] at hx'
        rw [show mid - (k + 1) = mid - 1 - k by omega, hy] at hy'
        cases hx'
        cases hy'
        exact h6
    · have h6 : c y x < 0 := by simpa using h6
      refine ⟨_, ?_, st, k, h1, h2, by omega, by omega, by omega, hlo, .inr (.inr fun x' y' hx' hy' => ?_), rfl, rfl, rfl⟩
      · omega
      · rw [hx] at hx'
        rw [hy] at hy'
        cases hx'
        cases hy'
        exact h6
  have hge := ge_of h
  have hrs : r = st := by omega
  subst hrs
  have le12 : ∀ x ∈ A.take (r - P.length), ∀ y ∈ B.drop (mid - r), ¬ c y x < 0 := by
    intro x hx y hy
    obtain ⟨i, hi, hx⟩ := mem_take hx
    obtain ⟨j, hj, hy⟩ := mem_drop hy
    have hjl := (List.getElem?_eq_some_iff.1 hy).1
    rcases hlo with e | e | ⟨e, hp⟩
    · omega
    · omega
    · obtain ⟨x2, hx2, _⟩ := at_i (show r - 1 - P.length < A.length by omega)
      obtain ⟨y2, hy2, _⟩ := at_i (show mid - r < B.length by omega)
      exact O.tr _ _ _ (srt_get O hA (show i ≤ r - 1 - P.length by omega) hx hx2) (O.tr _ _ _ (hp x2 y2 hx2 hy2) (srt_get O hB hj hy2 hy))
  have lt21 : ∀ x ∈ A.drop (r - P.length), ∀ y ∈ B.take (mid - r), c y x < 0 := by
    intro x hx y hy
    obtain ⟨i, hi, hx⟩ := mem_drop hx
    obtain ⟨j, hj, hy⟩ := mem_take hy
    have hil := (List.getElem?_eq_some_iff.1 hx).1
    rcases hhi with e | e | hp
    · omega
    · omega
    · obtain ⟨x2, hx2, _⟩ := at_i (show r - P.length < A.length by omega)
      obtain ⟨y2, hy2, _⟩ := at_i (show mid - 1 - r < B.length by omega)
      exact O.lt_le (O.le_lt (srt_get O hB (show j ≤ mid - 1 - r by omega) hy hy2) (hp x2 y2 hx2 hy2)) (srt_get O hA hi hx2 hx)
  have hlA : (A.take (r - P.length)).length = r - P.length := by rw [List.length_take]; omega
  have hlB : (B.take (mid - r)).length = mid - r := by rw [List.length_take]; omega
  generalize hA1 : A.take (r - P.length) = A1 at le12 hlA
  generalize hA2' : A.drop (r - P.length) = A2 at lt21
  generalize hB1 : B.take (mid - r) = B1 at lt21 hlB
  generalize hB2' : B.drop (mid - r) = B2 at le12
  have hAA : A = A1 ++ A2 := by rw [← hA1, ← hA2', List.take_append_drop]
  have hBB : B = B1 ++ B2 := by rw [← hB1, ← hB2', List.take_append_drop]
  clear hA1 hA2' hB1 hB2' hlo hhi
  have er : r = P.length + A1.length := by omega
  have em : mid = P.length + A1.length + B1.length := by omega
  subst er
  subst em
  subst hAA
  subst hBB
  rw [List.length_append] at hN hn hA2 hmid h4 hB2 h2
  simp only [List.length_append] at hN hn hmid hB2 h2
  rw [sub_i (a := P.length + A1.length + B1.length + (P.length + (A1 ++ A2).length)) (b := P.length + A1.length) (c := P.length + A1.length + A2.length + B1.length) (by rw [List.length_append]; omega) (by rw [List.length_append]; omega), List.length_append, List.length_append]
  rw [← Nat.add_assoc P.length A1.length A2.length, show P ++ (A1 ++ A2) ++ (B1 ++ B2) ++ Q = P ++ A1 ++ A2 ++ B1 ++ (B2 ++ Q) by simp]
  refine bcase_intro (fun hg => ?_) (fun hg => ?_) <;> conv => whnf
  rotate_left
  have e : P ++ A1 ++ A2 ++ B1 ++ (B2 ++ Q) = P ++ A1 ++ B1 ++ A2 ++ (B2 ++ Q) := by
    rcases bif_ge hg with g | g
    · rw [show A2 = [] from List.eq_nil_of_length_eq_zero (by omega)]; simp
    · rw [show B1 = [] from List.eq_nil_of_length_eq_zero (by omega)]; simp
  rw [e]
  clear e
  rotate_left
  have hro := rotate f (P ++ A1) A2 B1 (B2 ++ Q) (by have := bif_lt hg; omega) (by have := bif_lt hg; omega) N (by simp only [List.length_append]; omega) hl cap
  rw [show (P ++ A1).length = P.length + A1.length from List.length_append] at hro
  refine .obj rfl ?_
  conv => whnf
  refine ⟨_, _, ⟨WkL.refl _, hro⟩, fun res s1 hs => ?_⟩
  obtain ⟨rfl, rfl⟩ := hs
  clear hro
  conv => whnf
  all_goals
    clear hg
    refine bcase_intro (fun hg => ?_) (fun hg => ?_) <;> conv => whnf
    rotate_left
    obtain ⟨o1, ho1⟩ : ∃ o1, A1 ++ B1 = o1 := ⟨_, rfl⟩
    have hs1 : Srt c o1 := by
      rw [← ho1]
      rcases bif_ge hg with g | g
      · rw [show A1 = [] from List.eq_nil_of_length_eq_zero (by omega)]; exact hB.left
      · rw [show B1 = [] from List.eq_nil_of_length_eq_zero (by omega), List.append_nil]; exact hA.left
    have hb1 : Stb c (A1 ++ B1) o1 := by rw [ho1]; exact Stb.refl _ _
    rw [show P ++ A1 ++ B1 ++ A2 ++ (B2 ++ Q) = P ++ o1 ++ (A2 ++ (B2 ++ Q)) by rw [← ho1]; simp]
    clear ho1
    rotate_left
    have hi1 := ih P A1 B1 (A2 ++ (B2 ++ Q)) (by have := bif_lt hg; omega) (by have := bif_lt hg; omega) (by have := bif_lt hg; omega) hA.left hB.left N (by simp only [List.length_append]; omega) hl cap
    rw [show P ++ A1 ++ B1 ++ (A2 ++ (B2 ++ Q)) = P ++ A1 ++ B1 ++ A2 ++ (B2 ++ Q) by simp] at hi1
    refine .obj rfl ?_
    conv => whnf
    refine ⟨_, _, ⟨WkL.refl _, hi1⟩, fun res s1 hs => ?_⟩
    obtain ⟨o1, rfl, hs1, hb1, rfl⟩ := hs
    clear hi1
    conv => whnf
    all_goals
      clear hg
      have hl1 := hb1.len O
      rw [List.length_append] at hl1
      refine bcase_intro (fun hg => ?_) (fun hg => ?_) <;> conv => whnf
      · obtain ⟨g3, g4⟩ := bif_lt hg
        have hi2 := ih (P ++ o1) A2 B2 Q (by omega) (by omega) (by omega) hA.right hB.right N (by simp only [List.length_append]; omega) hl cap
        rw [List.length_append, hl1, show P.length + (A1.length + B1.length) = P.length + A1.length + B1.length by omega, show P.length + A1.length + B1.length + A2.length = P.length + A1.length + A2.length + B1.length by omega, show P.length + A1.length + A2.length + B1.length + B2.length = P.length + A1.length + A2.length + (B1.length + B2.length) by omega,
          show P ++ o1 ++ A2 ++ B2 ++ Q = P ++ o1 ++ (A2 ++ (B2 ++ Q)) by simp] at hi2
        refine .obj rfl ?_
        conv => whnf
        refine ⟨_, _, ⟨WkL.refl _, hi2⟩, fun res s1 hs => ?_⟩
        obtain ⟨o2, rfl, hs2, hb2, rfl⟩ := hs
        conv => whnf
        have hm := merge_parts O hA hB le12 lt21 hs1 hs2 hb1 hb2
        exact ⟨o1 ++ o2, rfl, hm.1, hm.2, by simp⟩
      · have hs2 : Srt c (A2 ++ B2) := by
          rcases bif_ge hg with g | g
          · rw [show A2 = [] from List.eq_nil_of_length_eq_zero (by omega)]; exact hB.right
          · rw [show B2 = [] from List.eq_nil_of_length_eq_zero (by omega), List.append_nil]; exact hA.right
        have hm := merge_parts O hA hB le12 lt21 hs1 hs2 hb1 (Stb.refl _ _)
        exact ⟨o1 ++ (A2 ++ B2), rfl, hm.1, hm.2, by simp⟩
set_option maxHeartbeats 4000000 in
set_option maxRecDepth 100000 in
theorem symBig (f : Nat) (c : Kt → Kt → Int) (O : Ordr c) (hf : ∀ x y : Kt, Contract Tryz.prog G0 f [latV x.1 x.2.1 x.2.2, latV y.1 y.2.1 y.2.2] [] (fun r t => r = .d (.int .i64 (c x y)) ∧ t = []))
    (n : Nat) (ih : ∀ (P A B Q : List Kt), A.length + B.length ≤ n → 1 ≤ A.length → 1 ≤ B.length → Srt c A → Srt c B → ∀ N, P.length + A.length + B.length + Q.length = N → N ≤ 100000 → ∀ cap,
      Contract Tryz.prog G0 105 [.slc (.g 0) 3 0 N cap, .d (.int .i64 (P.length : Int)), .d (.int .i64 ((P.length + A.length : Nat) : Int)), .d (.int .i64 ((P.length + A.length + B.length : Nat) : Int)), .fn f []] [(0, .row 3 (rowsK (P ++ A ++ B ++ Q)))]
        (fun r t => ∃ o, r = .tup [] ∧ Srt c o ∧ Stb c (A ++ B) o ∧ t = [(0, .row 3 (rowsK (P ++ o ++ Q)))]))
    (P A B Q : List Kt) (hn : A.length + B.length ≤ n + 1) (hA2 : 2 ≤ A.length) (hB2 : 2 ≤ B.length) (hA : Srt c A) (hB : Srt c B) (N : Nat) (hN : P.length + A.length + B.length + Q.length = N) (hl : N ≤ 100000) (cap : Nat) :
    Contract Tryz.prog G0 105 [.slc (.g 0) 3 0 N cap, .d (.int .i64 (P.length : Int)), .d (.int .i64 ((P.length + A.length : Nat) : Int)), .d (.int .i64 ((P.length + A.length + B.length : Nat) : Int)), .fn f []] [(0, .row 3 (rowsK (P ++ A ++ B ++ Q)))]
      (fun r t => ∃ o, r = .tup [] ∧ Srt c o ∧ Stb c (A ++ B) o ∧ t = [(0, .row 3 (rowsK (P ++ o ++ Q)))]) := by
  refine run105 1 [] rfl rfl ?_
  conv => whnf
  rw [sub_i (a := P.length + A.length) (b := P.length) (c := A.length) rfl (by omega), not_one hA2]
  conv => whnf
  rw [sub_i (a := P.length + A.length + B.length) (b := P.length + A.length) (c := B.length) rfl (by omega), not_one hB2]
  conv => whnf
  rw [half_i (a := P.length) (b := P.length + A.length + B.length) (by omega)]
  obtain ⟨mid, hmid⟩ : ∃ mid, (P.length + (P.length + A.length + B.length)) / 2 = mid := ⟨_, rfl⟩
  rw [hmid, sum_i (a := mid) (b := P.length + A.length) (by omega)]
  refine bcase_intro (fun h => ?_) (fun h => ?_) <;> conv => whnf
  · have hgt : mid < P.length + A.length := by have := of_decide_eq_true h; omega
    rw [sub_i (a := mid + (P.length + A.length)) (b := P.length + A.length + B.length) (c := mid - B.length) (by omega) (by omega), dec_i (a := mid + (P.length + A.length)) (c := mid + (P.length + A.length) - 1) (by omega) (by omega)]
    exact symTail f c O hf n ih P A B Q hn hA2 hB2 hA hB N hN hl cap mid hmid (mid - B.length) mid _ (.inr (by omega)) (.inr rfl) (by omega) (by omega) (by omega) (by omega) (by omega)
  · have hle : P.length + A.length ≤ mid := by have := of_decide_eq_false h; omega
    rw [dec_i (a := mid + (P.length + A.length)) (c := mid + (P.length + A.length) - 1) (by omega) (by omega)]
    exact symTail f c O hf n ih P A B Q hn hA2 hB2 hA hB N hN hl cap mid hmid P.length (P.length + A.length) _ (.inl rfl) (.inl rfl) (by omega) (by omega) (by omega) (by omega) (by omega)
end Go.Proofs.YtkenimmellonjaaGreat
/- Seat Z: two ranges in order made one. -/
namespace Go.Proofs.YtkenimmellonjaaGreat
open Go.Pv Go.RowKit Go.Shelf
theorem symMerge (f : Nat) (c : Kt → Kt → Int) (O : Ordr c) (hf : ∀ x y : Kt, Contract Tryz.prog G0 f [latV x.1 x.2.1 x.2.2, latV y.1 y.2.1 y.2.2] [] (fun r t => r = .d (.int .i64 (c x y)) ∧ t = [])) :
    ∀ (n : Nat) (P A B Q : List Kt), A.length + B.length ≤ n → 1 ≤ A.length → 1 ≤ B.length → Srt c A → Srt c B → ∀ N, P.length + A.length + B.length + Q.length = N → N ≤ 100000 → ∀ cap,
      Contract Tryz.prog G0 105 [.slc (.g 0) 3 0 N cap, .d (.int .i64 (P.length : Int)), .d (.int .i64 ((P.length + A.length : Nat) : Int)), .d (.int .i64 ((P.length + A.length + B.length : Nat) : Int)), .fn f []] [(0, .row 3 (rowsK (P ++ A ++ B ++ Q)))]
        (fun r t => ∃ o, r = .tup [] ∧ Srt c o ∧ Stb c (A ++ B) o ∧ t = [(0, .row 3 (rowsK (P ++ o ++ Q)))])
  | 0, _, _, _, _, h, h1, _, _, _, _, _, _, _ => absurd h (by omega)
  | n + 1, P, A, B, Q, hn, h1, h2, hA, hB, N, hN, hl, cap => by
    match A, B, h1, h2 with
    | [x], B, _, _ =>
      have := symOne f c O hf P x B Q hB N hN hl cap
      rw [show P ++ [x] ++ B ++ Q = P ++ x :: B ++ Q by simp]
      exact this
    | x :: x' :: A, [y], _, _ =>
      have := symTwo f c O hf P (x :: x' :: A) y Q (by simp) hA N hN hl cap
      rw [show P ++ x :: x' :: A ++ [y] ++ Q = P ++ x :: x' :: A ++ y :: Q by simp]
      exact this
    | x :: x' :: A, y :: y' :: B, _, _ =>
      exact symBig f c O hf n (symMerge f c O hf n) P _ _ Q hn (by simp) (by simp) hA hB N hN hl cap
end Go.Proofs.YtkenimmellonjaaGreat
/- Seat Z: latches put in order, stable. -/
namespace Go.Proofs.YtkenimmellonjaaGreat
open Go.Pv Go.RowKit Go.Shelf
theorem dbl_i {a : Nat} (h : 2 * a ≤ 4611686018427387904) : IntKind.wrap .i64 ((2 : Int) * (a : Int)) = ((2 * a : Nat) : Int) := by
  rw [show (2 : Int) * (a : Int) = ((2 * a : Nat) : Int) by omega]
  exact wrap_id (by omega) (by omega)
theorem dbl_i2 {a : Nat} (h : 2 * a ≤ 4611686018427387904) : IntKind.wrap .i64 ((a : Int) * 2) = ((2 * a : Nat) : Int) := by
  rw [show (a : Int) * 2 = ((2 * a : Nat) : Int) by omega]
  exact wrap_id (by omega) (by omega)
theorem le_of {i n : Nat} (h : decide ((i : Int) ≤ (n : Int)) = true) : i ≤ n := by simpa using h
theorem gt_of {i n : Nat} (h : decide ((i : Int) ≤ (n : Int)) = false) : n < i := by simpa using h
/-- Blocks in order, each of so many. -/
def Blks (c : Kt → Kt → Int) (bs : Nat) (L : List (List Kt)) : Prop := ∀ b ∈ L, b.length = bs ∧ Srt c b
theorem Blks.snoc {c : Kt → Kt → Int} {bs : Nat} {L : List (List Kt)} (h : Blks c bs L) {b : List Kt} (hb : b.length = bs) (hs : Srt c b) : Blks c bs (L ++ [b]) := fun x hx => by
  rcases List.mem_append.1 hx with hx | hx
  · exact h x hx
  · rw [List.mem_singleton.1 hx]; exact ⟨hb, hs⟩
set_option maxHeartbeats 4000000 in
set_option maxRecDepth 100000 in
theorem stable (f : Nat) (c : Kt → Kt → Int) (O : Ordr c) (hf : ∀ x y : Kt, Contract Tryz.prog G0 f [latV x.1 x.2.1 x.2.2, latV y.1 y.2.1 y.2.2] [] (fun r t => r = .d (.int .i64 (c x y)) ∧ t = []))
    (l : List Kt) (N : Nat) (hN : l.length = N) (hl : N ≤ 10000) (cap : Nat) :
    Contract Tryz.prog G0 90 [.slc (.g 0) 3 0 N cap, .d (.int .i64 (N : Int)), .fn f []] [(0, .row 3 (rowsK l))] (fun r t => ∃ o, r = .tup [] ∧ Srt c o ∧ Stb c l o ∧ t = [(0, .row 3 (rowsK o))]) := by
  refine run90 1 [] rfl rfl ?_
  conv => whnf
  refine StopG.rounds wk90 [] [0, 1, 2, 6, 7, 8] (fun m env s => ∃ (Ds : List (List Kt)) (R : List Kt), Blks c 20 Ds ∧ Stb c l (Ds.flatten ++ R) ∧ Ds.flatten.length + R.length = N ∧ m = R.length ∧
    env = [(0, .slc (.g 0) 3 0 N cap), (1, .d (.int .i64 (N : Int))), (2, .fn f []), (6, .d (.int .i64 20)), (7, .d (.int .i64 (Ds.flatten.length : Int))), (8, .d (.int .i64 ((Ds.flatten.length + 20 : Nat) : Int)))] ∧ s = [(0, .row 3 (rowsK (Ds.flatten ++ R)))]) rfl ?_ ?_
  · conv => whnf
    refine ⟨_, [], l, (fun b hb => by cases hb), Stb.refl _ _, by simpa using hN, rfl, rfl, rfl⟩
  rintro m env s ⟨Ds, R, hD, hst, hlen, rfl, rfl, rfl⟩
  conv => whnf
  refine bcase_intro (fun h => ?_) (fun h => ?_) <;> conv => whnf
  · have hle := le_of h
    have hA : (R.take 20).length = 20 := by rw [List.length_take]; omega
    have hQ : (R.drop 20).length = R.length - 20 := List.length_drop ..
    have his := insSort f c hf Ds.flatten (R.take 20) (R.drop 20) (by rw [hA, hQ]; omega) cap
    rw [hA, hQ, show Ds.flatten.length + 20 + (R.length - 20) = N by omega, List.append_assoc Ds.flatten, List.take_append_drop] at his
    refine .obj rfl ?_
    conv => whnf
    refine ⟨_, _, ⟨WkL.refl _, his⟩, fun res s1 hs => ?_⟩
    obtain ⟨rfl, rfl⟩ := hs
    conv => whnf
    rw [show IntKind.wrap .i64 (((Ds.flatten.length + 20 : Nat) : Int) + 20) = ((Ds.flatten.length + 20 + 20 : Nat) : Int) from sum_i (a := Ds.flatten.length + 20) (b := 20) (by omega)]
    have hsl : (sortK c (R.take 20)).length = 20 := by rw [sortK_len]; exact hA
    have hfl : (Ds ++ [sortK c (R.take 20)]).flatten.length = Ds.flatten.length + 20 := by rw [List.flatten_append, List.length_append]; simp [hsl]
    refine ⟨_, ?_, Ds ++ [sortK c (R.take 20)], R.drop 20, hD.snoc hsl (sortK_srt O _), ?_, ?_, rfl, ?_, ?_⟩
    · rw [hQ]; omega
    · have e : Stb c (Ds.flatten ++ (R.take 20 ++ R.drop 20)) (Ds.flatten ++ (sortK c (R.take 20) ++ R.drop 20)) := Stb.app (Stb.refl _ _) (Stb.app (sortK_stb O _) (Stb.refl _ _))
      rw [List.take_append_drop] at e
      have := hst.trans e
      simpa using this
    · rw [hfl, hQ]; omega
    · rw [hfl]
    · simp
  have hgt := gt_of h
  have his := insSort f c hf Ds.flatten R [] (by rw [List.length_nil]; omega) cap
  rw [List.length_nil, Nat.add_zero (_ + _), hlen, List.append_nil, List.append_nil] at his
  refine .obj rfl ?_
  conv => whnf
  refine ⟨_, _, ⟨WkL.refl _, his⟩, fun res s1 hs => ?_⟩
  obtain ⟨rfl, rfl⟩ := hs
  conv => whnf
  refine StopG.rounds wk90 [] [0, 1, 2, 6] (fun m env s => ∃ (bs : Nat) (Fs : List (List Kt)) (r : List Kt), 20 ≤ bs ∧ bs ≤ 2 * N + 20 ∧ Blks c bs Fs ∧ r.length < bs ∧ Srt c r ∧ Stb c l (Fs.flatten ++ r) ∧ Fs.flatten.length + r.length = N ∧ m = N - bs ∧
    env = [(0, .slc (.g 0) 3 0 N cap), (1, .d (.int .i64 (N : Int))), (2, .fn f []), (6, .d (.int .i64 (bs : Int)))] ∧ s = [(0, .row 3 (rowsK (Fs.flatten ++ r)))]) rfl ?_ ?_
  · conv => whnf
    refine ⟨_, 20, Ds, sortK c R, Nat.le_refl _, by omega, hD, by rw [sortK_len]; omega, sortK_srt O _, hst.trans (Stb.app (Stb.refl _ _) (sortK_stb O _)), by rw [sortK_len]; exact hlen, rfl, rfl, rfl⟩
  clear hD hst hlen hgt his Ds R h
  rintro m env s ⟨bs, Fs, r, hb20, hbN, hF, hr, hrs, hst, hlen, rfl, rfl, rfl⟩
  conv => whnf
  refine bcase_intro (fun h => ?_) (fun h => ?_) <;> conv => whnf
  · have hbl := lt_of h
    rw [dbl_i (by omega)]
    refine StopG.rounds wk90 [] [0, 1, 2, 6, 7, 8] (fun m env s => ∃ (Ds Fs : List (List Kt)), Blks c (2 * bs) Ds ∧ Blks c bs Fs ∧ Stb c l (Ds.flatten ++ (Fs.flatten ++ r)) ∧ Ds.flatten.length + (Fs.flatten.length + r.length) = N ∧ m = Fs.length ∧
      env = [(0, .slc (.g 0) 3 0 N cap), (1, .d (.int .i64 (N : Int))), (2, .fn f []), (6, .d (.int .i64 (bs : Int))), (7, .d (.int .i64 (Ds.flatten.length : Int))), (8, .d (.int .i64 ((Ds.flatten.length + 2 * bs : Nat) : Int)))] ∧ s = [(0, .row 3 (rowsK (Ds.flatten ++ (Fs.flatten ++ r))))]) rfl ?_ ?_
    · conv => whnf
      refine ⟨_, [], Fs, (fun b hb => by cases hb), hF, hst, by rw [← hlen]; simp, rfl, ?_, rfl⟩
      simp
    clear hF hst hlen Fs
    rintro m env s ⟨Ds, Fs, hD, hF, hst, hlen, rfl, rfl, rfl⟩
    conv => whnf
    refine bcase_intro (fun h => ?_) (fun h => ?_) <;> conv => whnf
    · have hle := le_of h
      match Fs, hF, hst, hlen with
      | [], _, _, hlen => exact absurd hlen (by rw [List.flatten_nil, List.length_nil]; omega)
      | [b1], hF, _, hlen => exact absurd hlen (by have := (hF b1 (List.mem_cons_self ..)).1; rw [List.flatten_cons, List.flatten_nil, List.append_nil]; omega)
      | b1 :: b2 :: Fs, hF, hst, hlen =>
      obtain ⟨h1, s1⟩ := hF b1 (List.mem_cons_self ..)
      obtain ⟨h2, s2⟩ := hF b2 (List.mem_cons_of_mem _ (List.mem_cons_self ..))
      have hF' : Blks c bs Fs := fun b hb => hF b (List.mem_cons_of_mem _ (List.mem_cons_of_mem _ hb))
      have efl : (b1 :: b2 :: Fs).flatten = b1 ++ (b2 ++ Fs.flatten) := by simp
      rw [efl] at hst hlen ⊢
      simp only [List.length_append] at hlen
      have hsm := symMerge f c O hf (b1.length + b2.length) Ds.flatten b1 b2 (Fs.flatten ++ r) (Nat.le_refl _) (by omega) (by omega) s1 s2 N (by rw [List.length_append]; omega) (by omega) cap
      rw [show Ds.flatten ++ b1 ++ b2 ++ (Fs.flatten ++ r) = Ds.flatten ++ (b1 ++ (b2 ++ Fs.flatten) ++ r) by simp, h1, h2, show Ds.flatten.length + bs + bs = Ds.flatten.length + 2 * bs by omega] at hsm
      rw [sum_i (a := Ds.flatten.length) (b := bs) (by omega)]
      refine .obj rfl ?_
      conv => whnf
      refine ⟨_, _, ⟨WkL.refl _, hsm⟩, fun res sx hs => ?_⟩
      obtain ⟨o, rfl, ho, hob, rfl⟩ := hs
      have hol := hob.len O
      rw [List.length_append] at hol
      conv => whnf
      rw [dbl_i (by omega), sum_i (a := Ds.flatten.length + 2 * bs) (b := 2 * bs) (by omega)]
      have hfl : (Ds ++ [o]).flatten.length = Ds.flatten.length + 2 * bs := by rw [List.flatten_append, List.length_append]; simp; omega
      refine ⟨_, ?_, Ds ++ [o], Fs, hD.snoc (by omega) ho, hF', ?_, ?_, rfl, ?_, ?_⟩
      · simp only [List.length_cons]; omega
      · have e : Stb c (Ds.flatten ++ ((b1 ++ b2) ++ (Fs.flatten ++ r))) (Ds.flatten ++ (o ++ (Fs.flatten ++ r))) := Stb.app (Stb.refl _ _) (Stb.app hob (Stb.refl _ _))
        have h0 : Ds.flatten ++ (b1 ++ (b2 ++ Fs.flatten) ++ r) = Ds.flatten ++ ((b1 ++ b2) ++ (Fs.flatten ++ r)) := by simp
        rw [h0] at hst
        have := hst.trans e
        simpa using this
      · rw [hfl]; omega
      · rw [hfl]
      · simp
    have hgt := gt_of h
    rw [sum_i (a := Ds.flatten.length) (b := bs) (by omega)]
    match Fs, hF, hst, hlen with
    | b1 :: b2 :: Fs, hF, _, hlen =>
      have h1 := (hF b1 (List.mem_cons_self ..)).1
      have h2 := (hF b2 (List.mem_cons_of_mem _ (List.mem_cons_self ..))).1
      exact absurd hlen (by simp only [List.flatten_cons, List.length_append]; omega)
    | [], _, hst, hlen =>
      rw [List.flatten_nil, List.length_nil, Nat.zero_add] at hlen
      rw [List.flatten_nil, List.nil_append] at hst ⊢
      refine bcase_intro (fun h => ?_) (fun h => ?_)
      · exact absurd (lt_of h) (by omega)
      conv => whnf
      rw [dbl_i2 (by omega)]
      exact ⟨_, by omega, 2 * bs, Ds, r, by omega, by omega, hD, by omega, hrs, hst, hlen, rfl, rfl, rfl⟩
    | [b1], hF, hst, hlen =>
      obtain ⟨h1, s1⟩ := hF b1 (List.mem_cons_self ..)
      rw [show [b1].flatten = b1 by simp] at hst hlen ⊢
      refine bcase_intro (fun h => ?_) (fun h => ?_) <;> conv => whnf
      · have hlt := lt_of h
        have hsm := symMerge f c O hf (b1.length + r.length) Ds.flatten b1 r [] (Nat.le_refl _) (by omega) (by omega) s1 hrs N (by rw [List.length_nil]; omega) (by omega) cap
        rw [List.append_nil, List.append_assoc, h1, show Ds.flatten.length + bs + r.length = N by omega] at hsm
        refine .obj rfl ?_
        conv => whnf
        refine ⟨_, _, ⟨WkL.refl _, hsm⟩, fun res sx hs => ?_⟩
        obtain ⟨o, rfl, ho, hob, rfl⟩ := hs
        have hol := hob.len O
        rw [List.length_append] at hol
        conv => whnf
        rw [dbl_i2 (by omega)]
        exact ⟨_, by omega, 2 * bs, Ds, o, by omega, by omega, hD, by omega, ho, hst.trans (Stb.app (Stb.refl _ _) hob), by omega, rfl, rfl, by rw [List.append_nil]⟩
      · have hge := ge_of h
        have hr0 : r = [] := List.eq_nil_of_length_eq_zero (by omega)
        subst hr0
        rw [List.append_nil] at hst ⊢
        rw [dbl_i2 (by omega)]
        exact ⟨_, by omega, 2 * bs, Ds, b1, by omega, by omega, hD, by omega, s1, hst, by simpa using hlen, rfl, rfl, rfl⟩
  · have hbl := ge_of h
    match Fs, hF, hst, hlen with
    | [], _, hst, _ => exact ⟨r, rfl, hrs, hst, rfl⟩
    | b1 :: Fs, hF, hst, hlen =>
      obtain ⟨h1, s1⟩ := hF b1 (List.mem_cons_self ..)
      simp only [List.flatten_cons, List.length_append] at hlen
      have hr0 : r = [] := List.eq_nil_of_length_eq_zero (by omega)
      have hF0 : Fs.flatten = [] := List.eq_nil_of_length_eq_zero (by omega)
      rw [List.flatten_cons, hF0, hr0, List.append_nil, List.append_nil] at hst ⊢
      exact ⟨b1, rfl, s1, hst, rfl⟩
end Go.Proofs.YtkenimmellonjaaGreat
/- Seat Z: a bid. -/
namespace Go.Proofs.YtkenimmellonjaaGreat
open Go.Pv Go.RowKit Go.Shelf
def bidEn (b : B) (e : En) : En := ⟨e.fl, e.dr, e.gn, (putB e.bids b).1, e.aw⟩
/-- A bid that will not do. -/
def noBid (mem : List Int) (b : B) (x : En) : Bool := bif bif bif decide (x.aw ≥ 0) then true else !(mem.any fun y => b.1 == y) then true else decide (b.2 < 0) then true else decide (b.2 > 1048576)
def bidL (mem : List Int) (b : B) (c : Int × Int) (l : List En) : List En × Bool := match idxFrom (isC c) l 0 with
  | .ofNat k => match l[k]? with
    | some x => bif noBid mem b x then (l, false) else (l.set k (bidEn b x), (putB x.bids b).2)
    | none => (l, false)
  | .negSucc _ => (l, false)
set_option maxRecDepth 100000 in
theorem bid_nil (cnt fdr hop : Int) (mem : List Int) (hm : mem.length ≤ 100000) (b : B) (c : Int × Int) : Contract Tryz.prog G0 7 [awG cnt fdr hop mem [], bidv b, calV c.1 c.2] [] (fun r t => r = .tup [awG cnt fdr hop mem [], .d (.bool false)] ∧ t = []) := by
  refine run7 0 [] rfl rfl ?_
  conv => whnf
  refine .obj rfl ?_
  conv => whnf
  refine ⟨_, _, ⟨WkL.refl _, own_nil cnt fdr hop mem hm⟩, fun res s1 h => ?_⟩
  obtain ⟨rfl, rfl⟩ := h
  conv => whnf
  refine .scal [awG cnt fdr hop mem [], calV c.1 c.2] (.d (.int .i64 (-1))) ⟨.refl _, rfl, at87 cnt fdr hop mem [] (by simp) c.1 c.2⟩ ?_
  conv => whnf
  refine ⟨rowE ⟨0, 0, 0, [], 0⟩, (fun hg => by simp [HG, lit, rfind] at hg), ?_⟩
  conv => whnf
  refine .scal [.d (.list 1 (rowsI mem)), .d (.int .i64 b.1)] _ (fun _ => ⟨.refl _, rfl, has mem (by omega) b.1⟩) ?_
  conv => whnf
  exact ⟨rfl, rfl⟩
set_option maxRecDepth 100000 in
theorem bid_cons (cnt fdr hop : Int) (mem : List Int) (hm : mem.length ≤ 100000) (e0 : En) (l0 : List En) (hl : l0.length + 1 ≤ 1000) (hb : ∀ e ∈ e0 :: l0, e.bids.length ≤ 10000) (b : B) (c : Int × Int) :
    Contract Tryz.prog G0 7 [awG cnt fdr hop mem (e0 :: l0), bidv b, calV c.1 c.2] [] (fun r t => ∃ cap, l0.length + 1 ≤ cap ∧ r = .tup [rgV cnt fdr hop mem (.slc (.g 0) 5 0 (l0.length + 1) cap), .d (.bool (bidL mem b c (e0 :: l0)).2)] ∧ t = [(0, .row 5 (rowsE (bidL mem b c (e0 :: l0)).1))]) := by
  refine run7 0 [] rfl rfl ?_
  conv => whnf
  refine .obj rfl ?_
  conv => whnf
  refine ⟨_, _, ⟨WkL.refl _, own_cons cnt fdr hop mem hm e0 l0 (by omega) fun e he => Nat.le_trans (hb e he) (by decide)⟩, fun res s1 h => ?_⟩
  obtain ⟨cap, hc, rfl, rfl⟩ := h
  generalize hle : e0 :: l0 = l at hb
  have hll : l.length = l0.length + 1 := by rw [← hle]; rfl
  rw [← hll] at hc ⊢
  have hrl := rowsE_len l
  have hlend : Contract Tryz.prog G0 32 [awG cnt fdr hop mem l, calV c.1 c.2] [] (fun r t => r = .d (.int .i64 (idxFrom (isC c) l 0)) ∧ t = []) := at87 cnt fdr hop mem l (by omega) c.1 c.2
  rw [show awG cnt fdr hop mem l = rgV cnt fdr hop mem (.d (.list 5 ((List.drop 0 (rowsE l)).take l.length))) by rw [List.drop_zero, List.take_of_length_le (by omega)]] at hlend
  conv => whnf
  rcases idx_cases0 (isC c) l with ⟨h1, _⟩ | ⟨k, x, h1, hx, _⟩
  · rw [h1] at hlend
    have hbl : bidL mem b c l = (l, false) := by unfold bidL; rw [h1]; rfl
    rw [hbl]
    refine .scal [rgV cnt fdr hop mem (.d (.list 5 ((List.drop 0 (rowsE l)).take l.length))), calV c.1 c.2] (.d (.int .i64 (-1))) ⟨.fz 4 _ rfl (by simp) (by repeat' first | exact trivial | apply And.intro | decide | (simp; done) | omega) (.refl _), rfl, hlend⟩ ?_
    conv => whnf
    refine ⟨(fun hg => by simp [HG, lit, rfind] at hg), ?_⟩
    conv => whnf
    refine ⟨rowE ⟨0, 0, 0, [], 0⟩, (fun hg => by simp [HG, lit, rfind] at hg), rfl, ?_⟩
    conv => whnf
    refine .scal [.d (.list 1 (rowsI mem)), .d (.int .i64 b.1)] _ (fun _ => ⟨.refl _, rfl, has mem (by omega) b.1⟩) ?_
    conv => whnf
    exact ⟨cap, hc, rfl, rfl⟩
  · rw [h1] at hlend
    have hil : k < l.length := (List.getElem?_eq_some_iff.1 hx).1
    have hxb := hb x (List.mem_of_getElem? hx)
    have hbl : bidL mem b c l = bif noBid mem b x then (l, false) else (l.set k (bidEn b x), (putB x.bids b).2) := by
      unfold bidL; rw [h1]; show (match l[k]? with | some x => _ | none => _) = _; rw [hx]
    rw [hbl]
    refine .scal [rgV cnt fdr hop mem (.d (.list 5 ((List.drop 0 (rowsE l)).take l.length))), calV c.1 c.2] (.d (.int .i64 (k : Int))) ⟨.fz 4 _ rfl (by simp) (by repeat' first | exact trivial | apply And.intro | decide | (simp; done) | omega) (.refl _), rfl, hlend⟩ ?_
    conv => whnf
    refine ⟨fun _ => ⟨by omega, by omega⟩, ?_⟩
    conv => whnf
    refine ⟨rowE x, fun _ => row_g hx, rfl, ?_⟩
    conv => whnf
    refine .scal [.d (.list 1 (rowsI mem)), .d (.int .i64 b.1)] _ (fun _ => ⟨.refl _, rfl, has mem (by omega) b.1⟩) ?_
    conv => whnf
    refine bcase_intro (fun hg => ?_) (fun hg => ?_) <;> conv => whnf
    · have hno : noBid mem b x = true := by
        rw [show decide ((k : Int) < 0) = false from decide_eq_false (by omega)] at hg
        exact hg
      rw [hno]
      exact ⟨cap, hc, rfl, rfl⟩
    have hno : noBid mem b x = false := by
      rw [show decide ((k : Int) < 0) = false from decide_eq_false (by omega)] at hg
      exact hg
    rw [hno]
    refine ⟨⟨by omega, by omega⟩, ?_⟩
    conv => whnf
    refine ⟨rowE x, row_g hx, rfl, ?_⟩
    conv => whnf
    refine .data [.d (.list 2 (rowsB x.bids)), bidv b] _ ⟨WkL.refl _, rfl, put x.bids hxb b⟩ ?_
    conv => whnf
    refine ⟨⟨by omega, by omega⟩, ?_⟩
    conv => whnf
    refine ⟨rowE x, row_g hx, ?_⟩
    conv => whnf
    exact ⟨cap, hc, rfl, congrArg (fun q => [(0, AB.row 5 q)]) (set_row (bidEn b x))⟩
theorem bidL_len (mem : List Int) (b : B) (c : Int × Int) (l : List En) : (bidL mem b c l).1.length = l.length := by
  unfold bidL
  split
  · split
    · cases noBid mem b _ <;> simp
    · rfl
  · rfl
/-- As data. -/
theorem bid (cnt fdr hop : Int) (mem : List Int) (hm : mem.length ≤ 100000) (l : List En) (hl : l.length ≤ 1000) (hb : ∀ e ∈ l, e.bids.length ≤ 10000) (b : B) (c : Int × Int) :
    Contract Tryz.prog G0 7 [awG cnt fdr hop mem l, bidv b, calV c.1 c.2] [] (fun r t => r = .tup [awG cnt fdr hop mem (bidL mem b c l).1, .d (.bool (bidL mem b c l).2)] ∧ t = []) := by
  cases l with
  | nil => exact bid_nil cnt fdr hop mem hm b c
  | cons e0 l0 =>
    refine (bid_cons cnt fdr hop mem hm e0 l0 (by simpa using hl) hb b c).told fun r t hr => ?_
    obtain ⟨cap, hc, rfl, rfl⟩ := hr
    refine ⟨.tup [awG cnt fdr hop mem (bidL mem b c (e0 :: l0)).1, .d (.bool (bidL mem b c (e0 :: l0)).2)], ?_, rfl, rfl, rfl⟩
    have hrl := rowsE_len (bidL mem b c (e0 :: l0)).1
    have hrl2 := bidL_len mem b c (e0 :: l0)
    have hrl3 : (e0 :: l0).length = l0.length + 1 := rfl
    refine GV.trans (GV.freeze 0 rfl (by simp) (by repeat' first | exact trivial | apply And.intro | decide | (simp; done) | omega) (by repeat' first | exact trivial | apply And.intro)) (GV.tidied [0] ?_)
    conv => whnf
    rw [List.drop_zero, List.take_of_length_le (by omega)]
    exact ⟨rfl, rfl⟩
end Go.Proofs.YtkenimmellonjaaGreat
/- Seat Z: what is awarded is somebody's: the plain law. -/
namespace Go.Proofs.YtkenimmellonjaaGreat
/-- What the walk wants of a ring that is light. -/
structure MineOK (mem : List Int) (l : List En) : Prop where
  ml : mem.length ≤ 16
  ll : l.length ≤ 30
  bl : ∀ e ∈ l, e.bids.length ≤ 16
  sum : (mem.map fun x => (mineL x (l.map (awE mem))).length).sum = ((l.map (awE mem)).filter fun e => decide (e.aw ≥ 0)).length
  apart : ∀ (i j : Nat) (x y : Int), mem[i]? = some x → mem[j]? = some y → j ≠ i → ∀ k ∈ mineL x (l.map (awE mem)), hasK (mineL y (l.map (awE mem))) k = false
  count : ((l.map (awE mem)).filter fun e => decide (e.aw ≥ 0)).length = (l.filter fun e => decide (e.aw ≥ 0)).length + (wonL mem l).length
  again : wonL mem (l.map (awE mem)) = []
  no1 : mineL (-1) (l.map (awE mem)) = []
  no99 : mineL 99 (l.map (awE mem)) = []
theorem cond0 {c : Bool} {k x : Int} (hk : k ≠ 0) (h : (bif c then k else x) = 0) : c = false ∧ x = 0 := by
  cases c with
  | true => exact absurd h hk
  | false => exact ⟨rfl, h⟩
theorem bor0 {a b : Bool} (h : (bif a then true else b) = false) : a = false ∧ b = false := by
  cases a with
  | true => cases h
  | false => exact ⟨rfl, h⟩
theorem lessE_iff (a b : En) : lessE a b = true ↔ a.fl < b.fl ∨ (a.fl = b.fl ∧ a.dr < b.dr) := by
  unfold lessE
  by_cases h : a.fl < b.fl
  · simp [h]
  · by_cases h2 : a.fl = b.fl
    · simp [h2]
    · simp [h, h2]
theorem lessE_trans {a b c : En} (h1 : lessE a b = true) (h2 : lessE b c = true) : lessE a c = true := by
  rw [lessE_iff] at *
  omega
theorem vEnts_ok {ms : List Int} : ∀ (l : List En) (p : Option En), vEnts ms p l = 0 → (∀ e ∈ l, badE ms e = false ∧ vBids ms e.bids = 0) ∧ (∀ q, p = some q → ∀ e ∈ l, lessE q e = true) ∧ l.Pairwise fun a b => lessE a b = true
  | [], _, _ => ⟨by simp, by simp, .nil⟩
  | e :: r, p, h => by
    rw [vEnts_cons] at h
    obtain ⟨h1, h⟩ := cond0 (by decide) h
    obtain ⟨h2, h⟩ := cond0 (by decide) h
    have h3 : vBids ms e.bids = 0 ∧ vEnts ms (some e) r = 0 := by
      cases hv : (vBids ms e.bids == 0) with
      | true => rw [hv] at h; exact ⟨by simpa using hv, h⟩
      | false => rw [hv] at h; have h : vBids ms e.bids = 0 := h; simp [h] at hv
    obtain ⟨i1, i2, i3⟩ := vEnts_ok r (some e) h3.2
    refine ⟨fun x hx => ?_, fun q hq x hx => ?_, .cons (i2 e rfl) i3⟩
    · rcases List.mem_cons.1 hx with rfl | hx
      · exact ⟨h1, h3.1⟩
      · exact i1 x hx
    · subst hq
      have h4 : lessE q e = true := by simpa using h2
      rcases List.mem_cons.1 hx with rfl | hx
      · exact h4
      · exact lessE_trans h4 (i2 e rfl x hx)
theorem vBids_ok {ms : List Int} {l : List B} (h : vBids ms l = 0) : ∀ b ∈ l, b.1 ∈ ms := by
  obtain ⟨_, h⟩ := cond0 (by decide) h
  obtain ⟨h, _⟩ := cond0 (by decide) h
  intro b hb
  have h1 : badB ms b = false := by simpa using (List.any_eq_false.1 h) b hb
  have h2 := (bor0 (bor0 h1).1).1
  simpa using h2
theorem leastFrom_mem : ∀ (l : List B) (b : B), leastFrom b l = b ∨ leastFrom b l ∈ l
  | [], _ => .inl rfl
  | x :: r, b => by
    show leastFrom (if lessB x b then x else b) r = b ∨ leastFrom (if lessB x b then x else b) r ∈ x :: r
    rcases leastFrom_mem r (if lessB x b then x else b) with h | h
    · rw [h]; split
      · exact .inr (List.mem_cons_self ..)
      · exact .inl rfl
    · exact .inr (List.mem_cons_of_mem _ h)
theorem leastB_mem {l : List B} (h : (leastB l).2 = true) : (leastB l).1 ∈ l := by
  cases l with
  | nil => cases h
  | cons b r =>
    show leastFrom b r ∈ b :: r
    rcases leastFrom_mem r b with h | h
    · rw [h]; exact List.mem_cons_self ..
    · exact List.mem_cons_of_mem _ h
theorem ascL_ok : ∀ {l : List Int}, ascL l = true → l.Pairwise (· < ·)
  | [], _ => .nil
  | [_], _ => by simp
  | x :: y :: r, h => by
    rw [ascL_two] at h
    cases hd : decide (x ≥ y) with
    | true => rw [hd] at h; cases h
    | false =>
      rw [hd] at h
      have h1 := ascL_ok (l := y :: r) h
      have hxy : x < y := by simpa using hd
      refine .cons (fun z hz => ?_) h1
      rcases List.mem_cons.1 hz with rfl | hz
      · exact hxy
      · exact Int.lt_trans hxy (List.rel_of_pairwise_cons h1 hz)
theorem ind_none (a : Int) : ∀ (m : List Int), a ∉ m → (m.map fun x => if a = x then 1 else 0).sum = 0
  | [], _ => rfl
  | x :: r, h => by
    rw [List.map_cons, List.sum_cons, ind_none a r (fun h1 => h (List.mem_cons_of_mem _ h1)), if_neg (fun e => h (by rw [e]; exact List.mem_cons_self ..))]
theorem ind_one (a : Int) : ∀ (m : List Int), m.Pairwise (· < ·) → a ∈ m → (m.map fun x => if a = x then 1 else 0).sum = 1
  | [], _, h => by cases h
  | x :: r, hp, h => by
    rw [List.map_cons, List.sum_cons]
    rcases List.mem_cons.1 h with h2 | h2
    · subst h2
      rw [if_pos rfl, ind_none a r fun h1 => Int.lt_irrefl _ (List.rel_of_pairwise_cons hp h1)]
    · rw [ind_one a r hp.of_cons h2, if_neg]
      intro e
      subst e
      exact Int.lt_irrefl _ (List.rel_of_pairwise_cons hp h2)
theorem sum_add (f g : Int → Nat) : ∀ (m : List Int), (m.map fun x => f x + g x).sum = (m.map f).sum + (m.map g).sum
  | [] => rfl
  | x :: r => by
    simp only [List.map_cons, List.sum_cons, sum_add f g r]; omega
theorem sum_zero : ∀ (m : List Int), (m.map fun _ => 0).sum = 0
  | [] => rfl
  | x :: r => by simp only [List.map_cons, List.sum_cons, sum_zero r]
theorem his_sum {m : List Int} (hp : m.Pairwise (· < ·)) : ∀ (L : List En), (∀ e ∈ L, e.aw ≥ 0 → e.aw ∈ m) → (m.map fun x => (mineL x L).length).sum = (L.filter fun e => decide (e.aw ≥ 0)).length
  | [], _ => sum_zero m
  | e :: r, h => by
    have ih := his_sum hp r fun x hx => h x (List.mem_cons_of_mem _ hx)
    have step : ∀ x, (mineL x (e :: r)).length = (if e.aw ≥ 0 ∧ e.aw = x then 1 else 0) + (mineL x r).length := by
      intro x
      simp only [mineL, List.length_map, List.filter_cons, hisE]
      by_cases h1 : 0 ≤ e.aw
      · by_cases h2 : e.aw = x
        · subst h2
          simp [h1]; omega
        · simp [h1, h2]
      · simp [h1]
    rw [show (fun x => (mineL x (e :: r)).length) = fun x => (if e.aw ≥ 0 ∧ e.aw = x then 1 else 0) + (mineL x r).length from funext step, sum_add, ih]
    by_cases h1 : e.aw ≥ 0
    · have h2 := ind_one e.aw m hp (h e (List.mem_cons_self ..) h1)
      simp only [h1, true_and, List.filter_cons, decide_true, if_true, List.length_cons]
      rw [h2]; omega
    · simp only [h1, false_and, if_false, List.filter_cons, decide_false]
      rw [sum_zero]; simp
theorem wonE_ok {ms : List Int} {e : En} (h : wonE ms e = true) : e.aw < 0 ∧ (leastB e.bids).2 = true := by
  unfold wonE at h
  cases h1 : decide (e.aw < 0) with
  | false => rw [h1] at h; cases h
  | true =>
    rw [h1] at h
    cases h2 : (leastB e.bids).2 with
    | false => rw [h2] at h; cases h
    | true => exact ⟨by simpa using h1, rfl⟩
theorem key_awE (ms : List Int) (e : En) : keyE (awE ms e) = keyE e := by
  unfold awE; split <;> rfl
theorem awE_bids (ms : List Int) (e : En) : (awE ms e).bids = e.bids := by
  unfold awE; split <;> rfl
theorem light_ok {cnt fdr hop : Int} {mem : List Int} {l : List En} (h : lightB cnt fdr hop mem l = true) : MineOK mem l := by
  unfold lightB at h
  cases hf : l.any fat with
  | true => rw [hf] at h; cases h
  | false =>
  rw [hf] at h
  have h : (bif bif decide ((mem.length : Int) ≤ 16) then decide ((l.length : Int) ≤ 30) else false then vRing cnt fdr hop mem l == 0 else false) = true := h
  cases h1 : decide ((mem.length : Int) ≤ 16) with
  | false => rw [h1] at h; cases h
  | true =>
  rw [h1] at h
  cases h2 : decide ((l.length : Int) ≤ 30) with
  | false => rw [h2] at h; cases h
  | true =>
  rw [h2] at h
  have h : (vRing cnt fdr hop mem l == 0) = true := h
  have h : vRing cnt fdr hop mem l = 0 := by simpa using h
  obtain ⟨_, h⟩ := cond0 (by decide) h
  obtain ⟨_, h⟩ := cond0 (by decide) h
  obtain ⟨hc, h⟩ := cond0 (by decide) h
  obtain ⟨ha, h⟩ := cond0 (by decide) h
  have hasc := ascL_ok (l := mem) (by simpa using ha)
  obtain ⟨hv, _, hpw⟩ := vEnts_ok l none h
  have hcar : ∀ x ∈ mem, 0 ≤ x ∧ x < 16 := by
    intro x hx
    have h3 : carB x = true := by simpa using (List.any_eq_false.1 hc) x hx
    unfold carB at h3
    by_cases h4 : 0 ≤ x
    · simp [h4] at h3; exact ⟨h4, h3⟩
    · simp [h4] at h3
  have haw : ∀ e ∈ l, e.aw = -1 ∨ e.aw ∈ mem := by
    intro e he
    have h3 := (bor0 (hv e he).1).2
    by_cases h4 : e.aw = -1
    · exact .inl h4
    · right
      have h5 : (!(e.aw == -1)) = true := by simp [h4]
      rw [h5] at h3
      simpa using h3
  have hwm : ∀ e ∈ l, wonE mem e = true → (leastB e.bids).1.1 ∈ mem := fun e he hw => vBids_ok (hv e he).2 _ (leastB_mem (wonE_ok hw).2)
  have hmem : ∀ e ∈ l.map (awE mem), e.aw = -1 ∨ e.aw ∈ mem := by
    intro e he
    obtain ⟨y, hy, rfl⟩ := List.mem_map.1 he
    cases hw : wonE mem y with
    | true => rw [awE, if_pos hw]; exact .inr (hwm y hy hw)
    | false => rw [awE_not hw]; exact haw y hy
  have hwe : ∀ e ∈ l, wonE mem (awE mem e) = false := by
    intro e he
    cases hw : wonE mem e with
    | false => rw [awE_not hw]; exact hw
    | true =>
      have h3 := hcar _ (hwm e he hw)
      rw [awE, if_pos hw]
      unfold wonE
      rw [show decide ((leastB e.bids).1.1 < 0) = false from decide_eq_false (by omega)]; rfl
  refine ⟨by have := of_decide_eq_true h1; omega, by have := of_decide_eq_true h2; omega, fun e he => ?_, ?_, ?_, ?_, ?_, ?_, ?_⟩
  · have h3 := (List.any_eq_false.1 hf) e he
    have h4 : ¬ ((e.bids.length : Int) > 16) := by simpa [fat] using h3
    omega
  · refine his_sum hasc _ fun e he h3 => (hmem e he).resolve_left (by omega)
  · intro i j x y hx hy hji k hk
    have hxy : x ≠ y := by
      intro e
      subst e
      obtain ⟨hi, hxi⟩ := List.getElem?_eq_some_iff.1 hx
      obtain ⟨hj, hxj⟩ := List.getElem?_eq_some_iff.1 hy
      rcases Nat.lt_or_gt_of_ne hji with h3 | h3
      · have := List.pairwise_iff_getElem.1 hasc j i hj hi h3; omega
      · have := List.pairwise_iff_getElem.1 hasc i j hi hj h3; omega
    have hpL : (l.map (awE mem)).Pairwise fun a b => keyE a ≠ keyE b := by
      rw [List.pairwise_map]
      refine hpw.imp fun {a b} hab => ?_
      rw [key_awE, key_awE]
      rw [lessE_iff] at hab
      simp only [keyE]
      intro e
      injection e with e1 e2
      injection e2 with e2 e3
      omega
    have huniq : ∀ a ∈ l.map (awE mem), ∀ b ∈ l.map (awE mem), keyE a = keyE b → a = b := by
      intro a ha b hb hab
      obtain ⟨p, hp, rfl⟩ := List.mem_iff_getElem.1 ha
      obtain ⟨q, hq, rfl⟩ := List.mem_iff_getElem.1 hb
      rcases Nat.lt_trichotomy p q with h3 | h3 | h3
      · exact absurd hab (List.pairwise_iff_getElem.1 hpL p q hp hq h3)
      · subst h3; rfl
      · exact absurd hab.symm (List.pairwise_iff_getElem.1 hpL q p hq hp h3)
    have his : ∀ {z : Int} {e : En}, hisE z e = true → e.aw = z := by
      intro z e h3
      unfold hisE at h3
      cases h4 : decide (0 ≤ e.aw) with
      | false => rw [h4] at h3; cases h3
      | true => rw [h4] at h3; simpa using h3
    refine List.any_eq_false.2 fun k2 hk2 hs => hxy ?_
    obtain ⟨a, ha, rfl⟩ := List.mem_map.1 hk
    obtain ⟨b, hb, rfl⟩ := List.mem_map.1 hk2
    obtain ⟨ha1, ha2⟩ := List.mem_filter.1 ha
    obtain ⟨hb1, hb2⟩ := List.mem_filter.1 hb
    have hk3 : keyE b = keyE a := by
      unfold sameK at hs
      have h5 : ((keyE b).1 = (keyE a).1 ∧ (keyE b).2.1 = (keyE a).2.1) ∧ (keyE b).2.2 = (keyE a).2.2 := by
        cases h6 : (keyE b).1 == (keyE a).1 with
        | false => rw [h6] at hs; cases hs
        | true =>
          rw [h6] at hs
          cases h7 : (keyE b).2.1 == (keyE a).2.1 with
          | false => rw [h7] at hs; cases hs
          | true => rw [h7] at hs; exact ⟨⟨by simpa using h6, by simpa using h7⟩, by simpa using hs⟩
      exact Prod.ext h5.1.1 (Prod.ext h5.1.2 h5.2)
    have := huniq b hb1 a ha1 hk3
    rw [← his ha2, ← his hb2, this]
  · have : ∀ (r : List En), (∀ e ∈ r, e ∈ l) → ((r.map (awE mem)).filter fun e => decide (e.aw ≥ 0)).length = (r.filter fun e => decide (e.aw ≥ 0)).length + (wonL mem r).length := by
      intro r
      induction r with
      | nil => intro _; rfl
      | cons e r ih =>
        intro hr
        have ih := ih fun x hx => hr x (List.mem_cons_of_mem _ hx)
        have he := hr e (List.mem_cons_self ..)
        cases hw : wonE mem e with
        | true =>
          have h3 := hcar _ (hwm e he hw)
          have h4 := (wonE_ok hw).1
          have h5 : (awE mem e).aw = (leastB e.bids).1.1 := by rw [awE, if_pos hw]
          rw [List.map_cons, List.filter_cons, h5, if_pos (by simpa using h3.1), List.filter_cons, if_neg (by simp; omega), List.length_cons, ih]
          simp only [wonL, List.filter_cons, hw, if_true, List.map_cons, List.length_cons]
          omega
        | false =>
          rw [List.map_cons, awE_not hw, List.filter_cons, List.filter_cons]
          have h6 : (wonL mem (e :: r)).length = (wonL mem r).length := by simp [wonL, hw]
          rw [h6]
          split
          · rw [List.length_cons, List.length_cons, ih]; omega
          · exact ih
    exact this l fun _ h => h
  · rw [wonL, List.filter_eq_nil_iff.2, List.map_nil]
    intro e he
    obtain ⟨y, hy, rfl⟩ := List.mem_map.1 he
    rw [hwe y hy]; decide
  · rw [mineL, List.filter_eq_nil_iff.2, List.map_nil]
    intro e he
    unfold hisE
    by_cases h3 : 0 ≤ e.aw
    · simp [h3]; omega
    · simp [h3]
  · rw [mineL, List.filter_eq_nil_iff.2, List.map_nil]
    intro e he
    unfold hisE
    rcases hmem e he with h3 | h3
    · simp [h3]
    · have h4 := hcar _ h3
      simp [h4.1]; omega
end Go.Proofs.YtkenimmellonjaaGreat
/- Seat Z: who wants what: the plain law. -/
namespace Go.Proofs.YtkenimmellonjaaGreat
open Go.Pv Go.RowKit Go.Shelf
theorem of_any (l : List B) (car : Int) : (ofB l car).2 = l.any fun b => b.1 == car := by
  unfold ofB
  split
  · rename_i b h
    have h1 := List.mem_of_find?_eq_some h
    have h2 := List.find?_some h
    exact (List.any_eq_true.2 ⟨b, h1, h2⟩).symm
  · rename_i h
    rw [List.find?_eq_none] at h
    refine (List.any_eq_false.2 fun b hb => ?_).symm
    exact h b hb
theorem any_swap (mem : List Int) (car : Int) : (mem.any fun y => car == y) = mem.any fun y => y == car := by
  congr 1
  funext y
  exact Bool.beq_comm
def onB (mem : List Int) (car : Int) (e : En) : Bool := bif bif !(mem.any fun y => y == car) then true else (e.bids.any fun b => b.1 == car) then true else decide (e.aw ≥ 0)
theorem want_eq (mem : List Int) (car : Int) (l : List En) : wantL mem car l = (l.filter fun e => !onB mem car e).map callE := by
  unfold wantL wishL
  rw [any_swap]
  cases h : (mem.any fun y => y == car) with
  | true =>
    rw [if_pos rfl]
    congr 2
    funext e
    unfold wishE onB
    rw [of_any, h]
    cases h2 : (e.bids.any fun b => b.1 == car) with
    | true => rfl
    | false =>
      show decide (e.aw < 0) = !decide (e.aw ≥ 0)
      by_cases h3 : e.aw < 0 <;> simp [h3] <;> omega
  | false =>
    rw [if_neg (by decide)]
    have : ∀ e, (!onB mem car e) = false := by intro e; unfold onB; rw [h]; rfl
    rw [List.filter_eq_nil_iff.2 (by simp [this]), List.map_nil]
theorem want_skip {mem : List Int} {car : Int} {l : List En} {i : Nat} {x : En} (hx : l[i]? = some x) (h : onB mem car x = true) : wantL mem car (l.take (i + 1)) = wantL mem car (l.take i) := by
  rw [want_eq, want_eq, List.take_add_one, hx]
  simp [h]
theorem want_more {mem : List Int} {car : Int} {l : List En} {i : Nat} {x : En} (hx : l[i]? = some x) (h : onB mem car x = false) : wantL mem car (l.take (i + 1)) = wantL mem car (l.take i) ++ [callE x] := by
  rw [want_eq, want_eq, List.take_add_one, hx]
  simp [h]
theorem want_at {mem : List Int} {car : Int} {l : List En} {i : Nat} {x : En} (hx : l[i]? = some x) (h : onB mem car x = false) : (wantL mem car l)[(wantL mem car (l.take i)).length]? = some (callE x) := by
  have e : wantL mem car l = wantL mem car (l.take (i + 1)) ++ wantL mem car (l.drop (i + 1)) := by
    rw [want_eq, want_eq, want_eq, ← List.map_append, ← List.filter_append, List.take_append_drop]
  rw [e, want_more hx h, List.append_assoc, List.getElem?_append_right (Nat.le_refl _), Nat.sub_self]
  rfl
theorem want_len (mem : List Int) (car : Int) (l : List En) : (wantL mem car l).length ≤ l.length := by
  rw [want_eq, List.length_map]; exact List.length_filter_le _ _
/-- The ring after so many bids. -/
def bidsL (mem : List Int) (car : Int) (ws : List (Int × Int)) (l : List En) : Nat → List En
  | 0 => l
  | k + 1 => match ws[k]? with
    | some c => (bidL mem (car, (k : Int)) c (bidsL mem car ws l k)).1
    | none => bidsL mem car ws l k
structure WantOK (mem : List Int) (l : List En) (car : Int) : Prop where
  step : ∀ (k : Nat) (c : Int × Int), (wantL mem car l)[k]? = some c → (bidL mem (car, (k : Int)) c (bidsL mem car (wantL mem car l) l k)).2 = true ∧ (wantL mem car (bidsL mem car (wantL mem car l) l (k + 1))).length = (wantL mem car l).length - k - 1
  sane : ∀ (k : Nat), k ≤ (wantL mem car l).length → (bidsL mem car (wantL mem car l) l k).length = l.length ∧ ∀ e ∈ bidsL mem car (wantL mem car l) l k, e.bids.length ≤ 16 + k
theorem insB_mem (l : List B) (b : B) : b ∈ insB l b := by
  unfold insB
  split
  · simp
  · simp
theorem insB_len (l : List B) (b : B) : (insB l b).length = l.length + 1 := by
  unfold insB
  split
  · rename_i k _
    simp only [List.length_append, List.length_take, List.length_cons, List.length_drop]
    omega
  · simp
/-- Calls apart. -/
def Apart (l : List En) : Prop := (l.map callE).Nodup
theorem isC_iff (c : Int × Int) (e : En) : isC c e = true ↔ callE e = c := by
  unfold isC callE
  obtain ⟨a, b⟩ := c
  by_cases h : e.fl = a
  · simp [h]
  · simp [h]
theorem idx_first {p : En → Bool} {pre post : List En} {x : En} (hx : p x = true) (hp : ∀ e ∈ pre, p e = false) : idxFrom p (pre ++ x :: post) 0 = (pre.length : Int) := by
  have key : ∀ (q : List En) (i : Int), (∀ e ∈ q, p e = false) → idxFrom p (q ++ x :: post) i = i + q.length := by
    intro q
    induction q with
    | nil => intro i _; simp [idxFrom, hx]
    | cons e r ih =>
      intro i h
      simp only [List.cons_append, idxFrom]
      rw [if_neg (by rw [h e (List.mem_cons_self ..)]; decide), ih (i + 1) fun y hy => h y (List.mem_cons_of_mem _ hy)]
      simp only [List.length_cons]; omega
  simpa using key pre 0 hp
theorem want_app (mem : List Int) (car : Int) (a b : List En) : wantL mem car (a ++ b) = wantL mem car a ++ wantL mem car b := by
  rw [want_eq, want_eq, want_eq, List.filter_append, List.map_append]
theorem want_one {mem : List Int} {car : Int} {x : En} {r : List En} : wantL mem car (x :: r) = (bif onB mem car x then [] else [callE x]) ++ wantL mem car r := by
  rw [want_eq, want_eq]
  cases h : onB mem car x <;> simp [h]
/-- One bid more. -/
theorem bid_step {mem : List Int} {car : Int} {l : List En} {c : Int × Int} {rest : List (Int × Int)} {k : Nat} (hk : k ≤ 1000) (ha : Apart l) (hw : wantL mem car l = c :: rest) :
    (bidL mem (car, (k : Int)) c l).2 = true ∧ wantL mem car (bidL mem (car, (k : Int)) c l).1 = rest ∧ (bidL mem (car, (k : Int)) c l).1.map callE = l.map callE ∧ (bidL mem (car, (k : Int)) c l).1.length = l.length ∧
      ∀ n, (∀ e ∈ l, e.bids.length ≤ n) → ∀ e ∈ (bidL mem (car, (k : Int)) c l).1, e.bids.length ≤ n + 1 := by
  have hc : c ∈ wantL mem car l := by rw [hw]; exact List.mem_cons_self ..
  rw [want_eq] at hc
  obtain ⟨x, hx, hxc⟩ := List.mem_map.1 hc
  obtain ⟨hxl, hon⟩ := List.mem_filter.1 hx
  have hon : onB mem car x = false := by simpa using hon
  obtain ⟨pre, post, rfl⟩ := List.append_of_mem hxl
  unfold Apart at ha
  rw [List.map_append, List.map_cons, List.nodup_append] at ha
  obtain ⟨_, _, hdis⟩ := ha
  have hpre : ∀ e ∈ pre, callE e ≠ c := fun e he => by
    rw [← hxc]
    exact hdis _ (List.mem_map.2 ⟨e, he, rfl⟩) _ (List.mem_cons_self ..)
  have hidx : idxFrom (isC c) (pre ++ x :: post) 0 = (pre.length : Int) := by
    refine idx_first ((isC_iff c x).2 hxc) fun e he => ?_
    cases h : isC c e with
    | false => rfl
    | true => exact absurd ((isC_iff c e).1 h) (hpre e he)
  have hwpre : wantL mem car pre = [] := by
    cases hp : wantL mem car pre with
    | nil => rfl
    | cons d ds =>
      rw [want_app, hp] at hw
      injection hw with h1 _
      have : d ∈ wantL mem car pre := by rw [hp]; exact List.mem_cons_self ..
      rw [want_eq] at this
      obtain ⟨e, he, hed⟩ := List.mem_map.1 this
      exact absurd (hed.trans h1) (hpre e (List.mem_filter.1 he).1)
  have hon2 := hon
  unfold onB at hon2
  obtain ⟨h1, haw⟩ := bor0 hon2
  obtain ⟨hm, hbid⟩ := bor0 h1
  have hm : (mem.any fun y => y == car) = true := by simpa using hm
  have hno : noBid mem (car, (k : Int)) x = false := by
    unfold noBid
    rw [haw, any_swap, hm, show decide ((k : Int) < 0) = false from decide_eq_false (by omega), show decide ((k : Int) > 1048576) = false from decide_eq_false (by omega)]
    rfl
  have hput : putB x.bids (car, (k : Int)) = (insB x.bids (car, (k : Int)), true) := by
    unfold putB
    have : x.bids.find? (fun b => b.1 == (car, (k : Int)).1) = none := by
      rw [List.find?_eq_none]
      intro b hb
      have := (List.any_eq_false.1 hbid) b hb
      exact this
    rw [this]
  have hbl : bidL mem (car, (k : Int)) c (pre ++ x :: post) = (pre ++ bidEn (car, (k : Int)) x :: post, true) := by
    unfold bidL
    rw [hidx]
    show (match (pre ++ x :: post)[pre.length]? with | some x => _ | none => _) = _
    rw [List.getElem?_append_right (Nat.le_refl _), Nat.sub_self]
    show (bif noBid mem (car, (k : Int)) x then _ else _) = _
    rw [hno, hput]
    show ((pre ++ x :: post).set pre.length _, true) = _
    rw [List.set_append_right _ _ (Nat.le_refl _), Nat.sub_self]
    rfl
  rw [hbl]
  have hbe : (bidEn (car, (k : Int)) x).bids = insB x.bids (car, (k : Int)) := by
    show (putB x.bids (car, (k : Int))).1 = _
    rw [hput]
  refine ⟨rfl, ?_, by simp [bidEn, callE], by simp, fun n hn e he => ?_⟩
  · have hon3 : onB mem car (bidEn (car, (k : Int)) x) = true := by
      unfold onB
      rw [hbe, hm, List.any_eq_true.2 ⟨(car, (k : Int)), insB_mem _ _, by simp⟩]
      rfl
    rw [want_app, want_one, hwpre, hon3]
    rw [want_app, want_one, hwpre, hon] at hw
    injection hw
  · rcases List.mem_append.1 he with h | h
    · exact Nat.le_succ_of_le (hn e (List.mem_append_left _ h))
    · rcases List.mem_cons.1 h with rfl | h
      · rw [hbe, insB_len]
        exact Nat.succ_le_succ (hn x hxl)
      · exact Nat.le_succ_of_le (hn e (List.mem_append_right _ (List.mem_cons_of_mem _ h)))
theorem light_apart {cnt fdr hop : Int} {mem : List Int} {l : List En} (h : lightB cnt fdr hop mem l = true) : Apart l := by
  unfold lightB at h
  cases hf : l.any fat with
  | true => rw [hf] at h; cases h
  | false =>
  rw [hf] at h
  have h : (bif bif decide ((mem.length : Int) ≤ 16) then decide ((l.length : Int) ≤ 30) else false then vRing cnt fdr hop mem l == 0 else false) = true := h
  cases h1 : (bif decide ((mem.length : Int) ≤ 16) then decide ((l.length : Int) ≤ 30) else false) with
  | false => rw [h1] at h; cases h
  | true =>
  rw [h1] at h
  have h : (vRing cnt fdr hop mem l == 0) = true := h
  have h : vRing cnt fdr hop mem l = 0 := by simpa using h
  obtain ⟨_, h⟩ := cond0 (by decide) h
  obtain ⟨_, h⟩ := cond0 (by decide) h
  obtain ⟨_, h⟩ := cond0 (by decide) h
  obtain ⟨_, h⟩ := cond0 (by decide) h
  obtain ⟨_, _, hpw⟩ := vEnts_ok l none h
  unfold Apart
  refine List.Pairwise.map _ (fun a b hab => ?_) hpw
  rw [lessE_iff] at hab
  intro e
  unfold callE at e
  injection e with e1 e2
  omega
theorem bids_ok {mem : List Int} {car : Int} {l : List En} (ha : Apart l) (hb : ∀ e ∈ l, e.bids.length ≤ 16) (hl : l.length ≤ 30) : ∀ (k : Nat), k ≤ (wantL mem car l).length →
    wantL mem car (bidsL mem car (wantL mem car l) l k) = (wantL mem car l).drop k ∧ (bidsL mem car (wantL mem car l) l k).map callE = l.map callE ∧ (bidsL mem car (wantL mem car l) l k).length = l.length ∧ ∀ e ∈ bidsL mem car (wantL mem car l) l k, e.bids.length ≤ 16 + k
  | 0, _ => ⟨rfl, rfl, rfl, hb⟩
  | k + 1, hk => by
    obtain ⟨h1, h2, h3, h4⟩ := bids_ok (mem := mem) (car := car) ha hb hl k (by omega)
    obtain ⟨c, hc, hd⟩ := at_i (show k < (wantL mem car l).length by omega)
    have hWl := want_len mem car l
    have hap : Apart (bidsL mem car (wantL mem car l) l k) := by unfold Apart; rw [h2]; exact ha
    have hk2 : k ≤ 1000 := by omega
    have hst := bid_step hk2 hap (h1.trans hd)
    have hnx : bidsL mem car (wantL mem car l) l (k + 1) = (bidL mem (car, (k : Int)) c (bidsL mem car (wantL mem car l) l k)).1 := by
      show (match (wantL mem car l)[k]? with | some c => _ | none => _) = _
      rw [hc]
    rw [hnx]
    exact ⟨hst.2.1, hst.2.2.1.trans h2, hst.2.2.2.1.trans h3, hst.2.2.2.2 _ h4⟩
theorem want_ok {cnt fdr hop : Int} {mem : List Int} {l : List En} (h : lightB cnt fdr hop mem l = true) (car : Int) : WantOK mem l car := by
  have ok := light_ok h
  have ha := light_apart h
  have hWl := want_len mem car l
  have hl := ok.ll
  refine ⟨fun k c hc => ?_, fun k hk => ?_⟩
  · have hk := (List.getElem?_eq_some_iff.1 hc).1
    obtain ⟨h1, h2, _, _⟩ := bids_ok (mem := mem) (car := car) ha ok.bl hl k (by omega)
    obtain ⟨h5, _, _, _⟩ := bids_ok (mem := mem) (car := car) ha ok.bl hl (k + 1) hk
    obtain ⟨c2, hc2, hd⟩ := at_i hk
    rw [hc] at hc2
    cases hc2
    have hap : Apart (bidsL mem car (wantL mem car l) l k) := by unfold Apart; rw [h2]; exact ha
    have hk2 : k ≤ 1000 := by omega
    refine ⟨(bid_step hk2 hap (h1.trans hd)).1, ?_⟩
    rw [h5, List.length_drop]
    omega
  · obtain ⟨_, _, h3, h4⟩ := bids_ok (mem := mem) (car := car) ha ok.bl hl k hk
    exact ⟨h3, h4⟩
end Go.Proofs.YtkenimmellonjaaGreat
/- Seat Z: what is added: the plain law. -/
namespace Go.Proofs.YtkenimmellonjaaGreat
open Go.Pv Go.RowKit Go.Shelf
/-- An entry anew. -/
def newE (k : Int × Int × Int) : En := ⟨k.1, k.2.1, k.2.2, [], -1⟩
def lessK (k : Int × Int × Int) (e : En) : Bool := bif decide (k.1 < e.fl) then true else bif k.1 == e.fl then decide (k.2.1 < e.dr) else false
theorem lessK_iff (k : Int × Int × Int) (e : En) : lessK k e = true ↔ k.1 < e.fl ∨ (k.1 = e.fl ∧ k.2.1 < e.dr) := by
  unfold lessK
  by_cases h : k.1 < e.fl
  · simp [h]
  · by_cases h2 : k.1 = e.fl
    · simp [h2]
    · simp [h, h2]
def insE (k : Int × Int × Int) (l : List En) : List En := match idxFrom (lessK k) l 0 with
  | .ofNat j => l.take j ++ newE k :: l.drop j
  | .negSucc _ => l ++ [newE k]
def skipE (l : List En) (k : Int × Int × Int) : Bool := bif decide ((l.length : Int) ≥ 128) then true else decide (idxFrom (isC (k.1, k.2.1)) l 0 ≥ 0)
def addE (l : List En) (k : Int × Int × Int) : List En := bif skipE l k then l else insE k l
def addL (l : List En) (ks : List (Int × Int × Int)) : List En := ks.foldl addE l
def callK (k : Int × Int × Int) : Int × Int := (k.1, k.2.1)
theorem insE_eq (k : Int × Int × Int) (l : List En) : ∃ a b, l = a ++ b ∧ insE k l = a ++ newE k :: b ∧ (∀ e ∈ a, lessK k e = false) ∧ ∀ e b', b = e :: b' → lessK k e = true := by
  unfold insE
  rcases idx_cases0 (lessK k) l with ⟨h1, hno⟩ | ⟨j, x, h1, hx, hfd⟩
  · rw [h1]
    refine ⟨l, [], by simp, rfl, fun e he => ?_, fun e b' h => by cases h⟩
    simpa using (List.find?_eq_none.1 hno) e he
  · rw [h1]
    refine ⟨l.take j, l.drop j, (List.take_append_drop ..).symm, rfl, fun e he => ?_, fun e b' h => ?_⟩
    · have key : ∀ (l : List En) (i : Int) (k2 : Nat), idxFrom (lessK k) l i = i + k2 → ∀ e ∈ l.take k2, lessK k e = false := by
        intro l
        induction l with
        | nil => intro i k2 _ e h; simp at h
        | cons y r ih =>
          intro i k2 h e he
          cases k2 with
          | zero => simp at he
          | succ k2 =>
            unfold idxFrom at h
            split at h
            · omega
            · rename_i hy
              rw [List.take_succ_cons] at he
              rcases List.mem_cons.1 he with rfl | he
              · simpa using hy
              · exact ih (i + 1) k2 (by rw [h]; omega) e he
      exact key l 0 j (by rw [h1]; omega) e he
    · have hj := (List.getElem?_eq_some_iff.1 hx).1
      obtain ⟨y, hy, hd⟩ := at_i hj
      rw [hx] at hy
      cases hy
      rw [hd] at h
      cases h
      exact List.find?_some hfd
theorem insE_mem {k : Int × Int × Int} {l : List En} {e : En} : e ∈ insE k l ↔ e = newE k ∨ e ∈ l := by
  obtain ⟨a, b, h1, h2, _, _⟩ := insE_eq k l
  rw [h2, h1]
  simp only [List.mem_append, List.mem_cons]
  constructor
  · rintro (h | h | h)
    · exact .inr (.inl h)
    · exact .inl h
    · exact .inr (.inr h)
  · rintro (h | h | h)
    · exact .inr (.inl h)
    · exact .inl h
    · exact .inr (.inr h)
theorem insE_len (k : Int × Int × Int) (l : List En) : (insE k l).length = l.length + 1 := by
  obtain ⟨a, b, h1, h2, _, _⟩ := insE_eq k l
  rw [h2, h1]
  simp only [List.length_append, List.length_cons]
  omega
theorem idx_neg {p : En → Bool} {l : List En} (h : decide (idxFrom p l 0 ≥ 0) = false) : ∀ e ∈ l, p e = false := by
  obtain ⟨_, h⟩ := idx_lt h
  intro e he
  simpa using (List.find?_eq_none.1 h) e he
theorem idx_pos {p : En → Bool} {l : List En} {e : En} (he : e ∈ l) (hp : p e = true) : decide (idxFrom p l 0 ≥ 0) = true := by
  rcases idx_cases0 p l with ⟨_, hno⟩ | ⟨j, x, h1, _, _⟩
  · exact absurd hp ((List.find?_eq_none.1 hno) e he)
  · rw [h1]; exact decide_eq_true (by omega)
theorem skip_has {l : List En} {k : Int × Int × Int} (h : ∃ e ∈ l, callE e = callK k) : skipE l k = true := by
  obtain ⟨e, he, hc⟩ := h
  unfold skipE
  rw [idx_pos he ((isC_iff (k.1, k.2.1) e).2 hc)]
  cases decide ((l.length : Int) ≥ 128) <;> rfl
theorem skip_no {l : List En} {k : Int × Int × Int} (h : skipE l k = false) : l.length < 128 ∧ ∀ e ∈ l, callE e ≠ callK k := by
  unfold skipE at h
  cases h1 : decide ((l.length : Int) ≥ 128) with
  | true => rw [h1] at h; cases h
  | false =>
    rw [h1] at h
    have h1 := of_decide_eq_false h1
    refine ⟨by omega, fun e he hc => ?_⟩
    have := idx_neg h e he
    rw [(isC_iff (k.1, k.2.1) e).2 hc] at this
    cases this
theorem skip_go {l : List En} {k : Int × Int × Int} (hl : l.length < 128) (h : ∀ e ∈ l, callE e ≠ callK k) : skipE l k = false := by
  unfold skipE
  rw [show decide ((l.length : Int) ≥ 128) = false from decide_eq_false (by omega)]
  cases hd : decide (idxFrom (isC (k.1, k.2.1)) l 0 ≥ 0) with
  | false => rfl
  | true =>
    obtain ⟨j, x, _, hx, hf⟩ := idx_ge hd
    exact absurd ((isC_iff _ x).1 (List.find?_some hf)) (h x (List.mem_of_getElem? hx))
theorem addE_same {l : List En} {k : Int × Int × Int} (h : ∃ e ∈ l, callE e = callK k) : addE l k = l := by
  unfold addE; rw [skip_has h]; rfl
theorem addL_same {l : List En} : ∀ {ks : List (Int × Int × Int)}, (∀ k ∈ ks, ∃ e ∈ l, callE e = callK k) → addL l ks = l
  | [], _ => rfl
  | k :: r, h => by
    show addL (addE l k) r = l
    rw [addE_same (h k (List.mem_cons_self ..))]
    exact addL_same fun x hx => h x (List.mem_cons_of_mem _ hx)
theorem addE_mem {l : List En} {k : Int × Int × Int} {e : En} (h : e ∈ addE l k) : e ∈ l ∨ e = newE k := by
  unfold addE at h
  cases hs : skipE l k with
  | true => rw [hs] at h; exact .inl h
  | false =>
    rw [hs] at h
    rcases insE_mem.1 h with h | h
    · exact .inr h
    · exact .inl h
theorem addE_old {l : List En} {k : Int × Int × Int} {e : En} (h : e ∈ l) : e ∈ addE l k := by
  unfold addE
  cases hs : skipE l k with
  | true => exact h
  | false => exact insE_mem.2 (.inr h)
theorem addE_has {l : List En} {k : Int × Int × Int} (hl : l.length < 128) : ∃ e ∈ addE l k, callE e = callK k := by
  unfold addE
  cases hs : skipE l k with
  | true =>
    unfold skipE at hs
    rw [show decide ((l.length : Int) ≥ 128) = false from decide_eq_false (by omega)] at hs
    obtain ⟨j, x, _, hx, hf⟩ := idx_ge hs
    exact ⟨x, List.mem_of_getElem? hx, (isC_iff _ x).1 (List.find?_some hf)⟩
  | false => exact ⟨newE k, insE_mem.2 (.inl rfl), rfl⟩
theorem addE_apart {l : List En} {k : Int × Int × Int} (h : Apart l) : Apart (addE l k) := by
  unfold addE
  cases hs : skipE l k with
  | true => exact h
  | false =>
    obtain ⟨_, hn⟩ := skip_no hs
    obtain ⟨a, b, h1, h2, _, _⟩ := insE_eq k l
    show Apart (insE k l)
    rw [h2]
    rw [h1] at h hn
    unfold Apart at h ⊢
    rw [List.map_append, List.map_cons]
    rw [List.map_append] at h
    have hp : (callE (newE k) :: (a.map callE ++ b.map callE)).Perm (a.map callE ++ callE (newE k) :: b.map callE) := List.perm_middle.symm
    refine hp.nodup_iff.1 (List.nodup_cons.2 ⟨fun hm => ?_, h⟩)
    rw [← List.map_append] at hm
    obtain ⟨e, he, hc⟩ := List.mem_map.1 hm
    exact hn e he hc
theorem addE_len (l : List En) (k : Int × Int × Int) : (addE l k).length ≤ l.length + 1 := by
  unfold addE
  cases skipE l k with
  | true => exact Nat.le_succ _
  | false => exact Nat.le_of_eq (insE_len k l)
theorem addE_le {l : List En} {k : Int × Int × Int} (hl : l.length ≤ 128) : (addE l k).length ≤ 128 := by
  unfold addE
  cases hs : skipE l k with
  | true => exact hl
  | false => show (insE k l).length ≤ 128; rw [insE_len]; exact (skip_no hs).1
theorem addL_len : ∀ (ks : List (Int × Int × Int)) (l : List En), (addL l ks).length ≤ l.length + ks.length
  | [], _ => Nat.le_refl _
  | k :: r, l => by
    have h1 := addL_len r (addE l k)
    have h2 := addE_len l k
    show (addL (addE l k) r).length ≤ _
    rw [List.length_cons]; omega
theorem addL_le : ∀ (ks : List (Int × Int × Int)) {l : List En}, l.length ≤ 128 → (addL l ks).length ≤ 128
  | [], _, h => h
  | k :: r, _, h => addL_le r (addE_le (k := k) h)
theorem addL_apart : ∀ (ks : List (Int × Int × Int)) {l : List En}, Apart l → Apart (addL l ks)
  | [], _, h => h
  | _ :: r, _, h => addL_apart r (addE_apart h)
theorem addL_old : ∀ (ks : List (Int × Int × Int)) {l : List En} {e : En}, e ∈ l → e ∈ addL l ks
  | [], _, _, h => h
  | _ :: r, _, _, h => addL_old r (addE_old h)
theorem addL_mem : ∀ (ks : List (Int × Int × Int)) {l : List En} {e : En}, e ∈ addL l ks → e ∈ l ∨ ∃ k ∈ ks, e = newE k
  | [], _, _, h => .inl h
  | k :: r, l, e, h => by
    rcases addL_mem r h with h | ⟨x, hx, h⟩
    · rcases addE_mem h with h | h
      · exact .inl h
      · exact .inr ⟨k, List.mem_cons_self .., h⟩
    · exact .inr ⟨x, List.mem_cons_of_mem _ hx, h⟩
theorem addL_has : ∀ (ks : List (Int × Int × Int)) {l : List En}, l.length + ks.length ≤ 128 → ∀ k ∈ ks, ∃ e ∈ addL l ks, callE e = callK k
  | [], _, _, k, h => by cases h
  | k :: r, l, hl, x, hx => by
    rw [List.length_cons] at hl
    rcases List.mem_cons.1 hx with rfl | hx
    · obtain ⟨e, he, hc⟩ := addE_has (l := l) (k := x) (by omega)
      exact ⟨e, addL_old r he, hc⟩
    · have := addE_len l k
      exact addL_has r (l := addE l k) (by omega) x hx
/-- Entries by their calls. -/
def SrtE (l : List En) : Prop := l.Pairwise fun a b => lessE a b = true
theorem insE_srt {k : Int × Int × Int} {l : List En} (h : SrtE l) (hn : ∀ e ∈ l, callE e ≠ callK k) : SrtE (insE k l) := by
  obtain ⟨a, b, h1, h2, h3, h4⟩ := insE_eq k l
  rw [h2]
  rw [h1] at h hn
  unfold SrtE at h ⊢
  obtain ⟨ha, hb, hab⟩ := List.pairwise_append.1 h
  refine List.pairwise_append.2 ⟨ha, List.pairwise_cons.2 ⟨fun y hy => ?_, hb⟩, fun x hx y hy => ?_⟩
  · cases b with
    | nil => cases hy
    | cons e b' =>
      have he := (lessK_iff k e).1 (h4 e b' rfl)
      rw [lessE_iff]
      show k.1 < y.fl ∨ (k.1 = y.fl ∧ k.2.1 < y.dr)
      rcases List.mem_cons.1 hy with rfl | hy
      · exact he
      · have := (List.pairwise_cons.1 hb).1 y hy
        rw [lessE_iff] at this
        omega
  · rcases List.mem_cons.1 hy with rfl | hy
    · have hx1 : ¬ (lessK k x = true) := by rw [h3 x hx]; decide
      rw [lessK_iff] at hx1
      have hx2 : callE x ≠ callK k := hn x (List.mem_append_left _ hx)
      rw [lessE_iff]
      show x.fl < k.1 ∨ (x.fl = k.1 ∧ x.dr < k.2.1)
      have hx3 : ¬ (x.fl = k.1 ∧ x.dr = k.2.1) := fun h => hx2 (by unfold callE callK; rw [h.1, h.2])
      omega
    · exact hab x hx y hy
theorem addE_srt {k : Int × Int × Int} {l : List En} (h : SrtE l) : SrtE (addE l k) := by
  unfold addE
  cases hs : skipE l k with
  | true => exact h
  | false => exact insE_srt h (skip_no hs).2
theorem addL_srt : ∀ (ks : List (Int × Int × Int)) {l : List En}, SrtE l → SrtE (addL l ks)
  | [], _, h => h
  | _ :: r, _, h => addL_srt r (addE_srt h)
end Go.Proofs.YtkenimmellonjaaGreat
/- Seat Z: calls held against each other. -/
namespace Go.Proofs.YtkenimmellonjaaGreat
open Go.Pv Go.RowKit Go.Shelf
set_option maxRecDepth 100000 in
theorem isNaN (x : Int) : Contract Tryz.prog G0 91 [.d (.int .i64 x)] [] (fun r t => r = .d (.bool false) ∧ t = []) := by
  refine run91 0 [] rfl rfl ?_
  conv => whnf
  exact ⟨rd_bool (by simp), rfl⟩
def cmpI (a b : Int) : Int := bif decide (a < b) then -1 else bif decide (a > b) then 1 else 0
set_option maxRecDepth 100000 in
theorem compareI (a b : Int) : Contract Tryz.prog G0 54 [.d (.int .i64 a), .d (.int .i64 b)] [] (fun r t => r = .d (.int .i64 (cmpI a b)) ∧ t = []) := by
  refine run54 0 [] rfl rfl ?_
  conv => whnf
  refine .scal [.d (.int .i64 a)] _ ⟨.refl _, rfl, isNaN a⟩ ?_
  conv => whnf
  refine .scal [.d (.int .i64 b)] _ ⟨.refl _, rfl, isNaN b⟩ ?_
  conv => whnf
  refine bcase_intro (fun h => ?_) (fun h => ?_) <;> conv => whnf
  · exact ⟨rd_int (by rw [cmpI, h]; rfl), rfl⟩
  refine bcase_intro (fun h2 => ?_) (fun h2 => ?_) <;> conv => whnf
  · exact ⟨rd_int (by rw [cmpI, h, h2]; rfl), rfl⟩
  · exact ⟨rd_int (by rw [cmpI, h, h2]; rfl), rfl⟩
def orI : List Int → Int
  | [] => 0
  | x :: r => bif x != 0 then x else orI r
set_option maxRecDepth 100000 in
theorem orC (l : List Int) (hl : l.length ≤ 1000) : Contract Tryz.prog G0 53 [.d (.list 1 (rowsI l))] [] (fun r t => r = .d (.int .i64 (orI l)) ∧ t = []) := by
  have hlen := rowsI_len l
  refine run53 0 [] rfl rfl ?_
  conv => whnf
  refine StopG.rounds wk53 [] [3, 6, 7, 8] (fun m env s => ∃ i : Nat, i ≤ l.length ∧ m = l.length - i ∧ orI l = orI (l.drop i) ∧
    env = [(3, .d (.int .i64 0)), (6, .d (.list 1 (rowsI l))), (7, .d (.int .i64 ((rowsI l).length : Int))), (8, .d (.int .i64 (i : Int)))] ∧ s = []) rfl ?_ ?_
  · conv => whnf
    exact ⟨_, 0, Nat.zero_le _, rfl, rfl, rfl, rfl⟩
  rintro m env s ⟨i, hi, rfl, ho, rfl, rfl⟩
  conv => whnf
  refine bcase_intro (fun h => ?_) (fun h => ?_) <;> conv => whnf
  · have h := lt_of h
    rw [hlen] at h
    obtain ⟨x, hx, hdrop⟩ := at_i h
    refine ⟨rowI x, ⟨by omega, row_i hx⟩, ?_⟩
    conv => whnf
    rw [hdrop, orI] at ho
    refine bcase_intro (fun h2 => ?_) (fun h2 => ?_) <;> conv => whnf
    · rw [h2] at ho
      exact ⟨rd_int ho.symm, rfl⟩
    · rw [h2] at ho
      rw [succ_i h (by omega)]
      exact ⟨_, by omega, i + 1, h, rfl, ho, rfl, rfl⟩
  · have h := ge_of h
    rw [hlen] at h
    rw [show l.drop i = [] from List.drop_of_length_le h] at ho
    exact ⟨rd_int ho.symm, rfl⟩
/-- By floors, then by directions. -/
def cK (x y : Kt) : Int := orI [cmpI x.1 y.1, cmpI x.2.1 y.2.1]
set_option maxRecDepth 100000 in
theorem cmp76 (a b a' b' : Int) : Contract Tryz.prog G0 92 [calV a b, calV a' b'] [] (fun r t => r = .d (.int .i64 (orI [cmpI a a', cmpI b b'])) ∧ t = []) := by
  refine run92 0 [] rfl rfl ?_
  conv => whnf
  refine .scal [.d (.int .i64 a), .d (.int .i64 a')] _ ⟨.refl _, rfl, compareI a a'⟩ ?_
  conv => whnf
  refine .scal [.d (.int .i64 b), .d (.int .i64 b')] _ ⟨.refl _, rfl, compareI b b'⟩ ?_
  conv => whnf
  refine .scal [.d (.list 1 (rowsI [cmpI a a', cmpI b b']))] _ ⟨.refl _, rfl, orC _ (by simp)⟩ ?_
  conv => whnf
  exact ⟨rfl, rfl⟩
set_option maxRecDepth 100000 in
theorem less28 (a b a' b' : Int) : Contract Tryz.prog G0 57 [calV a b, calV a' b'] [] (fun r t => r = .d (.bool (decide (orI [cmpI a a', cmpI b b'] < 0))) ∧ t = []) := by
  refine run57 0 [] rfl rfl ?_
  conv => whnf
  refine .scal [calV a b, calV a' b'] _ ⟨.refl _, rfl, cmp76 a b a' b'⟩ ?_
  conv => whnf
  exact ⟨rfl, rfl⟩
set_option maxRecDepth 100000 in
theorem add93 (x y : Kt) : Contract Tryz.prog G0 52 [latV x.1 x.2.1 x.2.2, latV y.1 y.2.1 y.2.2] [] (fun r t => r = .d (.int .i64 (cK x y)) ∧ t = []) := by
  refine run52 0 [] rfl rfl ?_
  conv => whnf
  refine .scal [.d (.int .i64 x.1), .d (.int .i64 y.1)] _ ⟨.refl _, rfl, compareI x.1 y.1⟩ ?_
  conv => whnf
  refine .scal [.d (.int .i64 x.2.1), .d (.int .i64 y.2.1)] _ ⟨.refl _, rfl, compareI x.2.1 y.2.1⟩ ?_
  conv => whnf
  refine .scal [.d (.list 1 (rowsI [cmpI x.1 y.1, cmpI x.2.1 y.2.1]))] _ ⟨.refl _, rfl, orC _ (by simp)⟩ ?_
  conv => whnf
  exact ⟨rfl, rfl⟩
theorem cmp_neg (a b a' b' : Int) : orI [cmpI a a', cmpI b b'] < 0 ↔ a < a' ∨ (a = a' ∧ b < b') := by
  unfold cmpI
  by_cases h1 : a < a'
  · simp [orI, h1]
  · by_cases h2 : a > a'
    · simp only [show decide (a < a') = false from decide_eq_false h1, show decide (a > a') = true from decide_eq_true h2]
      simp [orI]
      omega
    · have h3 : a = a' := by omega
      by_cases h4 : b < b'
      · simp [orI, h3, h4]
      · by_cases h5 : b > b'
        · simp only [show decide (b < b') = false from decide_eq_false h4, show decide (b > b') = true from decide_eq_true h5]
          simp [orI, h3]
          omega
        · simp [orI, h3, h4, show ¬ (b' < b) from h5]
theorem cK_ord : Ordr cK := by
  refine ⟨fun x y h => ?_, fun x y z h1 h2 => ?_⟩
  · unfold cK at *
    rw [cmp_neg] at *
    omega
  · unfold cK at *
    rw [cmp_neg] at *
    omega
theorem less_k (k : Kt) (e : En) : decide (orI [cmpI k.1 e.fl, cmpI k.2.1 e.dr] < 0) = lessK k e := by
  cases h : lessK k e with
  | true => exact decide_eq_true ((cmp_neg ..).2 ((lessK_iff k e).1 h))
  | false => exact decide_eq_false fun hc => by rw [(lessK_iff k e).2 ((cmp_neg ..).1 hc)] at h; cases h
set_option maxRecDepth 100000 in
theorem add97 (k : Kt) (e : En) : Contract Tryz.prog G0 56 [entV e, .d (.ptr (rowK k) 0)] [] (fun r s => r = .d (.bool (lessK k e)) ∧ s = []) := by
  refine run56 0 [] rfl rfl ?_
  conv => whnf
  refine .scal [calV k.1 k.2.1, calV e.fl e.dr] _ ⟨.refl _, rfl, less28 k.1 k.2.1 e.fl e.dr⟩ ?_
  conv => whnf
  exact ⟨rd_bool (less_k k e), rfl⟩
theorem clone91_nil : Contract Tryz.prog G0 50 [.d (.list 3 [])] [] (fun r t => (r = .d .nil ∨ r = .d .emp) ∧ t = []) := by
  refine run50 0 [] rfl rfl ?_
  conv => whnf
  refine ⟨?_, ?_⟩ <;> conv => whnf
  · exact ⟨.inl rfl, rfl⟩
  · refine ⟨⟨by decide, by decide⟩, ?_⟩
    conv => whnf
    exact ⟨.inr rfl, rfl⟩
theorem clone91_cons (r0 : List DV) (rs : List (List DV)) (hl : rs.length ≤ 100000) : Contract Tryz.prog G0 50 [.d (.list 3 (r0 :: rs))] [] (fun r t => ∃ c, rs.length + 1 ≤ c ∧ r = .slc (.g 0) 3 0 (rs.length + 1) c ∧ t = [(0, .row 3 (r0 :: rs))]) := by
  refine run50 0 [] rfl rfl ?_
  conv => whnf
  refine ⟨⟨?_, ?_⟩, ?_⟩
  · show (2 * (rs.length + 1) + 1024) * 24 ≤ 281474976710656; omega
  · show rs.length + 1 ≤ _; omega
  conv => whnf
  intro c hc
  conv => whnf
  exact ⟨c, hc, rfl, rfl⟩
set_option maxRecDepth 100000 in
theorem sort92 (l : List Kt) (N : Nat) (hN : l.length = N) (hl : N ≤ 10000) (cap : Nat) : Contract Tryz.prog G0 51 [.slc (.g 0) 3 0 N cap, .fn 52 []] [(0, .row 3 (rowsK l))] (fun r t => ∃ o, r = .tup [] ∧ Srt cK o ∧ Stb cK l o ∧ t = [(0, .row 3 (rowsK o))]) := by
  refine run51 1 [] rfl rfl ?_
  conv => whnf
  refine .obj rfl ?_
  conv => whnf
  refine ⟨_, _, ⟨WkL.refl _, stable 52 cK cK_ord add93 l N hN hl cap⟩, fun res s1 hs => ?_⟩
  obtain ⟨o, rfl, ho, hb, rfl⟩ := hs
  conv => whnf
  exact ⟨o, rfl, ho, hb, rfl⟩
end Go.Proofs.YtkenimmellonjaaGreat
/- Seat Z: an entry put among entries of one's own. -/
namespace Go.Proofs.YtkenimmellonjaaGreat
open Go.Pv Go.RowKit Go.Shelf
theorem ov122 (x y : Value) (w : World) : (callFunc 93 #[x, y]).run Tryz.prog w = ((Extern.SlicesOverlaps.overlaps #[25, 25] #[4] #[x, y]).run Tryz.prog w).andThen fun v w' => .ok (.value v) w' := by
  rw [run_callFunc_extern Tryz.func93 (by kernel_rfl) (by kernel_rfl) (by kernel_rfl) (e := Extern.SlicesOverlaps.overlaps #[25, 25] #[4]) (by kernel_rfl)]
set_option maxRecDepth 100000 in
theorem insertE_own (rows : List (List DV)) (hl : rows.length ≤ 100000) (k : Nat) (hk : k ≤ rows.length) (c : Nat) (hc : rows.length ≤ c) (x : List DV) :
    Contract Tryz.prog G0 58 [.slc (.g 0) 5 0 rows.length c, .d (.int .i64 k), .d (.list 5 [x])] [(0, .row 5 rows)] (fun r t => (∃ c', rows.length + 1 ≤ c' ∧ r = .slc (.g 0) 5 0 (rows.length + 1) c' ∧ t = [(0, .row 5 (rows.take k ++ x :: rows.drop k))]) ∨ ∃ c' old, rows.length + 1 ≤ c' ∧ (old = .dead ∨ old = .row 5 rows) ∧ r = .slc (.g 1) 5 0 (rows.length + 1) c' ∧ t = [(0, old), (1, .row 5 (rows.take k ++ x :: rows.drop k))]) := by
  refine run58 1 [] rfl rfl ?_
  conv => whnf
  refine ⟨⟨by omega, by omega, by omega⟩, ?_⟩
  conv => whnf
  have hw1 : IntKind.i64.wrap ((rows.length : Int) + (([x] : List (List DV)).length : Int)) = ((rows.length + 1 : Nat) : Int) := by
    rw [wrap_id (by simp; omega) (by simp; omega)]
    simp
  have hw2 : IntKind.i64.wrap ((k : Int) + (([x] : List (List DV)).length : Int)) = ((k + 1 : Nat) : Int) := by
    rw [wrap_id (by simp; omega) (by simp; omega)]
    simp
  refine bcase_intro (fun h => ?_) (fun h => ?_) <;> conv => whnf
  · have h : k = rows.length := by simp at h; omega
    subst h
    refine ⟨Nat.le_refl _, ⟨?_, ?_⟩, ?_⟩
    · show (2 * (rows.length + 1) + 1024) * 56 ≤ 281474976710656; omega
    · show rows.length + 1 ≤ _; omega
    conv => whnf
    intro c' hc'
    conv => whnf
    refine .inr ⟨c', .dead, hc', .inl rfl, rfl, ?_⟩
    rw [List.take_length, List.drop_length]
  · have h : k < rows.length := by simp at h; omega
    rw [hw1]
    refine bcase_intro (fun h2 => ?_) (fun h2 => ?_) <;> conv => whnf
    · have h2 : c < rows.length + 1 := by simp at h2; omega
      refine ⟨⟨by omega, by omega, by omega⟩, ?_⟩
      conv => whnf
      rw [hw1]
      simp -iota only [Int.toNat_natCast, Int.toNat_zero, Nat.sub_zero, Nat.zero_add]
      have hkn : k + (rows.length + 1 - k) = rows.length + 1 := by omega
      refine ⟨rows.length + 1 - k, ⟨?_, by omega, by omega, by omega, ?_, by omega⟩, ?_⟩
      · rw [wrap_id (by omega) (by omega)]; omega
      · show (2 * _ + 1024) * 56 ≤ 281474976710656; omega
      rw [hkn]
      conv => whnf
      intro c1 hc1
      conv => whnf
      refine ⟨⟨by omega, by omega, by omega⟩, ?_⟩
      conv => whnf
      simp -iota only [Int.toNat_natCast, Nat.zero_add]
      refine ⟨by simp; omega, ?_⟩
      conv => whnf
      refine ⟨⟨by omega, by rw [hw2]; omega, by omega⟩, ?_⟩
      conv => whnf
      refine ⟨⟨by omega, by omega, by omega⟩, ?_⟩
      conv => whnf
      rw [hw2]
      simp -iota only [Int.toNat_natCast, Nat.zero_add]
      refine ⟨by simp [splice]; omega, ?_⟩
      conv => whnf
      refine ⟨by omega, ?_⟩
      conv => whnf
      refine .inr ⟨c1, .row 5 rows, by omega, .inr rfl, rfl, ?_⟩
      refine congrArg (fun q => [(0, AB.row 5 rows), (1, AB.row 5 q)]) ?_
      have := ins_a rows k h x (min (rows.length - k) (rows.length + 1 - (k + 1))) (by omega) (List.replicate (rows.length + 1 - k) ti56.zero) (by simp)
      refine Eq.trans ?_ this
      have e1 : ([x] : List (List DV)).take (rows.length + 1 - k) = [x] := List.take_of_length_le (by simp; try omega)
      have e2 : ((rows.drop k).take (min (rows.length - k) (rows.length + 1 - (k + 1)))).length = min (rows.length - k) (rows.length + 1 - (k + 1)) := by simp; try omega
      refine (List.take_of_length_le (i := rows.length + 1) ?_).symm.trans ?_
      · simp [splice, e1]; omega
      · simp only [splice, e1, List.length_singleton, e2, List.drop_zero]
    · have h2 : rows.length + 1 ≤ c := by simp at h2; omega
      refine ⟨⟨by omega, by rw [hw1]; omega, by rw [hw1]; omega⟩, ?_⟩
      conv => whnf
      refine ⟨⟨by rw [hw2]; omega, by rw [hw1, hw2]; omega, by rw [hw1]; omega⟩, ?_⟩
      conv => whnf
      rw [hw1, hw2]
      simp -iota only [Int.toNat_natCast, Int.toNat_zero, Nat.sub_zero, Nat.zero_add]
      refine .raw rfl ?_
      have q1 : T 25 = some ti25 := by kernel_rfl
      have q2 : T 56 = some ti56 := by kernel_rfl
      refine ej_overlaps (f := 93) (c := .func 93) (tys := #[25, 25]) (t := 25) (tr := 4) (e := 56) (ti := ti25) (te := ti56) (x := .tmp 61) (y := .tmp 66) (sz := 5) (rows := [x]) (id := 0) (off := k + 1) (len := rows.length + 1 - (k + 1)) (cap := c - (k + 1)) (old := rows) tabOK q1 ?_ q2 ov122 ?_ ?_ ?_ ?_ ?_ ?_ ?_
      · rfl
      · rfl
      · rfl
      · rfl
      · decide
      · rfl
      · rfl
      conv => whnf
      refine ⟨⟨by rw [hw2]; omega, by rw [hw2]; omega, by omega⟩, ?_⟩
      conv => whnf
      refine ⟨⟨by omega, by omega, by omega⟩, ?_⟩
      conv => whnf
      rw [hw2]
      simp -iota only [Int.toNat_natCast, Nat.zero_add]
      refine ⟨by omega, ?_⟩
      conv => whnf
      refine ⟨by omega, ?_⟩
      conv => whnf
      refine ⟨⟨by omega, by omega, by omega⟩, ?_⟩
      conv => whnf
      simp -iota only [Int.toNat_natCast, Nat.zero_add]
      refine ⟨by simp [splice]; omega, ?_⟩
      conv => whnf
      have e2 : ((rows.drop k).take (min (rows.length + 1 - k) (rows.length + 1 - (k + 1)))).length = rows.length - k := by simp; omega
      have e1 : ([x] : List (List DV)).take (rows.length + 1 - k) = [x] := List.take_of_length_le (by simp; try omega)
      refine .inl ⟨c, h2, rfl, ?_⟩
      refine congrArg (fun q => [(0, AB.row 5 q)]) ?_
      refine (List.take_of_length_le (i := rows.length + 1) ?_).symm.trans ?_
      · simp [splice, e1]; omega
      · rw [← ins_b rows k h x (min (rows.length + 1 - k) (rows.length + 1 - (k + 1))) (by omega)]
        simp only [splice, e1, List.length_singleton, e2]
set_option maxRecDepth 100000 in
theorem insertE_none (e : DV) (he : e = .nil ∨ e = .emp) (x : List DV) :
    Contract Tryz.prog G0 58 [.d e, .d (.int .i64 0), .d (.list 5 [x])] [] (fun r t => ∃ c', 1 ≤ c' ∧ r = .slc (.g 0) 5 0 1 c' ∧ t = [(0, .row 5 [x])]) := by
  refine run58 0 [] rfl rfl ?_
  rcases he with rfl | rfl
  all_goals
    conv => whnf
    refine ⟨⟨by omega, by omega⟩, ?_⟩
    conv => whnf
    refine ⟨⟨?_, ?_⟩, ?_⟩
    · show (2 * 1 + 1024) * 56 ≤ 281474976710656; omega
    · show 1 ≤ _; omega
    conv => whnf
    intro c hc
    conv => whnf
    exact ⟨c, hc, rfl, rfl⟩
end Go.Proofs.YtkenimmellonjaaGreat
/- Seat Z: what is lit is added. -/
namespace Go.Proofs.YtkenimmellonjaaGreat
open Go.Pv Go.RowKit Go.Shelf
set_option maxRecDepth 100000 in
theorem sortS (l : List Kt) (N : Nat) (hN : l.length = N) (hl : N ≤ 10000) (cap : Nat) : Contract Tryz.prog G0 51 [.slc (.g 0) 3 0 N cap, .fn 52 []] [(0, .row 3 (rowsK l))] (fun r t => r = .tup [] ∧ t = [(0, .row 3 (rowsK (sortK cK l)))]) :=
  (sort92 l N hN hl cap).mono fun r t ⟨o, h1, h2, h3, h4⟩ => by
    have := Srt.uniq cK_ord (sortK_srt cK_ord l) h2 fun k => (h3 k).trans (sortK_stb cK_ord l k).symm
    exact ⟨h1, by rw [h4, this]⟩
set_option maxRecDepth 100000 in
theorem sortS_none (e : DV) (he : e = .nil ∨ e = .emp) : Contract Tryz.prog G0 51 [.d e, .fn 52 []] [] (fun r t => r = .tup [] ∧ t = []) := by
  have h142 : ∀ e : DV, e = .nil ∨ e = .emp → Contract Tryz.prog G0 104 [.d e, .d (.int .i64 0), .d (.int .i64 0), .fn 52 []] [] (fun r t => r = .tup [] ∧ t = []) := by
    intro e he
    rcases he with rfl | rfl
    all_goals
      refine run104 0 [] rfl rfl ?_
      conv => whnf
      refine StopG.rounds wk104 [] [2, 8] (fun m env s => m = 0 ∧ env = [(2, .d (.int .i64 0)), (8, .d (.int .i64 1))] ∧ s = []) rfl ?_ ?_
      · conv => whnf
        exact ⟨_, rfl, rfl, rfl⟩
      rintro m env s ⟨rfl, rfl, rfl⟩
      conv => whnf
      exact ⟨rfl, rfl⟩
  have h120 : Contract Tryz.prog G0 90 [.d e, .d (.int .i64 0), .fn 52 []] [] (fun r t => r = .tup [] ∧ t = []) := by
    rcases he with rfl | rfl
    all_goals
      refine run90 0 [] rfl rfl ?_
      conv => whnf
      refine StopG.rounds wk90 [] [0, 1, 2, 6, 7, 8] (fun m env s => m = 0 ∧ ∃ e, (e = .nil ∨ e = .emp) ∧ env = [(0, .d e), (1, .d (.int .i64 0)), (2, .fn 52 []), (6, .d (.int .i64 20)), (7, .d (.int .i64 0)), (8, .d (.int .i64 20))] ∧ s = []) rfl ?_ ?_
      · conv => whnf
        first | exact ⟨_, rfl, _, .inl rfl, rfl, rfl⟩ | exact ⟨_, rfl, _, .inr rfl, rfl, rfl⟩
      rintro m env s ⟨rfl, e, he, rfl, rfl⟩
      have h142 := h142 e he
      rcases he with rfl | rfl
      all_goals
        conv => whnf
        refine .obj rfl ?_
        conv => whnf
        refine ⟨_, _, ⟨WkL.refl _, h142⟩, fun res s1 hs => ?_⟩
        obtain ⟨rfl, rfl⟩ := hs
        conv => whnf
        refine StopG.rounds wk90 [] [1, 6] (fun m env s => m = 0 ∧ env = [(1, .d (.int .i64 0)), (6, .d (.int .i64 20))] ∧ s = []) rfl ?_ ?_
        · conv => whnf
          exact ⟨_, rfl, rfl, rfl⟩
        rintro m env s ⟨rfl, rfl, rfl⟩
        conv => whnf
        exact ⟨rfl, rfl⟩
  rcases he with rfl | rfl
  all_goals
    refine run51 0 [] rfl rfl ?_
    conv => whnf
    refine .obj rfl ?_
    conv => whnf
    refine ⟨_, _, ⟨WkL.refl _, h120⟩, fun res s1 hs => ?_⟩
    obtain ⟨rfl, rfl⟩ := hs
    conv => whnf
    exact ⟨rfl, rfl⟩
abbrev cR (cnt fdr hop : Int) (mem : List Int) (en : AV) : AB := .cells [.d (.int .i64 cnt), .d (.int .i64 fdr), .d (.int .i64 hop), .d (.list 1 (rowsI mem)), en]
abbrev c0 : AB := .cells [.d (.int .i64 0), .d (.int .i64 0), .d (.int .i64 0), .d .nil, .d .nil]
/-- Where a round of adding begins. -/
def addI (cnt fdr hop : Int) (mem : List Int) (l : List En) (o : List Kt) (c : Nat) (m : Nat) (env : Env) (s : List (Nat × AB)) : Prop :=
  ∃ (i : Nat) (l' : List En), i ≤ o.length ∧ m = o.length - i ∧ l' = addL l (o.take i) ∧ env = [(2, .ref (.g 0) 0), (4, .ref (.g 1) 0), (14, .slc (.g 2) 3 0 o.length c), (15, .d (.int .i64 (o.length : Int))), (16, .d (.int .i64 (i : Int)))] ∧
    ((∃ e : DV, l' = [] ∧ (e = .nil ∨ e = .emp) ∧ s = [(0, cR cnt fdr hop mem (.d e)), (1, c0), (2, .row 3 (rowsK o))]) ∨
      ∃ cap, l'.length ≤ cap ∧ s = [(0, cR cnt fdr hop mem (.slc (.g 3) 5 0 l'.length cap)), (1, c0), (2, .row 3 (rowsK o)), (3, .row 5 (rowsE l'))])
/-- What comes out. -/
def addR (cnt fdr hop : Int) (mem : List Int) (L : List En) (r : AV) (t : List (Nat × AB)) : Prop :=
  (∃ e : DV, L = [] ∧ (e = .nil ∨ e = .emp) ∧ r = rgV cnt fdr hop mem (.d e) ∧ t = []) ∨ ∃ cap, L.length ≤ cap ∧ r = rgV cnt fdr hop mem (.slc (.g 0) 5 0 L.length cap) ∧ t = [(0, .row 5 (rowsE L))]
theorem wk_new (k : Kt) : WkD (.list 5 [[.int .i64 k.1, .int .i64 k.2.1, .int .i64 k.2.2, .nil, .int .i64 (-1)]]) (.list 5 [rowE (newE k)]) := by
  refine WkD.list rfl fun i r r' hr hr' => ?_
  match i, hr, hr' with
  | 0, hr, hr' =>
    cases hr
    cases hr'
    refine ⟨rfl, fun j x y hx hy => ?_⟩
    match j, hx, hy with
    | 0, hx, hy => cases hx; cases hy; exact WkD.refl _
    | 1, hx, hy => cases hx; cases hy; exact WkD.refl _
    | 2, hx, hy => cases hx; cases hy; exact WkD.refl _
    | 3, hx, hy => cases hx; cases hy; exact WkD.nil 2
    | 4, hx, hy => cases hx; cases hy; exact WkD.refl _
    | n + 5, hx, _ => simp at hx
  | n + 1, hr, _ => simp at hr
theorem addL_snoc {l : List En} {o : List Kt} {i : Nat} {k : Kt} (hk : o[i]? = some k) : addL l (o.take (i + 1)) = addE (addL l (o.take i)) k := by
  rw [List.take_add_one, hk]
  simp [addL]
set_option maxRecDepth 100000 in
theorem addStep (cnt fdr hop : Int) (mem : List Int) (l : List En) (hl : l.length ≤ 1000) (o : List Kt) (ho : o.length ≤ 1000) (c : Nat) (m : Nat) (env : Env) (s : List (Nat × AB)) (hI : addI cnt fdr hop mem l o c m env s) :
    run Tryz.prog cx17 0 kt17 [8] R17 (KL Tryz.prog cx17 0 kt17 [8] R17 (KV T Tryz.f17.results.toList 0 (addR cnt fdr hop mem (addL l o))) [Fr.bl 0, Fr.sq [1, 1, 1, 1, 1]] [2, 4, 14, 15, 16] (addI cnt fdr hop mem l o c) m) 100000 ⟨.code [0, 0, 1, 0, 1, 1, 1, 1], [], env, s⟩ := by
  obtain ⟨i, l', hi, rfl, hl', rfl, hs⟩ := hI
  have hln : l'.length ≤ 2000 := by
    rw [hl']
    have := addL_len (o.take i) l
    rw [List.length_take] at this
    omega
  rcases hs with ⟨e, rfl, rfl | rfl, rfl⟩ | ⟨cap, hcap, rfl⟩
  · conv => whnf
    refine bcase_intro (fun h => ?_) (fun h => ?_) <;> conv => whnf
    · have hio := lt_of h
      obtain ⟨k, hk, hd⟩ := at_i hio
      refine ⟨⟨by omega, by omega⟩, ?_⟩
      conv => whnf
      refine ⟨rowK k, row_g hk, rfl, ?_⟩
      conv => whnf
      refine .scal [awG cnt fdr hop mem [], calV k.1 k.2.1] (.d (.int .i64 (-1))) (fun _ => ⟨.a (.s _ (.s _ (.s _ (.s _ (.n 5 .nil))))) (.refl _), rfl, at87 cnt fdr hop mem [] (by simp) k.1 k.2.1⟩) ?_
      conv => whnf
      refine .ghost (GV.freeze 3 rfl (by simp) (by repeat' first | exact trivial | apply And.intro | decide | (simp; done) | omega) (by repeat' first | exact trivial | apply And.intro)) (.go wk17 [] ?_)
      conv => whnf
      refine .scal [.d (.list 5 []), .fn 56 [.d (.ptr (rowK k) 0)]] (.d (.int .i64 (-1))) ⟨.n 5 (.refl _), rfl, index96 [] (by simp) (lessK k) 56 (rowK k) (add97 k)⟩ ?_
      conv => whnf
      refine .obj rfl ?_
      conv => whnf
      refine ⟨_, _, ⟨.s _ (.s _ (.w (wk_new k) .nil)), insertE_none .nil (.inl rfl) (rowE (newE k))⟩, fun res s1 h => ?_⟩
      obtain ⟨c', hc', rfl, rfl⟩ := h
      conv => whnf
      rw [succ_i hio (by omega)]
      refine ⟨_, by omega, i + 1, [newE k], hio, rfl, ?_, rfl, .inr ⟨c', hc', rfl⟩⟩
      rw [addL_snoc hk, ← hl']
      rfl
    · have hio := ge_of h
      rw [List.take_of_length_le hio] at hl'
      exact .inl ⟨.nil, hl'.symm, .inl rfl, rfl, rfl⟩
  · conv => whnf
    refine bcase_intro (fun h => ?_) (fun h => ?_) <;> conv => whnf
    · have hio := lt_of h
      obtain ⟨k, hk, hd⟩ := at_i hio
      refine ⟨⟨by omega, by omega⟩, ?_⟩
      conv => whnf
      refine ⟨rowK k, row_g hk, rfl, ?_⟩
      conv => whnf
      refine .scal [awG cnt fdr hop mem [], calV k.1 k.2.1] (.d (.int .i64 (-1))) (fun _ => ⟨.a (.s _ (.s _ (.s _ (.s _ (.e 5 .nil))))) (.refl _), rfl, at87 cnt fdr hop mem [] (by simp) k.1 k.2.1⟩) ?_
      conv => whnf
      refine .ghost (GV.freeze 3 rfl (by simp) (by repeat' first | exact trivial | apply And.intro | decide | (simp; done) | omega) (by repeat' first | exact trivial | apply And.intro)) (.go wk17 [] ?_)
      conv => whnf
      refine .scal [.d (.list 5 []), .fn 56 [.d (.ptr (rowK k) 0)]] (.d (.int .i64 (-1))) ⟨.e 5 (.refl _), rfl, index96 [] (by simp) (lessK k) 56 (rowK k) (add97 k)⟩ ?_
      conv => whnf
      refine .obj rfl ?_
      conv => whnf
      refine ⟨_, _, ⟨.s _ (.s _ (.w (wk_new k) .nil)), insertE_none .emp (.inr rfl) (rowE (newE k))⟩, fun res s1 h => ?_⟩
      obtain ⟨c', hc', rfl, rfl⟩ := h
      conv => whnf
      rw [succ_i hio (by omega)]
      refine ⟨_, by omega, i + 1, [newE k], hio, rfl, ?_, rfl, .inr ⟨c', hc', rfl⟩⟩
      rw [addL_snoc hk, ← hl']
      rfl
    · have hio := ge_of h
      rw [List.take_of_length_le hio] at hl'
      exact .inl ⟨.emp, hl'.symm, .inr rfl, rfl, rfl⟩
  · conv => whnf
    have hrl := rowsE_len l'
    refine bcase_intro (fun h => ?_) (fun h => ?_) <;> conv => whnf
    · have hio := lt_of h
      obtain ⟨k, hk, hd⟩ := at_i hio
      have hlend : Contract Tryz.prog G0 32 [awG cnt fdr hop mem l', calV k.1 k.2.1] [] (fun r t => r = .d (.int .i64 (idxFrom (isC (k.1, k.2.1)) l' 0)) ∧ t = []) := at87 cnt fdr hop mem l' (by omega) k.1 k.2.1
      rw [show awG cnt fdr hop mem l' = rgV cnt fdr hop mem (.d (.list 5 ((List.drop 0 (rowsE l')).take l'.length))) by rw [List.drop_zero, List.take_of_length_le (by omega)]] at hlend
      have hix := index96O l' (by omega) (lessK k) 56 (rowK k) (add97 k)
      refine ⟨⟨by omega, by omega⟩, ?_⟩
      conv => whnf
      refine ⟨rowK k, row_g hk, rfl, ?_⟩
      conv => whnf
      refine .scal [rgV cnt fdr hop mem (.d (.list 5 ((List.drop 0 (rowsE l')).take l'.length))), calV k.1 k.2.1] _ (fun _ => ⟨.fz 3 _ rfl (by simp) (by repeat' first | exact trivial | apply And.intro | decide | (simp; done) | omega) (.refl _), rfl, hlend⟩) ?_
      conv => whnf
      refine bcase_intro (fun hg => ?_) (fun hg => ?_) <;> conv => whnf
      · have hsk : skipE l' k = true := hg
        rw [succ_i hio (by omega)]
        refine ⟨_, by omega, i + 1, l', hio, rfl, ?_, rfl, .inr ⟨cap, hcap, rfl⟩⟩
        rw [addL_snoc hk, ← hl', addE, hsk]
        rfl
      have hsk : skipE l' k = false := hg
      have hnx : addL l (o.take (i + 1)) = insE k l' := by
        rw [addL_snoc hk, ← hl', addE, hsk]
        rfl
      refine .ghost (GV.freeze 4 rfl (by simp) (by repeat' first | exact trivial | apply And.intro | decide | (simp; done) | omega) (by repeat' first | exact trivial | apply And.intro)) (.go wk17 [] ?_)
      conv => whnf
      have hil := insE_len k l'
      rcases idx_cases0 (lessK k) l' with ⟨e1, _⟩ | ⟨j, x, e1, hx, _⟩
      · rw [e1] at hix
        have hin : insE k l' = l' ++ [newE k] := by unfold insE; rw [e1]; rfl
        have hins := insertE_own (rowsE l') (by omega) l'.length (by omega) cap (by omega) (rowE (newE k))
        rw [hrl] at hins
        have hro : (rowsE l').take l'.length ++ rowE (newE k) :: (rowsE l').drop l'.length = rowsE (insE k l') := by
          rw [hin, List.take_of_length_le (by omega), List.drop_of_length_le (by omega)]
          simp [rowsE]
        rw [hro, ← hil] at hins
        refine .scal [.d (.list 5 ((List.drop 0 (rowsE l')).take l'.length)), .fn 56 [.d (.ptr (rowK k) 0)]] (.d (.int .i64 (-1))) ⟨.fz 3 (.row 5 (rowsE l')) rfl (by simp) (by repeat' first | exact trivial | apply And.intro | decide | (simp; done) | omega) (.refl _), rfl, hix⟩ ?_
        conv => whnf
        refine .obj rfl ?_
        conv => whnf
        refine ⟨_, _, ⟨.s _ (.s _ (.w (wk_new k) .nil)), hins⟩, fun res s1 h => ?_⟩
        rcases h with ⟨c', hc', rfl, rfl⟩ | ⟨c', old, hc', rfl | rfl, rfl, rfl⟩
        all_goals
          conv => whnf
          rw [succ_i hio (by omega)]
          exact ⟨_, by omega, i + 1, insE k l', hio, rfl, hnx.symm, rfl, .inr ⟨c', hc', rfl⟩⟩
      · rw [e1] at hix
        have hjl := (List.getElem?_eq_some_iff.1 hx).1
        have hin : insE k l' = l'.take j ++ newE k :: l'.drop j := by unfold insE; rw [e1]
        have hins := insertE_own (rowsE l') (by omega) j (by omega) cap (by omega) (rowE (newE k))
        rw [hrl] at hins
        have hro : (rowsE l').take j ++ rowE (newE k) :: (rowsE l').drop j = rowsE (insE k l') := by
          rw [hin]
          simp [rowsE, List.map_take, List.map_drop]
        rw [hro, ← hil] at hins
        refine .scal [.d (.list 5 ((List.drop 0 (rowsE l')).take l'.length)), .fn 56 [.d (.ptr (rowK k) 0)]] (.d (.int .i64 (j : Int))) ⟨.fz 3 (.row 5 (rowsE l')) rfl (by simp) (by repeat' first | exact trivial | apply And.intro | decide | (simp; done) | omega) (.refl _), rfl, hix⟩ ?_
        conv => whnf
        rw [show decide ((j : Int) < 0) = false from decide_eq_false (by omega)]
        conv => whnf
        refine .obj rfl ?_
        conv => whnf
        refine ⟨_, _, ⟨.s _ (.s _ (.w (wk_new k) .nil)), hins⟩, fun res s1 h => ?_⟩
        rcases h with ⟨c', hc', rfl, rfl⟩ | ⟨c', old, hc', rfl | rfl, rfl, rfl⟩
        all_goals
          conv => whnf
          rw [succ_i hio (by omega)]
          exact ⟨_, by omega, i + 1, insE k l', hio, rfl, hnx.symm, rfl, .inr ⟨c', hc', rfl⟩⟩
    · have hio := ge_of h
      rw [List.take_of_length_le hio] at hl'
      rw [← hl']
      exact .inr ⟨cap, hcap, rfl, rfl⟩
end Go.Proofs.YtkenimmellonjaaGreat
/- Seat Z: what is lit is added: the whole. -/
namespace Go.Proofs.YtkenimmellonjaaGreat
open Go.Pv Go.RowKit Go.Shelf
set_option maxRecDepth 100000 in
theorem add_cons (cnt fdr hop : Int) (mem : List Int) (hm : mem.length ≤ 100000) (l : List En) (hl : l.length ≤ 1000) (hb : ∀ e ∈ l, e.bids.length ≤ 100000) (k0 : Kt) (ks0 : List Kt) (hk : ks0.length + 1 ≤ 1000) :
    Contract Tryz.prog G0 17 [awG cnt fdr hop mem l, .d (.list 3 (rowsK (k0 :: ks0)))] [] (addR cnt fdr hop mem (addL l (sortK cK (k0 :: ks0)))) := by
  have hcl := clone91_cons (rowK k0) (rowsK ks0) (by rw [rowsK_len]; omega)
  rw [rowsK_len] at hcl
  have hsl : (sortK cK (k0 :: ks0)).length = ks0.length + 1 := by rw [sortK_len]; rfl
  cases l with
  | nil =>
    refine run17 0 [8] rfl rfl ?_
    conv => whnf
    refine .obj rfl ?_
    conv => whnf
    refine ⟨_, _, ⟨WkL.refl _, own_nil0 cnt fdr hop mem hm⟩, fun res s1 h => ?_⟩
    obtain ⟨h0, rfl⟩ := h
    obtain ⟨e, he, rfl⟩ : ∃ e : DV, (e = .nil ∨ e = .emp) ∧ res = rgV cnt fdr hop mem (.d e) := h0.elim (fun h => ⟨.nil, .inl rfl, h⟩) fun h => ⟨.emp, .inr rfl, h⟩
    clear h0
    rcases he with rfl | rfl
    all_goals
      conv => whnf
      refine .obj rfl ?_
      conv => whnf
      refine ⟨_, _, ⟨WkL.refl _, hcl⟩, fun res s1 h => ?_⟩
      obtain ⟨c, hc, rfl, rfl⟩ := h
      conv => whnf
      refine .obj rfl ?_
      conv => whnf
      refine ⟨_, _, ⟨WkL.refl _, sortS (k0 :: ks0) (ks0.length + 1) rfl (by omega) c⟩, fun res s1 h => ?_⟩
      obtain ⟨rfl, rfl⟩ := h
      conv => whnf
      rw [← hsl]
      generalize sortK cK (k0 :: ks0) = o at hsl
      refine StopG.rounds wk17 [8] [2, 4, 14, 15, 16] (addI cnt fdr hop mem [] o c) rfl ?_ (addStep cnt fdr hop mem [] (by simp) o (by omega) c)
      conv => whnf
      refine ⟨_, 0, [], Nat.zero_le _, rfl, rfl, rfl, .inl ⟨_, rfl, ?_, rfl⟩⟩
      first | exact .inl rfl | exact .inr rfl
  | cons e0 l0 =>
    simp only [List.length_cons] at hl
    refine run17 0 [8] rfl rfl ?_
    conv => whnf
    refine .obj rfl ?_
    conv => whnf
    refine ⟨_, _, ⟨WkL.refl _, own_cons cnt fdr hop mem hm e0 l0 (by omega) hb⟩, fun res s1 h => ?_⟩
    obtain ⟨cap, hcap, rfl, rfl⟩ := h
    generalize hle : e0 :: l0 = l at hb
    have hll : l.length = l0.length + 1 := by rw [← hle]; rfl
    rw [← hll] at hcap ⊢
    conv => whnf
    refine .obj rfl ?_
    conv => whnf
    refine ⟨_, _, ⟨WkL.refl _, hcl⟩, fun res s1 h => ?_⟩
    obtain ⟨c, hc, rfl, rfl⟩ := h
    conv => whnf
    refine .obj rfl ?_
    conv => whnf
    refine ⟨_, _, ⟨WkL.refl _, sortS (k0 :: ks0) (ks0.length + 1) rfl (by omega) c⟩, fun res s1 h => ?_⟩
    obtain ⟨rfl, rfl⟩ := h
    conv => whnf
    rw [← hsl]
    generalize sortK cK (k0 :: ks0) = o at hsl
    refine StopG.rounds wk17 [8] [2, 4, 14, 15, 16] (addI cnt fdr hop mem l o c) rfl ?_ (addStep cnt fdr hop mem l (by omega) o (by omega) c)
    conv => whnf
    exact ⟨_, 0, l, Nat.zero_le _, rfl, rfl, rfl, .inr ⟨cap, hcap, rfl⟩⟩
set_option maxRecDepth 100000 in
theorem add_none (cnt fdr hop : Int) (mem : List Int) (hm : mem.length ≤ 100000) (l : List En) (hl : l.length ≤ 1000) (hb : ∀ e ∈ l, e.bids.length ≤ 100000) :
    Contract Tryz.prog G0 17 [awG cnt fdr hop mem l, .d (.list 3 (rowsK []))] [] (addR cnt fdr hop mem l) := by
  cases l with
  | nil =>
    refine run17 0 [8] rfl rfl ?_
    conv => whnf
    refine .obj rfl ?_
    conv => whnf
    refine ⟨_, _, ⟨WkL.refl _, own_nil0 cnt fdr hop mem hm⟩, fun res s1 h => ?_⟩
    obtain ⟨h0, rfl⟩ := h
    obtain ⟨e, he, rfl⟩ : ∃ e : DV, (e = .nil ∨ e = .emp) ∧ res = rgV cnt fdr hop mem (.d e) := h0.elim (fun h => ⟨.nil, .inl rfl, h⟩) fun h => ⟨.emp, .inr rfl, h⟩
    clear h0
    rcases he with rfl | rfl
    all_goals
      conv => whnf
      refine .obj rfl ?_
      conv => whnf
      refine ⟨_, _, ⟨WkL.refl _, clone91_nil⟩, fun res s1 h => ?_⟩
      obtain ⟨rfl | rfl, rfl⟩ := h
      all_goals
        conv => whnf
        refine .obj rfl ?_
        conv => whnf
        refine ⟨_, _, ⟨WkL.refl _, sortS_none _ (by simp)⟩, fun res s1 h => ?_⟩
        obtain ⟨rfl, rfl⟩ := h
        conv => whnf
        refine StopG.rounds wk17 [8] [2, 4, 15, 16] (fun m env s => ∃ e : DV, (e = .nil ∨ e = .emp) ∧ m = 0 ∧ env = [(2, .ref (.g 0) 0), (4, .ref (.g 1) 0), (15, .d (.int .i64 0)), (16, .d (.int .i64 0))] ∧ s = [(0, cR cnt fdr hop mem (.d e)), (1, c0)]) rfl ?_ ?_
        · conv => whnf
          refine ⟨_, _, ?_, rfl, rfl, rfl⟩
          first | exact .inl rfl | exact .inr rfl
        rintro m env s ⟨e, rfl | rfl, rfl, rfl, rfl⟩
        · conv => whnf
          exact .inl ⟨_, rfl, .inl rfl, rfl, rfl⟩
        · conv => whnf
          exact .inl ⟨_, rfl, .inr rfl, rfl, rfl⟩
  | cons e0 l0 =>
    simp only [List.length_cons] at hl
    refine run17 0 [8] rfl rfl ?_
    conv => whnf
    refine .obj rfl ?_
    conv => whnf
    refine ⟨_, _, ⟨WkL.refl _, own_cons cnt fdr hop mem hm e0 l0 (by omega) hb⟩, fun res s1 h => ?_⟩
    obtain ⟨cap, hcap, rfl, rfl⟩ := h
    generalize hle : e0 :: l0 = l at hb
    have hll : l.length = l0.length + 1 := by rw [← hle]; rfl
    rw [← hll] at hcap ⊢
    conv => whnf
    refine .obj rfl ?_
    conv => whnf
    refine ⟨_, _, ⟨WkL.refl _, clone91_nil⟩, fun res s1 h => ?_⟩
    obtain ⟨rfl | rfl, rfl⟩ := h
    all_goals
      conv => whnf
      refine .obj rfl ?_
      conv => whnf
      refine ⟨_, _, ⟨WkL.refl _, sortS_none _ (by simp)⟩, fun res s1 h => ?_⟩
      obtain ⟨rfl, rfl⟩ := h
      conv => whnf
      refine StopG.rounds wk17 [8] [2, 4, 15, 16] (fun m env s => m = 0 ∧ env = [(2, .ref (.g 0) 0), (4, .ref (.g 1) 0), (15, .d (.int .i64 0)), (16, .d (.int .i64 0))] ∧ s = [(0, cR cnt fdr hop mem (.slc (.g 2) 5 0 l.length cap)), (1, c0), (2, .row 5 (rowsE l))]) rfl ?_ ?_
      · conv => whnf
        exact ⟨_, rfl, rfl, rfl⟩
      rintro m env s ⟨rfl, rfl, rfl⟩
      conv => whnf
      exact .inr ⟨cap, hcap, rfl, rfl⟩
/-- As data. -/
theorem add (cnt fdr hop : Int) (mem : List Int) (hm : mem.length ≤ 100000) (l : List En) (hl : l.length ≤ 1000) (hb : ∀ e ∈ l, e.bids.length ≤ 100000) (ks : List Kt) (hk : ks.length ≤ 1000) :
    Contract Tryz.prog G0 17 [awG cnt fdr hop mem l, .d (.list 3 (rowsK ks))] [] (fun r t => r = awG cnt fdr hop mem (addL l (sortK cK ks)) ∧ t = []) := by
  have key : Contract Tryz.prog G0 17 [awG cnt fdr hop mem l, .d (.list 3 (rowsK ks))] [] (addR cnt fdr hop mem (addL l (sortK cK ks))) := by
    cases ks with
    | nil => exact add_none cnt fdr hop mem hm l hl hb
    | cons k0 ks0 => exact add_cons cnt fdr hop mem hm l hl hb k0 ks0 (by simpa using hk)
  generalize addL l (sortK cK ks) = L at key
  refine key.told fun r t hr => ?_
  have hrl := rowsE_len L
  rcases hr with ⟨e, h0, he, rfl, rfl⟩ | ⟨cap, hc, rfl, rfl⟩
  · rw [h0]
    refine ⟨awG cnt fdr hop mem [], ?_, rfl, rfl, rfl⟩
    rcases he with rfl | rfl
    · exact GV.weak (cx := cx1 G0) (n := 0) (env := [(0, rgV cnt fdr hop mem (.d .nil))]) (s := []) (wkA 5) rfl fun _ _ _ _ _ h => wkA_rv 5 h
    · exact GV.weak (cx := cx1 G0) (n := 0) (env := [(0, rgV cnt fdr hop mem (.d .emp))]) (s := []) (wkA 5) rfl fun _ _ _ _ _ h => wkA_rv 5 h
  · refine ⟨awG cnt fdr hop mem L, ?_, rfl, rfl, rfl⟩
    refine GV.trans (GV.freeze 0 rfl (by simp) (by repeat' first | exact trivial | apply And.intro | decide | (simp; done) | (simp; omega) | omega) (by repeat' first | exact trivial | apply And.intro)) (GV.tidied [0] ?_)
    conv => whnf
    rw [List.drop_zero, List.take_of_length_le (by omega)]
    exact ⟨rfl, rfl⟩
end Go.Proofs.YtkenimmellonjaaGreat
