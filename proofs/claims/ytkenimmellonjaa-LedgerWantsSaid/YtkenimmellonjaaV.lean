/- Seat r2: what is awarded. -/
import Derived.Test.YtkenimmellonjaaU
namespace Go.Proofs.Ytkenimmellonjaa
open Go.Pv Go.RowKit Go.Shelf
theorem mid_at {l : List En} {ms : List Int} {i : Nat} {x : En} (hx : l[i]? = some x) : ((l.take i).map (awE ms) ++ l.drop i)[i]? = some x := by
  have hi : i < l.length := (List.getElem?_eq_some_iff.1 hx).1
  rw [List.getElem?_append_right (by simp; omega)]
  simp only [List.length_map, List.length_take, Nat.min_eq_left (Nat.le_of_lt hi), Nat.sub_self, List.getElem?_drop, Nat.add_zero]
  exact hx
theorem mid_set {l : List En} {ms : List Int} {i : Nat} {x : En} (hx : l[i]? = some x) : ((l.take i).map (awE ms) ++ l.drop i).set i (awE ms x) = (l.take (i + 1)).map (awE ms) ++ l.drop (i + 1) := by
  have hi : i < l.length := (List.getElem?_eq_some_iff.1 hx).1
  rw [List.set_append_right _ _ (by simp; omega), List.take_add_one, hx]
  simp only [List.length_map, List.length_take, Nat.min_eq_left (Nat.le_of_lt hi), Nat.sub_self, List.map_append]
  have : l.drop i = x :: l.drop (i + 1) := by
    obtain ⟨y, h1, h2⟩ := at_i hi
    rw [hx] at h1; cases h1; exact h2
  rw [this]
  simp
theorem wonL_snoc {l : List En} {ms : List Int} {i : Nat} {x : En} (hx : l[i]? = some x) : wonL ms (l.take (i + 1)) = wonL ms (l.take i) ++ (match wonE ms x with | true => [awE ms x] | false => []) := by
  rw [List.take_add_one, hx]
  simp only [wonL, List.filter_append, List.map_append, Option.toList]
  cases h : wonE ms x <;> simp [h]
theorem awE_won {ms : List Int} {x : En} (h : wonE ms x = true) : setN (rowE x) 4 [DV.int .i64 (leastB x.bids).1.1] = rowE (awE ms x) := by
  rw [awE, if_pos h]; rfl
theorem awE_not {ms : List Int} {x : En} (h : wonE ms x = false) : awE ms x = x := by
  rw [awE, if_neg (by simp [h])]
theorem set_get {α : Type} {row : α → List DV} {l : List α} {i : Nat} {y x : α} (h : l[i]? = some x) : ((l.map row).set (0 + (i : Int).toNat) (row y))[0 + (i : Int).toNat]? = some (row y) := by
  rw [set_row]
  refine row_g ?_
  rw [List.getElem?_set]
  simp [(List.getElem?_eq_some_iff.1 h).1]
set_option maxRecDepth 100000 in
theorem award_cons (cnt fdr hop : Int) (mem : List Int) (hm : mem.length ≤ 100000) (e0 : En) (l0 : List En) (hl : l0.length + 1 ≤ 1000) (hb : ∀ e ∈ e0 :: l0, e.bids.length ≤ 100000) : Contract Try.prog G0 49 [awG cnt fdr hop mem (e0 :: l0)] [] (fun r t => ∃ c, l0.length + 1 ≤ c ∧ r = .tup [rgV cnt fdr hop mem (.slc (.g 0) 5 0 (l0.length + 1) c), .d (.list 5 (rowsE (wonL mem (e0 :: l0))))] ∧ t = [(0, .row 5 (rowsE ((e0 :: l0).map (awE mem))))]) := by
  refine run49 0 [] rfl rfl ?_
  conv => whnf
  refine .obj rfl ?_
  conv => whnf
  refine ⟨_, _, ⟨WkL.refl _, own_cons cnt fdr hop mem hm e0 l0 (by omega) hb⟩, fun res s1 h => ?_⟩
  obtain ⟨c, hc, rfl, rfl⟩ := h
  conv => whnf
  generalize hle : e0 :: l0 = l at hb
  have hll : l.length = l0.length + 1 := by rw [← hle]; rfl
  rw [← hll] at hc ⊢
  refine StopG.roundsS wk49 [] [1, 2, 4, 13, 14] (fun m env s => ∃ i : Nat, ∃ w, wonL mem (l.take i) = w ∧ i ≤ l.length ∧ m = l.length - i ∧ ((w = [] ∧ env = [(1, .ref (.g 0) 0), (2, .ref (.g 1) 0), (4, .d .nil), (13, .d (.int .i64 (l.length : Int))), (14, .d (.int .i64 (i : Int)))] ∧ s = [(0, .cells [.d (.int .i64 cnt), .d (.int .i64 fdr), .d (.int .i64 hop), .d (.list 1 (rowsI mem)), .slc (.g 2) 5 0 l.length c]), (1, .cells [.d (.int .i64 0), .d (.int .i64 0), .d (.int .i64 0), .d .nil, .d .nil]), (2, .row 5 (rowsE ((l.take i).map (awE mem) ++ l.drop i)))]) ∨ ∃ wc, w.length ≤ wc ∧ env = [(1, .ref (.g 0) 0), (2, .ref (.g 1) 0), (4, .slc (.g 2) 5 0 w.length wc), (13, .d (.int .i64 (l.length : Int))), (14, .d (.int .i64 (i : Int)))] ∧ s = [(0, .cells [.d (.int .i64 cnt), .d (.int .i64 fdr), .d (.int .i64 hop), .d (.list 1 (rowsI mem)), .slc (.g 3) 5 0 l.length c]), (1, .cells [.d (.int .i64 0), .d (.int .i64 0), .d (.int .i64 0), .d .nil, .d .nil]), (2, .row 5 (rowsE w)), (3, .row 5 (rowsE ((l.take i).map (awE mem) ++ l.drop i)))])) rfl ?_ ?_
  · conv => whnf
    exact ⟨_, 0, [], rfl, Nat.zero_le _, rfl, .inl ⟨rfl, rfl, rfl⟩⟩
  rintro m env s ⟨i, w, hw, hi, rfl, hout⟩
  rcases Nat.lt_or_ge i l.length with hil | hil
  · rcases hout with ⟨rfl, rfl, rfl⟩ | ⟨wc, hwc, rfl, rfl⟩
    · refine .go wk49 [] ?_
      conv => whnf
      refine bcase_intro (fun h => ?_) (fun h => ?_) <;> conv => whnf
      · refine ⟨⟨by omega, by omega⟩, ?_⟩
        conv => whnf
        obtain ⟨x, hx, hdrop⟩ := at_i hil
        have hrow := row_g (row := rowE) (mid_at (ms := mem) hx)
        have hxb := hb x (List.mem_of_getElem? hx)
        refine ⟨rowE x, hrow, rfl, ?_⟩
        conv => whnf
        refine .data [.d (.list 2 (rowsB x.bids))] _ ⟨WkL.refl _, rfl, least x.bids (by omega)⟩ ?_
        conv => whnf
        refine ⟨rowE x, hrow, rfl, ?_⟩
        conv => whnf
        refine ⟨rowE x, fun _ => hrow, rfl, ?_⟩
        conv => whnf
        refine .scal [.d (.list 1 (rowsI mem)), .d (.list 2 (rowsB x.bids))] _ (fun _ => ⟨.refl _, rfl, full mem (by omega) x.bids (by omega)⟩) ?_
        conv => whnf
        refine bcase_intro (fun hg => ?_) (fun hg => ?_) <;> conv => whnf
        · have hwon : wonE mem x = true := hg
          have e4 := awE_won hwon
          refine ⟨rowE x, hrow, ?_⟩
          conv => whnf
          refine ⟨rowE (awE mem x), (by rw [show (fun x_1 => DV.int IntKind.i64 (leastB x.bids).fst.fst :: x_1) [] = [DV.int .i64 (leastB x.bids).1.1] from rfl, e4]; exact set_get (mid_at hx)), rfl, ?_⟩
          rw [show (fun x_1 => DV.int IntKind.i64 (leastB x.bids).fst.fst :: x_1) [] = [DV.int .i64 (leastB x.bids).1.1] from rfl, e4]
          conv => whnf
          refine ⟨⟨?_, ?_⟩, ?_⟩
          · show (2 * 1 + 1024) * 56 ≤ 281474976710656; omega
          · show 1 ≤ _; omega
          conv => whnf
          intro c2 hc2
          conv => whnf
          rw [succ_i hil (by omega)]
          refine ⟨_, by omega, i + 1, [awE mem x], ?_, hil, rfl, .inr ⟨c2, hc2, rfl, ?_⟩⟩
          · rw [wonL_snoc hx, hw, hwon]; rfl
          · rw [← mid_set hx]
            exact congrArg (fun q => [(0, .cells [.d (.int .i64 cnt), .d (.int .i64 fdr), .d (.int .i64 hop), .d (.list 1 (rowsI mem)), .slc (.g 3) 5 0 l.length c]), (1, .cells [.d (.int .i64 0), .d (.int .i64 0), .d (.int .i64 0), .d .nil, .d .nil]), (2, .row 5 [rowE (awE mem x)]), (3, AB.row 5 q)]) (set_row (awE mem x))
        · have hwon : wonE mem x = false := hg
          rw [succ_i hil (by omega)]
          refine ⟨_, by omega, i + 1, [], ?_, hil, rfl, .inl ⟨rfl, rfl, ?_⟩⟩
          · rw [wonL_snoc hx, hw, hwon]; rfl
          · rw [← mid_set hx, awE_not hwon, set_same (mid_at hx)]
      · exact absurd hil (Nat.not_lt.2 (ge_of h))
    · refine .go wk49 [] ?_
      conv => whnf
      refine bcase_intro (fun h => ?_) (fun h => ?_) <;> conv => whnf
      · refine ⟨⟨by omega, by omega⟩, ?_⟩
        conv => whnf
        obtain ⟨x, hx, hdrop⟩ := at_i hil
        have hrow := row_g (row := rowE) (mid_at (ms := mem) hx)
        have hxb := hb x (List.mem_of_getElem? hx)
        refine ⟨rowE x, hrow, rfl, ?_⟩
        conv => whnf
        refine .data [.d (.list 2 (rowsB x.bids))] _ ⟨WkL.refl _, rfl, least x.bids (by omega)⟩ ?_
        conv => whnf
        refine ⟨rowE x, hrow, rfl, ?_⟩
        conv => whnf
        refine ⟨rowE x, fun _ => hrow, rfl, ?_⟩
        conv => whnf
        refine .scal [.d (.list 1 (rowsI mem)), .d (.list 2 (rowsB x.bids))] _ (fun _ => ⟨.refl _, rfl, full mem (by omega) x.bids (by omega)⟩) ?_
        conv => whnf
        refine bcase_intro (fun hg => ?_) (fun hg => ?_) <;> conv => whnf
        · have hwon : wonE mem x = true := hg
          have e4 := awE_won hwon
          refine ⟨rowE x, hrow, ?_⟩
          conv => whnf
          refine ⟨rowE (awE mem x), (by rw [show (fun x_1 => DV.int IntKind.i64 (leastB x.bids).fst.fst :: x_1) [] = [DV.int .i64 (leastB x.bids).1.1] from rfl, e4]; exact set_get (mid_at hx)), rfl, ?_⟩
          rw [show (fun x_1 => DV.int IntKind.i64 (leastB x.bids).fst.fst :: x_1) [] = [DV.int .i64 (leastB x.bids).1.1] from rfl, e4]
          conv => whnf
          have hwl : w.length ≤ 1001 := by
            rw [← hw]
            refine Nat.le_trans ?_ (show l.length ≤ 1001 by omega)
            rw [wonL, List.length_map]
            exact Nat.le_trans (List.length_filter_le _ _) (by simp; omega)
          have hrl := rowsE_len w
          refine ⟨by omega, ⟨?_, ?_⟩, ?_⟩
          · show (2 * (w.length + 1) + 1024) * 56 ≤ 281474976710656; omega
          · show w.length + 1 ≤ _; omega
          conv => whnf
          intro c2 hc2
          conv => whnf
          rw [succ_i hil (by omega), List.take_of_length_le (by omega)]
          refine ⟨_, by omega, i + 1, w ++ [awE mem x], ?_, hil, rfl, .inr ⟨c2, by simpa using hc2, ?_, ?_⟩⟩
          · rw [wonL_snoc hx, hw, hwon]
          · rw [List.length_append]; rfl
          · rw [← mid_set hx, show rowsE (w ++ [awE mem x]) = rowsE w ++ [rowE (awE mem x)] by simp [rowsE]]
            exact congrArg (fun q => [(0, .cells [.d (.int .i64 cnt), .d (.int .i64 fdr), .d (.int .i64 hop), .d (.list 1 (rowsI mem)), .slc (.g 3) 5 0 l.length c]), (1, .cells [.d (.int .i64 0), .d (.int .i64 0), .d (.int .i64 0), .d .nil, .d .nil]), (2, .row 5 (rowsE w ++ [rowE (awE mem x)])), (3, AB.row 5 q)]) (set_row (awE mem x))
        · have hwon : wonE mem x = false := hg
          rw [succ_i hil (by omega)]
          refine ⟨_, by omega, i + 1, w, ?_, hil, rfl, .inr ⟨wc, hwc, rfl, ?_⟩⟩
          · rw [wonL_snoc hx, hw, hwon, List.append_nil]
          · rw [← mid_set hx, awE_not hwon, set_same (mid_at hx)]
      · exact absurd hil (Nat.not_lt.2 (ge_of h))
  · refine .ghost (env' := [(1, .ref (.g 0) 0), (2, .ref (.g 1) 0), (4, .d (.list 5 (rowsE w))), (13, .d (.int .i64 (l.length : Int))), (14, .d (.int .i64 (i : Int)))]) (s' := [(0, .cells [.d (.int .i64 cnt), .d (.int .i64 fdr), .d (.int .i64 hop), .d (.list 1 (rowsI mem)), .slc (.g 2) 5 0 l.length c]), (1, .cells [.d (.int .i64 0), .d (.int .i64 0), .d (.int .i64 0), .d .nil, .d .nil]), (2, .row 5 (rowsE (l.map (awE mem))))]) ?_ (.go wk49 [] ?_)
    · have hil2 : i = l.length := by omega
      subst hil2
      have hrl := rowsE_len w
      rcases hout with ⟨rfl, rfl, rfl⟩ | ⟨wc, hwc, rfl, rfl⟩
      · rw [List.take_length, List.drop_length, List.append_nil]
        exact GV.wk 4 5
      · rw [List.take_length, List.drop_length, List.append_nil]
        refine GV.trans (GV.freeze 2 rfl (by simp) (by repeat' first | exact trivial | apply And.intro | decide | (simp; done) | omega) (by repeat' first | exact trivial | apply And.intro)) (GV.tidied [1, 2, 4, 13, 14] ?_)
        conv => whnf
        rw [List.drop_zero, List.take_of_length_le (by omega)]
        exact ⟨rfl, rfl⟩
    conv => whnf
    refine bcase_intro (fun h => ?_) (fun h => ?_) <;> conv => whnf
    · exact absurd (lt_of h) (Nat.not_lt.2 hil)
    have hil2 : i = l.length := by omega
    have hwb : ∀ e ∈ w, e.bids.length ≤ 100000 := by
      intro e he
      rw [← hw] at he
      obtain ⟨y, hy, rfl⟩ := List.mem_map.1 he
      have h1 := hb y (List.mem_of_mem_take (List.mem_filter.1 hy).1)
      rw [awE]; split <;> exact h1
    have hwl : w.length ≤ 1000 := by
      rw [← hw, wonL, List.length_map]
      refine Nat.le_trans (List.length_filter_le _ _) ?_
      simp; omega
    refine .data [.d (.list 5 (rowsE w))] _ ⟨WkL.refl _, rfl, entriesD w hwl hwb⟩ ?_
    conv => whnf
    rw [hil2, List.take_length] at hw
    exact ⟨c, hc, by rw [hw], rfl⟩
/-- As data. -/
theorem award (cnt fdr hop : Int) (mem : List Int) (hm : mem.length ≤ 100000) (l : List En) (hl : l.length ≤ 1000) (hb : ∀ e ∈ l, e.bids.length ≤ 100000) : Contract Try.prog G0 49 [awG cnt fdr hop mem l] [] (fun r t => r = .tup [awG cnt fdr hop mem (l.map (awE mem)), .d (.list 5 (rowsE (wonL mem l)))] ∧ t = []) := by
  cases l with
  | nil => exact award_nil cnt fdr hop mem hm
  | cons e0 l0 =>
    refine (award_cons cnt fdr hop mem hm e0 l0 (by simpa using hl) hb).told fun r t hr => ?_
    obtain ⟨c, hc, rfl, rfl⟩ := hr
    refine ⟨.tup [awG cnt fdr hop mem ((e0 :: l0).map (awE mem)), .d (.list 5 (rowsE (wonL mem (e0 :: l0))))], ?_, rfl, rfl, rfl⟩
    have hrl := rowsE_len ((e0 :: l0).map (awE mem))
    have hrl2 : ((e0 :: l0).map (awE mem)).length = l0.length + 1 := by simp
    refine GV.trans (GV.freeze 0 rfl (by simp) (by repeat' first | exact trivial | apply And.intro | decide | (simp; done) | omega) (by repeat' first | exact trivial | apply And.intro)) (GV.tidied [0] ?_)
    conv => whnf
    rw [List.drop_zero, List.take_of_length_le (by omega)]
    exact ⟨rfl, rfl⟩
end Go.Proofs.Ytkenimmellonjaa
