/- The seat's texts, part 2: what single functions of the program compute; no statement of its own. -/
import Derived.Test.YtkenimmellonjaaGA
/- Seat r2: what is awarded. -/
namespace Go.Proofs.Ytkenimmellonjaa
open Go.Pv Go.RowKit Go.Shelf
theorem mid_at {l : List En} {ms : List Int} {i : Nat} {x : En} (hx : l[i]? = some x) : ((l.take i).map (awE ms) ++ l.drop i)[i]? = some x := by
  have hi : i < l.length := (List.getElem?_eq_some_iff.1 hx).1
  rw [List.getElem?_append_right (by simp; omega)]
  simp only [List.length_map, List.length_take, Nat.min_eq_left (Nat.le_of_lt hi), Nat.sub_self, List.getElem?_drop, Nat.add_zero]
  exact hx
theorem mid_set {l : List En} {ms : List Int} {i : Nat} {x : En} (hx : l[i]? = some x) : ((l.take i).map (awE ms) ++ l.drop i).set i (awE ms x) = (l.take (i + 1)).map (awE ms) ++ l.drop (i + 1) := by
  have hi : i < l.length := (List.getElem?_eq_some_iff.1 hx).1
  rw [List.set_append_right _ _ (by simp; omega), List.take_add_one, hx]
  simp only [List.length_map, List.length_take, Nat.min_eq_left (Nat.le_of_lt hi), Nat.sub_self, List.map_append]
  have : l.drop i = x :: l.drop (i + 1) := by
    obtain ⟨y, h1, h2⟩ := at_i hi
    rw [hx] at h1; cases h1; exact h2
  rw [this]
  simp
theorem wonL_snoc {l : List En} {ms : List Int} {i : Nat} {x : En} (hx : l[i]? = some x) : wonL ms (l.take (i + 1)) = wonL ms (l.take i) ++ (match wonE ms x with | true => [awE ms x] | false => []) := by
  rw [List.take_add_one, hx]
  simp only [wonL, List.filter_append, List.map_append, Option.toList]
  cases h : wonE ms x <;> simp [h]
theorem awE_won {ms : List Int} {x : En} (h : wonE ms x = true) : setN (rowE x) 4 [DV.int .i64 (leastB x.bids).1.1] = rowE (awE ms x) := by
  rw [awE, if_pos h]; rfl
theorem awE_not {ms : List Int} {x : En} (h : wonE ms x = false) : awE ms x = x := by
  rw [awE, if_neg (by simp [h])]
theorem set_get {α : Type} {row : α → List DV} {l : List α} {i : Nat} {y x : α} (h : l[i]? = some x) : ((l.map row).set (0 + (i : Int).toNat) (row y))[0 + (i : Int).toNat]? = some (row y) := by
  rw [set_row]
  refine row_g ?_
  rw [List.getElem?_set]
  simp [(List.getElem?_eq_some_iff.1 h).1]
set_option maxRecDepth 100000 in
theorem award_cons (cnt fdr hop : Int) (mem : List Int) (hm : mem.length ≤ 100000) (e0 : En) (l0 : List En) (hl : l0.length + 1 ≤ 1000) (hb : ∀ e ∈ e0 :: l0, e.bids.length ≤ 100000) : Contract Try.prog G0 49 [awG cnt fdr hop mem (e0 :: l0)] [] (fun r t => ∃ c, l0.length + 1 ≤ c ∧ r = .tup [rgV cnt fdr hop mem (.slc (.g 0) 5 0 (l0.length + 1) c), .d (.list 5 (rowsE (wonL mem (e0 :: l0))))] ∧ t = [(0, .row 5 (rowsE ((e0 :: l0).map (awE mem))))]) := by
  refine run49 0 [] rfl rfl ?_
  conv => whnf
  refine .obj rfl ?_
  conv => whnf
  refine ⟨_, _, ⟨WkL.refl _, own_cons cnt fdr hop mem hm e0 l0 (by omega) hb⟩, fun res s1 h => ?_⟩
  obtain ⟨c, hc, rfl, rfl⟩ := h
  conv => whnf
  generalize hle : e0 :: l0 = l at hb
  have hll : l.length = l0.length + 1 := by rw [← hle]; rfl
  rw [← hll] at hc ⊢
  refine StopG.roundsS wk49 [] [1, 2, 4, 13, 14] (fun m env s => ∃ i : Nat, ∃ w, wonL mem (l.take i) = w ∧ i ≤ l.length ∧ m = l.length - i ∧ ((w = [] ∧ env = [(1, .ref (.g 0) 0), (2, .ref (.g 1) 0), (4, .d .nil), (13, .d (.int .i64 (l.length : Int))), (14, .d (.int .i64 (i : Int)))] ∧ s = [(0, .cells [.d (.int .i64 cnt), .d (.int .i64 fdr), .d (.int .i64 hop), .d (.list 1 (rowsI mem)), .slc (.g 2) 5 0 l.length c]), (1, .cells [.d (.int .i64 0), .d (.int .i64 0), .d (.int .i64 0), .d .nil, .d .nil]), (2, .row 5 (rowsE ((l.take i).map (awE mem) ++ l.drop i)))]) ∨ ∃ wc, w.length ≤ wc ∧ env = [(1, .ref (.g 0) 0), (2, .ref (.g 1) 0), (4, .slc (.g 2) 5 0 w.length wc), (13, .d (.int .i64 (l.length : Int))), (14, .d (.int .i64 (i : Int)))] ∧ s = [(0, .cells [.d (.int .i64 cnt), .d (.int .i64 fdr), .d (.int .i64 hop), .d (.list 1 (rowsI mem)), .slc (.g 3) 5 0 l.length c]), (1, .cells [.d (.int .i64 0), .d (.int .i64 0), .d (.int .i64 0), .d .nil, .d .nil]), (2, .row 5 (rowsE w)), (3, .row 5 (rowsE ((l.take i).map (awE mem) ++ l.drop i)))])) rfl ?_ ?_
  · conv => whnf
    exact ⟨_, 0, [], rfl, Nat.zero_le _, rfl, .inl ⟨rfl, rfl, rfl⟩⟩
  rintro m env s ⟨i, w, hw, hi, rfl, hout⟩
  rcases Nat.lt_or_ge i l.length with hil | hil
  · rcases hout with ⟨rfl, rfl, rfl⟩ | ⟨wc, hwc, rfl, rfl⟩
    · refine .go wk49 [] ?_
      conv => whnf
      refine bcase_intro (fun h => ?_) (fun h => ?_) <;> conv => whnf
      · refine ⟨⟨by omega, by omega⟩, ?_⟩
        conv => whnf
        obtain ⟨x, hx, hdrop⟩ := at_i hil
        have hrow := row_g (row := rowE) (mid_at (ms := mem) hx)
        have hxb := hb x (List.mem_of_getElem? hx)
        refine ⟨rowE x, hrow, rfl, ?_⟩
        conv => whnf
        refine .data [.d (.list 2 (rowsB x.bids))] _ ⟨WkL.refl _, rfl, least x.bids (by omega)⟩ ?_
        conv => whnf
        refine ⟨rowE x, hrow, rfl, ?_⟩
        conv => whnf
        refine ⟨rowE x, fun _ => hrow, rfl, ?_⟩
        conv => whnf
        refine .scal [.d (.list 1 (rowsI mem)), .d (.list 2 (rowsB x.bids))] _ (fun _ => ⟨.refl _, rfl, full mem (by omega) x.bids (by omega)⟩) ?_
        conv => whnf
        refine bcase_intro (fun hg => ?_) (fun hg => ?_) <;> conv => whnf
        · have hwon : wonE mem x = true := hg
          have e4 := awE_won hwon
          refine ⟨rowE x, hrow, ?_⟩
          conv => whnf
          refine ⟨rowE (awE mem x), (by rw [show (fun x_1 => DV.int IntKind.i64 (leastB x.bids).fst.fst :: x_1) [] = [DV.int .i64 (leastB x.bids).1.1] from rfl, e4]; exact set_get (mid_at hx)), rfl, ?_⟩
          rw [show (fun x_1 => DV.int IntKind.i64 (leastB x.bids).fst.fst :: x_1) [] = [DV.int .i64 (leastB x.bids).1.1] from rfl, e4]
          conv => whnf
          refine ⟨⟨?_, ?_⟩, ?_⟩
          · show (2 * 1 + 1024) * 56 ≤ 281474976710656; omega
          · show 1 ≤ _; omega
          conv => whnf
          intro c2 hc2
          conv => whnf
          rw [succ_i hil (by omega)]
          refine ⟨_, by omega, i + 1, [awE mem x], ?_, hil, rfl, .inr ⟨c2, hc2, rfl, ?_⟩⟩
          · rw [wonL_snoc hx, hw, hwon]; rfl
          · rw [← mid_set hx]
            exact congrArg (fun q => [(0, .cells [.d (.int .i64 cnt), .d (.int .i64 fdr), .d (.int .i64 hop), .d (.list 1 (rowsI mem)), .slc (.g 3) 5 0 l.length c]), (1, .cells [.d (.int .i64 0), .d (.int .i64 0), .d (.int .i64 0), .d .nil, .d .nil]), (2, .row 5 [rowE (awE mem x)]), (3, AB.row 5 q)]) (set_row (awE mem x))
        · have hwon : wonE mem x = false := hg
          rw [succ_i hil (by omega)]
          refine ⟨_, by omega, i + 1, [], ?_, hil, rfl, .inl ⟨rfl, rfl, ?_⟩⟩
          · rw [wonL_snoc hx, hw, hwon]; rfl
          · rw [← mid_set hx, awE_not hwon, set_same (mid_at hx)]
      · exact absurd hil (Nat.not_lt.2 (ge_of h))
    · refine .go wk49 [] ?_
      conv => whnf
      refine bcase_intro (fun h => ?_) (fun h => ?_) <;> conv => whnf
      · refine ⟨⟨by omega, by omega⟩, ?_⟩
        conv => whnf
        obtain ⟨x, hx, hdrop⟩ := at_i hil
        have hrow := row_g (row := rowE) (mid_at (ms := mem) hx)
        have hxb := hb x (List.mem_of_getElem? hx)
        refine ⟨rowE x, hrow, rfl, ?_⟩
        conv => whnf
        refine .data [.d (.list 2 (rowsB x.bids))] _ ⟨WkL.refl _, rfl, least x.bids (by omega)⟩ ?_
        conv => whnf
        refine ⟨rowE x, hrow, rfl, ?_⟩
        conv => whnf
        refine ⟨rowE x, fun _ => hrow, rfl, ?_⟩
        conv => whnf
        refine .scal [.d (.list 1 (rowsI mem)), .d (.list 2 (rowsB x.bids))] _ (fun _ => ⟨.refl _, rfl, full mem (by omega) x.bids (by omega)⟩) ?_
        conv => whnf
        refine bcase_intro (fun hg => ?_) (fun hg => ?_) <;> conv => whnf
        · have hwon : wonE mem x = true := hg
          have e4 := awE_won hwon
          refine ⟨rowE x, hrow, ?_⟩
          conv => whnf
          refine ⟨rowE (awE mem x), (by rw [show (fun x_1 => DV.int IntKind.i64 (leastB x.bids).fst.fst :: x_1) [] = [DV.int .i64 (leastB x.bids).1.1] from rfl, e4]; exact set_get (mid_at hx)), rfl, ?_⟩
          rw [show (fun x_1 => DV.int IntKind.i64 (leastB x.bids).fst.fst :: x_1) [] = [DV.int .i64 (leastB x.bids).1.1] from rfl, e4]
          conv => whnf
          have hwl : w.length ≤ 1001 := by
            rw [← hw]
            refine Nat.le_trans ?_ (show l.length ≤ 1001 by omega)
            rw [wonL, List.length_map]
            exact Nat.le_trans (List.length_filter_le _ _) (by simp; omega)
          have hrl := rowsE_len w
          refine ⟨by omega, ⟨?_, ?_⟩, ?_⟩
          · show (2 * (w.length + 1) + 1024) * 56 ≤ 281474976710656; omega
          · show w.length + 1 ≤ _; omega
          conv => whnf
          intro c2 hc2
          conv => whnf
          rw [succ_i hil (by omega), List.take_of_length_le (by omega)]
          refine ⟨_, by omega, i + 1, w ++ [awE mem x], ?_, hil, rfl, .inr ⟨c2, by simpa using hc2, ?_, ?_⟩⟩
          · rw [wonL_snoc hx, hw, hwon]
          · rw [List.length_append]; rfl
          · rw [← mid_set hx, show rowsE (w ++ [awE mem x]) = rowsE w ++ [rowE (awE mem x)] by simp [rowsE]]
            exact congrArg (fun q => [(0, .cells [.d (.int .i64 cnt), .d (.int .i64 fdr), .d (.int .i64 hop), .d (.list 1 (rowsI mem)), .slc (.g 3) 5 0 l.length c]), (1, .cells [.d (.int .i64 0), .d (.int .i64 0), .d (.int .i64 0), .d .nil, .d .nil]), (2, .row 5 (rowsE w ++ [rowE (awE mem x)])), (3, AB.row 5 q)]) (set_row (awE mem x))
        · have hwon : wonE mem x = false := hg
          rw [succ_i hil (by omega)]
          refine ⟨_, by omega, i + 1, w, ?_, hil, rfl, .inr ⟨wc, hwc, rfl, ?_⟩⟩
          · rw [wonL_snoc hx, hw, hwon, List.append_nil]
          · rw [← mid_set hx, awE_not hwon, set_same (mid_at hx)]
      · exact absurd hil (Nat.not_lt.2 (ge_of h))
  · refine .ghost (env' := [(1, .ref (.g 0) 0), (2, .ref (.g 1) 0), (4, .d (.list 5 (rowsE w))), (13, .d (.int .i64 (l.length : Int))), (14, .d (.int .i64 (i : Int)))]) (s' := [(0, .cells [.d (.int .i64 cnt), .d (.int .i64 fdr), .d (.int .i64 hop), .d (.list 1 (rowsI mem)), .slc (.g 2) 5 0 l.length c]), (1, .cells [.d (.int .i64 0), .d (.int .i64 0), .d (.int .i64 0), .d .nil, .d .nil]), (2, .row 5 (rowsE (l.map (awE mem))))]) ?_ (.go wk49 [] ?_)
    · have hil2 : i = l.length := by omega
      subst hil2
      have hrl := rowsE_len w
      rcases hout with ⟨rfl, rfl, rfl⟩ | ⟨wc, hwc, rfl, rfl⟩
      · rw [List.take_length, List.drop_length, List.append_nil]
        exact GV.wk 4 5
      · rw [List.take_length, List.drop_length, List.append_nil]
        refine GV.trans (GV.freeze 2 rfl (by simp) (by repeat' first | exact trivial | apply And.intro | decide | (simp; done) | omega) (by repeat' first | exact trivial | apply And.intro)) (GV.tidied [1, 2, 4, 13, 14] ?_)
        conv => whnf
        rw [List.drop_zero, List.take_of_length_le (by omega)]
        exact ⟨rfl, rfl⟩
    conv => whnf
    refine bcase_intro (fun h => ?_) (fun h => ?_) <;> conv => whnf
    · exact absurd (lt_of h) (Nat.not_lt.2 hil)
    have hil2 : i = l.length := by omega
    have hwb : ∀ e ∈ w, e.bids.length ≤ 100000 := by
      intro e he
      rw [← hw] at he
      obtain ⟨y, hy, rfl⟩ := List.mem_map.1 he
      have h1 := hb y (List.mem_of_mem_take (List.mem_filter.1 hy).1)
      rw [awE]; split <;> exact h1
    have hwl : w.length ≤ 1000 := by
      rw [← hw, wonL, List.length_map]
      refine Nat.le_trans (List.length_filter_le _ _) ?_
      simp; omega
    refine .data [.d (.list 5 (rowsE w))] _ ⟨WkL.refl _, rfl, entriesD w hwl hwb⟩ ?_
    conv => whnf
    rw [hil2, List.take_length] at hw
    exact ⟨c, hc, by rw [hw], rfl⟩
/-- As data. -/
theorem award (cnt fdr hop : Int) (mem : List Int) (hm : mem.length ≤ 100000) (l : List En) (hl : l.length ≤ 1000) (hb : ∀ e ∈ l, e.bids.length ≤ 100000) : Contract Try.prog G0 49 [awG cnt fdr hop mem l] [] (fun r t => r = .tup [awG cnt fdr hop mem (l.map (awE mem)), .d (.list 5 (rowsE (wonL mem l)))] ∧ t = []) := by
  cases l with
  | nil => exact award_nil cnt fdr hop mem hm
  | cons e0 l0 =>
    refine (award_cons cnt fdr hop mem hm e0 l0 (by simpa using hl) hb).told fun r t hr => ?_
    obtain ⟨c, hc, rfl, rfl⟩ := hr
    refine ⟨.tup [awG cnt fdr hop mem ((e0 :: l0).map (awE mem)), .d (.list 5 (rowsE (wonL mem (e0 :: l0))))], ?_, rfl, rfl, rfl⟩
    have hrl := rowsE_len ((e0 :: l0).map (awE mem))
    have hrl2 : ((e0 :: l0).map (awE mem)).length = l0.length + 1 := by simp
    refine GV.trans (GV.freeze 0 rfl (by simp) (by repeat' first | exact trivial | apply And.intro | decide | (simp; done) | omega) (by repeat' first | exact trivial | apply And.intro)) (GV.tidied [0] ?_)
    conv => whnf
    rw [List.drop_zero, List.take_of_length_le (by omega)]
    exact ⟨rfl, rfl⟩
end Go.Proofs.Ytkenimmellonjaa
/- Seat r2: whose it is. -/
namespace Go.Proofs.Ytkenimmellonjaa
open Go.Pv Go.RowKit Go.Shelf
/-- The latch of an entry. -/
def rowK (e : Int × Int × Int) : List DV := [.int .i64 e.1, .int .i64 e.2.1, .int .i64 e.2.2]
def rowsK (l : List (Int × Int × Int)) : List (List DV) := l.map rowK
theorem rowsK_len (l : List (Int × Int × Int)) : (rowsK l).length = l.length := by simp [rowsK]
def keyE (e : En) : Int × Int × Int := (e.fl, e.dr, e.gn)
def hisE (who : Int) (e : En) : Bool := bif decide (0 ≤ e.aw) then decide (e.aw = who) else false
def mineL (who : Int) (l : List En) : List (Int × Int × Int) := (l.filter (hisE who)).map keyE
theorem mineL_snoc {l : List En} {who : Int} {i : Nat} {x : En} (hx : l[i]? = some x) : mineL who (l.take (i + 1)) = mineL who (l.take i) ++ (match hisE who x with | true => [keyE x] | false => []) := by
  rw [List.take_add_one, hx]
  simp only [mineL, List.filter_append, List.map_append, Option.toList]
  cases h : hisE who x <;> simp [h]
theorem mineL_len (who : Int) (l : List En) : (mineL who l).length ≤ l.length := by
  rw [mineL, List.length_map]; exact List.length_filter_le _ _
set_option maxRecDepth 100000 in
theorem mine (cnt fdr hop : Int) (mem : List Int) (l : List En) (hl : l.length ≤ 1000) (who : Int) : Contract Try.prog G0 50 [awG cnt fdr hop mem l, .d (.int .i64 who)] [] (fun r t => r = .d (.list 3 (rowsK (mineL who l))) ∧ t = []) := by
  have hlen := rowsE_len l
  refine Contract.as_list (by decide) ?_
  refine run50 0 [] rfl rfl ?_
  conv => whnf
  refine StopG.rounds wk50 [] [1, 5, 9, 10, 11] (fun m env s => ∃ i : Nat, ∃ w, mineL who (l.take i) = w ∧ i ≤ l.length ∧ m = l.length - i ∧ ((w = [] ∧ env = [(1, .d (.int .i64 who)), (5, .d .nil), (9, .d (.list 5 (rowsE l))), (10, .d (.int .i64 ((rowsE l).length : Int))), (11, .d (.int .i64 (i : Int)))] ∧ s = []) ∨ ∃ wc, w.length ≤ wc ∧ env = [(1, .d (.int .i64 who)), (5, .slc (.g 0) 3 0 w.length wc), (9, .d (.list 5 (rowsE l))), (10, .d (.int .i64 ((rowsE l).length : Int))), (11, .d (.int .i64 (i : Int)))] ∧ s = [(0, .row 3 (rowsK w))])) rfl ?_ ?_
  · conv => whnf
    exact ⟨_, 0, [], rfl, Nat.zero_le _, rfl, .inl ⟨rfl, rfl, rfl⟩⟩
  rintro m env s ⟨i, w, hw, hi, rfl, hout⟩
  rcases hout with ⟨rfl, rfl, rfl⟩ | ⟨wc, hwc, rfl, rfl⟩
  · conv => whnf
    refine bcase_intro (fun h => ?_) (fun h => ?_) <;> conv => whnf
    · have hil := lt_of h
      rw [hlen] at hil
      obtain ⟨x, hx, hdrop⟩ := at_i hil
      refine ⟨rowE x, ⟨by omega, row_i hx⟩, ?_⟩
      conv => whnf
      refine bcase_intro (fun hg => ?_) (fun hg => ?_) <;> conv => whnf
      · have hwon : hisE who x = true := hg
        refine ⟨⟨?_, ?_⟩, ?_⟩
        · show (2 * 1 + 1024) * 24 ≤ 281474976710656; omega
        · show 1 ≤ _; omega
        conv => whnf
        intro c2 hc2
        conv => whnf
        rw [succ_i hil (by omega)]
        refine ⟨_, by omega, i + 1, [keyE x], ?_, hil, rfl, .inr ⟨c2, hc2, rfl, rfl⟩⟩
        rw [mineL_snoc hx, hw, hwon]; rfl
      · have hwon : hisE who x = false := hg
        rw [succ_i hil (by omega)]
        refine ⟨_, by omega, i + 1, [], ?_, hil, rfl, .inl ⟨rfl, rfl, rfl⟩⟩
        rw [mineL_snoc hx, hw, hwon]; rfl
    · have hil := ge_of h
      rw [hlen] at hil
      rw [show i = l.length by omega, List.take_length] at hw
      rw [hw]
      exact .inl ⟨.inl rfl, rfl, rfl⟩
  · conv => whnf
    refine bcase_intro (fun h => ?_) (fun h => ?_) <;> conv => whnf
    · have hil := lt_of h
      rw [hlen] at hil
      obtain ⟨x, hx, hdrop⟩ := at_i hil
      refine ⟨rowE x, ⟨by omega, row_i hx⟩, ?_⟩
      conv => whnf
      refine bcase_intro (fun hg => ?_) (fun hg => ?_) <;> conv => whnf
      · have hwon : hisE who x = true := hg
        have hwl : w.length ≤ 1000 := by
          rw [← hw]
          refine Nat.le_trans (mineL_len _ _) ?_
          simp; omega
        have hrl := rowsK_len w
        refine ⟨by omega, ⟨?_, ?_⟩, ?_⟩
        · show (2 * (w.length + 1) + 1024) * 24 ≤ 281474976710656; omega
        · show w.length + 1 ≤ _; omega
        conv => whnf
        intro c2 hc2
        conv => whnf
        rw [succ_i hil (by omega), List.take_of_length_le (by omega)]
        refine ⟨_, by omega, i + 1, w ++ [keyE x], ?_, hil, rfl, .inr ⟨c2, by simpa using hc2, ?_, ?_⟩⟩
        · rw [mineL_snoc hx, hw, hwon]
        · rw [List.length_append]; rfl
        · rw [show rowsK (w ++ [keyE x]) = rowsK w ++ [rowK (keyE x)] by simp [rowsK]]; rfl
      · have hwon : hisE who x = false := hg
        rw [succ_i hil (by omega)]
        refine ⟨_, by omega, i + 1, w, ?_, hil, rfl, .inr ⟨wc, hwc, rfl, rfl⟩⟩
        rw [mineL_snoc hx, hw, hwon, List.append_nil]
    · have hil := ge_of h
      rw [hlen] at hil
      rw [show i = l.length by omega, List.take_length] at hw
      rw [hw]
      exact .inr ⟨wc, by rw [rowsK_len]; exact hwc, by rw [rowsK_len], rfl⟩
end Go.Proofs.Ytkenimmellonjaa
/- Seat r2: latches and calls told apart. -/
namespace Go.Proofs.Ytkenimmellonjaa
open Go.Pv Go.RowKit Go.Shelf
abbrev calV (fl dr : Int) : AV := .agg [.d (.int .i64 fl), .d (.int .i64 dr)]
abbrev latV (fl dr gn : Int) : AV := .agg [.d (.int .i64 fl), .d (.int .i64 dr), .d (.int .i64 gn)]
set_option maxRecDepth 100000 in
theorem sameCall (a b a' b' : Int) : Contract Try.prog G0 57 [calV a b, calV a' b'] [] (fun r t => r = .d (.bool (bif a == a' then b == b' else false)) ∧ t = []) := by
  refine run57 0 [] rfl rfl ?_
  conv => whnf
  exact ⟨rfl, rfl⟩
set_option maxRecDepth 100000 in
theorem sameLatch (a b c a' b' c' : Int) : Contract Try.prog G0 58 [latV a b c, latV a' b' c'] [] (fun r t => r = .d (.bool (bif (bif a == a' then b == b' else false) then c == c' else false)) ∧ t = []) := by
  refine run58 0 [] rfl rfl ?_
  conv => whnf
  refine .scal [calV a b, calV a' b'] _ ⟨.refl _, rfl, sameCall a b a' b'⟩ ?_
  conv => whnf
  exact ⟨rfl, rfl⟩
set_option maxRecDepth 100000 in
theorem lessCall (a b a' b' : Int) : Contract Try.prog G0 59 [calV a b, calV a' b'] [] (fun r t => r = .d (.bool (bif decide (a < a') then true else bif a == a' then decide (b < b') else false)) ∧ t = []) := by
  refine run59 0 [] rfl rfl ?_
  conv => whnf
  exact ⟨rfl, rfl⟩
def carB (x : Int) : Bool := bif decide (x ≥ 0) then decide (x < 16) else false
set_option maxRecDepth 100000 in
theorem car107 (x : Int) : Contract Try.prog G0 107 [.d (.int .i64 x)] [] (fun r t => r = .d (.bool (carB x)) ∧ t = []) := by
  refine run107 0 [] rfl rfl ?_
  conv => whnf
  exact ⟨rfl, rfl⟩
def epoB (cnt fdr : Int) : Bool := bif bif bif decide (cnt ≥ 1) then decide (cnt ≤ 4294967295) else false then decide (fdr ≥ 0) else false then decide (fdr < 16) else false
set_option maxRecDepth 100000 in
theorem epoch106 (cnt fdr : Int) : Contract Try.prog G0 106 [.agg [.d (.int .i64 cnt), .d (.int .i64 fdr)]] [] (fun r t => r = .d (.bool (epoB cnt fdr)) ∧ t = []) := by
  refine run106 0 [] rfl rfl ?_
  conv => whnf
  exact ⟨rfl, rfl⟩
def sameK (x y : Int × Int × Int) : Bool := bif (bif x.1 == y.1 then x.2.1 == y.2.1 else false) then x.2.2 == y.2.2 else false
def hasK (l : List (Int × Int × Int)) (y : Int × Int × Int) : Bool := l.any fun x => sameK x y
set_option maxRecDepth 100000 in
theorem hasLatch (l : List (Int × Int × Int)) (hl : l.length ≤ 100000) (a b c : Int) : Contract Try.prog G0 45 [.d (.list 3 (rowsK l)), latV a b c] [] (fun r t => r = .d (.bool (hasK l (a, b, c))) ∧ t = []) := by
  have hlen := rowsK_len l
  refine run45 0 [] rfl rfl ?_
  conv => whnf
  refine StopG.rounds wk45 [] [0, 3, 5] (fun m env s => ∃ i : Nat, i ≤ l.length ∧ (hasK l (a, b, c) = hasK (l.drop i) (a, b, c)) ∧ m = l.length - i ∧ env = [(0, .d (.list 3 (rowsK l))), (3, .ref (.g 0) 0), (5, .d (.int .i64 (i : Int)))] ∧ s = [(0, .cells [.d (.int .i64 a), .d (.int .i64 b), .d (.int .i64 c)])]) rfl ?_ ?_
  · conv => whnf
    exact ⟨_, 0, Nat.zero_le _, rfl, rfl, rfl, rfl⟩
  rintro m env s ⟨i, hi, hh, rfl, rfl, rfl⟩
  conv => whnf
  refine bcase_intro (fun h => ?_) (fun h => ?_) <;> conv => whnf
  · have hil := lt_of h
    rw [hlen] at hil
    obtain ⟨x, hx, hdrop⟩ := at_i hil
    refine ⟨rowK x, ⟨by omega, row_i hx⟩, ?_⟩
    conv => whnf
    refine .scal [latV x.1 x.2.1 x.2.2, latV a b c] _ ⟨.refl _, rfl, sameLatch _ _ _ _ _ _⟩ ?_
    conv => whnf
    rw [hdrop] at hh
    refine bcase_intro (fun hg => ?_) (fun hg => ?_) <;> conv => whnf
    · have hs : sameK x (a, b, c) = true := hg
      rw [hh, hasK, List.any_cons, hs]
      exact ⟨rfl, rfl⟩
    · have hs : sameK x (a, b, c) = false := hg
      rw [succ_i hil (by omega)]
      refine ⟨_, by omega, i + 1, hil, ?_, rfl, rfl, rfl⟩
      rw [hh, hasK, List.any_cons, hs, Bool.false_or]; rfl
  · have hil := ge_of h
    rw [hlen] at hil
    rw [hh, show l.drop i = [] from List.drop_of_length_le hil]
    exact ⟨rfl, rfl⟩
end Go.Proofs.Ytkenimmellonjaa
/- Seat r2: a valid ring, as the papers say it. -/
namespace Go.Proofs.Ytkenimmellonjaa
open Go.Pv Go.RowKit Go.Shelf
/-- A bid that will not do. -/
def badB (ms : List Int) (b : B) : Bool := bif bif !(ms.any fun y => y == b.1) then true else decide (b.2 < 0) then true else decide (b.2 > 1048576)
/-- Neighbours in order. -/
def ascL : List Int → Bool
  | [] => true
  | x :: r => match r with
    | [] => true
    | y :: _ => bif decide (x ≥ y) then false else ascL r
def vBids (ms : List Int) (l : List B) : Int :=
  bif decide ((l.length : Int) > (ms.length : Int)) then 104 else bif l.any (badB ms) then 103 else bif !ascL (l.map (·.1)) then 111 else 0
theorem drop_two {α : Type} {l : List α} {i : Nat} {x y : α} (hx : l[i]? = some x) (hy : l[i + 1]? = some y) : l.drop i = x :: y :: l.drop (i + 2) := by
  obtain ⟨h1, h2⟩ := List.getElem?_eq_some_iff.1 hx
  obtain ⟨h3, h4⟩ := List.getElem?_eq_some_iff.1 hy
  rw [List.drop_eq_getElem_cons h1, List.drop_eq_getElem_cons h3, h2, h4]
theorem ascL_two (x y : Int) (r : List Int) : ascL (x :: y :: r) = bif decide (x ≥ y) then false else ascL (y :: r) := rfl
theorem back_i {i : Nat} (h : i + 1 ≤ 4611686018427387904) : IntKind.wrap .i64 (((i + 1 : Nat) : Int) - 1) = (i : Int) := pred_i (i := i + 1) (by omega) h
theorem ascL_short {l : List Int} (h : l.length ≤ 1) : ascL l = true := by
  match l, h with
  | [], _ => rfl
  | [_], _ => rfl
theorem ascL_drop {l : List Int} {i : Nat} {x y : Int} (hx : l[i]? = some x) (hy : l[i + 1]? = some y) : ascL (l.drop i) = bif decide (x ≥ y) then false else ascL (l.drop (i + 1)) := by
  have h := drop_two hx hy
  rw [h, ascL_two]
  have h2 : l.drop (i + 1) = y :: l.drop (i + 2) := by
    obtain ⟨h3, h4⟩ := List.getElem?_eq_some_iff.1 hy
    rw [List.drop_eq_getElem_cons h3, h4]
  rw [h2]
set_option maxRecDepth 100000 in
theorem validBids (ms : List Int) (hm : ms.length ≤ 100000) (l : List B) (hl : l.length ≤ 100000) : Contract Try.prog G0 108 [.d (.list 1 (rowsI ms)), .d (.list 2 (rowsB l))] [] (fun r t => r = .d (.int .i64 (vBids ms l)) ∧ t = []) := by
  have hlen := rowsB_len l
  have hmn := rowsI_len ms
  refine run108 0 [] rfl rfl ?_
  conv => whnf
  refine bcase_intro (fun hg => ?_) (fun hg => ?_) <;> conv => whnf
  · rw [hlen, hmn] at hg
    rw [vBids, hg]
    exact ⟨rfl, rfl⟩
  rw [hlen, hmn] at hg
  refine StopG.rounds wk108 [] [0, 1, 5] (fun m env s => ∃ i : Nat, i ≤ l.length ∧ l.any (badB ms) = (l.drop i).any (badB ms) ∧ m = l.length - i ∧ env = [(0, .d (.list 1 (rowsI ms))), (1, .d (.list 2 (rowsB l))), (5, .d (.int .i64 (i : Int)))] ∧ s = []) rfl ?_ ?_
  · conv => whnf
    exact ⟨_, 0, Nat.zero_le _, rfl, rfl, rfl, rfl⟩
  rintro m env s ⟨i, hi, hh, rfl, rfl, rfl⟩
  conv => whnf
  refine bcase_intro (fun h => ?_) (fun h => ?_) <;> conv => whnf
  · have hil := lt_of h
    rw [hlen] at hil
    obtain ⟨x, hx, hdrop⟩ := at_i hil
    refine ⟨rowB x, ⟨by omega, row_i hx⟩, ?_⟩
    conv => whnf
    refine .scal [.d (.list 1 (rowsI ms)), .d (.int .i64 x.1)] _ ⟨.refl _, rfl, among ms (by omega) x.1⟩ ?_
    conv => whnf
    refine ⟨rowB x, fun _ => ⟨by omega, row_i hx⟩, ?_⟩
    conv => whnf
    refine ⟨rowB x, fun _ => ⟨by omega, row_i hx⟩, ?_⟩
    conv => whnf
    rw [hdrop] at hh
    refine bcase_intro (fun hb => ?_) (fun hb => ?_) <;> conv => whnf
    · have hs : badB ms x = true := hb
      rw [List.any_cons, hs, Bool.true_or] at hh
      rw [vBids, hg, hh]
      exact ⟨rfl, rfl⟩
    · have hs : badB ms x = false := hb
      rw [List.any_cons, hs, Bool.false_or] at hh
      rw [succ_i hil (by omega)]
      exact ⟨_, by omega, i + 1, hil, hh, rfl, rfl, rfl⟩
  have hil := ge_of h
  rw [hlen] at hil
  rw [show l.drop i = [] from List.drop_of_length_le hil] at hh
  have hh : l.any (badB ms) = false := hh
  refine StopG.rounds wk108 [] [1, 6] (fun m env s => ∃ i : Nat, i ≤ l.length ∧ ascL (l.map (·.1)) = ascL ((l.map (·.1)).drop i) ∧ m = l.length - i ∧ env = [(1, .d (.list 2 (rowsB l))), (6, .d (.int .i64 ((i + 1 : Nat) : Int)))] ∧ s = []) rfl ?_ ?_
  · conv => whnf
    exact ⟨_, 0, Nat.zero_le _, rfl, rfl, rfl, rfl⟩
  rintro m env s ⟨i, hi, ha, rfl, rfl, rfl⟩
  conv => whnf
  refine bcase_intro (fun h => ?_) (fun h => ?_) <;> conv => whnf
  · have hil := lt_of h
    rw [hlen] at hil
    obtain ⟨x, hx, _⟩ := at_i (show i < l.length by omega)
    obtain ⟨y, hy, _⟩ := at_i hil
    rw [back_i (by omega)]
    refine ⟨rowB x, ⟨by omega, row_i hx⟩, ?_⟩
    conv => whnf
    refine ⟨rowB y, ⟨by omega, row_i hy⟩, ?_⟩
    conv => whnf
    have hd := ascL_drop (l := l.map (·.1)) (i := i) (x := x.1) (y := y.1) (by rw [List.getElem?_map, hx]; rfl) (by rw [List.getElem?_map, hy]; rfl)
    refine bcase_intro (fun hb => ?_) (fun hb => ?_) <;> conv => whnf
    · rw [hb] at hd
      rw [vBids, hg, hh, ha, hd]
      exact ⟨rfl, rfl⟩
    · rw [hb] at hd
      rw [succ_i (i := i + 1) hil (by omega)]
      exact ⟨_, by omega, i + 1, by omega, ha.trans hd, rfl, rfl, rfl⟩
  · have hil := ge_of h
    rw [hlen] at hil
    rw [ascL_short (l := (l.map (·.1)).drop i) (by simp; omega)] at ha
    rw [vBids, hg, hh, ha]
    exact ⟨rfl, rfl⟩
/-- An entry that will not do. -/
def badE (ms : List Int) (e : En) : Bool :=
  bif bif bif bif bif decide (e.fl < 0) then true else decide (e.fl ≥ 64) then true else (bif !(e.dr == 1) then !(e.dr == -1) else false) then true else decide (e.gn < 1) then true else decide (e.gn > 2147483647) then true else (bif !(e.aw == -1) then !(ms.any fun y => y == e.aw) else false)
def lessE (a b : En) : Bool := bif decide (a.fl < b.fl) then true else bif a.fl == b.fl then decide (a.dr < b.dr) else false
def vEnts (ms : List Int) : Option En → List En → Int
  | _, [] => 0
  | p, e :: r => bif badE ms e then 103 else bif (match p with | none => false | some q => !lessE q e) then 111 else bif !(vBids ms e.bids == 0) then vBids ms e.bids else vEnts ms (some e) r
theorem vEnts_cons (ms : List Int) (p : Option En) (e : En) (r : List En) : vEnts ms p (e :: r) = bif badE ms e then (103 : Int) else bif (match p with | none => false | some q => !lessE q e) then 111 else bif !(vBids ms e.bids == 0) then vBids ms e.bids else vEnts ms (some e) r := by
  cases p <;> rfl
def vRing (cnt fdr hop : Int) (mem : List Int) (l : List En) : Int :=
  bif bif bif !epoB cnt fdr then true else decide (hop < 0) then true else decide (hop > 1099511627776) then 103 else
  bif bif bif ((mem.length : Int) == 0) then true else decide ((mem.length : Int) > 16) then true else decide ((l.length : Int) > 128) then 104 else
  bif mem.any (fun x => !carB x) then 103 else bif !ascL mem then 111 else vEnts mem none l
abbrev epoV (cnt fdr : Int) : AV := .agg [.d (.int .i64 cnt), .d (.int .i64 fdr)]
set_option maxRecDepth 100000 in
theorem validRing (cnt fdr hop : Int) (mem : List Int) (hm : mem.length ≤ 100000) (l : List En) (hl : l.length ≤ 1000) (hb : ∀ e ∈ l, e.bids.length ≤ 100000) : Contract Try.prog G0 79 [awG cnt fdr hop mem l] [] (fun r t => r = .d (.int .i64 (vRing cnt fdr hop mem l)) ∧ t = []) := by
  have hlen := rowsE_len l
  have hmn := rowsI_len mem
  refine run79 0 [] rfl rfl ?_
  conv => whnf
  refine .scal [epoV cnt fdr] _ ⟨.refl _, rfl, epoch106 cnt fdr⟩ ?_
  conv => whnf
  refine bcase_intro (fun h1 => ?_) (fun h1 => ?_) <;> conv => whnf
  · rw [vRing, h1]; exact ⟨rfl, rfl⟩
  refine bcase_intro (fun h2 => ?_) (fun h2 => ?_) <;> conv => whnf
  · rw [hlen, hmn] at h2
    rw [vRing, h1, h2]; exact ⟨rfl, rfl⟩
  rw [hlen, hmn] at h2
  refine StopG.rounds wk79 [] [1, 3, 4] (fun m env s => ∃ i : Nat, i ≤ mem.length ∧ (mem.any fun x => !carB x) = ((mem.drop i).any fun x => !carB x) ∧ m = mem.length - i ∧ env = [(1, .ref (.g 0) 0), (3, .d (.int .i64 ((rowsI mem).length : Int))), (4, .d (.int .i64 (i : Int)))] ∧ s = [(0, .cells [.d (.int .i64 cnt), .d (.int .i64 fdr), .d (.int .i64 hop), .d (.list 1 (rowsI mem)), .d (.list 5 (rowsE l))])]) rfl ?_ ?_
  · conv => whnf
    exact ⟨_, 0, Nat.zero_le _, rfl, rfl, rfl, rfl⟩
  rintro m env s ⟨i, hi, h3, rfl, rfl, rfl⟩
  conv => whnf
  refine bcase_intro (fun h => ?_) (fun h => ?_) <;> conv => whnf
  · have hil := lt_of h
    rw [hmn] at hil
    obtain ⟨x, hx, hdrop⟩ := at_i hil
    refine ⟨rowI x, ⟨by omega, row_i hx⟩, ?_⟩
    conv => whnf
    refine .scal [.d (.int .i64 x)] _ ⟨.refl _, rfl, car107 x⟩ ?_
    conv => whnf
    rw [hdrop, List.any_cons] at h3
    refine bcase_intro (fun hb => ?_) (fun hb => ?_) <;> conv => whnf
    · rw [hb, Bool.true_or] at h3
      rw [vRing, h1, h2, h3]; exact ⟨rfl, rfl⟩
    · rw [hb, Bool.false_or] at h3
      rw [succ_i hil (by omega)]
      exact ⟨_, by omega, i + 1, hil, h3, rfl, rfl, rfl⟩
  have hil := ge_of h
  rw [hmn] at hil
  rw [show mem.drop i = [] from List.drop_of_length_le hil] at h3
  refine StopG.rounds wk79 [] [1, 3, 5] (fun m env s => ∃ i : Nat, i ≤ mem.length ∧ ascL mem = ascL (mem.drop i) ∧ m = mem.length - i ∧ env = [(1, .ref (.g 0) 0), (3, .d (.int .i64 ((rowsI mem).length : Int))), (5, .d (.int .i64 ((i + 1 : Nat) : Int)))] ∧ s = [(0, .cells [.d (.int .i64 cnt), .d (.int .i64 fdr), .d (.int .i64 hop), .d (.list 1 (rowsI mem)), .d (.list 5 (rowsE l))])]) rfl ?_ ?_
  · conv => whnf
    exact ⟨_, 0, Nat.zero_le _, rfl, rfl, rfl, rfl⟩
  rintro m env s ⟨i, hi, h4, rfl, rfl, rfl⟩
  conv => whnf
  refine bcase_intro (fun h => ?_) (fun h => ?_) <;> conv => whnf
  · have hil := lt_of h
    rw [hmn] at hil
    obtain ⟨x, hx, _⟩ := at_i (show i < mem.length by omega)
    obtain ⟨y, hy, _⟩ := at_i hil
    rw [back_i (by omega)]
    refine ⟨rowI x, ⟨by omega, row_i hx⟩, ?_⟩
    conv => whnf
    refine ⟨rowI y, ⟨by omega, row_i hy⟩, ?_⟩
    conv => whnf
    have hd := ascL_drop hx hy
    refine bcase_intro (fun hb => ?_) (fun hb => ?_) <;> conv => whnf
    · rw [hb] at hd
      rw [vRing, h1, h2, h3, h4, hd]; exact ⟨rfl, rfl⟩
    · rw [hb] at hd
      rw [succ_i (i := i + 1) hil (by omega)]
      exact ⟨_, by omega, i + 1, by omega, h4.trans hd, rfl, rfl, rfl⟩
  have hil := ge_of h
  rw [hmn] at hil
  rw [ascL_short (l := mem.drop i) (by simp; omega)] at h4
  have hv : vRing cnt fdr hop mem l = vEnts mem none l := by rw [vRing, h1, h2, h3, h4]; rfl
  rw [hv]
  refine StopG.rounds wk79 [] [1, 6] (fun m env s => ∃ i : Nat, i ≤ l.length ∧ vEnts mem none l = vEnts mem (match i with | 0 => none | j + 1 => l[j]?) (l.drop i) ∧ m = l.length - i ∧ env = [(1, .ref (.g 0) 0), (6, .d (.int .i64 (i : Int)))] ∧ s = [(0, .cells [.d (.int .i64 cnt), .d (.int .i64 fdr), .d (.int .i64 hop), .d (.list 1 (rowsI mem)), .d (.list 5 (rowsE l))])]) rfl ?_ ?_
  · conv => whnf
    exact ⟨_, 0, Nat.zero_le _, rfl, rfl, rfl, rfl⟩
  rintro m env s ⟨i, hi, h5, rfl, rfl, rfl⟩
  conv => whnf
  refine bcase_intro (fun h => ?_) (fun h => ?_) <;> conv => whnf
  · have hil := lt_of h
    rw [hlen] at hil
    obtain ⟨x, hx, hdrop⟩ := at_i hil
    have hxb := hb x (List.mem_of_getElem? hx)
    refine ⟨rowE x, ⟨by omega, row_i hx⟩, ?_⟩
    conv => whnf
    refine .scal [.d (.list 1 (rowsI mem)), .d (.int .i64 x.aw)] _ (fun _ => ⟨.refl _, rfl, among mem (by omega) x.aw⟩) ?_
    conv => whnf
    rw [hdrop, vEnts_cons] at h5
    refine bcase_intro (fun hbad => ?_) (fun hbad => ?_) <;> conv => whnf
    · have hbad : badE mem x = true := hbad
      rw [h5, hbad]; exact ⟨rfl, rfl⟩
    have hbad : badE mem x = false := hbad
    rw [hbad] at h5
    cases i with
    | zero =>
      refine ⟨rowE x, (fun hg => by simp [HG, lit, rfind] at hg), ?_⟩
      conv => whnf
      refine .scal [calV x.fl x.dr, calV x.fl x.dr] _ (fun _ => ⟨.refl _, rfl, lessCall _ _ _ _⟩) ?_
      conv => whnf
      simp only at h5
      refine .scal [.d (.list 1 (rowsI mem)), .d (.list 2 (rowsB x.bids))] _ ⟨.refl _, rfl, validBids mem hm x.bids hxb⟩ ?_
      conv => whnf
      refine bcase_intro (fun hq => ?_) (fun hq => ?_) <;> conv => whnf
      · have hq : (!(vBids mem x.bids == 0)) = true := hq
        rw [hq] at h5
        rw [h5]; exact ⟨rfl, rfl⟩
      · have hq : (!(vBids mem x.bids == 0)) = false := hq
        rw [hq] at h5
        rw [succ_i hil (by omega)]
        refine ⟨_, by omega, 0 + 1, hil, ?_, rfl, rfl, rfl⟩
        simp only [hx]
        exact h5
    | succ k =>
      obtain ⟨q, hq, _⟩ := at_i (show k < l.length by omega)
      rw [back_i (by omega)]
      refine ⟨rowE q, (fun _ => ⟨by omega, row_i hq⟩), ?_⟩
      conv => whnf
      refine .scal [calV q.fl q.dr, calV x.fl x.dr] _ (fun _ => ⟨.refl _, rfl, lessCall _ _ _ _⟩) ?_
      conv => whnf
      simp only [hq] at h5
      refine bcase_intro (fun hp => ?_) (fun hp => ?_) <;> conv => whnf
      · have hp : (bif decide (((k + 1 : Nat) : Int) > 0) then !lessE q x else false) = true := hp
        rw [show decide (((k + 1 : Nat) : Int) > 0) = true from decide_eq_true (by omega)] at hp
        have hp : (!lessE q x) = true := hp
        rw [hp] at h5
        rw [h5]; exact ⟨rfl, rfl⟩
      · have hp : (bif decide (((k + 1 : Nat) : Int) > 0) then !lessE q x else false) = false := hp
        rw [show decide (((k + 1 : Nat) : Int) > 0) = true from decide_eq_true (by omega)] at hp
        have hp : (!lessE q x) = false := hp
        rw [hp] at h5
        refine .scal [.d (.list 1 (rowsI mem)), .d (.list 2 (rowsB x.bids))] _ ⟨.refl _, rfl, validBids mem hm x.bids hxb⟩ ?_
        conv => whnf
        refine bcase_intro (fun hq => ?_) (fun hq => ?_) <;> conv => whnf
        · have hq : (!(vBids mem x.bids == 0)) = true := hq
          rw [hq] at h5
          rw [h5]; exact ⟨rfl, rfl⟩
        · have hq : (!(vBids mem x.bids == 0)) = false := hq
          rw [hq] at h5
          rw [succ_i hil (by omega)]
          refine ⟨_, by omega, k + 1 + 1, hil, ?_, rfl, rfl, rfl⟩
          simp only [hx]
          exact h5
  · have hil := ge_of h
    rw [hlen] at hil
    rw [h5, show l.drop i = [] from List.drop_of_length_le hil]
    exact ⟨rfl, rfl⟩
end Go.Proofs.Ytkenimmellonjaa
/- Seat r2: rings that are light; the first look. -/
namespace Go.Proofs.Ytkenimmellonjaa
open Go.Pv Go.RowKit Go.Shelf
def fat (e : En) : Bool := decide ((e.bids.length : Int) > 16)
def lightB (cnt fdr hop : Int) (mem : List Int) (l : List En) : Bool :=
  bif l.any fat then false else bif bif decide ((mem.length : Int) ≤ 16) then decide ((l.length : Int) ≤ 30) else false then vRing cnt fdr hop mem l == 0 else false
theorem succ_m {i n : Nat} (h : i < n) (hn : n ≤ maxLen) : IntKind.wrap .i64 ((i : Int) + 1) = ((i + 1 : Nat) : Int) := by
  have e : maxLen = 9223372036854775807 := rfl
  rw [wrap_id (by omega) (by omega)]
  rfl
set_option maxRecDepth 100000 in
theorem light (cnt fdr hop : Int) (mem : List Int) (l : List En) (hl : l.length ≤ maxLen) : Contract Try.prog G0 48 [awG cnt fdr hop mem l] [] (fun r t => r = .d (.bool (lightB cnt fdr hop mem l)) ∧ t = []) := by
  have hlen := rowsE_len l
  have hmn := rowsI_len mem
  refine run48 0 [] rfl rfl ?_
  conv => whnf
  refine StopG.rounds wk48 [] [1, 3] (fun m env s => ∃ i : Nat, i ≤ l.length ∧ l.any fat = (l.drop i).any fat ∧ m = l.length - i ∧ env = [(1, .ref (.g 0) 0), (3, .d (.int .i64 (i : Int)))] ∧ s = [(0, .cells [.d (.int .i64 cnt), .d (.int .i64 fdr), .d (.int .i64 hop), .d (.list 1 (rowsI mem)), .d (.list 5 (rowsE l))])]) rfl ?_ ?_
  · conv => whnf
    exact ⟨_, 0, Nat.zero_le _, rfl, rfl, rfl, rfl⟩
  rintro m env s ⟨i, hi, h5, rfl, rfl, rfl⟩
  conv => whnf
  refine bcase_intro (fun h => ?_) (fun h => ?_) <;> conv => whnf
  · have hil := lt_of h
    rw [hlen] at hil
    obtain ⟨x, hx, hdrop⟩ := at_i hil
    refine ⟨rowE x, ⟨by omega, row_i hx⟩, ?_⟩
    conv => whnf
    rw [hdrop, List.any_cons] at h5
    refine bcase_intro (fun hb => ?_) (fun hb => ?_) <;> conv => whnf
    · rw [rowsB_len] at hb
      rw [show fat x = true from hb, Bool.true_or] at h5
      rw [lightB, h5]; exact ⟨rfl, rfl⟩
    · rw [rowsB_len] at hb
      rw [show fat x = false from hb, Bool.false_or] at h5
      rw [succ_m hil hl]
      exact ⟨_, by omega, i + 1, hil, h5, rfl, rfl, rfl⟩
  have hil := ge_of h
  rw [hlen] at hil
  rw [show l.drop i = [] from List.drop_of_length_le hil] at h5
  have h5 : l.any fat = false := h5
  refine .scal [awG cnt fdr hop mem l] (.d (.int .i64 (vRing cnt fdr hop mem l))) (fun hg => ⟨.refl _, rfl, ?_⟩) ?_
  · have hg2 : (bif decide (((rowsI mem).length : Int) ≤ 16) then decide (((rowsE l).length : Int) ≤ 30) else false) = true := by simpa [HG, lit, rfind] using hg
    rw [hlen, hmn] at hg2
    have h1 : mem.length ≤ 16 ∧ l.length ≤ 30 := by
      cases h2 : decide ((mem.length : Int) ≤ 16) <;> rw [h2] at hg2 <;> simp at h2 hg2
      omega
    refine validRing cnt fdr hop mem (by omega) l (by omega) fun e he => ?_
    have h3 := (List.any_eq_false.1 h5) e he
    have h4 : ¬ ((e.bids.length : Int) > 16) := by simpa [fat] using h3
    omega
  · conv => whnf
    rw [hlen, hmn, lightB, h5]; exact ⟨rfl, rfl⟩
set_option maxRecDepth 100000 in
theorem new_nil (cnt fdr : Int) (l : List Int) (hl : l.length ≤ 100000) : Contract Try.prog G0 65 [epoV cnt fdr, .d (.list 1 (rowsI l))] [] (fun r t => r = rgV cnt fdr 0 (setI l) (.d .nil) ∧ t = []) := by
  refine run65 0 [] rfl rfl ?_
  conv => whnf
  refine .data [.d (.list 1 (rowsI l))] _ ⟨WkL.refl _, rfl, set19 l hl⟩ ?_
  conv => whnf
  exact ⟨rfl, rfl⟩
theorem new (cnt fdr : Int) (l : List Int) (hl : l.length ≤ 100000) : Contract Try.prog G0 65 [epoV cnt fdr, .d (.list 1 (rowsI l))] [] (fun r t => r = awG cnt fdr 0 (setI l) [] ∧ t = []) :=
  (new_nil cnt fdr l hl).weak 5 fun r t h => by
    obtain ⟨h, rfl⟩ := h; subst h; exact ⟨rfl, rfl, rfl, rfl⟩
theorem newO (cnt fdr : Int) (l : List Int) (hl : l.length ≤ 100000) (cap : Nat) : Contract Try.prog G0 65 [epoV cnt fdr, .slc (.g 0) 1 0 l.length cap] [(0, .row 1 (rowsI l))] (fun r t => r = awG cnt fdr 0 (setI l) [] ∧ t = [(0, .dead)]) := by
  have h0 := new cnt fdr l hl
  have e : fzL 0 (AB.row 1 (rowsI l)) [epoV cnt fdr, .slc (.g 0) 1 0 l.length cap] = [epoV cnt fdr, .d (.list 1 ((List.drop 0 (rowsI l)).take l.length))] := rfl
  have hrl := rowsI_len l
  refine Contract.frz (by simp) (by repeat' first | exact trivial | apply And.intro | decide | (simp; done) | omega) rfl ?_
  rw [e, List.drop_zero, List.take_of_length_le (by rw [rowsI_len]; exact Nat.le_refl _)]
  exact h0
set_option maxRecDepth 100000 in
theorem first47 : Contract Try.prog G0 47 [] [] (fun r t => r = .d (.bool true) ∧ t = []) := by
  refine run47 0 [] rfl rfl ?_
  conv => whnf
  refine .data [epoV 1 0, .d (.list 1 (rowsI [2, 0, 2]))] _ ⟨.refl _, rfl, new 1 0 [2, 0, 2] (by decide)⟩ ?_
  rw [show setI [2, 0, 2] = [0, 2] from by rw [← set6_eq]; decide]
  conv => whnf
  refine .data [awG 1 0 0 [0, 2] []] _ ⟨.refl _, rfl, award 1 0 0 [0, 2] (by decide) [] (by decide) (by simp)⟩ ?_
  conv => whnf
  refine ⟨rowI 0, fun _ => ⟨by decide, rfl⟩, ?_⟩
  conv => whnf
  exact ⟨rfl, rfl⟩
end Go.Proofs.Ytkenimmellonjaa
/- Seat r2: what is wanted, what is bid. -/
namespace Go.Proofs.Ytkenimmellonjaa
open Go.Pv Go.RowKit Go.Shelf
def rowC (c : Int × Int) : List DV := [.int .i64 c.1, .int .i64 c.2]
def rowsC (l : List (Int × Int)) : List (List DV) := l.map rowC
theorem rowsC_len (l : List (Int × Int)) : (rowsC l).length = l.length := by simp [rowsC]
def callE (e : En) : Int × Int := (e.fl, e.dr)
def wishE (car : Int) (e : En) : Bool := bif !(ofB e.bids car).2 then decide (e.aw < 0) else false
def wishL (car : Int) (l : List En) : List (Int × Int) := (l.filter (wishE car)).map callE
def wantL (mem : List Int) (car : Int) (l : List En) : List (Int × Int) := if (mem.any fun y => car == y) = true then wishL car l else []
theorem wishL_snoc {l : List En} {car : Int} {i : Nat} {x : En} (hx : l[i]? = some x) : wishL car (l.take (i + 1)) = wishL car (l.take i) ++ (match wishE car x with | true => [callE x] | false => []) := by
  rw [List.take_add_one, hx]
  simp only [wishL, List.filter_append, List.map_append, Option.toList]
  cases h : wishE car x <;> simp [h]
theorem wishL_len (car : Int) (l : List En) : (wishL car l).length ≤ l.length := by
  rw [wishL, List.length_map]; exact List.length_filter_le _ _
set_option maxRecDepth 100000 in
theorem wants (cnt fdr hop : Int) (mem : List Int) (hm : mem.length ≤ 100000) (l : List En) (hl : l.length ≤ 1000) (hb : ∀ e ∈ l, e.bids.length ≤ 100000) (car : Int) : Contract Try.prog G0 60 [awG cnt fdr hop mem l, .d (.int .i64 car)] [] (fun r t => r = .d (.list 2 (rowsC (wantL mem car l))) ∧ t = []) := by
  have hlen := rowsE_len l
  refine Contract.as_list (by decide) ?_
  refine run60 0 [] rfl rfl ?_
  conv => whnf
  refine .scal [.d (.list 1 (rowsI mem)), .d (.int .i64 car)] _ ⟨.refl _, rfl, has mem (by omega) car⟩ ?_
  conv => whnf
  refine bcase_intro (fun hh => ?_) (fun hh => ?_) <;> conv => whnf
  · have hh : (mem.any fun y => car == y) = false := by simpa using hh
    rw [wantL, if_neg (by rw [hh]; decide)]
    exact .inl ⟨.inl rfl, rfl, rfl⟩
  have hh : (mem.any fun y => car == y) = true := by simpa using hh
  rw [wantL, if_pos hh]
  refine StopG.rounds wk60 [] [1, 5, 16, 17, 18] (fun m env s => ∃ i : Nat, ∃ w, wishL car (l.take i) = w ∧ i ≤ l.length ∧ m = l.length - i ∧ ((w = [] ∧ env = [(1, .d (.int .i64 car)), (5, .d .nil), (16, .d (.list 5 (rowsE l))), (17, .d (.int .i64 ((rowsE l).length : Int))), (18, .d (.int .i64 (i : Int)))] ∧ s = []) ∨ ∃ wc, w.length ≤ wc ∧ env = [(1, .d (.int .i64 car)), (5, .slc (.g 0) 2 0 w.length wc), (16, .d (.list 5 (rowsE l))), (17, .d (.int .i64 ((rowsE l).length : Int))), (18, .d (.int .i64 (i : Int)))] ∧ s = [(0, .row 2 (rowsC w))])) rfl ?_ ?_
  · conv => whnf
    exact ⟨_, 0, [], rfl, Nat.zero_le _, rfl, .inl ⟨rfl, rfl, rfl⟩⟩
  rintro m env s ⟨i, w, hw, hi, rfl, hout⟩
  rcases hout with ⟨rfl, rfl, rfl⟩ | ⟨wc, hwc, rfl, rfl⟩
  · conv => whnf
    refine bcase_intro (fun h => ?_) (fun h => ?_) <;> conv => whnf
    · have hil := lt_of h
      rw [hlen] at hil
      obtain ⟨x, hx, hdrop⟩ := at_i hil
      have hxb := hb x (List.mem_of_getElem? hx)
      refine ⟨rowE x, ⟨by omega, row_i hx⟩, ?_⟩
      conv => whnf
      refine .data [.d (.list 2 (rowsB x.bids)), .d (.int .i64 car)] _ ⟨WkL.refl _, rfl, of_ x.bids (by omega) car⟩ ?_
      conv => whnf
      refine bcase_intro (fun hg => ?_) (fun hg => ?_) <;> conv => whnf
      · have hwon : wishE car x = true := hg
        refine ⟨⟨?_, ?_⟩, ?_⟩
        · show (2 * 1 + 1024) * 16 ≤ 281474976710656; omega
        · show 1 ≤ _; omega
        conv => whnf
        intro c2 hc2
        conv => whnf
        rw [succ_i hil (by omega)]
        refine ⟨_, by omega, i + 1, [callE x], ?_, hil, rfl, .inr ⟨c2, hc2, rfl, rfl⟩⟩
        rw [wishL_snoc hx, hw, hwon]; rfl
      · have hwon : wishE car x = false := hg
        rw [succ_i hil (by omega)]
        refine ⟨_, by omega, i + 1, [], ?_, hil, rfl, .inl ⟨rfl, rfl, rfl⟩⟩
        rw [wishL_snoc hx, hw, hwon]; rfl
    · have hil := ge_of h
      rw [hlen] at hil
      rw [show i = l.length by omega, List.take_length] at hw
      rw [hw]
      exact .inl ⟨.inl rfl, rfl, rfl⟩
  · conv => whnf
    refine bcase_intro (fun h => ?_) (fun h => ?_) <;> conv => whnf
    · have hil := lt_of h
      rw [hlen] at hil
      obtain ⟨x, hx, hdrop⟩ := at_i hil
      have hxb := hb x (List.mem_of_getElem? hx)
      refine ⟨rowE x, ⟨by omega, row_i hx⟩, ?_⟩
      conv => whnf
      refine .data [.d (.list 2 (rowsB x.bids)), .d (.int .i64 car)] _ ⟨WkL.refl _, rfl, of_ x.bids (by omega) car⟩ ?_
      conv => whnf
      refine bcase_intro (fun hg => ?_) (fun hg => ?_) <;> conv => whnf
      · have hwon : wishE car x = true := hg
        have hwl : w.length ≤ 1000 := by
          rw [← hw]
          refine Nat.le_trans (wishL_len _ _) ?_
          simp; omega
        have hrl := rowsC_len w
        refine ⟨by omega, ⟨?_, ?_⟩, ?_⟩
        · show (2 * (w.length + 1) + 1024) * 16 ≤ 281474976710656; omega
        · show w.length + 1 ≤ _; omega
        conv => whnf
        intro c2 hc2
        conv => whnf
        rw [succ_i hil (by omega), List.take_of_length_le (by omega)]
        refine ⟨_, by omega, i + 1, w ++ [callE x], ?_, hil, rfl, .inr ⟨c2, by simpa using hc2, ?_, ?_⟩⟩
        · rw [wishL_snoc hx, hw, hwon]
        · rw [List.length_append]; rfl
        · rw [show rowsC (w ++ [callE x]) = rowsC w ++ [rowC (callE x)] by simp [rowsC]]; rfl
      · have hwon : wishE car x = false := hg
        rw [succ_i hil (by omega)]
        refine ⟨_, by omega, i + 1, w, ?_, hil, rfl, .inr ⟨wc, hwc, rfl, rfl⟩⟩
        rw [wishL_snoc hx, hw, hwon, List.append_nil]
    · have hil := ge_of h
      rw [hlen] at hil
      rw [show i = l.length by omega, List.take_length] at hw
      rw [hw]
      exact .inr ⟨wc, by rw [rowsC_len]; exact hwc, by rw [rowsC_len], rfl⟩
abbrev entV (e : En) : AV := .agg [.d (.int .i64 e.fl), .d (.int .i64 e.dr), .d (.int .i64 e.gn), .d (.list 2 (rowsB e.bids)), .d (.int .i64 e.aw)]
def isC (c : Int × Int) (e : En) : Bool := bif e.fl == c.1 then e.dr == c.2 else false
set_option maxRecDepth 100000 in
theorem at116 (e : En) (a b : Int) : Contract Try.prog G0 116 [entV e, .d (.ptr [.int .i64 a, .int .i64 b] 0)] [] (fun r s => r = .d (.bool (isC (a, b) e)) ∧ s = []) := by
  refine run116 0 [] rfl rfl ?_
  conv => whnf
  refine ⟨⟨by kernel_rfl, by kernel_rfl⟩, ?_⟩
  conv => whnf
  exact ⟨rfl, rfl⟩
set_option maxRecDepth 100000 in
theorem index96 (l : List En) (hl : l.length ≤ 4611686018427387904) (p : En → Bool) (f : Nat) (cs : List DV) (hf : ∀ x, Contract Try.prog G0 f [entV x, .d (.ptr cs 0)] [] (fun r t => r = .d (.bool (p x)) ∧ t = [])) :
    Contract Try.prog G0 96 [.d (.list 5 (rowsE l)), .fn f [.d (.ptr cs 0)]] [] (fun r t => r = .d (.int .i64 (idxFrom p l 0)) ∧ t = []) := by
  have hlen := rowsE_len l
  refine run96 0 [] rfl rfl ?_
  conv => whnf
  refine StopG.rounds wk96 [] [0, 1, 4, 7, 8] (fun m env s => ∃ i : Nat, i ≤ l.length ∧ m = l.length - i ∧ idxFrom p (l.drop i) i = idxFrom p l 0 ∧
    env = [(0, .d (.list 5 (rowsE l))), (1, .fn f [.d (.ptr cs 0)]), (4, .d (.int .i64 0)), (7, .d (.int .i64 ((rowsE l).length : Int))), (8, .d (.int .i64 (i : Int)))] ∧ s = []) rfl ?_ ?_
  · conv => whnf
    exact ⟨_, 0, Nat.zero_le _, rfl, rfl, rfl, rfl⟩
  rintro m env s ⟨i, hi, rfl, hidx, rfl, rfl⟩
  conv => whnf
  refine bcase_intro (fun h => ?_) (fun h => ?_) <;> conv => whnf
  · have h := lt_of h
    rw [hlen] at h
    obtain ⟨x, hx, hdrop⟩ := at_i h
    refine ⟨rowE x, ⟨by omega, row_i hx⟩, ?_⟩
    conv => whnf
    refine .scal [entV x, .d (.ptr cs 0)] _ ⟨.refl _, rfl, hf x⟩ ?_
    conv => whnf
    rw [hdrop, idxFrom] at hidx
    refine bcase_intro (fun h2 => ?_) (fun h2 => ?_) <;> conv => whnf
    · rw [if_pos h2] at hidx
      exact ⟨rd_int hidx, rfl⟩
    · rw [succ_i h (by omega)]
      refine ⟨_, by omega, i + 1, h, rfl, ?_, rfl, rfl⟩
      rw [if_neg (by rw [h2]; decide)] at hidx
      exact hidx
  · have h := ge_of h
    rw [hlen] at h
    rw [show l.drop i = [] from List.drop_of_length_le h, idxFrom] at hidx
    exact ⟨rd_int hidx, rfl⟩
set_option maxRecDepth 100000 in
theorem at87 (cnt fdr hop : Int) (mem : List Int) (l : List En) (hl : l.length ≤ 4611686018427387904) (a b : Int) : Contract Try.prog G0 87 [awG cnt fdr hop mem l, calV a b] [] (fun r t => r = .d (.int .i64 (idxFrom (isC (a, b)) l 0)) ∧ t = []) := by
  refine run87 0 [] rfl rfl ?_
  conv => whnf
  refine .scal [.d (.list 5 (rowsE l)), .fn 116 [.d (.ptr [.int .i64 a, .int .i64 b] 0)]] _ ⟨.fz 1 _ rfl (by simp) (by repeat' first | exact trivial | apply And.intro) (.refl _), rfl, index96 l hl _ 116 _ fun e => at116 e a b⟩ ?_
  conv => whnf
  exact ⟨rfl, rfl⟩
end Go.Proofs.Ytkenimmellonjaa
/- Seat r2: a bid. -/
namespace Go.Proofs.Ytkenimmellonjaa
open Go.Pv Go.RowKit Go.Shelf
def bidEn (b : B) (e : En) : En := ⟨e.fl, e.dr, e.gn, (putB e.bids b).1, e.aw⟩
/-- A bid that will not do. -/
def noBid (mem : List Int) (b : B) (x : En) : Bool := bif bif bif decide (x.aw ≥ 0) then true else !(mem.any fun y => b.1 == y) then true else decide (b.2 < 0) then true else decide (b.2 > 1048576)
def bidL (mem : List Int) (b : B) (c : Int × Int) (l : List En) : List En × Bool := match idxFrom (isC c) l 0 with
  | .ofNat k => match l[k]? with
    | some x => bif noBid mem b x then (l, false) else (l.set k (bidEn b x), (putB x.bids b).2)
    | none => (l, false)
  | .negSucc _ => (l, false)
set_option maxRecDepth 100000 in
theorem bid_nil (cnt fdr hop : Int) (mem : List Int) (hm : mem.length ≤ 100000) (b : B) (c : Int × Int) : Contract Try.prog G0 61 [awG cnt fdr hop mem [], bidv b, calV c.1 c.2] [] (fun r t => r = .tup [awG cnt fdr hop mem [], .d (.bool false)] ∧ t = []) := by
  refine run61 0 [] rfl rfl ?_
  conv => whnf
  refine .obj rfl ?_
  conv => whnf
  refine ⟨_, _, ⟨WkL.refl _, own_nil cnt fdr hop mem hm⟩, fun res s1 h => ?_⟩
  obtain ⟨rfl, rfl⟩ := h
  conv => whnf
  refine .scal [awG cnt fdr hop mem [], calV c.1 c.2] (.d (.int .i64 (-1))) ⟨.refl _, rfl, at87 cnt fdr hop mem [] (by simp) c.1 c.2⟩ ?_
  conv => whnf
  refine ⟨rowE ⟨0, 0, 0, [], 0⟩, (fun hg => by simp [HG, lit, rfind] at hg), ?_⟩
  conv => whnf
  refine .scal [.d (.list 1 (rowsI mem)), .d (.int .i64 b.1)] _ (fun _ => ⟨.refl _, rfl, has mem (by omega) b.1⟩) ?_
  conv => whnf
  exact ⟨rfl, rfl⟩
set_option maxRecDepth 100000 in
theorem bid_cons (cnt fdr hop : Int) (mem : List Int) (hm : mem.length ≤ 100000) (e0 : En) (l0 : List En) (hl : l0.length + 1 ≤ 1000) (hb : ∀ e ∈ e0 :: l0, e.bids.length ≤ 10000) (b : B) (c : Int × Int) :
    Contract Try.prog G0 61 [awG cnt fdr hop mem (e0 :: l0), bidv b, calV c.1 c.2] [] (fun r t => ∃ cap, l0.length + 1 ≤ cap ∧ r = .tup [rgV cnt fdr hop mem (.slc (.g 0) 5 0 (l0.length + 1) cap), .d (.bool (bidL mem b c (e0 :: l0)).2)] ∧ t = [(0, .row 5 (rowsE (bidL mem b c (e0 :: l0)).1))]) := by
  refine run61 0 [] rfl rfl ?_
  conv => whnf
  refine .obj rfl ?_
  conv => whnf
  refine ⟨_, _, ⟨WkL.refl _, own_cons cnt fdr hop mem hm e0 l0 (by omega) fun e he => Nat.le_trans (hb e he) (by decide)⟩, fun res s1 h => ?_⟩
  obtain ⟨cap, hc, rfl, rfl⟩ := h
  generalize hle : e0 :: l0 = l at hb
  have hll : l.length = l0.length + 1 := by rw [← hle]; rfl
  rw [← hll] at hc ⊢
  have hrl := rowsE_len l
  have hlend : Contract Try.prog G0 87 [awG cnt fdr hop mem l, calV c.1 c.2] [] (fun r t => r = .d (.int .i64 (idxFrom (isC c) l 0)) ∧ t = []) := at87 cnt fdr hop mem l (by omega) c.1 c.2
  rw [show awG cnt fdr hop mem l = rgV cnt fdr hop mem (.d (.list 5 ((List.drop 0 (rowsE l)).take l.length))) by rw [List.drop_zero, List.take_of_length_le (by omega)]] at hlend
  conv => whnf
  rcases idx_cases0 (isC c) l with ⟨h1, _⟩ | ⟨k, x, h1, hx, _⟩
  · rw [h1] at hlend
    have hbl : bidL mem b c l = (l, false) := by unfold bidL; rw [h1]; rfl
    rw [hbl]
    refine .scal [rgV cnt fdr hop mem (.d (.list 5 ((List.drop 0 (rowsE l)).take l.length))), calV c.1 c.2] (.d (.int .i64 (-1))) ⟨.fz 4 _ rfl (by simp) (by repeat' first | exact trivial | apply And.intro | decide | (simp; done) | omega) (.refl _), rfl, hlend⟩ ?_
    conv => whnf
    refine ⟨(fun hg => by simp [HG, lit, rfind] at hg), ?_⟩
    conv => whnf
    refine ⟨rowE ⟨0, 0, 0, [], 0⟩, (fun hg => by simp [HG, lit, rfind] at hg), rfl, ?_⟩
    conv => whnf
    refine .scal [.d (.list 1 (rowsI mem)), .d (.int .i64 b.1)] _ (fun _ => ⟨.refl _, rfl, has mem (by omega) b.1⟩) ?_
    conv => whnf
    exact ⟨cap, hc, rfl, rfl⟩
  · rw [h1] at hlend
    have hil : k < l.length := (List.getElem?_eq_some_iff.1 hx).1
    have hxb := hb x (List.mem_of_getElem? hx)
    have hbl : bidL mem b c l = bif noBid mem b x then (l, false) else (l.set k (bidEn b x), (putB x.bids b).2) := by
      unfold bidL; rw [h1]; show (match l[k]? with | some x => _ | none => _) = _; rw [hx]
    rw [hbl]
    refine .scal [rgV cnt fdr hop mem (.d (.list 5 ((List.drop 0 (rowsE l)).take l.length))), calV c.1 c.2] (.d (.int .i64 (k : Int))) ⟨.fz 4 _ rfl (by simp) (by repeat' first | exact trivial | apply And.intro | decide | (simp; done) | omega) (.refl _), rfl, hlend⟩ ?_
    conv => whnf
    refine ⟨fun _ => ⟨by omega, by omega⟩, ?_⟩
    conv => whnf
    refine ⟨rowE x, fun _ => row_g hx, rfl, ?_⟩
    conv => whnf
    refine .scal [.d (.list 1 (rowsI mem)), .d (.int .i64 b.1)] _ (fun _ => ⟨.refl _, rfl, has mem (by omega) b.1⟩) ?_
    conv => whnf
    refine bcase_intro (fun hg => ?_) (fun hg => ?_) <;> conv => whnf
    · have hno : noBid mem b x = true := by
        rw [show decide ((k : Int) < 0) = false from decide_eq_false (by omega)] at hg
        exact hg
      rw [hno]
      exact ⟨cap, hc, rfl, rfl⟩
    have hno : noBid mem b x = false := by
      rw [show decide ((k : Int) < 0) = false from decide_eq_false (by omega)] at hg
      exact hg
    rw [hno]
    refine ⟨⟨by omega, by omega⟩, ?_⟩
    conv => whnf
    refine ⟨rowE x, row_g hx, rfl, ?_⟩
    conv => whnf
    refine .data [.d (.list 2 (rowsB x.bids)), bidv b] _ ⟨WkL.refl _, rfl, put x.bids hxb b⟩ ?_
    conv => whnf
    refine ⟨⟨by omega, by omega⟩, ?_⟩
    conv => whnf
    refine ⟨rowE x, row_g hx, ?_⟩
    conv => whnf
    exact ⟨cap, hc, rfl, congrArg (fun q => [(0, AB.row 5 q)]) (set_row (bidEn b x))⟩
theorem bidL_len (mem : List Int) (b : B) (c : Int × Int) (l : List En) : (bidL mem b c l).1.length = l.length := by
  unfold bidL
  split
  · split
    · cases noBid mem b _ <;> simp
    · rfl
  · rfl
/-- As data. -/
theorem bid (cnt fdr hop : Int) (mem : List Int) (hm : mem.length ≤ 100000) (l : List En) (hl : l.length ≤ 1000) (hb : ∀ e ∈ l, e.bids.length ≤ 10000) (b : B) (c : Int × Int) :
    Contract Try.prog G0 61 [awG cnt fdr hop mem l, bidv b, calV c.1 c.2] [] (fun r t => r = .tup [awG cnt fdr hop mem (bidL mem b c l).1, .d (.bool (bidL mem b c l).2)] ∧ t = []) := by
  cases l with
  | nil => exact bid_nil cnt fdr hop mem hm b c
  | cons e0 l0 =>
    refine (bid_cons cnt fdr hop mem hm e0 l0 (by simpa using hl) hb b c).told fun r t hr => ?_
    obtain ⟨cap, hc, rfl, rfl⟩ := hr
    refine ⟨.tup [awG cnt fdr hop mem (bidL mem b c (e0 :: l0)).1, .d (.bool (bidL mem b c (e0 :: l0)).2)], ?_, rfl, rfl, rfl⟩
    have hrl := rowsE_len (bidL mem b c (e0 :: l0)).1
    have hrl2 := bidL_len mem b c (e0 :: l0)
    have hrl3 : (e0 :: l0).length = l0.length + 1 := rfl
    refine GV.trans (GV.freeze 0 rfl (by simp) (by repeat' first | exact trivial | apply And.intro | decide | (simp; done) | omega) (by repeat' first | exact trivial | apply And.intro)) (GV.tidied [0] ?_)
    conv => whnf
    rw [List.drop_zero, List.take_of_length_le (by omega)]
    exact ⟨rfl, rfl⟩
end Go.Proofs.Ytkenimmellonjaa
/- Seat r2: what is awarded is somebody's: the plain law. -/
namespace Go.Proofs.Ytkenimmellonjaa
/-- What the walk wants of a ring that is light. -/
structure MineOK (mem : List Int) (l : List En) : Prop where
  ml : mem.length ≤ 16
  ll : l.length ≤ 30
  bl : ∀ e ∈ l, e.bids.length ≤ 16
  sum : (mem.map fun x => (mineL x (l.map (awE mem))).length).sum = ((l.map (awE mem)).filter fun e => decide (e.aw ≥ 0)).length
  apart : ∀ (i j : Nat) (x y : Int), mem[i]? = some x → mem[j]? = some y → j ≠ i → ∀ k ∈ mineL x (l.map (awE mem)), hasK (mineL y (l.map (awE mem))) k = false
  count : ((l.map (awE mem)).filter fun e => decide (e.aw ≥ 0)).length = (l.filter fun e => decide (e.aw ≥ 0)).length + (wonL mem l).length
  again : wonL mem (l.map (awE mem)) = []
  no1 : mineL (-1) (l.map (awE mem)) = []
  no99 : mineL 99 (l.map (awE mem)) = []
theorem cond0 {c : Bool} {k x : Int} (hk : k ≠ 0) (h : (bif c then k else x) = 0) : c = false ∧ x = 0 := by
  cases c with
  | true => exact absurd h hk
  | false => exact ⟨rfl, h⟩
theorem bor0 {a b : Bool} (h : (bif a then true else b) = false) : a = false ∧ b = false := by
  cases a with
  | true => cases h
  | false => exact ⟨rfl, h⟩
theorem lessE_iff (a b : En) : lessE a b = true ↔ a.fl < b.fl ∨ (a.fl = b.fl ∧ a.dr < b.dr) := by
  unfold lessE
  by_cases h : a.fl < b.fl
  · simp [h]
  · by_cases h2 : a.fl = b.fl
    · simp [h2]
    · simp [h, h2]
theorem lessE_trans {a b c : En} (h1 : lessE a b = true) (h2 : lessE b c = true) : lessE a c = true := by
  rw [lessE_iff] at *
  omega
theorem vEnts_ok {ms : List Int} : ∀ (l : List En) (p : Option En), vEnts ms p l = 0 → (∀ e ∈ l, badE ms e = false ∧ vBids ms e.bids = 0) ∧ (∀ q, p = some q → ∀ e ∈ l, lessE q e = true) ∧ l.Pairwise fun a b => lessE a b = true
  | [], _, _ => ⟨by simp, by simp, .nil⟩
  | e :: r, p, h => by
    rw [vEnts_cons] at h
    obtain ⟨h1, h⟩ := cond0 (by decide) h
    obtain ⟨h2, h⟩ := cond0 (by decide) h
    have h3 : vBids ms e.bids = 0 ∧ vEnts ms (some e) r = 0 := by
      cases hv : (vBids ms e.bids == 0) with
      | true => rw [hv] at h; exact ⟨by simpa using hv, h⟩
      | false => rw [hv] at h; have h : vBids ms e.bids = 0 := h; simp [h] at hv
    obtain ⟨i1, i2, i3⟩ := vEnts_ok r (some e) h3.2
    refine ⟨fun x hx => ?_, fun q hq x hx => ?_, .cons (i2 e rfl) i3⟩
    · rcases List.mem_cons.1 hx with rfl | hx
      · exact ⟨h1, h3.1⟩
      · exact i1 x hx
    · subst hq
      have h4 : lessE q e = true := by simpa using h2
      rcases List.mem_cons.1 hx with rfl | hx
      · exact h4
      · exact lessE_trans h4 (i2 e rfl x hx)
theorem vBids_ok {ms : List Int} {l : List B} (h : vBids ms l = 0) : ∀ b ∈ l, b.1 ∈ ms := by
  obtain ⟨_, h⟩ := cond0 (by decide) h
  obtain ⟨h, _⟩ := cond0 (by decide) h
  intro b hb
  have h1 : badB ms b = false := by simpa using (List.any_eq_false.1 h) b hb
  have h2 := (bor0 (bor0 h1).1).1
  simpa using h2
theorem leastFrom_mem : ∀ (l : List B) (b : B), leastFrom b l = b ∨ leastFrom b l ∈ l
  | [], _ => .inl rfl
  | x :: r, b => by
    show leastFrom (if lessB x b then x else b) r = b ∨ leastFrom (if lessB x b then x else b) r ∈ x :: r
    rcases leastFrom_mem r (if lessB x b then x else b) with h | h
    · rw [h]; split
      · exact .inr (List.mem_cons_self ..)
      · exact .inl rfl
    · exact .inr (List.mem_cons_of_mem _ h)
theorem leastB_mem {l : List B} (h : (leastB l).2 = true) : (leastB l).1 ∈ l := by
  cases l with
  | nil => cases h
  | cons b r =>
    show leastFrom b r ∈ b :: r
    rcases leastFrom_mem r b with h | h
    · rw [h]; exact List.mem_cons_self ..
    · exact List.mem_cons_of_mem _ h
theorem ascL_ok : ∀ {l : List Int}, ascL l = true → l.Pairwise (· < ·)
  | [], _ => .nil
  | [_], _ => by simp
  | x :: y :: r, h => by
    rw [ascL_two] at h
    cases hd : decide (x ≥ y) with
    | true => rw [hd] at h; cases h
    | false =>
      rw [hd] at h
      have h1 := ascL_ok (l := y :: r) h
      have hxy : x < y := by simpa using hd
      refine .cons (fun z hz => ?_) h1
      rcases List.mem_cons.1 hz with rfl | hz
      · exact hxy
      · exact Int.lt_trans hxy (List.rel_of_pairwise_cons h1 hz)
theorem ind_none (a : Int) : ∀ (m : List Int), a ∉ m → (m.map fun x => if a = x then 1 else 0).sum = 0
  | [], _ => rfl
  | x :: r, h => by
    rw [List.map_cons, List.sum_cons, ind_none a r (fun h1 => h (List.mem_cons_of_mem _ h1)), if_neg (fun e => h (by rw [e]; exact List.mem_cons_self ..))]
theorem ind_one (a : Int) : ∀ (m : List Int), m.Pairwise (· < ·) → a ∈ m → (m.map fun x => if a = x then 1 else 0).sum = 1
  | [], _, h => by cases h
  | x :: r, hp, h => by
    rw [List.map_cons, List.sum_cons]
    rcases List.mem_cons.1 h with h2 | h2
    · subst h2
      rw [if_pos rfl, ind_none a r fun h1 => Int.lt_irrefl _ (List.rel_of_pairwise_cons hp h1)]
    · rw [ind_one a r hp.of_cons h2, if_neg]
      intro e
      subst e
      exact Int.lt_irrefl _ (List.rel_of_pairwise_cons hp h2)
theorem sum_add (f g : Int → Nat) : ∀ (m : List Int), (m.map fun x => f x + g x).sum = (m.map f).sum + (m.map g).sum
  | [] => rfl
  | x :: r => by
    simp only [List.map_cons, List.sum_cons, sum_add f g r]; omega
theorem sum_zero : ∀ (m : List Int), (m.map fun _ => 0).sum = 0
  | [] => rfl
  | x :: r => by simp only [List.map_cons, List.sum_cons, sum_zero r]
theorem his_sum {m : List Int} (hp : m.Pairwise (· < ·)) : ∀ (L : List En), (∀ e ∈ L, e.aw ≥ 0 → e.aw ∈ m) → (m.map fun x => (mineL x L).length).sum = (L.filter fun e => decide (e.aw ≥ 0)).length
  | [], _ => sum_zero m
  | e :: r, h => by
    have ih := his_sum hp r fun x hx => h x (List.mem_cons_of_mem _ hx)
    have step : ∀ x, (mineL x (e :: r)).length = (if e.aw ≥ 0 ∧ e.aw = x then 1 else 0) + (mineL x r).length := by
      intro x
      simp only [mineL, List.length_map, List.filter_cons, hisE]
      by_cases h1 : 0 ≤ e.aw
      · by_cases h2 : e.aw = x
        · subst h2
          simp [h1]; omega
        · simp [h1, h2]
      · simp [h1]
    rw [show (fun x => (mineL x (e :: r)).length) = fun x => (if e.aw ≥ 0 ∧ e.aw = x then 1 else 0) + (mineL x r).length from funext step, sum_add, ih]
    by_cases h1 : e.aw ≥ 0
    · have h2 := ind_one e.aw m hp (h e (List.mem_cons_self ..) h1)
      simp only [h1, true_and, List.filter_cons, decide_true, if_true, List.length_cons]
      rw [h2]; omega
    · simp only [h1, false_and, if_false, List.filter_cons, decide_false]
      rw [sum_zero]; simp
theorem wonE_ok {ms : List Int} {e : En} (h : wonE ms e = true) : e.aw < 0 ∧ (leastB e.bids).2 = true := by
  unfold wonE at h
  cases h1 : decide (e.aw < 0) with
  | false => rw [h1] at h; cases h
  | true =>
    rw [h1] at h
    cases h2 : (leastB e.bids).2 with
    | false => rw [h2] at h; cases h
    | true => exact ⟨by simpa using h1, rfl⟩
theorem key_awE (ms : List Int) (e : En) : keyE (awE ms e) = keyE e := by
  unfold awE; split <;> rfl
theorem awE_bids (ms : List Int) (e : En) : (awE ms e).bids = e.bids := by
  unfold awE; split <;> rfl
theorem light_ok {cnt fdr hop : Int} {mem : List Int} {l : List En} (h : lightB cnt fdr hop mem l = true) : MineOK mem l := by
  unfold lightB at h
  cases hf : l.any fat with
  | true => rw [hf] at h; cases h
  | false =>
  rw [hf] at h
  have h : (bif bif decide ((mem.length : Int) ≤ 16) then decide ((l.length : Int) ≤ 30) else false then vRing cnt fdr hop mem l == 0 else false) = true := h
  cases h1 : decide ((mem.length : Int) ≤ 16) with
  | false => rw [h1] at h; cases h
  | true =>
  rw [h1] at h
  cases h2 : decide ((l.length : Int) ≤ 30) with
  | false => rw [h2] at h; cases h
  | true =>
  rw [h2] at h
  have h : (vRing cnt fdr hop mem l == 0) = true := h
  have h : vRing cnt fdr hop mem l = 0 := by simpa using h
  obtain ⟨_, h⟩ := cond0 (by decide) h
  obtain ⟨_, h⟩ := cond0 (by decide) h
  obtain ⟨hc, h⟩ := cond0 (by decide) h
  obtain ⟨ha, h⟩ := cond0 (by decide) h
  have hasc := ascL_ok (l := mem) (by simpa using ha)
  obtain ⟨hv, _, hpw⟩ := vEnts_ok l none h
  have hcar : ∀ x ∈ mem, 0 ≤ x ∧ x < 16 := by
    intro x hx
    have h3 : carB x = true := by simpa using (List.any_eq_false.1 hc) x hx
    unfold carB at h3
    by_cases h4 : 0 ≤ x
    · simp [h4] at h3; exact ⟨h4, h3⟩
    · simp [h4] at h3
  have haw : ∀ e ∈ l, e.aw = -1 ∨ e.aw ∈ mem := by
    intro e he
    have h3 := (bor0 (hv e he).1).2
    by_cases h4 : e.aw = -1
    · exact .inl h4
    · right
      have h5 : (!(e.aw == -1)) = true := by simp [h4]
      rw [h5] at h3
      simpa using h3
  have hwm : ∀ e ∈ l, wonE mem e = true → (leastB e.bids).1.1 ∈ mem := fun e he hw => vBids_ok (hv e he).2 _ (leastB_mem (wonE_ok hw).2)
  have hmem : ∀ e ∈ l.map (awE mem), e.aw = -1 ∨ e.aw ∈ mem := by
    intro e he
    obtain ⟨y, hy, rfl⟩ := List.mem_map.1 he
    cases hw : wonE mem y with
    | true => rw [awE, if_pos hw]; exact .inr (hwm y hy hw)
    | false => rw [awE_not hw]; exact haw y hy
  have hwe : ∀ e ∈ l, wonE mem (awE mem e) = false := by
    intro e he
    cases hw : wonE mem e with
    | false => rw [awE_not hw]; exact hw
    | true =>
      have h3 := hcar _ (hwm e he hw)
      rw [awE, if_pos hw]
      unfold wonE
      rw [show decide ((leastB e.bids).1.1 < 0) = false from decide_eq_false (by omega)]; rfl
  refine ⟨by have := of_decide_eq_true h1; omega, by have := of_decide_eq_true h2; omega, fun e he => ?_, ?_, ?_, ?_, ?_, ?_, ?_⟩
  · have h3 := (List.any_eq_false.1 hf) e he
    have h4 : ¬ ((e.bids.length : Int) > 16) := by simpa [fat] using h3
    omega
  · refine his_sum hasc _ fun e he h3 => (hmem e he).resolve_left (by omega)
  · intro i j x y hx hy hji k hk
    have hxy : x ≠ y := by
      intro e
      subst e
      obtain ⟨hi, hxi⟩ := List.getElem?_eq_some_iff.1 hx
      obtain ⟨hj, hxj⟩ := List.getElem?_eq_some_iff.1 hy
      rcases Nat.lt_or_gt_of_ne hji with h3 | h3
      · have := List.pairwise_iff_getElem.1 hasc j i hj hi h3; omega
      · have := List.pairwise_iff_getElem.1 hasc i j hi hj h3; omega
    have hpL : (l.map (awE mem)).Pairwise fun a b => keyE a ≠ keyE b := by
      rw [List.pairwise_map]
      refine hpw.imp fun {a b} hab => ?_
      rw [key_awE, key_awE]
      rw [lessE_iff] at hab
      simp only [keyE]
      intro e
      injection e with e1 e2
      injection e2 with e2 e3
      omega
    have huniq : ∀ a ∈ l.map (awE mem), ∀ b ∈ l.map (awE mem), keyE a = keyE b → a = b := by
      intro a ha b hb hab
      obtain ⟨p, hp, rfl⟩ := List.mem_iff_getElem.1 ha
      obtain ⟨q, hq, rfl⟩ := List.mem_iff_getElem.1 hb
      rcases Nat.lt_trichotomy p q with h3 | h3 | h3
      · exact absurd hab (List.pairwise_iff_getElem.1 hpL p q hp hq h3)
      · subst h3; rfl
      · exact absurd hab.symm (List.pairwise_iff_getElem.1 hpL q p hq hp h3)
    have his : ∀ {z : Int} {e : En}, hisE z e = true → e.aw = z := by
      intro z e h3
      unfold hisE at h3
      cases h4 : decide (0 ≤ e.aw) with
      | false => rw [h4] at h3; cases h3
      | true => rw [h4] at h3; simpa using h3
    refine List.any_eq_false.2 fun k2 hk2 hs => hxy ?_
    obtain ⟨a, ha, rfl⟩ := List.mem_map.1 hk
    obtain ⟨b, hb, rfl⟩ := List.mem_map.1 hk2
    obtain ⟨ha1, ha2⟩ := List.mem_filter.1 ha
    obtain ⟨hb1, hb2⟩ := List.mem_filter.1 hb
    have hk3 : keyE b = keyE a := by
      unfold sameK at hs
      have h5 : ((keyE b).1 = (keyE a).1 ∧ (keyE b).2.1 = (keyE a).2.1) ∧ (keyE b).2.2 = (keyE a).2.2 := by
        cases h6 : (keyE b).1 == (keyE a).1 with
        | false => rw [h6] at hs; cases hs
        | true =>
          rw [h6] at hs
          cases h7 : (keyE b).2.1 == (keyE a).2.1 with
          | false => rw [h7] at hs; cases hs
          | true => rw [h7] at hs; exact ⟨⟨by simpa using h6, by simpa using h7⟩, by simpa using hs⟩
      exact Prod.ext h5.1.1 (Prod.ext h5.1.2 h5.2)
    have := huniq b hb1 a ha1 hk3
    rw [← his ha2, ← his hb2, this]
  · have : ∀ (r : List En), (∀ e ∈ r, e ∈ l) → ((r.map (awE mem)).filter fun e => decide (e.aw ≥ 0)).length = (r.filter fun e => decide (e.aw ≥ 0)).length + (wonL mem r).length := by
      intro r
      induction r with
      | nil => intro _; rfl
      | cons e r ih =>
        intro hr
        have ih := ih fun x hx => hr x (List.mem_cons_of_mem _ hx)
        have he := hr e (List.mem_cons_self ..)
        cases hw : wonE mem e with
        | true =>
          have h3 := hcar _ (hwm e he hw)
          have h4 := (wonE_ok hw).1
          have h5 : (awE mem e).aw = (leastB e.bids).1.1 := by rw [awE, if_pos hw]
          rw [List.map_cons, List.filter_cons, h5, if_pos (by simpa using h3.1), List.filter_cons, if_neg (by simp; omega), List.length_cons, ih]
          simp only [wonL, List.filter_cons, hw, if_true, List.map_cons, List.length_cons]
          omega
        | false =>
          rw [List.map_cons, awE_not hw, List.filter_cons, List.filter_cons]
          have h6 : (wonL mem (e :: r)).length = (wonL mem r).length := by simp [wonL, hw]
          rw [h6]
          split
          · rw [List.length_cons, List.length_cons, ih]; omega
          · exact ih
    exact this l fun _ h => h
  · rw [wonL, List.filter_eq_nil_iff.2, List.map_nil]
    intro e he
    obtain ⟨y, hy, rfl⟩ := List.mem_map.1 he
    rw [hwe y hy]; decide
  · rw [mineL, List.filter_eq_nil_iff.2, List.map_nil]
    intro e he
    unfold hisE
    by_cases h3 : 0 ≤ e.aw
    · simp [h3]; omega
    · simp [h3]
  · rw [mineL, List.filter_eq_nil_iff.2, List.map_nil]
    intro e he
    unfold hisE
    rcases hmem e he with h3 | h3
    · simp [h3]
    · have h4 := hcar _ h3
      simp [h4.1]; omega
end Go.Proofs.Ytkenimmellonjaa
/- Seat r2: who wants what: the plain law. -/
namespace Go.Proofs.Ytkenimmellonjaa
open Go.Pv Go.RowKit Go.Shelf
theorem of_any (l : List B) (car : Int) : (ofB l car).2 = l.any fun b => b.1 == car := by
  unfold ofB
  split
  · rename_i b h
    have h1 := List.mem_of_find?_eq_some h
    have h2 := List.find?_some h
    exact (List.any_eq_true.2 ⟨b, h1, h2⟩).symm
  · rename_i h
    rw [List.find?_eq_none] at h
    refine (List.any_eq_false.2 fun b hb => ?_).symm
    exact h b hb
theorem any_swap (mem : List Int) (car : Int) : (mem.any fun y => car == y) = mem.any fun y => y == car := by
  congr 1
  funext y
  exact Bool.beq_comm
def onB (mem : List Int) (car : Int) (e : En) : Bool := bif bif !(mem.any fun y => y == car) then true else (e.bids.any fun b => b.1 == car) then true else decide (e.aw ≥ 0)
theorem want_eq (mem : List Int) (car : Int) (l : List En) : wantL mem car l = (l.filter fun e => !onB mem car e).map callE := by
  unfold wantL wishL
  rw [any_swap]
  cases h : (mem.any fun y => y == car) with
  | true =>
    rw [if_pos rfl]
    congr 2
    funext e
    unfold wishE onB
    rw [of_any, h]
    cases h2 : (e.bids.any fun b => b.1 == car) with
    | true => rfl
    | false =>
      show decide (e.aw < 0) = !decide (e.aw ≥ 0)
      by_cases h3 : e.aw < 0 <;> simp [h3] <;> omega
  | false =>
    rw [if_neg (by decide)]
    have : ∀ e, (!onB mem car e) = false := by intro e; unfold onB; rw [h]; rfl
    rw [List.filter_eq_nil_iff.2 (by simp [this]), List.map_nil]
theorem want_skip {mem : List Int} {car : Int} {l : List En} {i : Nat} {x : En} (hx : l[i]? = some x) (h : onB mem car x = true) : wantL mem car (l.take (i + 1)) = wantL mem car (l.take i) := by
  rw [want_eq, want_eq, List.take_add_one, hx]
  simp [h]
theorem want_more {mem : List Int} {car : Int} {l : List En} {i : Nat} {x : En} (hx : l[i]? = some x) (h : onB mem car x = false) : wantL mem car (l.take (i + 1)) = wantL mem car (l.take i) ++ [callE x] := by
  rw [want_eq, want_eq, List.take_add_one, hx]
  simp [h]
theorem want_at {mem : List Int} {car : Int} {l : List En} {i : Nat} {x : En} (hx : l[i]? = some x) (h : onB mem car x = false) : (wantL mem car l)[(wantL mem car (l.take i)).length]? = some (callE x) := by
  have e : wantL mem car l = wantL mem car (l.take (i + 1)) ++ wantL mem car (l.drop (i + 1)) := by
    rw [want_eq, want_eq, want_eq, ← List.map_append, ← List.filter_append, List.take_append_drop]
  rw [e, want_more hx h, List.append_assoc, List.getElem?_append_right (Nat.le_refl _), Nat.sub_self]
  rfl
theorem want_len (mem : List Int) (car : Int) (l : List En) : (wantL mem car l).length ≤ l.length := by
  rw [want_eq, List.length_map]; exact List.length_filter_le _ _
/-- The ring after so many bids. -/
def bidsL (mem : List Int) (car : Int) (ws : List (Int × Int)) (l : List En) : Nat → List En
  | 0 => l
  | k + 1 => match ws[k]? with
    | some c => (bidL mem (car, (k : Int)) c (bidsL mem car ws l k)).1
    | none => bidsL mem car ws l k
structure WantOK (mem : List Int) (l : List En) (car : Int) : Prop where
  step : ∀ (k : Nat) (c : Int × Int), (wantL mem car l)[k]? = some c → (bidL mem (car, (k : Int)) c (bidsL mem car (wantL mem car l) l k)).2 = true ∧ (wantL mem car (bidsL mem car (wantL mem car l) l (k + 1))).length = (wantL mem car l).length - k - 1
  sane : ∀ (k : Nat), k ≤ (wantL mem car l).length → (bidsL mem car (wantL mem car l) l k).length = l.length ∧ ∀ e ∈ bidsL mem car (wantL mem car l) l k, e.bids.length ≤ 16 + k
theorem insB_mem (l : List B) (b : B) : b ∈ insB l b := by
  unfold insB
  split
  · simp
  · simp
theorem insB_len (l : List B) (b : B) : (insB l b).length = l.length + 1 := by
  unfold insB
  split
  · rename_i k _
    simp only [List.length_append, List.length_take, List.length_cons, List.length_drop]
    omega
  · simp
/-- Calls apart. -/
def Apart (l : List En) : Prop := (l.map callE).Nodup
theorem isC_iff (c : Int × Int) (e : En) : isC c e = true ↔ callE e = c := by
  unfold isC callE
  obtain ⟨a, b⟩ := c
  by_cases h : e.fl = a
  · simp [h]
  · simp [h]
theorem idx_first {p : En → Bool} {pre post : List En} {x : En} (hx : p x = true) (hp : ∀ e ∈ pre, p e = false) : idxFrom p (pre ++ x :: post) 0 = (pre.length : Int) := by
  have key : ∀ (q : List En) (i : Int), (∀ e ∈ q, p e = false) → idxFrom p (q ++ x :: post) i = i + q.length := by
    intro q
    induction q with
    | nil => intro i _; simp [idxFrom, hx]
    | cons e r ih =>
      intro i h
      simp only [List.cons_append, idxFrom]
      rw [if_neg (by rw [h e (List.mem_cons_self ..)]; decide), ih (i + 1) fun y hy => h y (List.mem_cons_of_mem _ hy)]
      simp only [List.length_cons]; omega
  simpa using key pre 0 hp
theorem want_app (mem : List Int) (car : Int) (a b : List En) : wantL mem car (a ++ b) = wantL mem car a ++ wantL mem car b := by
  rw [want_eq, want_eq, want_eq, List.filter_append, List.map_append]
theorem want_one {mem : List Int} {car : Int} {x : En} {r : List En} : wantL mem car (x :: r) = (bif onB mem car x then [] else [callE x]) ++ wantL mem car r := by
  rw [want_eq, want_eq]
  cases h : onB mem car x <;> simp [h]
/-- One bid more. -/
theorem bid_step {mem : List Int} {car : Int} {l : List En} {c : Int × Int} {rest : List (Int × Int)} {k : Nat} (hk : k ≤ 1000) (ha : Apart l) (hw : wantL mem car l = c :: rest) :
    (bidL mem (car, (k : Int)) c l).2 = true ∧ wantL mem car (bidL mem (car, (k : Int)) c l).1 = rest ∧ (bidL mem (car, (k : Int)) c l).1.map callE = l.map callE ∧ (bidL mem (car, (k : Int)) c l).1.length = l.length ∧
      ∀ n, (∀ e ∈ l, e.bids.length ≤ n) → ∀ e ∈ (bidL mem (car, (k : Int)) c l).1, e.bids.length ≤ n + 1 := by
  have hc : c ∈ wantL mem car l := by rw [hw]; exact List.mem_cons_self ..
  rw [want_eq] at hc
  obtain ⟨x, hx, hxc⟩ := List.mem_map.1 hc
  obtain ⟨hxl, hon⟩ := List.mem_filter.1 hx
  have hon : onB mem car x = false := by simpa using hon
  obtain ⟨pre, post, rfl⟩ := List.append_of_mem hxl
  unfold Apart at ha
  rw [List.map_append, List.map_cons, List.nodup_append] at ha
  obtain ⟨_, _, hdis⟩ := ha
  have hpre : ∀ e ∈ pre, callE e ≠ c := fun e he => by
    rw [← hxc]
    exact hdis _ (List.mem_map.2 ⟨e, he, rfl⟩) _ (List.mem_cons_self ..)
  have hidx : idxFrom (isC c) (pre ++ x :: post) 0 = (pre.length : Int) := by
    refine idx_first ((isC_iff c x).2 hxc) fun e he => ?_
    cases h : isC c e with
    | false => rfl
    | true => exact absurd ((isC_iff c e).1 h) (hpre e he)
  have hwpre : wantL mem car pre = [] := by
    cases hp : wantL mem car pre with
    | nil => rfl
    | cons d ds =>
      rw [want_app, hp] at hw
      injection hw with h1 _
      have : d ∈ wantL mem car pre := by rw [hp]; exact List.mem_cons_self ..
      rw [want_eq] at this
      obtain ⟨e, he, hed⟩ := List.mem_map.1 this
      exact absurd (hed.trans h1) (hpre e (List.mem_filter.1 he).1)
  have hon2 := hon
  unfold onB at hon2
  obtain ⟨h1, haw⟩ := bor0 hon2
  obtain ⟨hm, hbid⟩ := bor0 h1
  have hm : (mem.any fun y => y == car) = true := by simpa using hm
  have hno : noBid mem (car, (k : Int)) x = false := by
    unfold noBid
    rw [haw, any_swap, hm, show decide ((k : Int) < 0) = false from decide_eq_false (by omega), show decide ((k : Int) > 1048576) = false from decide_eq_false (by omega)]
    rfl
  have hput : putB x.bids (car, (k : Int)) = (insB x.bids (car, (k : Int)), true) := by
    unfold putB
    have : x.bids.find? (fun b => b.1 == (car, (k : Int)).1) = none := by
      rw [List.find?_eq_none]
      intro b hb
      have := (List.any_eq_false.1 hbid) b hb
      exact this
    rw [this]
  have hbl : bidL mem (car, (k : Int)) c (pre ++ x :: post) = (pre ++ bidEn (car, (k : Int)) x :: post, true) := by
    unfold bidL
    rw [hidx]
    show (match (pre ++ x :: post)[pre.length]? with | some x => _ | none => _) = _
    rw [List.getElem?_append_right (Nat.le_refl _), Nat.sub_self]
    show (bif noBid mem (car, (k : Int)) x then _ else _) = _
    rw [hno, hput]
    show ((pre ++ x :: post).set pre.length _, true) = _
    rw [List.set_append_right _ _ (Nat.le_refl _), Nat.sub_self]
    rfl
  rw [hbl]
  have hbe : (bidEn (car, (k : Int)) x).bids = insB x.bids (car, (k : Int)) := by
    show (putB x.bids (car, (k : Int))).1 = _
    rw [hput]
  refine ⟨rfl, ?_, by simp [bidEn, callE], by simp, fun n hn e he => ?_⟩
  · have hon3 : onB mem car (bidEn (car, (k : Int)) x) = true := by
      unfold onB
      rw [hbe, hm, List.any_eq_true.2 ⟨(car, (k : Int)), insB_mem _ _, by simp⟩]
      rfl
    rw [want_app, want_one, hwpre, hon3]
    rw [want_app, want_one, hwpre, hon] at hw
    injection hw
  · rcases List.mem_append.1 he with h | h
    · exact Nat.le_succ_of_le (hn e (List.mem_append_left _ h))
    · rcases List.mem_cons.1 h with rfl | h
      · rw [hbe, insB_len]
        exact Nat.succ_le_succ (hn x hxl)
      · exact Nat.le_succ_of_le (hn e (List.mem_append_right _ (List.mem_cons_of_mem _ h)))
theorem light_apart {cnt fdr hop : Int} {mem : List Int} {l : List En} (h : lightB cnt fdr hop mem l = true) : Apart l := by
  unfold lightB at h
  cases hf : l.any fat with
  | true => rw [hf] at h; cases h
  | false =>
  rw [hf] at h
  have h : (bif bif decide ((mem.length : Int) ≤ 16) then decide ((l.length : Int) ≤ 30) else false then vRing cnt fdr hop mem l == 0 else false) = true := h
  cases h1 : (bif decide ((mem.length : Int) ≤ 16) then decide ((l.length : Int) ≤ 30) else false) with
  | false => rw [h1] at h; cases h
  | true =>
  rw [h1] at h
  have h : (vRing cnt fdr hop mem l == 0) = true := h
  have h : vRing cnt fdr hop mem l = 0 := by simpa using h
  obtain ⟨_, h⟩ := cond0 (by decide) h
  obtain ⟨_, h⟩ := cond0 (by decide) h
  obtain ⟨_, h⟩ := cond0 (by decide) h
  obtain ⟨_, h⟩ := cond0 (by decide) h
  obtain ⟨_, _, hpw⟩ := vEnts_ok l none h
  unfold Apart
  refine List.Pairwise.map _ (fun a b hab => ?_) hpw
  rw [lessE_iff] at hab
  intro e
  unfold callE at e
  injection e with e1 e2
  omega
theorem bids_ok {mem : List Int} {car : Int} {l : List En} (ha : Apart l) (hb : ∀ e ∈ l, e.bids.length ≤ 16) (hl : l.length ≤ 30) : ∀ (k : Nat), k ≤ (wantL mem car l).length →
    wantL mem car (bidsL mem car (wantL mem car l) l k) = (wantL mem car l).drop k ∧ (bidsL mem car (wantL mem car l) l k).map callE = l.map callE ∧ (bidsL mem car (wantL mem car l) l k).length = l.length ∧ ∀ e ∈ bidsL mem car (wantL mem car l) l k, e.bids.length ≤ 16 + k
  | 0, _ => ⟨rfl, rfl, rfl, hb⟩
  | k + 1, hk => by
    obtain ⟨h1, h2, h3, h4⟩ := bids_ok (mem := mem) (car := car) ha hb hl k (by omega)
    obtain ⟨c, hc, hd⟩ := at_i (show k < (wantL mem car l).length by omega)
    have hWl := want_len mem car l
    have hap : Apart (bidsL mem car (wantL mem car l) l k) := by unfold Apart; rw [h2]; exact ha
    have hk2 : k ≤ 1000 := by omega
    have hst := bid_step hk2 hap (h1.trans hd)
    have hnx : bidsL mem car (wantL mem car l) l (k + 1) = (bidL mem (car, (k : Int)) c (bidsL mem car (wantL mem car l) l k)).1 := by
      show (match (wantL mem car l)[k]? with | some c => _ | none => _) = _
      rw [hc]
    rw [hnx]
    exact ⟨hst.2.1, hst.2.2.1.trans h2, hst.2.2.2.1.trans h3, hst.2.2.2.2 _ h4⟩
theorem want_ok {cnt fdr hop : Int} {mem : List Int} {l : List En} (h : lightB cnt fdr hop mem l = true) (car : Int) : WantOK mem l car := by
  have ok := light_ok h
  have ha := light_apart h
  have hWl := want_len mem car l
  have hl := ok.ll
  refine ⟨fun k c hc => ?_, fun k hk => ?_⟩
  · have hk := (List.getElem?_eq_some_iff.1 hc).1
    obtain ⟨h1, h2, _, _⟩ := bids_ok (mem := mem) (car := car) ha ok.bl hl k (by omega)
    obtain ⟨h5, _, _, _⟩ := bids_ok (mem := mem) (car := car) ha ok.bl hl (k + 1) hk
    obtain ⟨c2, hc2, hd⟩ := at_i hk
    rw [hc] at hc2
    cases hc2
    have hap : Apart (bidsL mem car (wantL mem car l) l k) := by unfold Apart; rw [h2]; exact ha
    have hk2 : k ≤ 1000 := by omega
    refine ⟨(bid_step hk2 hap (h1.trans hd)).1, ?_⟩
    rw [h5, List.length_drop]
    omega
  · obtain ⟨_, _, h3, h4⟩ := bids_ok (mem := mem) (car := car) ha ok.bl hl k hk
    exact ⟨h3, h4⟩
end Go.Proofs.Ytkenimmellonjaa
/- Seat r2: what is added: the plain law. -/
namespace Go.Proofs.Ytkenimmellonjaa
open Go.Pv Go.RowKit Go.Shelf
/-- An entry anew. -/
def newE (k : Int × Int × Int) : En := ⟨k.1, k.2.1, k.2.2, [], -1⟩
def lessK (k : Int × Int × Int) (e : En) : Bool := bif decide (k.1 < e.fl) then true else bif k.1 == e.fl then decide (k.2.1 < e.dr) else false
theorem lessK_iff (k : Int × Int × Int) (e : En) : lessK k e = true ↔ k.1 < e.fl ∨ (k.1 = e.fl ∧ k.2.1 < e.dr) := by
  unfold lessK
  by_cases h : k.1 < e.fl
  · simp [h]
  · by_cases h2 : k.1 = e.fl
    · simp [h2]
    · simp [h, h2]
def insE (k : Int × Int × Int) (l : List En) : List En := match idxFrom (lessK k) l 0 with
  | .ofNat j => l.take j ++ newE k :: l.drop j
  | .negSucc _ => l ++ [newE k]
def skipE (l : List En) (k : Int × Int × Int) : Bool := bif decide ((l.length : Int) ≥ 128) then true else decide (idxFrom (isC (k.1, k.2.1)) l 0 ≥ 0)
def addE (l : List En) (k : Int × Int × Int) : List En := bif skipE l k then l else insE k l
def addL (l : List En) (ks : List (Int × Int × Int)) : List En := ks.foldl addE l
def callK (k : Int × Int × Int) : Int × Int := (k.1, k.2.1)
theorem insE_eq (k : Int × Int × Int) (l : List En) : ∃ a b, l = a ++ b ∧ insE k l = a ++ newE k :: b ∧ (∀ e ∈ a, lessK k e = false) ∧ ∀ e b', b = e :: b' → lessK k e = true := by
  unfold insE
  rcases idx_cases0 (lessK k) l with ⟨h1, hno⟩ | ⟨j, x, h1, hx, hfd⟩
  · rw [h1]
    refine ⟨l, [], by simp, rfl, fun e he => ?_, fun e b' h => by cases h⟩
    simpa using (List.find?_eq_none.1 hno) e he
  · rw [h1]
    refine ⟨l.take j, l.drop j, (List.take_append_drop ..).symm, rfl, fun e he => ?_, fun e b' h => ?_⟩
    · have key : ∀ (l : List En) (i : Int) (k2 : Nat), idxFrom (lessK k) l i = i + k2 → ∀ e ∈ l.take k2, lessK k e = false := by
        intro l
        induction l with
        | nil => intro i k2 _ e h; simp at h
        | cons y r ih =>
          intro i k2 h e he
          cases k2 with
          | zero => simp at he
          | succ k2 =>
            unfold idxFrom at h
            split at h
            · omega
            · rename_i hy
              rw [List.take_succ_cons] at he
              rcases List.mem_cons.1 he with rfl | he
              · simpa using hy
              · exact ih (i + 1) k2 (by rw [h]; omega) e he
      exact key l 0 j (by rw [h1]; omega) e he
    · have hj := (List.getElem?_eq_some_iff.1 hx).1
      obtain ⟨y, hy, hd⟩ := at_i hj
      rw [hx] at hy
      cases hy
      rw [hd] at h
      cases h
      exact List.find?_some hfd
theorem insE_mem {k : Int × Int × Int} {l : List En} {e : En} : e ∈ insE k l ↔ e = newE k ∨ e ∈ l := by
  obtain ⟨a, b, h1, h2, _, _⟩ := insE_eq k l
  rw [h2, h1]
  simp only [List.mem_append, List.mem_cons]
  constructor
  · rintro (h | h | h)
    · exact .inr (.inl h)
    · exact .inl h
    · exact .inr (.inr h)
  · rintro (h | h | h)
    · exact .inr (.inl h)
    · exact .inl h
    · exact .inr (.inr h)
theorem insE_len (k : Int × Int × Int) (l : List En) : (insE k l).length = l.length + 1 := by
  obtain ⟨a, b, h1, h2, _, _⟩ := insE_eq k l
  rw [h2, h1]
  simp only [List.length_append, List.length_cons]
  omega
theorem idx_neg {p : En → Bool} {l : List En} (h : decide (idxFrom p l 0 ≥ 0) = false) : ∀ e ∈ l, p e = false := by
  obtain ⟨_, h⟩ := idx_lt h
  intro e he
  simpa using (List.find?_eq_none.1 h) e he
theorem idx_pos {p : En → Bool} {l : List En} {e : En} (he : e ∈ l) (hp : p e = true) : decide (idxFrom p l 0 ≥ 0) = true := by
  rcases idx_cases0 p l with ⟨_, hno⟩ | ⟨j, x, h1, _, _⟩
  · exact absurd hp ((List.find?_eq_none.1 hno) e he)
  · rw [h1]; exact decide_eq_true (by omega)
theorem skip_has {l : List En} {k : Int × Int × Int} (h : ∃ e ∈ l, callE e = callK k) : skipE l k = true := by
  obtain ⟨e, he, hc⟩ := h
  unfold skipE
  rw [idx_pos he ((isC_iff (k.1, k.2.1) e).2 hc)]
  cases decide ((l.length : Int) ≥ 128) <;> rfl
theorem skip_no {l : List En} {k : Int × Int × Int} (h : skipE l k = false) : l.length < 128 ∧ ∀ e ∈ l, callE e ≠ callK k := by
  unfold skipE at h
  cases h1 : decide ((l.length : Int) ≥ 128) with
  | true => rw [h1] at h; cases h
  | false =>
    rw [h1] at h
    have h1 := of_decide_eq_false h1
    refine ⟨by omega, fun e he hc => ?_⟩
    have := idx_neg h e he
    rw [(isC_iff (k.1, k.2.1) e).2 hc] at this
    cases this
theorem skip_go {l : List En} {k : Int × Int × Int} (hl : l.length < 128) (h : ∀ e ∈ l, callE e ≠ callK k) : skipE l k = false := by
  unfold skipE
  rw [show decide ((l.length : Int) ≥ 128) = false from decide_eq_false (by omega)]
  cases hd : decide (idxFrom (isC (k.1, k.2.1)) l 0 ≥ 0) with
  | false => rfl
  | true =>
    obtain ⟨j, x, _, hx, hf⟩ := idx_ge hd
    exact absurd ((isC_iff _ x).1 (List.find?_some hf)) (h x (List.mem_of_getElem? hx))
theorem addE_same {l : List En} {k : Int × Int × Int} (h : ∃ e ∈ l, callE e = callK k) : addE l k = l := by
  unfold addE; rw [skip_has h]; rfl
theorem addL_same {l : List En} : ∀ {ks : List (Int × Int × Int)}, (∀ k ∈ ks, ∃ e ∈ l, callE e = callK k) → addL l ks = l
  | [], _ => rfl
  | k :: r, h => by
    show addL (addE l k) r = l
    rw [addE_same (h k (List.mem_cons_self ..))]
    exact addL_same fun x hx => h x (List.mem_cons_of_mem _ hx)
theorem addE_mem {l : List En} {k : Int × Int × Int} {e : En} (h : e ∈ addE l k) : e ∈ l ∨ e = newE k := by
  unfold addE at h
  cases hs : skipE l k with
  | true => rw [hs] at h; exact .inl h
  | false =>
    rw [hs] at h
    rcases insE_mem.1 h with h | h
    · exact .inr h
    · exact .inl h
theorem addE_old {l : List En} {k : Int × Int × Int} {e : En} (h : e ∈ l) : e ∈ addE l k := by
  unfold addE
  cases hs : skipE l k with
  | true => exact h
  | false => exact insE_mem.2 (.inr h)
theorem addE_has {l : List En} {k : Int × Int × Int} (hl : l.length < 128) : ∃ e ∈ addE l k, callE e = callK k := by
  unfold addE
  cases hs : skipE l k with
  | true =>
    unfold skipE at hs
    rw [show decide ((l.length : Int) ≥ 128) = false from decide_eq_false (by omega)] at hs
    obtain ⟨j, x, _, hx, hf⟩ := idx_ge hs
    exact ⟨x, List.mem_of_getElem? hx, (isC_iff _ x).1 (List.find?_some hf)⟩
  | false => exact ⟨newE k, insE_mem.2 (.inl rfl), rfl⟩
theorem addE_apart {l : List En} {k : Int × Int × Int} (h : Apart l) : Apart (addE l k) := by
  unfold addE
  cases hs : skipE l k with
  | true => exact h
  | false =>
    obtain ⟨_, hn⟩ := skip_no hs
    obtain ⟨a, b, h1, h2, _, _⟩ := insE_eq k l
    show Apart (insE k l)
    rw [h2]
    rw [h1] at h hn
    unfold Apart at h ⊢
    rw [List.map_append, List.map_cons]
    rw [List.map_append] at h
    have hp : (callE (newE k) :: (a.map callE ++ b.map callE)).Perm (a.map callE ++ callE (newE k) :: b.map callE) := List.perm_middle.symm
    refine hp.nodup_iff.1 (List.nodup_cons.2 ⟨fun hm => ?_, h⟩)
    rw [← List.map_append] at hm
    obtain ⟨e, he, hc⟩ := List.mem_map.1 hm
    exact hn e he hc
theorem addE_len (l : List En) (k : Int × Int × Int) : (addE l k).length ≤ l.length + 1 := by
  unfold addE
  cases skipE l k with
  | true => exact Nat.le_succ _
  | false => exact Nat.le_of_eq (insE_len k l)
theorem addE_le {l : List En} {k : Int × Int × Int} (hl : l.length ≤ 128) : (addE l k).length ≤ 128 := by
  unfold addE
  cases hs : skipE l k with
  | true => exact hl
  | false => show (insE k l).length ≤ 128; rw [insE_len]; exact (skip_no hs).1
theorem addL_len : ∀ (ks : List (Int × Int × Int)) (l : List En), (addL l ks).length ≤ l.length + ks.length
  | [], _ => Nat.le_refl _
  | k :: r, l => by
    have h1 := addL_len r (addE l k)
    have h2 := addE_len l k
    show (addL (addE l k) r).length ≤ _
    rw [List.length_cons]; omega
theorem addL_le : ∀ (ks : List (Int × Int × Int)) {l : List En}, l.length ≤ 128 → (addL l ks).length ≤ 128
  | [], _, h => h
  | k :: r, _, h => addL_le r (addE_le (k := k) h)
theorem addL_apart : ∀ (ks : List (Int × Int × Int)) {l : List En}, Apart l → Apart (addL l ks)
  | [], _, h => h
  | _ :: r, _, h => addL_apart r (addE_apart h)
theorem addL_old : ∀ (ks : List (Int × Int × Int)) {l : List En} {e : En}, e ∈ l → e ∈ addL l ks
  | [], _, _, h => h
  | _ :: r, _, _, h => addL_old r (addE_old h)
theorem addL_mem : ∀ (ks : List (Int × Int × Int)) {l : List En} {e : En}, e ∈ addL l ks → e ∈ l ∨ ∃ k ∈ ks, e = newE k
  | [], _, _, h => .inl h
  | k :: r, l, e, h => by
    rcases addL_mem r h with h | ⟨x, hx, h⟩
    · rcases addE_mem h with h | h
      · exact .inl h
      · exact .inr ⟨k, List.mem_cons_self .., h⟩
    · exact .inr ⟨x, List.mem_cons_of_mem _ hx, h⟩
theorem addL_has : ∀ (ks : List (Int × Int × Int)) {l : List En}, l.length + ks.length ≤ 128 → ∀ k ∈ ks, ∃ e ∈ addL l ks, callE e = callK k
  | [], _, _, k, h => by cases h
  | k :: r, l, hl, x, hx => by
    rw [List.length_cons] at hl
    rcases List.mem_cons.1 hx with rfl | hx
    · obtain ⟨e, he, hc⟩ := addE_has (l := l) (k := x) (by omega)
      exact ⟨e, addL_old r he, hc⟩
    · have := addE_len l k
      exact addL_has r (l := addE l k) (by omega) x hx
/-- Entries by their calls. -/
def SrtE (l : List En) : Prop := l.Pairwise fun a b => lessE a b = true
theorem insE_srt {k : Int × Int × Int} {l : List En} (h : SrtE l) (hn : ∀ e ∈ l, callE e ≠ callK k) : SrtE (insE k l) := by
  obtain ⟨a, b, h1, h2, h3, h4⟩ := insE_eq k l
  rw [h2]
  rw [h1] at h hn
  unfold SrtE at h ⊢
  obtain ⟨ha, hb, hab⟩ := List.pairwise_append.1 h
  refine List.pairwise_append.2 ⟨ha, List.pairwise_cons.2 ⟨fun y hy => ?_, hb⟩, fun x hx y hy => ?_⟩
  · cases b with
    | nil => cases hy
    | cons e b' =>
      have he := (lessK_iff k e).1 (h4 e b' rfl)
      rw [lessE_iff]
      show k.1 < y.fl ∨ (k.1 = y.fl ∧ k.2.1 < y.dr)
      rcases List.mem_cons.1 hy with rfl | hy
      · exact he
      · have := (List.pairwise_cons.1 hb).1 y hy
        rw [lessE_iff] at this
        omega
  · rcases List.mem_cons.1 hy with rfl | hy
    · have hx1 : ¬ (lessK k x = true) := by rw [h3 x hx]; decide
      rw [lessK_iff] at hx1
      have hx2 : callE x ≠ callK k := hn x (List.mem_append_left _ hx)
      rw [lessE_iff]
      show x.fl < k.1 ∨ (x.fl = k.1 ∧ x.dr < k.2.1)
      have hx3 : ¬ (x.fl = k.1 ∧ x.dr = k.2.1) := fun h => hx2 (by unfold callE callK; rw [h.1, h.2])
      omega
    · exact hab x hx y hy
theorem addE_srt {k : Int × Int × Int} {l : List En} (h : SrtE l) : SrtE (addE l k) := by
  unfold addE
  cases hs : skipE l k with
  | true => exact h
  | false => exact insE_srt h (skip_no hs).2
theorem addL_srt : ∀ (ks : List (Int × Int × Int)) {l : List En}, SrtE l → SrtE (addL l ks)
  | [], _, h => h
  | _ :: r, _, h => addL_srt r (addE_srt h)
end Go.Proofs.Ytkenimmellonjaa
/- Seat r2: round by round: the plain law. -/
namespace Go.Proofs.Ytkenimmellonjaa
open Go.Pv Go.RowKit Go.Shelf
/-- What is awarded stays where it is. -/
def Keeps (l l' : List En) : Prop := l'.length = l.length ∧ ∀ (i : Nat) (e : En), l[i]? = some e → e.aw ≥ 0 → l'[i]? = some e
theorem Keeps.refl (l : List En) : Keeps l l := ⟨rfl, fun _ _ h _ => h⟩
theorem Keeps.trans {a b c : List En} (h : Keeps a b) (h2 : Keeps b c) : Keeps a c := ⟨h2.1.trans h.1, fun i e he ha => h2.2 i e (h.2 i e he ha) ha⟩
theorem Keeps.award (mem : List Int) (l : List En) : Keeps l (l.map (awE mem)) := by
  refine ⟨by simp, fun i e he ha => ?_⟩
  rw [List.getElem?_map, he]
  have : awE mem e = e := by
    unfold awE
    have : wonE mem e = false := by
      unfold wonE
      rw [show decide (e.aw < 0) = false from decide_eq_false (by omega)]
      rfl
    rw [this]; rfl
  show some (awE mem e) = some e
  rw [this]
theorem Keeps.put {pre post : List En} {x y : En} (hx : x.aw < 0) : Keeps (pre ++ x :: post) (pre ++ y :: post) := by
  refine ⟨by simp, fun i e he ha => ?_⟩
  by_cases h : i < pre.length
  · rw [List.getElem?_append_left h] at he ⊢; exact he
  · rw [List.getElem?_append_right (by omega)] at he ⊢
    cases hd : i - pre.length with
    | zero =>
      rw [hd] at he
      have he : some x = some e := he
      cases he
      omega
    | succ n =>
      rw [hd] at he
      exact he
/-- A bid more, told whole. -/
theorem bid_more {mem : List Int} {car : Int} {l : List En} {c : Int × Int} {rest : List (Int × Int)} {k : Nat} (hk : k ≤ 1000) (ha : Apart l) (hw : wantL mem car l = c :: rest) :
    ∃ pre x post, l = pre ++ x :: post ∧ onB mem car x = false ∧ callE x = c ∧ bidL mem (car, (k : Int)) c l = (pre ++ bidEn (car, (k : Int)) x :: post, true) ∧ wantL mem car (pre ++ bidEn (car, (k : Int)) x :: post) = rest ∧
      (bidEn (car, (k : Int)) x).bids = insB x.bids (car, (k : Int)) ∧ (bidL mem (car, (k : Int)) c (pre ++ bidEn (car, (k : Int)) x :: post)).2 = false := by
  have hc : c ∈ wantL mem car l := by rw [hw]; exact List.mem_cons_self ..
  rw [want_eq] at hc
  obtain ⟨x, hx, hxc⟩ := List.mem_map.1 hc
  obtain ⟨hxl, hon⟩ := List.mem_filter.1 hx
  have hon : onB mem car x = false := by simpa using hon
  obtain ⟨pre, post, rfl⟩ := List.append_of_mem hxl
  have hst := bid_step hk ha hw
  unfold Apart at ha
  rw [List.map_append, List.map_cons, List.nodup_append] at ha
  obtain ⟨_, _, hdis⟩ := ha
  have hpre : ∀ e ∈ pre, isC c e = false := fun e he => by
    cases h : isC c e with
    | false => rfl
    | true =>
      have h1 := (isC_iff c e).1 h
      rw [← hxc] at h1
      exact absurd h1 (hdis _ (List.mem_map.2 ⟨e, he, rfl⟩) _ (List.mem_cons_self ..))
  have hidx : ∀ y : En, callE y = c → idxFrom (isC c) (pre ++ y :: post) 0 = (pre.length : Int) := fun y hy => idx_first ((isC_iff c y).2 hy) hpre
  have hon2 := hon
  unfold onB at hon2
  obtain ⟨h1, haw⟩ := bor0 hon2
  obtain ⟨hm, hbid⟩ := bor0 h1
  have hm : (mem.any fun y => y == car) = true := by simpa using hm
  have hno : ∀ bs, noBid mem (car, (k : Int)) ⟨x.fl, x.dr, x.gn, bs, x.aw⟩ = false := by
    intro bs
    unfold noBid
    rw [haw, any_swap, hm, show decide ((k : Int) < 0) = false from decide_eq_false (by omega), show decide ((k : Int) > 1048576) = false from decide_eq_false (by omega)]
    rfl
  have hput : putB x.bids (car, (k : Int)) = (insB x.bids (car, (k : Int)), true) := by
    unfold putB
    have : x.bids.find? (fun b => b.1 == (car, (k : Int)).1) = none := by
      rw [List.find?_eq_none]
      intro b hb
      exact (List.any_eq_false.1 hbid) b hb
    rw [this]
  have hbl : ∀ y : En, callE y = c → noBid mem (car, (k : Int)) y = false → bidL mem (car, (k : Int)) c (pre ++ y :: post) = (pre ++ bidEn (car, (k : Int)) y :: post, (putB y.bids (car, (k : Int))).2) := by
    intro y hy hn
    unfold bidL
    rw [hidx y hy]
    show (match (pre ++ y :: post)[pre.length]? with | some x => _ | none => _) = _
    rw [List.getElem?_append_right (Nat.le_refl _), Nat.sub_self]
    show (bif noBid mem (car, (k : Int)) y then _ else _) = _
    rw [hn]
    show ((pre ++ y :: post).set pre.length _, _) = _
    rw [List.set_append_right _ _ (Nat.le_refl _), Nat.sub_self]
    rfl
  have hbx := hbl x hxc (hno x.bids)
  rw [hput] at hbx
  have hbids : (bidEn (car, (k : Int)) x).bids = insB x.bids (car, (k : Int)) := by
    show (putB x.bids (car, (k : Int))).1 = _
    rw [hput]
  refine ⟨pre, x, post, rfl, hon, hxc, hbx, ?_, hbids, ?_⟩
  · have := hst.2.1
    rw [hbx] at this
    exact this
  · rw [hbl (bidEn (car, (k : Int)) x) hxc (hno _)]
    show (putB (bidEn (car, (k : Int)) x).bids (car, (k : Int))).2 = false
    rw [hbids]
    unfold putB
    cases hf : (insB x.bids (car, (k : Int))).find? (fun y => y.1 == (car, (k : Int)).1) with
    | some _ => rfl
    | none =>
      have := (List.find?_eq_none.1 hf) _ (insB_mem x.bids (car, (k : Int)))
      simp at this
/-- Bids are of members, of each one. -/
structure BidOK (mem : List Int) (e : En) : Prop where
  sub : ∀ b ∈ e.bids, b.1 ∈ mem
  nd : (e.bids.map Prod.fst).Nodup
theorem insB_eq (l : List B) (b : B) : ∃ a c, l = a ++ c ∧ insB l b = a ++ b :: c := by
  unfold insB
  split
  · rename_i k _
    exact ⟨l.take k, l.drop k, (List.take_append_drop ..).symm, rfl⟩
  · exact ⟨l, [], by simp, rfl⟩
theorem BidOK.put {mem : List Int} {car : Int} {x y : En} {k : Int} (h : BidOK mem x) (hc : car ∈ mem) (hn : (x.bids.any fun b => b.1 == car) = false) (hy : y.bids = insB x.bids (car, k)) : BidOK mem y := by
  obtain ⟨a, c, h1, h2⟩ := insB_eq x.bids (car, k)
  have hsub := h.sub
  have hnd := h.nd
  rw [h1] at hsub hnd hn
  rw [h2] at hy
  refine ⟨fun b hb => ?_, ?_⟩
  · rw [hy] at hb
    rcases List.mem_append.1 hb with hb | hb
    · exact hsub b (List.mem_append_left _ hb)
    · rcases List.mem_cons.1 hb with rfl | hb
      · exact hc
      · exact hsub b (List.mem_append_right _ hb)
  · rw [hy, List.map_append, List.map_cons]
    rw [List.map_append] at hnd
    have hp : (car :: (a.map Prod.fst ++ c.map Prod.fst)).Perm (a.map Prod.fst ++ (car, k).1 :: c.map Prod.fst) := List.perm_middle.symm
    refine hp.nodup_iff.1 (List.nodup_cons.2 ⟨fun hm => ?_, hnd⟩)
    rw [← List.map_append] at hm
    obtain ⟨b, hb, hbc⟩ := List.mem_map.1 hm
    have := (List.any_eq_false.1 hn) b hb
    rw [hbc] at this
    simp at this
theorem nd_le : ∀ {a b : List Int}, a.Nodup → (∀ x ∈ a, x ∈ b) → a.length ≤ b.length
  | [], _, _, _ => Nat.zero_le _
  | x :: r, b, hn, hs => by
    rw [List.nodup_cons] at hn
    have hx := hs x (List.mem_cons_self ..)
    have h1 : r.length ≤ (b.erase x).length := nd_le hn.2 fun y hy => by
      have hyx : y ≠ x := fun h => hn.1 (h ▸ hy)
      exact (List.mem_erase_of_ne hyx).2 (hs y (List.mem_cons_of_mem _ hy))
    have h2 := List.length_erase_of_mem hx
    have h3 := List.length_pos_of_mem hx
    rw [List.length_cons]
    omega
theorem BidOK.len {mem : List Int} {e : En} (h : BidOK mem e) : e.bids.length ≤ mem.length := by
  have := nd_le h.nd fun x hx => by
    obtain ⟨b, hb, rfl⟩ := List.mem_map.1 hx
    exact h.sub b hb
  rwa [List.length_map] at this
theorem BidOK.full {mem : List Int} {e : En} (h : BidOK mem e) (hm : mem.Nodup) (hf : fullB mem e.bids = true) : e.bids.length = mem.length := by
  refine Nat.le_antisymm h.len ?_
  have := nd_le (a := mem) (b := e.bids.map Prod.fst) hm fun x hx => by
    have hf : (mem.any fun x => !e.bids.any fun b => b.1 == x) = false := by simpa [fullB] using hf
    have := (List.any_eq_false.1 hf) x hx
    have : (e.bids.any fun b => b.1 == x) = true := by simpa using this
    obtain ⟨b, hb, hbx⟩ := List.any_eq_true.1 this
    exact List.mem_map.2 ⟨b, hb, by simpa using hbx⟩
  rwa [List.length_map] at this
theorem lessB_tr {a b c : B} (h1 : lessB b a = false) (h2 : lessB c b = false) : lessB c a = false := by
  unfold lessB at *
  simp only [Bool.or_eq_false_iff, decide_eq_false_iff_not, Bool.and_eq_false_iff, beq_eq_false_iff_ne, ne_eq] at *
  omega
theorem lessB_as {a b : B} (h1 : lessB b a = true) : lessB a b = false := by
  unfold lessB at *
  simp only [Bool.or_eq_false_iff, Bool.or_eq_true, Bool.and_eq_true, decide_eq_true_eq, beq_iff_eq, decide_eq_false_iff_not, Bool.and_eq_false_iff, beq_eq_false_iff_ne, ne_eq] at *
  omega
theorem lessB_ir (a : B) : lessB a a = false := by
  unfold lessB
  simp
theorem leastFrom_le : ∀ (l : List B) (x : B), lessB x (leastFrom x l) = false ∧ ∀ b ∈ l, lessB b (leastFrom x l) = false
  | [], x => ⟨lessB_ir x, fun b hb => by cases hb⟩
  | y :: r, x => by
    show lessB x (leastFrom (if lessB y x then y else x) r) = false ∧ _
    obtain ⟨h1, h2⟩ := leastFrom_le r (if lessB y x then y else x)
    cases hc : lessB y x with
    | true =>
      rw [hc] at h1 h2
      have h1 : lessB y (leastFrom y r) = false := h1
      have h2 : ∀ b ∈ r, lessB b (leastFrom y r) = false := h2
      refine ⟨lessB_tr h1 (lessB_as hc), fun b hb => ?_⟩
      show lessB b (leastFrom (if lessB y x then y else x) r) = false
      rw [hc]
      rcases List.mem_cons.1 hb with rfl | hb
      · exact h1
      · exact h2 b hb
    | false =>
      rw [hc] at h1 h2
      have h1 : lessB x (leastFrom x r) = false := h1
      have h2 : ∀ b ∈ r, lessB b (leastFrom x r) = false := h2
      refine ⟨h1, fun b hb => ?_⟩
      show lessB b (leastFrom (if lessB y x then y else x) r) = false
      rw [hc]
      rcases List.mem_cons.1 hb with rfl | hb
      · exact lessB_tr h1 hc
      · exact h2 b hb
theorem leastB_le {l : List B} {b : B} (hb : b ∈ l) : lessB b (leastB l).1 = false := by
  cases l with
  | nil => cases hb
  | cons x r =>
    show lessB b (leastFrom x r) = false
    rcases List.mem_cons.1 hb with rfl | hb
    · exact (leastFrom_le r b).1
    · exact (leastFrom_le r x).2 b hb
/-- What is won is won rightly. -/
theorem won_ok {mem : List Int} (hm : mem.Nodup) (h0 : ∀ x ∈ mem, 0 ≤ x) {l : List En} (hl : ∀ e ∈ l, BidOK mem e) {w : En} (hw : w ∈ wonL mem l) :
    w.aw ≥ 0 ∧ w.bids.length = mem.length ∧ ∀ o ∈ w.bids, ∀ v ∈ w.bids, v.1 = w.aw → lessB o v = false := by
  obtain ⟨e, he, rfl⟩ := List.mem_map.1 hw
  obtain ⟨hel, hwe⟩ := List.mem_filter.1 he
  have hb := hl e hel
  have hok := wonE_ok hwe
  have hmem := leastB_mem hok.2
  have haw : (awE mem e).aw = (leastB e.bids).1.1 := by unfold awE; rw [if_pos hwe]
  rw [haw, awE_bids]
  have hfull : fullB mem e.bids = true := by
    have h2 := hwe
    unfold wonE at h2
    rw [show decide (e.aw < 0) = true from decide_eq_true hok.1, hok.2] at h2
    exact h2
  refine ⟨h0 _ (hb.sub _ hmem), hb.full hm hfull, fun o ho v hv hva => ?_⟩
  have hvl : v = (leastB e.bids).1 := by
    have key : ∀ (l : List B), (l.map Prod.fst).Nodup → ∀ a ∈ l, ∀ b ∈ l, a.1 = b.1 → a = b := by
      intro l
      induction l with
      | nil => intro _ a ha; cases ha
      | cons x r ih =>
        intro hn a ha b hb hab
        rw [List.map_cons, List.nodup_cons] at hn
        rcases List.mem_cons.1 ha with ea | ma <;> rcases List.mem_cons.1 hb with eb | mb
        · exact ea.trans eb.symm
        · exact absurd (List.mem_map.2 ⟨b, mb, by rw [← hab, ea]⟩) hn.1
        · exact absurd (List.mem_map.2 ⟨a, ma, by rw [hab, eb]⟩) hn.1
        · exact ih hn.2 a ma b mb hab
    exact key _ hb.nd v hv _ hmem hva
  rw [hvl]
  exact leastB_le ho
end Go.Proofs.Ytkenimmellonjaa
