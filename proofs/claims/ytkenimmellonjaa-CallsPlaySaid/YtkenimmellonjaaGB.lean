/- The seat's texts, part 2: what single functions of the program compute; no statement of its own. -/
import Derived.Test.YtkenimmellonjaaGA
import Derived.Test.YtkenimmellonjaaTab
import Derived.Test.YtkenimmellonjaaFrD
import Derived.Test.YtkenimmellonjaaSp
import Derived.RangeFuncFrom
import Derived.Sort.MapsRangeIn
import Derived.Maps.RangeRun
import Derived.Maps.AppendAt
import Derived.WalkKit
import Derived.OwnWalkIn
import Derived.TacticsInMore
import Derived.RegionIn
import Derived.LoopNIn
import Derived.LoopIn
import Derived.RangeFuncBox
import Derived.Shelf.Abstract
/- Seat r2: what is awarded. -/
namespace Go.Proofs.Ytkenimmellonjaa
open Go.Pv Go.RowKit Go.Shelf
theorem mid_at {l : List En} {ms : List Int} {i : Nat} {x : En} (hx : l[i]? = some x) : ((l.take i).map (awE ms) ++ l.drop i)[i]? = some x := by
  have hi : i < l.length := (List.getElem?_eq_some_iff.1 hx).1
  rw [List.getElem?_append_right (by simp; omega)]
  simp only [List.length_map, List.length_take, Nat.min_eq_left (Nat.le_of_lt hi), Nat.sub_self, List.getElem?_drop, Nat.add_zero]
  exact hx
theorem mid_set {l : List En} {ms : List Int} {i : Nat} {x : En} (hx : l[i]? = some x) : ((l.take i).map (awE ms) ++ l.drop i).set i (awE ms x) = (l.take (i + 1)).map (awE ms) ++ l.drop (i + 1) := by
  have hi : i < l.length := (List.getElem?_eq_some_iff.1 hx).1
  rw [List.set_append_right _ _ (by simp; omega), List.take_add_one, hx]
  simp only [List.length_map, List.length_take, Nat.min_eq_left (Nat.le_of_lt hi), Nat.sub_self, List.map_append]
  have : l.drop i = x :: l.drop (i + 1) := by
    obtain ⟨y, h1, h2⟩ := at_i hi
    rw [hx] at h1; cases h1; exact h2
  rw [this]
  simp
theorem wonL_snoc {l : List En} {ms : List Int} {i : Nat} {x : En} (hx : l[i]? = some x) : wonL ms (l.take (i + 1)) = wonL ms (l.take i) ++ (match wonE ms x with | true => [awE ms x] | false => []) := by
  rw [List.take_add_one, hx]
  simp only [wonL, List.filter_append, List.map_append, Option.toList]
  cases h : wonE ms x <;> simp [h]
theorem awE_won {ms : List Int} {x : En} (h : wonE ms x = true) : setN (rowE x) 4 [DV.int .i64 (leastB x.bids).1.1] = rowE (awE ms x) := by
  rw [awE, if_pos h]; rfl
theorem awE_not {ms : List Int} {x : En} (h : wonE ms x = false) : awE ms x = x := by
  rw [awE, if_neg (by simp [h])]
theorem set_get {α : Type} {row : α → List DV} {l : List α} {i : Nat} {y x : α} (h : l[i]? = some x) : ((l.map row).set (0 + (i : Int).toNat) (row y))[0 + (i : Int).toNat]? = some (row y) := by
  rw [set_row]
  refine row_g ?_
  rw [List.getElem?_set]
  simp [(List.getElem?_eq_some_iff.1 h).1]
set_option maxRecDepth 100000 in
theorem award_cons (cnt fdr hop : Int) (mem : List Int) (hm : mem.length ≤ 100000) (e0 : En) (l0 : List En) (hl : l0.length + 1 ≤ 1000) (hb : ∀ e ∈ e0 :: l0, e.bids.length ≤ 100000) : Contract Try.prog G0 49 [awG cnt fdr hop mem (e0 :: l0)] [] (fun r t => ∃ c, l0.length + 1 ≤ c ∧ r = .tup [rgV cnt fdr hop mem (.slc (.g 0) 5 0 (l0.length + 1) c), .d (.list 5 (rowsE (wonL mem (e0 :: l0))))] ∧ t = [(0, .row 5 (rowsE ((e0 :: l0).map (awE mem))))]) := by
  refine run49 0 [] rfl rfl ?_
  conv => whnf
  refine .obj rfl ?_
  conv => whnf
  refine ⟨_, _, ⟨WkL.refl _, own_cons cnt fdr hop mem hm e0 l0 (by omega) hb⟩, fun res s1 h => ?_⟩
  obtain ⟨c, hc, rfl, rfl⟩ := h
  conv => whnf
  generalize hle : e0 :: l0 = l at hb
  have hll : l.length = l0.length + 1 := by rw [← hle]; rfl
  rw [← hll] at hc ⊢
  refine StopG.roundsS wk49 [] [1, 2, 4, 13, 14] (fun m env s => ∃ i : Nat, ∃ w, wonL mem (l.take i) = w ∧ i ≤ l.length ∧ m = l.length - i ∧ ((w = [] ∧ env = [(1, .ref (.g 0) 0), (2, .ref (.g 1) 0), (4, .d .nil), (13, .d (.int .i64 (l.length : Int))), (14, .d (.int .i64 (i : Int)))] ∧ s = [(0, .cells [.d (.int .i64 cnt), .d (.int .i64 fdr), .d (.int .i64 hop), .d (.list 1 (rowsI mem)), .slc (.g 2) 5 0 l.length c]), (1, .cells [.d (.int .i64 0), .d (.int .i64 0), .d (.int .i64 0), .d .nil, .d .nil]), (2, .row 5 (rowsE ((l.take i).map (awE mem) ++ l.drop i)))]) ∨ ∃ wc, w.length ≤ wc ∧ env = [(1, .ref (.g 0) 0), (2, .ref (.g 1) 0), (4, .slc (.g 2) 5 0 w.length wc), (13, .d (.int .i64 (l.length : Int))), (14, .d (.int .i64 (i : Int)))] ∧ s = [(0, .cells [.d (.int .i64 cnt), .d (.int .i64 fdr), .d (.int .i64 hop), .d (.list 1 (rowsI mem)), .slc (.g 3) 5 0 l.length c]), (1, .cells [.d (.int .i64 0), .d (.int .i64 0), .d (.int .i64 0), .d .nil, .d .nil]), (2, .row 5 (rowsE w)), (3, .row 5 (rowsE ((l.take i).map (awE mem) ++ l.drop i)))])) rfl ?_ ?_
  · conv => whnf
    exact ⟨_, 0, [], rfl, Nat.zero_le _, rfl, .inl ⟨rfl, rfl, rfl⟩⟩
  rintro m env s ⟨i, w, hw, hi, rfl, hout⟩
  rcases Nat.lt_or_ge i l.length with hil | hil
  · rcases hout with ⟨rfl, rfl, rfl⟩ | ⟨wc, hwc, rfl, rfl⟩
    · refine .go wk49 [] ?_
      conv => whnf
      refine bcase_intro (fun h => ?_) (fun h => ?_) <;> conv => whnf
      · refine ⟨⟨by omega, by omega⟩, ?_⟩
        conv => whnf
        obtain ⟨x, hx, hdrop⟩ := at_i hil
        have hrow := row_g (row := rowE) (mid_at (ms := mem) hx)
        have hxb := hb x (List.mem_of_getElem? hx)
        refine ⟨rowE x, hrow, rfl, ?_⟩
        conv => whnf
        refine .data [.d (.list 2 (rowsB x.bids))] _ ⟨WkL.refl _, rfl, least x.bids (by omega)⟩ ?_
        conv => whnf
        refine ⟨rowE x, hrow, rfl, ?_⟩
        conv => whnf
        refine ⟨rowE x, fun _ => hrow, rfl, ?_⟩
        conv => whnf
        refine .scal [.d (.list 1 (rowsI mem)), .d (.list 2 (rowsB x.bids))] _ (fun _ => ⟨.refl _, rfl, full mem (by omega) x.bids (by omega)⟩) ?_
        conv => whnf
        refine bcase_intro (fun hg => ?_) (fun hg => ?_) <;> conv => whnf
        · have hwon : wonE mem x = true := hg
          have e4 := awE_won hwon
          refine ⟨rowE x, hrow, ?_⟩
          conv => whnf
          refine ⟨rowE (awE mem x), (by rw [show (fun x_1 => DV.int IntKind.i64 (leastB x.bids).fst.fst :: x_1) [] = [DV.int .i64 (leastB x.bids).1.1] from rfl, e4]; exact set_get (mid_at hx)), rfl, ?_⟩
          rw [show (fun x_1 => DV.int IntKind.i64 (leastB x.bids).fst.fst :: x_1) [] = [DV.int .i64 (leastB x.bids).1.1] from rfl, e4]
          conv => whnf
          refine ⟨⟨?_, ?_⟩, ?_⟩
          · show (2 * 1 + 1024) * 56 ≤ 281474976710656; omega
          · show 1 ≤ _; omega
          conv => whnf
          intro c2 hc2
          conv => whnf
          rw [succ_i hil (by omega)]
          refine ⟨_, by omega, i + 1, [awE mem x], ?_, hil, rfl, .inr ⟨c2, hc2, rfl, ?_⟩⟩
          · rw [wonL_snoc hx, hw, hwon]; rfl
          · rw [← mid_set hx]
            exact congrArg (fun q => [(0, .cells [.d (.int .i64 cnt), .d (.int .i64 fdr), .d (.int .i64 hop), .d (.list 1 (rowsI mem)), .slc (.g 3) 5 0 l.length c]), (1, .cells [.d (.int .i64 0), .d (.int .i64 0), .d (.int .i64 0), .d .nil, .d .nil]), (2, .row 5 [rowE (awE mem x)]), (3, AB.row 5 q)]) (set_row (awE mem x))
        · have hwon : wonE mem x = false := hg
          rw [succ_i hil (by omega)]
          refine ⟨_, by omega, i + 1, [], ?_, hil, rfl, .inl ⟨rfl, rfl, ?_⟩⟩
          · rw [wonL_snoc hx, hw, hwon]; rfl
          · rw [← mid_set hx, awE_not hwon, set_same (mid_at hx)]
      · exact absurd hil (Nat.not_lt.2 (ge_of h))
    · refine .go wk49 [] ?_
      conv => whnf
      refine bcase_intro (fun h => ?_) (fun h => ?_) <;> conv => whnf
      · refine ⟨⟨by omega, by omega⟩, ?_⟩
        conv => whnf
        obtain ⟨x, hx, hdrop⟩ := at_i hil
        have hrow := row_g (row := rowE) (mid_at (ms := mem) hx)
        have hxb := hb x (List.mem_of_getElem? hx)
        refine ⟨rowE x, hrow, rfl, ?_⟩
        conv => whnf
        refine .data [.d (.list 2 (rowsB x.bids))] _ ⟨WkL.refl _, rfl, least x.bids (by omega)⟩ ?_
        conv => whnf
        refine ⟨rowE x, hrow, rfl, ?_⟩
        conv => whnf
        refine ⟨rowE x, fun _ => hrow, rfl, ?_⟩
        conv => whnf
        refine .scal [.d (.list 1 (rowsI mem)), .d (.list 2 (rowsB x.bids))] _ (fun _ => ⟨.refl _, rfl, full mem (by omega) x.bids (by omega)⟩) ?_
        conv => whnf
        refine bcase_intro (fun hg => ?_) (fun hg => ?_) <;> conv => whnf
        · have hwon : wonE mem x = true := hg
          have e4 := awE_won hwon
          refine ⟨rowE x, hrow, ?_⟩
          conv => whnf
          refine ⟨rowE (awE mem x), (by rw [show (fun x_1 => DV.int IntKind.i64 (leastB x.bids).fst.fst :: x_1) [] = [DV.int .i64 (leastB x.bids).1.1] from rfl, e4]; exact set_get (mid_at hx)), rfl, ?_⟩
          rw [show (fun x_1 => DV.int IntKind.i64 (leastB x.bids).fst.fst :: x_1) [] = [DV.int .i64 (leastB x.bids).1.1] from rfl, e4]
          conv => whnf
          have hwl : w.length ≤ 1001 := by
            rw [← hw]
            refine Nat.le_trans ?_ (show l.length ≤ 1001 by omega)
            rw [wonL, List.length_map]
            exact Nat.le_trans (List.length_filter_le _ _) (by simp; omega)
          have hrl := rowsE_len w
          refine ⟨by omega, ⟨?_, ?_⟩, ?_⟩
          · show (2 * (w.length + 1) + 1024) * 56 ≤ 281474976710656; omega
          · show w.length + 1 ≤ _; omega
          conv => whnf
          intro c2 hc2
          conv => whnf
          rw [succ_i hil (by omega), List.take_of_length_le (by omega)]
          refine ⟨_, by omega, i + 1, w ++ [awE mem x], ?_, hil, rfl, .inr ⟨c2, by simpa using hc2, ?_, ?_⟩⟩
          · rw [wonL_snoc hx, hw, hwon]
          · rw [List.length_append]; rfl
          · rw [← mid_set hx, show rowsE (w ++ [awE mem x]) = rowsE w ++ [rowE (awE mem x)] by simp [rowsE]]
            exact congrArg (fun q => [(0, .cells [.d (.int .i64 cnt), .d (.int .i64 fdr), .d (.int .i64 hop), .d (.list 1 (rowsI mem)), .slc (.g 3) 5 0 l.length c]), (1, .cells [.d (.int .i64 0), .d (.int .i64 0), .d (.int .i64 0), .d .nil, .d .nil]), (2, .row 5 (rowsE w ++ [rowE (awE mem x)])), (3, AB.row 5 q)]) (set_row (awE mem x))
        · have hwon : wonE mem x = false := hg
          rw [succ_i hil (by omega)]
          refine ⟨_, by omega, i + 1, w, ?_, hil, rfl, .inr ⟨wc, hwc, rfl, ?_⟩⟩
          · rw [wonL_snoc hx, hw, hwon, List.append_nil]
          · rw [← mid_set hx, awE_not hwon, set_same (mid_at hx)]
      · exact absurd hil (Nat.not_lt.2 (ge_of h))
  · refine .ghost (env' := [(1, .ref (.g 0) 0), (2, .ref (.g 1) 0), (4, .d (.list 5 (rowsE w))), (13, .d (.int .i64 (l.length : Int))), (14, .d (.int .i64 (i : Int)))]) (s' := [(0, .cells [.d (.int .i64 cnt), .d (.int .i64 fdr), .d (.int .i64 hop), .d (.list 1 (rowsI mem)), .slc (.g 2) 5 0 l.length c]), (1, .cells [.d (.int .i64 0), .d (.int .i64 0), .d (.int .i64 0), .d .nil, .d .nil]), (2, .row 5 (rowsE (l.map (awE mem))))]) ?_ (.go wk49 [] ?_)
    · have hil2 : i = l.length := by omega
      subst hil2
      have hrl := rowsE_len w
      rcases hout with ⟨rfl, rfl, rfl⟩ | ⟨wc, hwc, rfl, rfl⟩
      · rw [List.take_length, List.drop_length, List.append_nil]
        exact GV.wk 4 5
      · rw [List.take_length, List.drop_length, List.append_nil]
        refine GV.trans (GV.freeze 2 rfl (by simp) (by repeat' first | exact trivial | apply And.intro | decide | (simp; done) | omega) (by repeat' first | exact trivial | apply And.intro)) (GV.tidied [1, 2, 4, 13, 14] ?_)
        conv => whnf
        rw [List.drop_zero, List.take_of_length_le (by omega)]
        exact ⟨rfl, rfl⟩
    conv => whnf
    refine bcase_intro (fun h => ?_) (fun h => ?_) <;> conv => whnf
    · exact absurd (lt_of h) (Nat.not_lt.2 hil)
    have hil2 : i = l.length := by omega
    have hwb : ∀ e ∈ w, e.bids.length ≤ 100000 := by
      intro e he
      rw [← hw] at he
      obtain ⟨y, hy, rfl⟩ := List.mem_map.1 he
      have h1 := hb y (List.mem_of_mem_take (List.mem_filter.1 hy).1)
      rw [awE]; split <;> exact h1
    have hwl : w.length ≤ 1000 := by
      rw [← hw, wonL, List.length_map]
      refine Nat.le_trans (List.length_filter_le _ _) ?_
      simp; omega
    refine .data [.d (.list 5 (rowsE w))] _ ⟨WkL.refl _, rfl, entriesD w hwl hwb⟩ ?_
    conv => whnf
    rw [hil2, List.take_length] at hw
    exact ⟨c, hc, by rw [hw], rfl⟩
/-- As data. -/
theorem award (cnt fdr hop : Int) (mem : List Int) (hm : mem.length ≤ 100000) (l : List En) (hl : l.length ≤ 1000) (hb : ∀ e ∈ l, e.bids.length ≤ 100000) : Contract Try.prog G0 49 [awG cnt fdr hop mem l] [] (fun r t => r = .tup [awG cnt fdr hop mem (l.map (awE mem)), .d (.list 5 (rowsE (wonL mem l)))] ∧ t = []) := by
  cases l with
  | nil => exact award_nil cnt fdr hop mem hm
  | cons e0 l0 =>
    refine (award_cons cnt fdr hop mem hm e0 l0 (by simpa using hl) hb).told fun r t hr => ?_
    obtain ⟨c, hc, rfl, rfl⟩ := hr
    refine ⟨.tup [awG cnt fdr hop mem ((e0 :: l0).map (awE mem)), .d (.list 5 (rowsE (wonL mem (e0 :: l0))))], ?_, rfl, rfl, rfl⟩
    have hrl := rowsE_len ((e0 :: l0).map (awE mem))
    have hrl2 : ((e0 :: l0).map (awE mem)).length = l0.length + 1 := by simp
    refine GV.trans (GV.freeze 0 rfl (by simp) (by repeat' first | exact trivial | apply And.intro | decide | (simp; done) | omega) (by repeat' first | exact trivial | apply And.intro)) (GV.tidied [0] ?_)
    conv => whnf
    rw [List.drop_zero, List.take_of_length_le (by omega)]
    exact ⟨rfl, rfl⟩
end Go.Proofs.Ytkenimmellonjaa
/- Seat r2: whose it is. -/
namespace Go.Proofs.Ytkenimmellonjaa
open Go.Pv Go.RowKit Go.Shelf
/-- The latch of an entry. -/
def rowK (e : Int × Int × Int) : List DV := [.int .i64 e.1, .int .i64 e.2.1, .int .i64 e.2.2]
def rowsK (l : List (Int × Int × Int)) : List (List DV) := l.map rowK
theorem rowsK_len (l : List (Int × Int × Int)) : (rowsK l).length = l.length := by simp [rowsK]
def keyE (e : En) : Int × Int × Int := (e.fl, e.dr, e.gn)
def hisE (who : Int) (e : En) : Bool := bif decide (0 ≤ e.aw) then decide (e.aw = who) else false
def mineL (who : Int) (l : List En) : List (Int × Int × Int) := (l.filter (hisE who)).map keyE
theorem mineL_snoc {l : List En} {who : Int} {i : Nat} {x : En} (hx : l[i]? = some x) : mineL who (l.take (i + 1)) = mineL who (l.take i) ++ (match hisE who x with | true => [keyE x] | false => []) := by
  rw [List.take_add_one, hx]
  simp only [mineL, List.filter_append, List.map_append, Option.toList]
  cases h : hisE who x <;> simp [h]
theorem mineL_len (who : Int) (l : List En) : (mineL who l).length ≤ l.length := by
  rw [mineL, List.length_map]; exact List.length_filter_le _ _
set_option maxRecDepth 100000 in
theorem mine (cnt fdr hop : Int) (mem : List Int) (l : List En) (hl : l.length ≤ 1000) (who : Int) : Contract Try.prog G0 50 [awG cnt fdr hop mem l, .d (.int .i64 who)] [] (fun r t => r = .d (.list 3 (rowsK (mineL who l))) ∧ t = []) := by
  have hlen := rowsE_len l
  refine Contract.as_list (by decide) ?_
  refine run50 0 [] rfl rfl ?_
  conv => whnf
  refine StopG.rounds wk50 [] [1, 5, 9, 10, 11] (fun m env s => ∃ i : Nat, ∃ w, mineL who (l.take i) = w ∧ i ≤ l.length ∧ m = l.length - i ∧ ((w = [] ∧ env = [(1, .d (.int .i64 who)), (5, .d .nil), (9, .d (.list 5 (rowsE l))), (10, .d (.int .i64 ((rowsE l).length : Int))), (11, .d (.int .i64 (i : Int)))] ∧ s = []) ∨ ∃ wc, w.length ≤ wc ∧ env = [(1, .d (.int .i64 who)), (5, .slc (.g 0) 3 0 w.length wc), (9, .d (.list 5 (rowsE l))), (10, .d (.int .i64 ((rowsE l).length : Int))), (11, .d (.int .i64 (i : Int)))] ∧ s = [(0, .row 3 (rowsK w))])) rfl ?_ ?_
  · conv => whnf
    exact ⟨_, 0, [], rfl, Nat.zero_le _, rfl, .inl ⟨rfl, rfl, rfl⟩⟩
  rintro m env s ⟨i, w, hw, hi, rfl, hout⟩
  rcases hout with ⟨rfl, rfl, rfl⟩ | ⟨wc, hwc, rfl, rfl⟩
  · conv => whnf
    refine bcase_intro (fun h => ?_) (fun h => ?_) <;> conv => whnf
    · have hil := lt_of h
      rw [hlen] at hil
      obtain ⟨x, hx, hdrop⟩ := at_i hil
      refine ⟨rowE x, ⟨by omega, row_i hx⟩, ?_⟩
      conv => whnf
      refine bcase_intro (fun hg => ?_) (fun hg => ?_) <;> conv => whnf
      · have hwon : hisE who x = true := hg
        refine ⟨⟨?_, ?_⟩, ?_⟩
        · show (2 * 1 + 1024) * 24 ≤ 281474976710656; omega
        · show 1 ≤ _; omega
        conv => whnf
        intro c2 hc2
        conv => whnf
        rw [succ_i hil (by omega)]
        refine ⟨_, by omega, i + 1, [keyE x], ?_, hil, rfl, .inr ⟨c2, hc2, rfl, rfl⟩⟩
        rw [mineL_snoc hx, hw, hwon]; rfl
      · have hwon : hisE who x = false := hg
        rw [succ_i hil (by omega)]
        refine ⟨_, by omega, i + 1, [], ?_, hil, rfl, .inl ⟨rfl, rfl, rfl⟩⟩
        rw [mineL_snoc hx, hw, hwon]; rfl
    · have hil := ge_of h
      rw [hlen] at hil
      rw [show i = l.length by omega, List.take_length] at hw
      rw [hw]
      exact .inl ⟨.inl rfl, rfl, rfl⟩
  · conv => whnf
    refine bcase_intro (fun h => ?_) (fun h => ?_) <;> conv => whnf
    · have hil := lt_of h
      rw [hlen] at hil
      obtain ⟨x, hx, hdrop⟩ := at_i hil
      refine ⟨rowE x, ⟨by omega, row_i hx⟩, ?_⟩
      conv => whnf
      refine bcase_intro (fun hg => ?_) (fun hg => ?_) <;> conv => whnf
      · have hwon : hisE who x = true := hg
        have hwl : w.length ≤ 1000 := by
          rw [← hw]
          refine Nat.le_trans (mineL_len _ _) ?_
          simp; omega
        have hrl := rowsK_len w
        refine ⟨by omega, ⟨?_, ?_⟩, ?_⟩
        · show (2 * (w.length + 1) + 1024) * 24 ≤ 281474976710656; omega
        · show w.length + 1 ≤ _; omega
        conv => whnf
        intro c2 hc2
        conv => whnf
        rw [succ_i hil (by omega), List.take_of_length_le (by omega)]
        refine ⟨_, by omega, i + 1, w ++ [keyE x], ?_, hil, rfl, .inr ⟨c2, by simpa using hc2, ?_, ?_⟩⟩
        · rw [mineL_snoc hx, hw, hwon]
        · rw [List.length_append]; rfl
        · rw [show rowsK (w ++ [keyE x]) = rowsK w ++ [rowK (keyE x)] by simp [rowsK]]; rfl
      · have hwon : hisE who x = false := hg
        rw [succ_i hil (by omega)]
        refine ⟨_, by omega, i + 1, w, ?_, hil, rfl, .inr ⟨wc, hwc, rfl, rfl⟩⟩
        rw [mineL_snoc hx, hw, hwon, List.append_nil]
    · have hil := ge_of h
      rw [hlen] at hil
      rw [show i = l.length by omega, List.take_length] at hw
      rw [hw]
      exact .inr ⟨wc, by rw [rowsK_len]; exact hwc, by rw [rowsK_len], rfl⟩
end Go.Proofs.Ytkenimmellonjaa
/- Seat r2: latches and calls told apart. -/
namespace Go.Proofs.Ytkenimmellonjaa
open Go.Pv Go.RowKit Go.Shelf
abbrev calV (fl dr : Int) : AV := .agg [.d (.int .i64 fl), .d (.int .i64 dr)]
abbrev latV (fl dr gn : Int) : AV := .agg [.d (.int .i64 fl), .d (.int .i64 dr), .d (.int .i64 gn)]
set_option maxRecDepth 100000 in
theorem sameCall (a b a' b' : Int) : Contract Try.prog G0 57 [calV a b, calV a' b'] [] (fun r t => r = .d (.bool (bif a == a' then b == b' else false)) ∧ t = []) := by
  refine run57 0 [] rfl rfl ?_
  conv => whnf
  exact ⟨rfl, rfl⟩
set_option maxRecDepth 100000 in
theorem sameLatch (a b c a' b' c' : Int) : Contract Try.prog G0 58 [latV a b c, latV a' b' c'] [] (fun r t => r = .d (.bool (bif (bif a == a' then b == b' else false) then c == c' else false)) ∧ t = []) := by
  refine run58 0 [] rfl rfl ?_
  conv => whnf
  refine .scal [calV a b, calV a' b'] _ ⟨.refl _, rfl, sameCall a b a' b'⟩ ?_
  conv => whnf
  exact ⟨rfl, rfl⟩
set_option maxRecDepth 100000 in
theorem lessCall (a b a' b' : Int) : Contract Try.prog G0 59 [calV a b, calV a' b'] [] (fun r t => r = .d (.bool (bif decide (a < a') then true else bif a == a' then decide (b < b') else false)) ∧ t = []) := by
  refine run59 0 [] rfl rfl ?_
  conv => whnf
  exact ⟨rfl, rfl⟩
def carB (x : Int) : Bool := bif decide (x ≥ 0) then decide (x < 16) else false
set_option maxRecDepth 100000 in
theorem car107 (x : Int) : Contract Try.prog G0 107 [.d (.int .i64 x)] [] (fun r t => r = .d (.bool (carB x)) ∧ t = []) := by
  refine run107 0 [] rfl rfl ?_
  conv => whnf
  exact ⟨rfl, rfl⟩
def epoB (cnt fdr : Int) : Bool := bif bif bif decide (cnt ≥ 1) then decide (cnt ≤ 4294967295) else false then decide (fdr ≥ 0) else false then decide (fdr < 16) else false
set_option maxRecDepth 100000 in
theorem epoch106 (cnt fdr : Int) : Contract Try.prog G0 106 [.agg [.d (.int .i64 cnt), .d (.int .i64 fdr)]] [] (fun r t => r = .d (.bool (epoB cnt fdr)) ∧ t = []) := by
  refine run106 0 [] rfl rfl ?_
  conv => whnf
  exact ⟨rfl, rfl⟩
def sameK (x y : Int × Int × Int) : Bool := bif (bif x.1 == y.1 then x.2.1 == y.2.1 else false) then x.2.2 == y.2.2 else false
def hasK (l : List (Int × Int × Int)) (y : Int × Int × Int) : Bool := l.any fun x => sameK x y
set_option maxRecDepth 100000 in
theorem hasLatch (l : List (Int × Int × Int)) (hl : l.length ≤ 100000) (a b c : Int) : Contract Try.prog G0 45 [.d (.list 3 (rowsK l)), latV a b c] [] (fun r t => r = .d (.bool (hasK l (a, b, c))) ∧ t = []) := by
  have hlen := rowsK_len l
  refine run45 0 [] rfl rfl ?_
  conv => whnf
  refine StopG.rounds wk45 [] [0, 3, 5] (fun m env s => ∃ i : Nat, i ≤ l.length ∧ (hasK l (a, b, c) = hasK (l.drop i) (a, b, c)) ∧ m = l.length - i ∧ env = [(0, .d (.list 3 (rowsK l))), (3, .ref (.g 0) 0), (5, .d (.int .i64 (i : Int)))] ∧ s = [(0, .cells [.d (.int .i64 a), .d (.int .i64 b), .d (.int .i64 c)])]) rfl ?_ ?_
  · conv => whnf
    exact ⟨_, 0, Nat.zero_le _, rfl, rfl, rfl, rfl⟩
  rintro m env s ⟨i, hi, hh, rfl, rfl, rfl⟩
  conv => whnf
  refine bcase_intro (fun h => ?_) (fun h => ?_) <;> conv => whnf
  · have hil := lt_of h
    rw [hlen] at hil
    obtain ⟨x, hx, hdrop⟩ := at_i hil
    refine ⟨rowK x, ⟨by omega, row_i hx⟩, ?_⟩
    conv => whnf
    refine .scal [latV x.1 x.2.1 x.2.2, latV a b c] _ ⟨.refl _, rfl, sameLatch _ _ _ _ _ _⟩ ?_
    conv => whnf
    rw [hdrop] at hh
    refine bcase_intro (fun hg => ?_) (fun hg => ?_) <;> conv => whnf
    · have hs : sameK x (a, b, c) = true := hg
      rw [hh, hasK, List.any_cons, hs]
      exact ⟨rfl, rfl⟩
    · have hs : sameK x (a, b, c) = false := hg
      rw [succ_i hil (by omega)]
      refine ⟨_, by omega, i + 1, hil, ?_, rfl, rfl, rfl⟩
      rw [hh, hasK, List.any_cons, hs, Bool.false_or]; rfl
  · have hil := ge_of h
    rw [hlen] at hil
    rw [hh, show l.drop i = [] from List.drop_of_length_le hil]
    exact ⟨rfl, rfl⟩
end Go.Proofs.Ytkenimmellonjaa
/- Seat r2: the values of a map, one by one, in whatever order. -/
namespace Go.Proofs.Ytkenimmellonjaa
open Go.RowKit Go.Maps
open Go.ChangeMaps (setBlock)
def encK (k : Int × Int × Int) : Value := .agg #[.int .i64 k.1, .int .i64 k.2.1, .int .i64 k.2.2]
theorem encK_inj {a b : Int × Int × Int} (h : encK a = encK b) : a = b := by
  simp [encK] at h
  exact Prod.ext h.1 (Prod.ext h.2.1 h.2.2)
section
variable {F : Fence} {n : Nat} {P : Program} {w : World} {ops : Array Oper} {rest : List Oper} {o : Oper} {a : Act} {Q : Exit → Act → World → Prop}
theorem range_raw (hg : o.guard = none) (m : Operand) (t : TypeId) (hop : o.op = Op.range t m) (k e : TypeId) (ht : P.underlying t = some (.map k e)) (b : Nat) (es : Array MapEntry) (clock : Nat) (hm : a.eval m = .map (some b)) (hb : w.heap[b]? = some (.map es clock))
    (hK : wpListIn F n P ops Q rest (a.put o.dst (.pointer (some ⟨w.heap.size, 0, none⟩))) (w.alloc (.mapIter (some b) clock #[] clock))) : wpListIn F n P ops Q (o :: rest) a w := by
  refine wpListIn_plain hg fun K' hK' => ?_
  have hrun : (Instr.range t (.map (some b))).run P w = .ok (.pointer (some ⟨w.heap.size, 0, none⟩)) (w.alloc (.mapIter (some b) clock #[] clock)) := by
    simp [Instr.range, Sem.run, Sem.run_bind, run_underlying ht, getObj, hb, Result.andThen, newObj]
  unfold Oper.wpIn
  refine ⟨?_, ?_⟩
  · simp [Oper.about, hop]
  · rw [Oper.semAt_plain F _ _ (by rw [hop]; intro c hc'; cases hc')]
    simp [execOp, hop, hm, hrun, Result.andThen]
    exact hK' _ _ hK
/-- The world itself, or with one draw more. -/
def Drawn (w w1 : World) : Prop := w1 = w ∨ w1 = w.drew
theorem next_raw (hg : o.guard = none) (it : Operand) (hop : o.op = Op.next it false) (b r since c0 : Nat) (seen : Array Nat) (es : Array MapEntry) (clock : Nat) (hit : a.eval it = .pointer (some ⟨r, 0, none⟩))
    (hr : w.heap[r]? = some (.mapIter (some b) since seen c0)) (hb : w.heap[b]? = some (.map es clock)) (hold : ∀ x ∈ es.toList, x.born < since) (hsc : since ≤ c0)
    (hDone : (∀ e ∈ es, e.born ∈ seen) → wpListIn F n P ops Q rest (a.put o.dst (.tuple #[.bool false])) w)
    (hMore : ∀ e ∈ es, ¬ e.born ∈ seen → ∀ w1, Drawn w w1 → wpListIn F n P ops Q rest (a.put o.dst (.tuple #[.bool true, e.key, e.val])) (setBlock w1 r (.mapIter (some b) since (seen.push e.born) clock))) :
    wpListIn F n P ops Q (o :: rest) a w := by
  refine wpListIn_plain hg fun K' hK' => ?_
  unfold Oper.wpIn
  refine ⟨by simp [Oper.about, hop], ?_⟩
  rw [Oper.semAt_plain F _ _ (by rw [hop]; intro c hc'; cases hc')]
  rcases run_next_at (P := P) w o.type r b since c0 seen es clock hr hb hold hsc with ⟨h0, hrun⟩ | ⟨e, he, w1, hw1, hrun⟩
  · simp [execOp, hop, hit, hrun, Result.andThen]
    refine hK' _ _ (hDone fun e he => ?_)
    have h1 : leftOf es seen = #[] := Array.eq_empty_of_size_eq_zero h0
    unfold leftOf at h1
    rw [Array.filter_eq_empty_iff] at h1
    simpa using h1 e he
  · simp [execOp, hop, hit, hrun, Result.andThen]
    unfold leftOf at he
    have he2 := Array.mem_filter.1 (Array.mem_toList_iff.1 he)
    exact hK' _ _ (hMore e he2.1 (by simpa using he2.2) w1 hw1)
theorem entry_raw (hg : o.guard = none) (it : Operand) (hop : o.op = Op.entry it) (b r since : Nat) (seen : Array Nat) (es : Array MapEntry) (clock : Nat) (e : MapEntry) (hit : a.eval it = .pointer (some ⟨r, 0, none⟩))
    (hr : w.heap[r]? = some (.mapIter (some b) since (seen.push e.born) clock)) (hb : w.heap[b]? = some (.map es clock)) (he : e ∈ es.toList) (hn : (es.toList.map (·.born)).Nodup)
    (hK : wpListIn F n P ops Q rest (a.put o.dst (.tuple #[e.key, e.val])) w) :
    wpListIn F n P ops Q (o :: rest) a w := by
  refine wpListIn_plain hg fun K' hK' => ?_
  unfold Oper.wpIn
  refine ⟨by simp [Oper.about, hop], ?_⟩
  rw [Oper.semAt_plain F _ _ (by rw [hop]; intro c hc'; cases hc')]
  simp [execOp, hop, hit, run_entry_at (P := P) w r b since seen es clock e hr hb he hn, Result.andThen]
  exact hK' _ _ hK
end
def seenAt (W : World) (r : Nat) : Nat := match W.heap[r]? with
  | some (.mapIter _ _ seen _) => seen.size
  | _ => 0
/-- A map's walk under way: nothing is laid into it; what has come. -/
structure Ranging (W : World) (b r : Nat) (es : Array MapEntry) (clock : Nat) (done : List MapEntry) (seen : Array Nat) (c0 : Nat) : Prop where
  map : W.heap[b]? = some (.map es clock)
  iter : W.heap[r]? = some (.mapIter (some b) clock seen c0)
  le : clock ≤ c0
  sub : ∀ e ∈ done, e ∈ es.toList
  nd : (done.map (·.born)).Nodup
  born : seen.toList = done.map (·.born)
theorem nodup_of_map {α β : Type} {f : α → β} : ∀ {l : List α}, (l.map f).Nodup → l.Nodup
  | [], _ => .nil
  | a :: r, h => by
    rw [List.map_cons, List.nodup_cons] at h
    exact List.nodup_cons.2 ⟨fun ha => h.1 (List.mem_map_of_mem ha), nodup_of_map h.2⟩
theorem nd_leV : ∀ {a b : List Nat}, a.Nodup → (∀ x ∈ a, x ∈ b) → a.length ≤ b.length
  | [], _, _, _ => Nat.zero_le _
  | x :: r, b, h, hs => by
    have hx := hs x (List.mem_cons_self ..)
    have h2 := nd_leV (a := r) (b := b.erase x) (List.nodup_cons.1 h).2 fun y hy => (List.mem_erase_of_ne (show y ≠ x from fun e => (List.nodup_cons.1 h).1 (by rw [← e]; exact hy))).2 (hs y (List.mem_cons_of_mem _ hy))
    rw [List.length_erase_of_mem hx] at h2
    have := List.length_pos_of_mem hx
    rw [List.length_cons]
    omega
theorem Ranging.len {W : World} {b r clock c0 : Nat} {es : Array MapEntry} {done : List MapEntry} {seen : Array Nat} (h : Ranging W b r es clock done seen c0) : done.length ≤ es.size := by
  have := nd_leV h.nd (b := es.toList.map (·.born)) fun x hx => by
    obtain ⟨e, he, rfl⟩ := List.mem_map.1 hx
    exact List.mem_map_of_mem (h.sub e he)
  simpa using this
theorem Ranging.step {W W' : World} {b r clock c0 : Nat} {es : Array MapEntry} {done : List MapEntry} {seen : Array Nat} (h : Ranging W b r es clock done seen c0) {e : MapEntry} (he : e ∈ es) (hs : ¬ e.born ∈ seen) (hd : Drawn W W') :
    Ranging (setBlock W' r (.mapIter (some b) clock (seen.push e.born) clock)) b r es clock (done ++ [e]) (seen.push e.born) clock := by
  have hrb : r ≠ b := fun q => by have h1 := h.iter; rw [q, h.map] at h1; cases h1
  have hh : W'.heap = W.heap := by rcases hd with rfl | rfl <;> rfl
  have hlt := (Array.getElem?_eq_some_iff.1 h.iter).1
  refine ⟨?_, ?_, Nat.le_refl _, fun x hx => ?_, ?_, ?_⟩
  · show (W'.heap.setIfInBounds r _)[b]? = _
    rw [Array.getElem?_setIfInBounds_ne hrb, hh]; exact h.map
  · show (W'.heap.setIfInBounds r _)[r]? = _
    rw [Array.getElem?_setIfInBounds_self_of_lt (by rw [hh]; exact hlt)]
  · rcases List.mem_append.1 hx with hx | hx
    · exact h.sub x hx
    · rw [List.mem_singleton.1 hx]; simpa using he
  · rw [List.map_append, List.nodup_append]
    refine ⟨h.nd, by simp, fun x hx y hy => ?_⟩
    rw [List.map_singleton, List.mem_singleton] at hy
    subst hy
    intro q
    refine hs ?_
    rw [← Array.mem_toList_iff, h.born, ← q]; exact hx
  · rw [Array.toList_push, h.born, List.map_append]; rfl
theorem Ranging.grown {W : World} {b r clock c0 : Nat} {es : Array MapEntry} {done : List MapEntry} {seen : Array Nat} (h : Ranging W b r es clock done seen c0) {W' : World} (hd : Drawn W W') (o : Obj) : W.grownBy (setBlock W' r o) (some r) := by
  have hh : W'.heap = W.heap ∧ W'.os = W.os ∧ W'.output = W.output ∧ W'.tape = W.tape := by rcases hd with rfl | rfl <;> exact ⟨rfl, rfl, rfl, rfl⟩
  refine ⟨hh.2.1, hh.2.2.2, hh.2.2.1, ?_, fun k _ hk => ?_⟩
  · show W.heap.size ≤ (W'.heap.setIfInBounds r o).size
    rw [Array.size_setIfInBounds, hh.1]; exact Nat.le_refl _
  · show (W'.heap.setIfInBounds r o)[k]? = _
    rw [Array.getElem?_setIfInBounds_ne (fun q => hk (by rw [q])), hh.1]
theorem Ranging.alloc {W : World} {b r clock c0 : Nat} {es : Array MapEntry} {done : List MapEntry} {seen : Array Nat} (h : Ranging W b r es clock done seen c0) (o : Obj) : Ranging (W.alloc o) b r es clock done seen c0 :=
  ⟨(Below.heap_alloc W o b (Array.getElem?_eq_some_iff.1 h.map).1).trans h.map, (Below.heap_alloc W o r (Array.getElem?_eq_some_iff.1 h.iter).1).trans h.iter, h.le, h.sub, h.nd, h.born⟩
theorem Ranging.walks {W W' : World} {b r clock c0 : Nat} {es : Array MapEntry} {done : List MapEntry} {seen : Array Nat} (h : Ranging W b r es clock done seen c0) (hk : KeepsWalks W W') : Ranging W' b r es clock done seen c0 :=
  ⟨hk.same _ _ h.map rfl, hk.same _ _ h.iter rfl, h.le, h.sub, h.nd, h.born⟩
theorem Ranging.seen {W : World} {b r clock c0 : Nat} {es : Array MapEntry} {done : List MapEntry} {seen : Array Nat} (h : Ranging W b r es clock done seen c0) : seenAt W r = done.length := by
  have h1 := congrArg List.length h.born
  unfold seenAt
  rw [h.iter]
  simpa using h1
theorem Ranging.all {W : World} {b r clock c0 : Nat} {es : Array MapEntry} {done : List MapEntry} {seen : Array Nat} (h : Ranging W b r es clock done seen c0) (hn : (es.toList.map (·.born)).Nodup) (hd : ∀ e ∈ es, e.born ∈ seen) : done.Perm es.toList := by
  have hnd := nodup_of_map hn
  refine (List.perm_ext_iff_of_nodup (nodup_of_map h.nd) hnd).2 fun e => ⟨h.sub e, fun he => ?_⟩
  have h1 := hd e (by simpa using he)
  rw [← Array.mem_toList_iff, h.born] at h1
  obtain ⟨e', he', hb⟩ := List.mem_map.1 h1
  have := born_inj hn he (h.sub e' he') hb.symm
  exact this ▸ he'
set_option maxRecDepth 100000 in
set_option maxHeartbeats 1000000 in
theorem values1 (F : Fence) (n : Nat) (h104 : F.fn 104) (hro : F.round = none) (hn : 1 ≤ n) (l Bm b : Nat) (es : Array MapEntry) (clock : Nat) (hold : ∀ x ∈ es.toList, x.born < clock) (hval : ∀ x ∈ es.toList, ∃ k, x.val = encK k) (hnd : (es.toList.map (·.born)).Nodup) (J Jx : List (Int × Int × Int) → World → Prop)
    (hY : ∀ pre x W, J pre W → pre.length < es.size → YieldAt F (n - 1) Try.prog l #[encK x] W fun e W' => (e = .returned (.bool true) ∧ J (pre ++ [x]) W' ∧ KeepsWalks W W') ∨ (e = .returned (.bool false) ∧ Jx (pre ++ [x]) W'))
    (W : World) (hJ : AbidesFrom W.heap.size J) (hm : W.cell? ⟨Bm, 0, none⟩ = some (.map (some b))) (hb : W.heap[b]? = some (.map es clock)) (h0 : J [] W) :
    CallsIn F n Try.prog 104 #[.func (.yield l) #[] #[], .pointer (some ⟨Bm, 0, none⟩)] W fun e W' => (∃ v, e = .returned v) ∧ ((∃ ss : List (Int × Int × Int), (ss.map encK).Perm (es.toList.map (·.val)) ∧ J ss W') ∨ ∃ pre, Jx pre W') := by
  refine callsIn_of_wp Try.func104 rfl h104 ?_ hro
  simp only [Try.ntmps104, List.size_toArray, List.length_cons, List.length_nil, Nat.reduceAdd, Nat.reduceSub, Array.replicate_succ, Array.replicate_zero, List.push_toArray, List.append_toArray, List.nil_append, List.cons_append]
  have hbl := (Array.getElem?_eq_some_iff.1 hb).1
  gi_wp2_with (first
    | (gi_at_range; refine range_raw rfl _ 31 rfl 36 38 Try.underlying31 b es clock rfl hb ?_)
    | gi_in)
  go_frame
  gi_loopw [4] (fun _ wr => ∃ (done : List MapEntry) (seen : Array Nat) (c0 : Nat) (ss : List (Int × Int × Int)), Ranging wr b W.heap.size es clock done seen c0 ∧ ss.map encK = done.map (·.val) ∧ J ss wr)
    (fun _ wr => es.size - seenAt wr W.heap.size)
  case atStart =>
    exact ⟨[], #[], clock, [], ⟨(Below.heap_alloc W _ b hbl).trans hb, World.alloc_heap_new W _, Nat.le_refl _, by simp, by simp, by simp⟩, rfl, hJ [] W _ none h0 (World.grownBy_alloc W _ none) (fun r e => by cases e)⟩
  case round =>
    obtain ⟨done, seen, c0, ss, hrg, hss, hJs⟩ := hrel
    gi_wp2_with (first
      | (gi_at_next; refine next_raw rfl _ rfl b W.heap.size clock c0 seen es clock rfl hrg.iter hrg.map hold hrg.le ?_ ?_)
      | gi_in)
    · intro hall
      gi_wp2
      go_end0
      refine ⟨⟨_, rfl⟩, .inl ⟨ss, ?_, hJs⟩⟩
      rw [hss]
      exact (hrg.all hnd hall).map _
    · intro e he hes w1 hw1
      obtain ⟨k, hk⟩ := hval e (by simpa using he)
      have hrg2 := hrg.step he hes hw1
      have hg2 := hrg.grown hw1 (.mapIter (some b) clock (seen.push e.born) clock)
      have hJ2 := hJ ss wr _ (some W.heap.size) hJs hg2 (fun r q => by cases q; exact ⟨Nat.le_refl _, _, hrg.iter, rfl⟩)
      have hen := run_entry_at (P := Try.prog) _ W.heap.size b clock seen es clock e hrg2.iter hrg2.map (by simpa using he) hnd
      clear hg2
      generalize setBlock w1 W.heap.size (.mapIter (some b) clock (seen.push e.born) clock) = w2 at hrg2 hJ2 hen
      rw [hk] at hen
      rw [hk]
      unfold encK at hen
      unfold encK
      have hlen : ss.length < es.size := by
        have h1 := hrg2.len
        have h2 := congrArg List.length hss
        simp only [List.length_map, List.length_append, List.length_cons, List.length_nil] at h1 h2
        omega
      have hJ3 := hJ ss w2 _ none hJ2 (World.grownBy_alloc w2 (.cells #[.int .i64 k.1, .int .i64 k.2.1, .int .i64 k.2.2] 38) none) (fun r e => by cases e)
      have hrg3 := hrg2.alloc (.cells #[.int .i64 k.1, .int .i64 k.2.1, .int .i64 k.2.2] 38)
      obtain ⟨fn, tmps, assign, body, hy, hR⟩ := hY ss k _ hJ3 hlen
      unfold encK at hy
      gi_wp2
      refine hR.mono ?_
      rintro e' W3 (⟨rfl, hJ4, hk4⟩ | ⟨rfl, hJ4⟩)
      · gi_wp2
        have hrg4 := hrg3.walks hk4
        go_roundw
        case rel => exact ⟨done ++ [e], _, _, ss ++ [k], hrg4, by rw [List.map_append, List.map_append, hss, List.map_singleton, List.map_singleton, hk], hJ4⟩
        case measure =>
          rw [hrg4.seen, hrg.seen]
          have h1 := hrg4.len
          simp only [List.length_append, List.length_cons, List.length_nil] at h1 ⊢
          omega
      · gi_wp2
        refine bodyPost_ret (results_none rfl _ _ _) rfl ?_
        exact ⟨⟨_, rfl⟩, .inr ⟨_, hJ4⟩⟩
/-- What maps.Values hands back, as an iterator. -/
theorem values_stops (F : Fence) (n : Nat) (h104 : F.fn 104) (hro : F.round = none) (hn : 1 ≤ n) (Bm b : Nat) (es : Array MapEntry) (clock : Nat) (hold : ∀ x ∈ es.toList, x.born < clock) (hval : ∀ x ∈ es.toList, ∃ k, x.val = encK k) (hnd : (es.toList.map (·.born)).Nodup)
    (w : World) (hBm : Bm < w.heap.size) (hm : w.cell? ⟨Bm, 0, none⟩ = some (.map (some b))) (hb : w.heap[b]? = some (.map es clock)) :
    SeqStopsK F n Try.prog 104 #[.pointer (some ⟨Bm, 0, none⟩)] (fun x => #[encK x]) KeepsWalks (fun ss => (ss.map encK).Perm (es.toList.map (·.val))) (fun _ => True) es.size w := fun l J Jx W hW hJ _ hY h0 => by
  refine (values1 F n h104 hro hn l Bm b es clock hold hval hnd J Jx hY W hJ ((hW.cell (p := ⟨Bm, 0, none⟩) hBm).trans hm) ((hW.block b (Array.getElem?_eq_some_iff.1 hb).1).trans hb) h0).mono ?_
  rintro e W' ⟨hv, ⟨ss, hs, hj⟩ | ⟨pre, hj⟩⟩
  · exact ⟨hv, .inl ⟨ss, hs, hj⟩⟩
  · exact ⟨hv, .inr ⟨pre, trivial, hj⟩⟩
end Go.Proofs.Ytkenimmellonjaa
/- Seat r2: a loop over an iterator whose variable lies in a box of its own each round; what has come, as a row. -/
namespace Go.Proofs.Ytkenimmellonjaa
open Go.RowKit Go.Maps Go.Shelf
section
variable {F : Fence} {n : Nat} {P : Program}
/-- The loop over an iterator that never is left early; the round's own variable is laid anew each round. -/
theorem rangeFunc_box {α : Type} {g : Operand} {ps : Array Tmp} {assign body : Code} {Q : Exit → Act → World → Prop} {a : Act} {w : World}
    (hro : F.round = none) (h1 : 1 ≤ n) {gf : Nat} {lb : Array Value} (hg : a.eval g = .func (.func gf) #[] lb) (hFg : F.fn gf) (eg : ∀ args w, (callFunc gf args).run P w = .ok (.enter gf args) w)
    {encs : α → Array Value} {S Sp : List α → Prop} {N : Nat} (hseq : SeqStopsK F (n - 1) P gf lb encs KeepsWalks S Sp N w) (hps : ∀ x, (encs x).size = ps.size)
    (I : List α → World → Prop) (hI : OwnFrom w.heap.size I) (h0 : I [] w) (Im : List α × α × Act → World → Prop) (hIm : OwnFrom w.heap.size Im)
    (hassign : ∀ (l : Nat) (pre : List α) (x : α) (W : World), I pre W → pre.length < N →
      assign.wpIn (F.inRound l) (n - 1 - 1) P (Exit.then (fun a₁ W₁ => KeepsOthers W W₁ ∧ Im (pre, x, a₁) W₁) (fun _ _ _ => False)) { tmps := (ps.zip (encs x)).foldl (fun t (p, v) => t.setIfInBounds p v) a.tmps, defers := [] } W)
    (hbody : ∀ (l : Nat) (pre : List α) (x : α) (a₁ : Act) (W : World), Im (pre, x, a₁) W → body.wpIn (F.inRound l) (n - 1 - 1) P (fun e _ W' => e = .normal ∧ KeepsOthers W W' ∧ I (pre ++ [x]) W') a₁ W)
    (hdone : ∀ (D : Nat) (xs : List α) (W : World), w.heap.size ≤ D → S xs → I xs W → W.heap[D]? = some (.deferred (some [])) → Q .normal { a with defers := { target := .collected D, args := #[] } :: a.defers } W) :
    (Code.rangeFunc g ps assign body).wpIn F n P Q a w := by
  refine wpIn_rangeFunc fun fn hfn => ?_
  rw [hro]
  obtain ⟨rec, hrec⟩ : ∃ rec : LoopState → Option Code → Loop, ∀ st pe, rec st pe = { state := st, pending := pe, fn, tmps := a.tmps, params := ps, assign, body, defers := w.heap.size } := ⟨_, fun _ _ => rfl⟩
  obtain ⟨W1, hW1⟩ : ∃ W1, (w.alloc (.deferred (some []))).alloc (.loop (rec .ready none)) = W1 := ⟨_, rfl⟩
  have e1 : W1.heap[w.heap.size + 1]? = some (.loop (rec .ready none)) := by
    subst hW1
    have := World.alloc_heap_new (w.alloc (.deferred (some []))) (.loop (rec .ready none))
    rwa [World.size_alloc] at this
  have e2 : W1.heap[w.heap.size]? = some (.deferred (some [])) := by
    subst hW1
    exact (Below.heap_alloc _ _ _ (by simp)).trans (World.alloc_heap_new w _)
  have e3 : W1.heap.size = w.heap.size + 2 := by subst hW1; simp
  have e4 : I [] W1 := by subst hW1; exact hI.alloc _ (hI.alloc _ h0)
  have e5 : Below w.heap.size w W1 := by
    subst hW1
    exact ((Below.refl _ w).alloc (Nat.le_refl _) _).alloc (by simp) _
  refine ⟨w.heap.size + 1, [{ target := .collected w.heap.size, args := #[] }], W1, { target := .fn (.func gf) lb, args := #[.func (.yield (w.heap.size + 1)) #[] #[]] }, W1, gf,
    #[.func (.yield (w.heap.size + 1)) #[] #[]] ++ lb, W1, ?_, ?_, ?_, ?_, fun _ => h1, ?_⟩
  · rw [← hW1, hrec]; exact run_enterLoop_outer _ _ _ _ _
  · simp only [resolve, hg]
    simp [go_sem]
  · intro f' hf'
    simp [Target.leads] at hf'
    subst hf'
    exact hFg
  · simp [invoke, go_sem, eg]
  -- the iterator's contract
  refine (hseq (w.heap.size + 1) (fun pre W => I pre W ∧ W.heap[w.heap.size + 1]? = some (.loop (rec .ready none)) ∧ W.heap[w.heap.size]? = some (.deferred (some []))) (fun _ _ => False) W1 e5 ?_ (fun _ _ _ _ hs _ _ => hs) ?_ ⟨e4, e1, e2⟩).mono ?_
  · intro s A B row hs hgr hr
    have hw : ∀ r, row = some r → ∃ o : Obj, A.heap[r]? = some o ∧ o.isWalk = true := fun r e => (hr r e).2
    refine ⟨hI s A B row hs.1 hgr fun r e => ?_, (grownBy_keeps hgr hw hs.2.1 rfl).trans hs.2.1, (grownBy_keeps hgr hw hs.2.2 rfl).trans hs.2.2⟩
    obtain ⟨q1, o, q2, q3⟩ := hr r e
    exact ⟨by omega, o, q2, Obj.not_cells_of_walk q3⟩
  · rintro pre x W ⟨i1, i2, i3⟩ hlen
    have hy := run_yield (P := P) (args := encs x) i2 (by rw [hrec]; exact hps x)
    rw [hrec] at hy
    refine ⟨fn, _, assign, body, hy, roundIn_of_wpIn hfn (wpIn_mono (hassign _ pre x W i1 hlen) ?_)⟩
    intro e a₁ W₁ hp
    cases e with
    | normal =>
      obtain ⟨k1, m1⟩ := hp
      have l1 := k1.same _ _ i2 rfl
      have d1 := k1.same _ _ i3 rfl
      refine ⟨_, run_beginRound l1 (by rw [hrec]), ?_⟩
      have m2 := hIm.putObj (.loop { rec .ready none with state := .busy }) m1 (by omega) l1 rfl
      have l2 : (W₁.putObj (w.heap.size + 1) (.loop { rec .ready none with state := .busy })).heap[w.heap.size + 1]? = some (.loop { rec .ready none with state := .busy }) := World.putObj_heap_same (Array.getElem?_eq_some_iff.1 l1).1
      have d2 : (W₁.putObj (w.heap.size + 1) (.loop { rec .ready none with state := .busy })).heap[w.heap.size]? = some (.deferred (some [])) := (World.putObj_heap_other (by omega)).trans d1
      have w2 : KeepsWalks W (W₁.putObj (w.heap.size + 1) (.loop { rec .ready none with state := .busy })) := k1.walks.trans (KeepsWalks.putObj _ l1 rfl)
      refine wpIn_mono (hbody _ pre x a₁ _ m2) ?_
      rintro e a3 W3 ⟨rfl, k3, i3⟩
      have l3 := k3.same _ _ l2 rfl
      have d3 := k3.same _ _ d2 rfl
      refine ⟨_, _, run_endRound none l3, .inl ⟨rfl, ⟨hI.putObj _ i3 (by omega) l3 rfl, ?_, (World.putObj_heap_other (by omega)).trans d3⟩, (w2.trans k3.walks).trans (KeepsWalks.putObj _ l3 rfl)⟩⟩
      rw [World.putObj_heap_same (Array.getElem?_eq_some_iff.1 l3).1, hrec]
      rfl
    | _ => exact hp.elim
  · rintro e W2 ⟨⟨v, rfl⟩, ⟨xs, hS, i1, i2, i3⟩ | ⟨_, _, hf⟩⟩
    · have := run_endLoop (P := P) i2 (by rw [hrec]; simp)
      rw [hrec] at this
      exact ⟨none, _, this, hdone _ xs _ (Nat.le_refl _) hS (hI.putObj _ i1 (by omega) i2 rfl) ((World.putObj_heap_other (by omega)).trans i3)⟩
    · exact hf.elim
end
def cellsK (k : Int × Int × Int) : List Value := [.int .i64 k.1, .int .i64 k.2.1, .int .i64 k.2.2]
theorem cell_three (w : World) (x : Int × Int × Int) : ∀ (j : Nat) (u : Value), (cellsK x)[j]? = some u → (w.alloc (.cells #[.int .i64 x.1, .int .i64 x.2.1, .int .i64 x.2.2] 38)).cell? ((⟨w.heap.size, 0, none⟩ : Addr).add j) = some u := by
  intro j u hu
  have hj : j < 3 := by
    have := (List.getElem?_eq_some_iff.1 hu).1
    simpa [cellsK] using this
  match j, hj with
  | 0, _ => simp [cellsK] at hu; subst hu; simp [Addr.add]
  | 1, _ => simp [cellsK] at hu; subst hu; simp [Addr.add]
  | 2, _ => simp [cellsK] at hu; subst hu; simp [Addr.add]
/-- All that lies in a slice's own block fills one cell each. -/
def OneRow (W : World) (v : Value) : Prop := ∀ (g : Nat) (cur : Array Value) (t : TypeId) (fr : Nat × Nat), v.ownBlock = some g → W.heap[g]? = some (.cells cur t fr) → ∀ u ∈ cur.toList, u.oneCell' = true
theorem OneRow.kept {W W' : World} {row : Option Nat} {base : Nat} {e : TypeId} {size k : Nat} {v : Value} {xs : List Value} (h : OneRow W v) (hr : W.ownsRow base e size v k xs) (hg : W.grownBy W' row) (hne : v.ownBlock = none ∨ v.ownBlock ≠ row) : OneRow W' v := by
  intro g cur t fr hv hW u hu
  rcases hr.2 with ⟨rfl, _⟩ | ⟨g2, cap, cur2, rfl, _, hgb, _⟩
  · simp [Value.ownBlock] at hv
  · obtain rfl : g2 = g := by simpa [Value.ownBlock] using hv
    have hlt := (Array.getElem?_eq_some_iff.1 hgb).1
    rw [hg.block g2 hlt (fun q => by rcases hne with h1 | h1 <;> simp [Value.ownBlock] at h1; exact h1 q)] at hW
    exact h g2 cur t fr (by simp [Value.ownBlock]) hW u hu
theorem OneRow.nil (W : World) : OneRow W (.slice none 0 0) := by
  intro g cur t fr hv
  simp [Value.ownBlock] at hv
theorem one_zeros {n : Nat} {z : Array Value} (hz : ∀ u ∈ z.toList, u.oneCell' = true) : ∀ u ∈ (Builtin.zeroCells z n).toList, u.oneCell' = true := by
  intro u hu
  unfold Builtin.zeroCells at hu
  rw [Array.toList_map] at hu
  obtain ⟨i, hi, rfl⟩ := List.mem_map.1 hu
  have hi : i < n * z.size := by simpa using hi
  have hp : 0 < z.size := by
    rcases Nat.eq_zero_or_pos z.size with h | h
    · rw [h] at hi; omega
    · exact h
  have hlt := Nat.mod_lt i hp
  rw [getElem!_pos z (i % z.size) hlt]
  exact hz _ (by simp)
theorem append_one {P : Program} (w : World) (base : Nat) (t ty e : TypeId) (i : TypeInfo) (z : Value) (size bytes : Nat) (ht : P.underlying t = some (.slice e)) (hi : P.info? e = some i) (hz : i.zero = some z)
    (hsize : i.size = size) (hby : i.bytes = bytes) (hzs : z.cells.size = size) (hz1 : ∀ u ∈ z.cells.toList, u.oneCell' = true)
    (v : Value) (n : Nat) (xs : List Value) (hown : w.ownsRow base e size v n xs) (ho : OneRow w v)
    (a : Addr) (m c : Nat) (news : List Value) (hm : 0 < m) (hl : news.length = m * size) (hnews : ∀ j u, news[j]? = some u → w.cell? (a.add j) = some u) (h1 : ∀ u ∈ news, u.oneCell' = true)
    (h63 : n + m ≤ maxLen) (hbytes : (n + m) * bytes ≤ 140737488355328) {v' : Value} {w' : World} (hrun : (Builtin.append_ #[t, t] ty #[v, .slice (some a) m c]).run P w = .ok v' w') : OneRow w' v' := by
  subst hsize
  subst hby
  have hsmall : n + m ≤ 9223372036854775807 := by simp only [maxLen] at h63; omega
  rcases hown.2 with ⟨rfl, rfl⟩ | ⟨g, cap, cur, rfl, _, hg, hnc, _, hcs, htk⟩
  · have hr := run_append_nil (P := P) w t ty e i z ht hi hz a m c news hl hnews hm (by omega) (by simp only [Nat.zero_add] at hbytes; omega)
    rw [hr] at hrun
    cases hrun
    intro b cur2 t2 fr hv hW u hu
    obtain rfl : w.heap.size = b := by simpa [Value.ownBlock] using hv
    have := heap_alloc_new w.drew (.cells (news.toArray ++ Builtin.zeroCells z.cells (grownCap w m 0 e - m)) e)
    rw [show w.drew.heap.size = w.heap.size from rfl] at this
    rw [this] at hW
    cases hW
    rw [Array.toList_append] at hu
    rcases List.mem_append.1 hu with hu | hu
    · exact h1 u (by simpa using hu)
    · exact one_zeros hz1 u hu
  · have hcur : ∀ u ∈ cur.toList, u.oneCell' = true := ho g cur e (0, 0) (by simp [Value.ownBlock]) hg
    by_cases hroom : n + m ≤ cap
    · have hfit : n * i.size + news.length ≤ cur.size := by rw [hl, hcs, ← Nat.add_mul]; exact Nat.mul_le_mul_right _ hroom
      have hr := run_append_room (P := P) w t ty e i ht hi g n cap cur hg a m c news hl hnews h1 hroom hfit
      rw [hr] at hrun
      cases hrun
      intro b cur2 t2 fr hv hW u hu
      obtain rfl : g = b := by simpa [Value.ownBlock] using hv
      rw [setRow_heap w g cur _ e _ hg] at hW
      cases hW
      rw [List.toList_toArray] at hu
      rcases List.mem_append.1 hu with hu | hu
      · rcases List.mem_append.1 hu with hu | hu
        · exact hcur u (List.mem_of_mem_take hu)
        · exact h1 u hu
      · exact hcur u (List.mem_of_mem_drop hu)
    · have holds : ∀ j u, xs[j]? = some u → w.cell? ((⟨g, 0, none⟩ : Addr).add j) = some u := hown.cells (g := g) rfl
      have hr := run_append_grow (P := P) w t ty e i z ht hi hz ⟨g, 0, none⟩ n cap xs hown.1 holds a m c news hl hnews (by omega) (by omega) (growslice_fits (by omega) hbytes)
      rw [hr] at hrun
      cases hrun
      intro b cur2 t2 fr hv hW u hu
      obtain rfl : w.heap.size = b := by simpa [Value.ownBlock] using hv
      have := heap_alloc_new w.drew (.cells (xs.toArray ++ news.toArray ++ Builtin.zeroCells z.cells (grownCap w (n + m) cap e - (n + m))) e)
      rw [show w.drew.heap.size = w.heap.size from rfl] at this
      rw [this] at hW
      cases hW
      rw [Array.toList_append, Array.toList_append] at hu
      rcases List.mem_append.1 hu with hu | hu
      · rcases List.mem_append.1 hu with hu | hu
        · refine hcur u ?_
          rw [← htk] at hu
          exact List.mem_of_mem_take (by simpa using hu)
        · exact h1 u (by simpa using hu)
      · exact one_zeros hz1 u hu
/-- 'append' onto a slice of the call's own, all of whose block fills one cell each. -/
theorem append_raw {F : Fence} {n : Nat} {P : Program} (w : World) {ops : Array Oper} {rest : List Oper} {o : Oper} {a : Act} {Q : Exit → Act → World → Prop}
    (hg : o.guard = none) (s x : Operand) (t : TypeId) (hop : o.op = Op.call { callee := Callee.builtin Builtin.append, args := #[s, x], argTypes := #[t, t] })
    (base : Nat) (e : TypeId) (i : TypeInfo) (z : Value) (size bytes : Nat) (h1 : P.underlying t = some (.slice e)) (h2 : P.info? e = some i) (h3 : i.zero = some z) (h4 : i.size = size) (h5 : i.bytes = bytes) (h6 : z.cells.size = size) (h7 : 0 < size) (hz1 : ∀ u ∈ z.cells.toList, u.oneCell' = true)
    (v : Value) (k : Nat) (xs : List Value) (hs : a.eval s = v) (hown : w.ownsRow base e size v k xs) (ho : OneRow w v) (ad : Addr) (m c : Nat) (hm : 0 < m) (news : List Value) (hx : a.eval x = .slice (some ad) m c) (hn : news.length = m * size)
    (hc : ∀ j u, news[j]? = some u → w.cell? (ad.add j) = some u) (h1c : ∀ u ∈ news, u.oneCell' = true) (b1 : k + m ≤ maxLen) (b2 : (k + m) * bytes ≤ 140737488355328) (b3 : base ≤ w.heap.size)
    (hK : ∀ v' w', w'.ownsRow base e size v' (k + m) (xs ++ news) → w.grownBy w' v.ownBlock → OneRow w' v' → wpListIn F n P ops Q rest (a.put o.dst v') w') :
    wpListIn F n P ops Q (o :: rest) a w := by
  refine wpListIn_plain hg fun K hK' => ?_
  obtain ⟨v', w', hrun, r1, r2, _⟩ := run_append_own (P := P) w base t o.type e i z size bytes h1 h2 h3 h4 h5 h6 h7 v k xs hown ad m c news hn hc h1c b1 b2 b3
  have r4 := append_one (P := P) w base t o.type e i z size bytes h1 h2 h3 h4 h5 h6 hz1 v k xs hown ho ad m c news hm hn hc h1c b1 b2 hrun
  unfold Oper.wpIn
  refine ⟨?_, ?_⟩
  · simp [Oper.about, hop, resolve, Target.leads, Sem.run_pure]
  · rw [Oper.semAt_plain F _ _ (by rw [hop]; intro c hc'; cases hc')]
    simp [execOp, hop, resolve, invoke, builtin, hs, hx, hrun, Result.andThen]
    exact hK' _ _ (hK v' w' r1 r2 r4)
/-- What has come so far, in the box. -/
def RowAt (n₀ : Nat) (ss : List (Int × Int × Int)) (W : World) : Prop := ∃ v, Boxed W n₀ 30 v ∧ W.ownsRow n₀ 38 3 v ss.length (ss.flatMap cellsK) ∧ OneRow W v
theorem rowAt_own {β : Type} (n₀ : Nat) (f : β → List (Int × Int × Int)) : Own (fun s W => RowAt n₀ (f s) W) := by
  rintro s X Y row ⟨v, hv, hr, ho⟩ hg hrow
  have hne : v.ownBlock = none ∨ v.ownBlock ≠ row := by
    rcases hr.2 with ⟨rfl, _⟩ | ⟨g, cap, cur, rfl, _, hgb, _⟩
    · exact .inl rfl
    · refine .inr fun e' => ?_
      obtain ⟨o, ho, hc⟩ := hrow g (by simpa [Value.ownBlock] using e'.symm)
      rw [hgb] at ho; cases ho; cases hc
  refine ⟨v, hv.kept hg (fun e' => ?_), hr.kept hg hne, ho.kept hr hg hne⟩
  obtain ⟨o, ho, hc⟩ := hrow n₀ e'.symm
  rw [show X.heap[n₀]? = _ from hv] at ho; cases ho; cases hc
theorem RowAt.alloc {n₀ : Nat} {ss : List (Int × Int × Int)} {W : World} (h : RowAt n₀ ss W) (o : Obj) : RowAt n₀ ss (W.alloc o) := (rowAt_own (β := Unit) n₀ (fun _ => ss)).alloc (s := ()) o h
set_option maxRecDepth 100000 in
set_option maxHeartbeats 2000000 in
theorem appendSeq (F : Fence) (n : Nat) (h136 : F.fn 136) (hro : F.round = none) (hn : 2 ≤ n) (g : Nat) (lb : Array Value) (hFg : F.fn g) (eg : ∀ args w, (callFunc g args).run Try.prog w = .ok (.enter g args) w)
    (S Sp : List (Int × Int × Int) → Prop) (N : Nat) (hN : N ≤ 100000) (w : World) (hseq : ∀ w', Below w.heap.size w w' → SeqStopsK F (n - 1) Try.prog g lb (fun x => #[encK x]) KeepsWalks S Sp N w') :
    CallsIn F n Try.prog 136 #[.slice none 0 0, .func (.func g) #[] lb] w fun e w' => ∃ (v : Value) (ss : List (Int × Int × Int)), e = .returned v ∧ S ss ∧ w'.ownsRow w.heap.size 38 3 v ss.length (ss.flatMap cellsK) ∧ OneRow w' v ∧ Below w.heap.size w w' := by
  have h1 : 1 ≤ n := by omega
  refine callsIn_of_wp_marks Try.func136 rfl h136 ?_ hro
  simp only [Try.ntmps136, List.size_toArray, List.length_cons, List.length_nil, Nat.reduceAdd, Nat.reduceSub, Array.replicate_succ, Array.replicate_zero, List.push_toArray, List.append_toArray, List.nil_append, List.cons_append]
  gi_wp2
  have hB0 : Below w.heap.size w (w.alloc (.cells #[.slice none 0 0] 30)) := (Below.refl _ w).alloc (Nat.le_refl _) _
  refine rangeFunc_box hro h1 (gf := g) (lb := lb) rfl hFg eg (hseq _ hB0) (fun _ => rfl)
    (fun pre W => (RowAt w.heap.size pre W ∧ pre.length ≤ N) ∧ Below w.heap.size w W)
    (OwnFrom.and (Own.from (fun s A B row hs hg hr => ⟨rowAt_own w.heap.size (fun (pre : List (Int × Int × Int)) => pre) s A B row hs.1 hg hr, hs.2⟩) _) (ownFrom_below (Nat.le_refl _) (by simp)))
    ⟨⟨⟨_, Boxed.new w 30 _, World.ownsRow_nil _ _ _ _, OneRow.nil _⟩, Nat.zero_le _⟩, hB0⟩
    (fun q W => ((RowAt w.heap.size q.1 W ∧ q.1.length < N) ∧ Below w.heap.size w W) ∧
      ∃ V, W.heap[V]? = some (.cells #[.int .i64 q.2.1.1, .int .i64 q.2.1.2.1, .int .i64 q.2.1.2.2] 38 (0, 0)) ∧ q.2.2 = { tmps := #[.slice none 0 0, .func (.func g) #[] lb, .pointer (some ⟨w.heap.size, 0, none⟩), undef, .slice none 0 0, .pointer (some ⟨V, 0, none⟩), .func (.func g) #[] lb, encK q.2.1, undef, undef, undef, undef, undef], defers := [] })
    (OwnFrom.and (OwnFrom.and (Own.from (fun s A B row hs hg hr => ⟨rowAt_own w.heap.size (fun (q : List (Int × Int × Int) × (Int × Int × Int) × Act) => q.1) s A B row hs.1 hg hr, hs.2⟩) _) (ownFrom_below (Nat.le_refl _) (by simp)))
      (fun s A B row hs hg hr => by
        obtain ⟨V, hV, he⟩ := hs
        exact ⟨V, (grownBy_keeps_cells hg (fun r e => (hr r e).2) hV rfl).trans hV, he⟩)) ?assign ?body ?done
  case assign =>
    rintro l pre x W ⟨⟨hv, _⟩, hB⟩ hlen
    unfold encK
    gi_wp2_with (rw [Oper.semAt_eq _ _ _ (fun c h => by cases h)]; go_simp; try go_bits)
    exact ⟨KeepsOthers.alloc _ _, ⟨⟨hv.alloc _, hlen⟩, hB.alloc hB.size _⟩, W.heap.size, World.alloc_heap_new W _, rfl⟩
  case body =>
    rintro l pre x a₁ W ⟨⟨⟨⟨v, hv, hr, ho⟩, hlen⟩, hB⟩, V, hV, he⟩
    replace hr : W.ownsRow w.heap.size 38 3 v pre.length (pre.flatMap cellsK) := hr
    replace hlen : pre.length < N := hlen
    replace hV : W.heap[V]? = some (.cells #[.int .i64 x.1, .int .i64 x.2.1, .int .i64 x.2.2] 38 (0, 0)) := hV
    replace he : a₁ = { tmps := #[.slice none 0 0, .func (.func g) #[] lb, .pointer (some ⟨w.heap.size, 0, none⟩), undef, .slice none 0 0, .pointer (some ⟨V, 0, none⟩), .func (.func g) #[] lb, encK x, undef, undef, undef, undef, undef], defers := [] } := he
    subst he
    have hc := hv.cell
    have hf := hv.frozen
    have v0 : W.cell? ⟨V, 0, none⟩ = some (.int .i64 x.1) := by simp [World.cell?, hV]
    have v1 : W.cell? ⟨V, 1, none⟩ = some (.int .i64 x.2.1) := by simp [World.cell?, hV]
    have v2 : W.cell? ⟨V, 2, none⟩ = some (.int .i64 x.2.2) := by simp [World.cell?, hV]
    have hne0 : v.ownBlock = none ∨ v.ownBlock ≠ (none : Option Nat) := by
      cases v.ownBlock with
      | none => exact .inl rfl
      | some _ => exact .inr (by simp)
    gi_wp2_with (first
      | (gi_at_builtin; refine append_raw _ rfl _ _ 30 rfl w.heap.size 38 Try.t38 (.agg #[.int .i64 0, .int .i64 0, .int .i64 0]) 3 24 Try.underlying30 Try.type38 rfl rfl rfl rfl (by decide) (by decide) _ _ _ rfl (hr.alloc _) (ho.kept hr (World.grownBy_alloc W _ none) hne0) ⟨W.heap.size, 0, none⟩ 1 1 (by decide) (cellsK x) rfl rfl (cell_three W x) (by simp [cellsK, Value.oneCell']) (by have : maxLen = 9223372036854775807 := rfl; omega) (by omega) (by have := hB.size; simp; omega) ?_; intro v' w3 hown' hg3 ho3
         obtain ⟨a1, a2, a3, a4, a5⟩ := Boxed.appended hv (by decide) hr hB.size (Nat.le_refl _) hown' hg3
         have ho4 := ho3.kept hown' (grownBy_setCell' w3 w.heap.size v') (.inr (a1.not_row (by decide) hown').symm)
         obtain ⟨g', cap', rfl⟩ := ownsRow_succ hown'
         have hc3 := a1.cell
         have hf3 := a1.frozen
         go_frame)
      | (rw [Oper.semAt_eq _ _ _ (fun c h => by cases h)]; go_simp; try go_bits))
    refine ⟨⟨⟨_, a2, ?_, ho4⟩, ?_⟩, hB.trans a5⟩
    · simpa using a3
    · omega
  case done =>
    rintro D ys W hD hSy ⟨⟨⟨v, hv, hr, ho⟩, hlen⟩, hB⟩ hK
    have hc := hv.cell
    have hf := hv.frozen
    gi_wp2
    refine ⟨by simp, .inl ⟨_, _, rfl, run_takeDeferred hK, ?_⟩⟩
    have hr2 := ownsRow_putObj hr (.deferred none) hK rfl
    have hne : v.ownBlock = none ∨ v.ownBlock ≠ some D := by
      rcases hr.2 with ⟨rfl, _⟩ | ⟨g2, cap, cur, rfl, _, hgb, _⟩
      · exact .inl rfl
      · refine .inr fun e' => ?_
        obtain rfl : g2 = D := by simpa [Value.ownBlock] using e'
        rw [hgb] at hK; cases hK
    exact ⟨_, results_tmp rfl _ _ _, v, ys, rfl, hSy, hr2, ho.kept hr (grownBy_putObj' W D _) hne, hB.trans (belowK_b (w := w) (Nat.le_refl _) W D _ _ (by simp at hD; omega) hK rfl rfl)⟩
set_option maxHeartbeats 1000000 in
/-- slices.Collect. -/
theorem collect (F : Fence) (n : Nat) (h102 : F.fn 102) (h136 : F.fn 136) (hro : F.round = none) (hn : 3 ≤ n) (g : Nat) (lb : Array Value) (hFg : F.fn g) (eg : ∀ args w, (callFunc g args).run Try.prog w = .ok (.enter g args) w)
    (S Sp : List (Int × Int × Int) → Prop) (N : Nat) (hN : N ≤ 100000) (w : World) (hseq : ∀ w', Below w.heap.size w w' → SeqStopsK F (n - 1 - 1) Try.prog g lb (fun x => #[encK x]) KeepsWalks S Sp N w') :
    CallsIn F n Try.prog 102 #[.func (.func g) #[] lb] w fun e w' => ∃ (v : Value) (ss : List (Int × Int × Int)), e = .returned v ∧ S ss ∧ w'.ownsRow w.heap.size 38 3 v ss.length (ss.flatMap cellsK) ∧ OneRow w' v ∧ Below w.heap.size w w' := by
  have h1 : 1 ≤ n := by omega
  have e136 : ∀ args w, (callFunc 136 args).run Try.prog w = .ok (.enter 136 args) w := enters_of Try.func136 (by kernel_rfl) rfl
  refine callsIn_of_wp Try.func102 rfl h102 ?_ hro
  simp only [Try.ntmps102, List.size_toArray, List.length_cons, List.length_nil, Nat.reduceAdd, Nat.reduceSub, Array.replicate_succ, Array.replicate_zero, List.push_toArray, List.append_toArray, List.nil_append, List.cons_append]
  gi_wp2_with (gi_at_call 136; refine (appendSeq F (n - 1) h136 hro (by omega) g lb hFg eg S Sp N hN w hseq).mono ?_; rintro e w' ⟨v, ss, rfl, hS, hrow, ho, hb⟩)
  go_ret
  exact ⟨v, ss, rfl, hS, hrow, ho, hb⟩
end Go.Proofs.Ytkenimmellonjaa
/- Seat r2: the values of a map, collected: what the call comes to. -/
namespace Go.Proofs.Ytkenimmellonjaa
open Go.Pv Go.RowKit Go.Shelf
abbrev Kl := Int × Int × Int
def keyC (k : Kl) : Int × Int := (k.1, k.2.1)
def dxC (c : Int × Int) : DX := .agg [.int .i64 c.1, .int .i64 c.2]
def dxK (k : Kl) : DX := .agg [.int .i64 k.1, .int .i64 k.2.1, .int .i64 k.2.2]
def encL (l : List Kl) : List (DX × DX) := encM keyC dxC dxK l
theorem rv_ints {M : Mp} {F : Nat → Prop} {w : World} {xs : List Int} {v : Value} (h : RV M F w (.agg (xs.map fun x => .d (.int .i64 x))) v) : v = .agg (xs.map (Value.int .i64)).toArray := by
  cases h with
  | agg _ vs hl h1 h =>
    congr 2
    refine List.ext_getElem? fun i => ?_
    rw [List.getElem?_map]
    cases hx : xs[i]? with
    | none =>
      rw [List.getElem?_eq_none (by rw [hl, List.length_map]; exact List.getElem?_eq_none_iff.1 hx)]; rfl
    | some x =>
      have hi := (List.getElem?_eq_some_iff.1 hx).1
      have hvi : vs[i]? = some (vs[i]'(by rw [hl, List.length_map]; exact hi)) := List.getElem?_eq_getElem _
      have h2 := h i (.d (.int .i64 x)) _ (by rw [List.getElem?_map, hx]; rfl) hvi
      rw [hvi]
      generalize vs[i]'(by rw [hl, List.length_map]; exact hi) = u at h2
      cases h2 with
      | d h2 => cases h2; rfl
theorem shape_below {w w' : World} (h : Below w.heap.size w w') {b : Nat} (hb : b < w.heap.size) : w'.shape? b = w.shape? b := by
  unfold World.shape?
  rw [h.block b hb]
theorem ext_below {w w' : World} (h : Below w.heap.size w w') {U : Nat → Prop} (hU : ∀ b, U b → b < w.heap.size) : Ext U w w' :=
  ⟨h.os, h.tape, h.output, h.size, fun b hb => h.block b (hU b hb), fun _ hb => shape_below h hb⟩
/-- Nothing that was told has turned. -/
theorem St.later {M : Mp} {F U : Nat → Prop} {L : List AB} {s : List (Nat × AB)} {w w' : World} (hS : St M F U L s w) (h : Below w.heap.size w w') : St M F U L s w' :=
  ⟨fun r ab b hr hm => (hS.rb r ab b hr hm).mono (.refl _) (fun _ h => h) (fun b hb => hS.FU b hb) (ext_below h hS.Ult) (fun hd => h.block b (RB.lt (hS.rb r ab b hr hm) hd)),
   hS.inj, hS.nU, hS.nd, hS.FU, fun b hb => Nat.lt_of_lt_of_le (hS.Ult b hb) h.size, hS.dom, hS.tot, hS.gdom⟩
/-- One block more is told. -/
theorem St.add {g : Nat → Option Nat} {F U : Nat → Prop} {s : List (Nat × AB)} {w : World} {B : Nat} (hS : St ⟨fun _ => none, g⟩ F U [] s w) (hUB : ∀ b, U b → b < B) (hgB : ∀ i ab b, (i, ab) ∈ s → ab ≠ .dead → g i = some b → b < B) {n b : Nat} {ab : AB} (hn : ∀ ab, (n, ab) ∉ s) (hb : B ≤ b)
    (hab : RB ⟨fun _ => none, fun i => if i = n then some b else g i⟩ F w b ab) : St ⟨fun _ => none, fun i => if i = n then some b else g i⟩ F U [] (s ++ [(n, ab)]) w := by
  have hgn := hS.gdom n hn
  have hgn : g n = none := hgn
  have hle : Mp.Le ⟨fun _ => none, g⟩ ⟨fun _ => none, fun i => if i = n then some b else g i⟩ := by
    intro r x hx
    cases r with
    | l k => cases hx
    | g i =>
      simp only [Mp.at_] at hx ⊢
      rw [if_neg (fun e => by rw [e, hgn] at hx; cases hx)]; exact hx
  have hc : ∀ i ab', (i, ab') ∈ s ++ [(n, ab)] → ((i, ab') ∈ s ∧ i ≠ n) ∨ (i = n ∧ ab' = ab) := by
    intro i ab' h
    rcases List.mem_append.1 h with h | h
    · exact .inl ⟨h, fun e => hn ab' (e ▸ h)⟩
    · cases List.mem_singleton.1 h; exact .inr ⟨rfl, rfl⟩
  refine ⟨fun r ab' x hr hm => ?_, fun r r' a1 a2 x h1 h2 d1 d2 m1 m2 => ?_, fun r a1 x h1 d1 m1 hu => ?_, ?_, hS.FU, hS.Ult, fun _ _ => rfl, fun i ab' h => ?_, fun i h => ?_⟩
  · cases r with
    | l k => cases hm
    | g i =>
      rcases hc i ab' hr with ⟨h1, h2⟩ | ⟨rfl, rfl⟩
      · simp only [Mp.at_, if_neg h2] at hm
        exact (hS.rb (.g i) ab' x h1 hm).mono (hle.sub (.g i)) (fun _ h => h) (fun b hb => hS.FU b hb) (.refl _ _) (fun _ => rfl)
      · simp only [Mp.at_] at hm
        cases hm
        exact hab.mono (.refl _) (fun _ h => h) (fun b hb => hS.FU b hb) (.refl _ _) (fun _ => rfl)
  · cases r with
    | l k => cases m1
    | g i =>
      cases r' with
      | l k => cases m2
      | g j =>
        rcases hc i a1 h1 with ⟨k1, q1⟩ | ⟨rfl, rfl⟩ <;> rcases hc j a2 h2 with ⟨k2, q2⟩ | ⟨rfl, rfl⟩
        · simp only [Mp.at_, if_neg q1] at m1
          simp only [Mp.at_, if_neg q2] at m2
          exact hS.inj (.g i) (.g j) a1 a2 x k1 k2 d1 d2 m1 m2
        · simp only [Mp.at_, if_neg q1] at m1
          simp only [Mp.at_] at m2
          cases m2
          have := hgB i a1 _ k1 d1 m1
          omega
        · simp only [Mp.at_, if_neg q2] at m2
          simp only [Mp.at_] at m1
          cases m1
          have := hgB j a2 _ k2 d2 m2
          omega
        · rfl
  · cases r with
    | l k => cases m1
    | g i =>
      rcases hc i a1 h1 with ⟨k1, q1⟩ | ⟨rfl, rfl⟩
      · simp only [Mp.at_, if_neg q1] at m1
        exact hS.nU (.g i) a1 x k1 d1 m1 hu
      · simp only [Mp.at_] at m1
        cases m1
        have := hUB _ hu
        omega
  · rw [List.map_append, List.nodup_append]
    refine ⟨hS.nd, by simp, fun x hx y hy => ?_⟩
    simp at hy
    subst hy
    obtain ⟨p, hp, rfl⟩ := List.mem_map.1 hx
    exact fun e => hn p.2 (e ▸ hp)
  · rcases hc i ab' h with ⟨h1, h2⟩ | ⟨rfl, _⟩
    · obtain ⟨x, hx⟩ := hS.tot i ab' h1
      exact ⟨x, by show (if i = n then some b else g i) = some x; rw [if_neg h2]; exact hx⟩
    · exact ⟨b, by show (if i = i then some b else g i) = some b; rw [if_pos rfl]⟩
  · have h1 : i ≠ n := fun e => h ab (by rw [e]; simp)
    show (if i = n then some b else g i) = none
    rw [if_neg h1]
    exact hS.gdom i fun ab' h2 => h ab' (List.mem_append_left _ h2)
theorem vals_of {M : Mp} {F : Nat → Prop} {w : World} {ents : Array MapEntry} {l : List Kl} (h2 : ents.size = (encL l).length)
    (h3 : ∀ (i : Nat) (e : MapEntry) (x : DX × DX), ents[i]? = some e → (encL l)[i]? = some x → RV M F w x.1.av e.key ∧ RV M F w x.2.av e.val) : ents.toList.map (·.val) = l.map encK := by
  refine List.ext_getElem? fun i => ?_
  rw [List.getElem?_map, List.getElem?_map]
  cases hx : l[i]? with
  | none =>
    have := List.getElem?_eq_none_iff.1 hx
    rw [List.getElem?_eq_none (by simp [encL, encM] at h2 ⊢; omega)]; rfl
  | some x =>
    have hi := (List.getElem?_eq_some_iff.1 hx).1
    have hlt : i < ents.size := by simp [encL, encM] at h2; omega
    have he : ents[i]? = some ents[i] := Array.getElem?_eq_getElem hlt
    have := (h3 i _ (dxC (keyC x), dxK x) he (by simp [encL, encM, hx])).2
    have h4 := rv_ints (xs := [x.1, x.2.1, x.2.2]) this
    rw [Array.getElem?_toList, he]
    simp only [Option.map_some, h4]
    rfl
theorem keys_of {M : Mp} {F : Nat → Prop} {w : World} {ents : Array MapEntry} {l : List Kl} (h2 : ents.size = (encL l).length)
    (h3 : ∀ (i : Nat) (e : MapEntry) (x : DX × DX), ents[i]? = some e → (encL l)[i]? = some x → RV M F w x.1.av e.key ∧ RV M F w x.2.av e.val) : ents.toList.map (·.key) = l.map fun k => Value.agg #[.int .i64 k.1, .int .i64 k.2.1] := by
  refine List.ext_getElem? fun i => ?_
  rw [List.getElem?_map, List.getElem?_map]
  cases hx : l[i]? with
  | none =>
    have := List.getElem?_eq_none_iff.1 hx
    rw [List.getElem?_eq_none (by simp [encL, encM] at h2 ⊢; omega)]; rfl
  | some x =>
    have hi := (List.getElem?_eq_some_iff.1 hx).1
    have hlt : i < ents.size := by simp [encL, encM] at h2; omega
    have he : ents[i]? = some ents[i] := Array.getElem?_eq_getElem hlt
    have := (h3 i _ (dxC (keyC x), dxK x) he (by simp [encL, encM, hx])).1
    have h4 := rv_ints (xs := [x.1, x.2.1]) this
    rw [Array.getElem?_toList, he]
    simp only [Option.map_some, h4]
    rfl
theorem borns_of {ents : Array MapEntry} (h5 : ∀ (i j : Nat) (e e' : MapEntry), ents[i]? = some e → ents[j]? = some e' → e.born = e'.born → i = j) : (ents.toList.map (·.born)).Nodup := by
  refine List.pairwise_iff_getElem.2 fun i j hi hj hij e => ?_
  simp only [List.length_map, Array.length_toList] at hi hj
  have := h5 i j _ _ (Array.getElem?_eq_getElem hi) (Array.getElem?_eq_getElem hj) (by simpa using e)
  omega
theorem perm_encK {a b : List Kl} (h : (a.map encK).Perm (b.map encK)) : a.Perm b := by
  obtain ⟨f, hf⟩ : ∃ f : Value → Kl, ∀ k, f (encK k) = k := ⟨fun v => match v with
    | .agg #[.int _ x, .int _ y, .int _ z] => (x, y, z)
    | _ => (0, 0, 0), fun k => rfl⟩
  have := h.map f
  simpa [List.map_map, Function.comp_def, hf] using this
theorem flat_get : ∀ (ss : List Kl) (i j : Nat), j < 3 → (ss.flatMap cellsK)[i * 3 + j]? = (ss[i]?).bind fun k => (cellsK k)[j]?
  | [], i, j, _ => by simp
  | k :: r, i, j, hj => by
    rw [List.flatMap_cons]
    cases i with
    | zero =>
      rw [List.getElem?_append_left (by simp [cellsK]; omega)]
      simp
    | succ i =>
      rw [List.getElem?_append_right (by simp [cellsK]; omega), show (i + 1) * 3 + j - (cellsK k).length = i * 3 + j from by simp [cellsK]; omega, flat_get r i j hj]
      simp
/-- The values of a map, in some order, as a row of one's own. -/
theorem collectC (l : List Kl) (hl : l.length ≤ 100000) : Contract Try.prog G0 102 [.fn 104 [.ref (.g 0) 0]] [(0, .cells [.mp (.g 1)]), (1, .dmap (encL l))] (fun r t => ∃ ss : List Kl, ss.Perm l ∧
    ((ss = [] ∧ r = .d .nil ∧ t = [(0, .cells [.mp (.g 1)]), (1, .dmap (encL l))]) ∨ ∃ c, ss.length ≤ c ∧ r = .slc (.g 2) 3 0 ss.length c ∧ t = [(0, .cells [.mp (.g 1)]), (1, .dmap (encL l)), (2, .row 3 (rowsK ss))])) := by
  refine ⟨enters_of Try.func102 (by kernel_rfl) rfl, fun g F U w vals hS hG hlv hv => ?_⟩
  obtain ⟨v, rfl⟩ : ∃ v, vals = [v] := by
    match vals, hlv with
    | [v], _ => exact ⟨v, rfl⟩
  have hrv := hv 0 _ v rfl rfl
  obtain ⟨B, hgB, rfl⟩ : ∃ B, g 0 = some B ∧ v = .func (.func 104) #[] #[.pointer (some ⟨B, 0, none⟩)] := by
    cases hrv with
    | fn _ _ vs hl h =>
      obtain ⟨u, rfl⟩ : ∃ u, vs = [u] := by
        match vs, hl with
        | [u], _ => exact ⟨u, rfl⟩
      have := h 0 _ u rfl rfl
      cases this with
      | ref _ _ b hb => exact ⟨b, hb, rfl⟩
  obtain ⟨arr, tt, hb1, hsz, hc1⟩ := hS.rb (.g 0) (.cells [.mp (.g 1)]) B (by simp [Here]) hgB
  obtain ⟨u, hu⟩ : ∃ u, arr[0]? = some u := ⟨_, Array.getElem?_eq_getElem (by simp at hsz; omega)⟩
  have hru := (hc1 0 _ u rfl hu).2
  obtain ⟨b, hgb, rfl⟩ : ∃ b, g 1 = some b ∧ u = .map (some b) := by
    cases hru with
    | mp _ b h => exact ⟨b, h, rfl⟩
  obtain ⟨ents, clock, hb, h2, h3, h4, h5⟩ := hS.rb (.g 1) (.dmap (encL l)) b (by simp [Here]) hgb
  have hvals := vals_of h2 h3
  have hlen : ents.size = l.length := by simpa [encL, encM] using h2
  have hm : w.cell? ⟨B, 0, none⟩ = some (.map (some b)) := by simp [World.cell?, hb1, hu]
  have hBl := (Array.getElem?_eq_some_iff.1 hb1).1
  have hnd := borns_of h5
  have hold : ∀ x ∈ ents.toList, x.born < clock := fun x hx => by
    obtain ⟨i, hi⟩ := List.mem_iff_getElem?.1 hx
    exact h4 i x (by simpa using hi)
  have hval : ∀ x ∈ ents.toList, ∃ k, x.val = encK k := fun x hx => by
    have : x.val ∈ ents.toList.map (·.val) := List.mem_map_of_mem hx
    rw [hvals] at this
    obtain ⟨k, _, hk⟩ := List.mem_map.1 this
    exact ⟨k, hk.symm⟩
  have e104 : ∀ args w, (callFunc 104 args).run Try.prog w = .ok (.enter 104 args) w := enters_of Try.func104 (by kernel_rfl) rfl
  have hco := collect Fence.wide 5 trivial trivial rfl (by decide) 104 #[.pointer (some ⟨B, 0, none⟩)] trivial e104 (fun ss => (ss.map encK).Perm (ents.toList.map (·.val))) (fun _ => True) ents.size (by omega) w
    (fun w' hB => values_stops Fence.wide 3 trivial rfl (by decide) B b ents clock hold hval hnd w' (Nat.lt_of_lt_of_le hBl hB.size) ((hB.cell (p := ⟨B, 0, none⟩) hBl).trans hm) ((hB.block b (Array.getElem?_eq_some_iff.1 hb).1).trans hb))
  refine (callsIn_wide.1 hco).mono ?_
  rintro e w' ⟨v, ss, rfl, hp, hrow, hone, hBe⟩
  rw [hvals] at hp
  have hp := perm_encK hp
  have hS2 := St.later hS hBe
  have hUl := hS.Ult
  have hgl : ∀ i ab x, (i, ab) ∈ [(0, AB.cells [.mp (.g 1)]), (1, .dmap (encL l))] → ab ≠ .dead → g i = some x → x < w.heap.size := fun i ab x hi hd hx => RB.lt (hS.rb (.g i) ab x hi hx) hd
  rcases hrow.2 with ⟨rfl, h0⟩ | ⟨nb, cap, cur, rfl, hbase, hnb, hcap, hmax, hcur, htk⟩
  · have hss : ss = [] := List.eq_nil_of_length_eq_zero h0
    exact ⟨_, .d .nil, _, g, F, U, rfl, ⟨ss, hp, .inl ⟨hss, rfl, rfl⟩⟩, fun _ _ h => h, fun id ab h => .inl ⟨ab, h⟩, fun _ h => h, fun _ h => h, fun _ h => .inl h, ext_below hBe hUl, hS2, .d .nil⟩
  · have hRB : RB ⟨fun _ => none, fun i => if i = 2 then some nb else g i⟩ F w' nb (.row 3 (rowsK ss)) := by
      refine ⟨cur, 38, hnb, ?_, ?_, ?_, ?_⟩
      · rw [hcur]
        simp only [rowsK, List.length_map]
        exact Nat.mul_le_mul_right 3 hcap
      · intro i r hr
        simp only [rowsK, List.getElem?_map, Option.map_eq_some_iff] at hr
        obtain ⟨k, _, rfl⟩ := hr
        rfl
      · intro j v hv
        exact hone nb cur 38 (0, 0) (by simp [Value.ownBlock]) hnb v (Array.mem_toList_iff.2 (Array.mem_of_getElem? hv))
      · intro i r j x v hr hx hv
        simp only [rowsK, List.getElem?_map, Option.map_eq_some_iff] at hr
        obtain ⟨k, hk, rfl⟩ := hr
        have hi := (List.getElem?_eq_some_iff.1 hk).1
        have hj : j < 3 := by
          have := (List.getElem?_eq_some_iff.1 hx).1
          simpa [rowK] using this
        have h1 : (cur.toList.take (ss.length * 3))[i * 3 + j]? = some v := by
          rw [List.getElem?_take_of_lt (by omega), Array.getElem?_toList]; exact hv
        rw [htk, flat_get ss i j hj, hk] at h1
        match j, hj with
        | 0, _ => simp [cellsK] at h1; simp [rowK] at hx; subst h1; subst hx; exact .int _ _
        | 1, _ => simp [cellsK] at h1; simp [rowK] at hx; subst h1; subst hx; exact .int _ _
        | 2, _ => simp [cellsK] at h1; simp [rowK] at hx; subst h1; subst hx; exact .int _ _
    refine ⟨_, .slc (.g 2) 3 0 ss.length cap, _, fun i => if i = 2 then some nb else g i, F, U, rfl, ⟨ss, hp, .inr ⟨cap, hcap, rfl, rfl⟩⟩, fun i x hx => ?_, fun id ab h => ?_, fun _ h => h, fun _ h => h, fun _ h => .inl h, ext_below hBe hUl, ?_, ?_⟩
    · show (if i = 2 then some nb else g i) = some x
      have h2 : g 2 = none := hS.gdom 2 (by simp)
      rw [if_neg (fun e => by rw [e, h2] at hx; cases hx)]; exact hx
    · rcases List.mem_append.1 (show (id, ab) ∈ [(0, AB.cells [.mp (.g 1)]), (1, .dmap (encL l))] ++ [(2, .row 3 (rowsK ss))] from h) with h | h
      · exact .inl ⟨ab, h⟩
      · cases List.mem_singleton.1 h
        exact .inr (hS.gdom 2 (by simp))
    · exact St.add (B := w.heap.size) hS2 hUl hgl (by simp) hbase hRB
    · exact .slc (.g 2) 3 0 ss.length cap nb (by simp [Mp.at_]) hcap ⟨38, cap * 3, by simp [World.shape?, hnb, hcur], by omega⟩
end Go.Proofs.Ytkenimmellonjaa
/- Seat r2: sets of calls: single functions. -/
namespace Go.Proofs.Ytkenimmellonjaa
open Go.Pv Go.RowKit
abbrev latK (k : Kl) : AV := .agg [.d (.int .i64 k.1), .d (.int .i64 k.2.1), .d (.int .i64 k.2.2)]
abbrev calC (c : Int × Int) : AV := .agg [.d (.int .i64 c.1), .d (.int .i64 c.2)]
def kcsC : Bool × List IntKind := (true, [.i64, .i64])
theorem dxC_inj : ∀ a b, dxC a = dxC b → a = b := fun a b h => by
  simp [dxC] at h
  exact Prod.ext h.1 h.2
theorem dxC_good (c : Int × Int) : kgood kcsC (dxC c) = true := by simp [kgood, kcsC, dxC, kmatch]
theorem flat36 : flatK T 36 = some kcsC := by kernel_rfl
theorem stood36 : Try.prog.stoodInHeld 36 = false := by kernel_rfl
def set0S : List (Nat × AB) := [(0, .cells [.d (.raw (.map .none))])]
def setS (l : List Kl) : List (Nat × AB) := [(0, .cells [.mp (.g 1)]), (1, .dmap (encL l))]
abbrev getL (l : List Kl) (c : Int × Int) : Option Kl := aget keyC l c
abbrev putL (l : List Kl) (k : Kl) : List Kl := aput keyC l k
abbrev delL (l : List Kl) (c : Int × Int) : List Kl := adel keyC l c
abbrev Ks (l : List Kl) : Prop := (l.map keyC).Nodup
theorem good_encL (l : List Kl) : ∀ e ∈ encL l, kgood kcsC e.1 = true := good_enc dxC_good l
theorem dget_L {l : List Kl} (hn : Ks l) (c : Int × Int) : dget (encL l) (dxC c) ((getL l c).map dxK) := dget_enc (ev := dxK) dxC_inj hn c
theorem encL_len (l : List Kl) : (encL l).length = l.length := by simp [encL, encM]
set_option maxRecDepth 100000 in
theorem has_none (c : Int × Int) : Contract Try.prog G0 29 [.ref (.g 0) 0, calC c] set0S (fun r t => r = .d (.bool false) ∧ t = set0S) := by
  refine run29 1 [] rfl rfl ?_
  conv => whnf
  refine ⟨dxC_good c, ?_⟩
  conv => whnf
  exact ⟨rfl, rfl⟩
set_option maxRecDepth 100000 in
theorem has_some (l : List Kl) (hn : Ks l) (c : Int × Int) : Contract Try.prog G0 29 [.ref (.g 0) 0, calC c] (setS l) (fun r t => r = .d (.bool (getL l c).isSome) ∧ t = setS l) := by
  refine run29 2 [] rfl rfl ?_
  conv => whnf
  have hg := dget_L hn c
  cases ha : getL l c with
  | none =>
    rw [ha] at hg
    refine ⟨stood36, .none, ⟨dxC_good c, good_encL l, hg⟩, ?_⟩
    conv => whnf
    exact ⟨rfl, rfl⟩
  | some k =>
    rw [ha] at hg
    refine ⟨stood36, .some (dxK k), ⟨dxC_good c, good_encL l, hg⟩, ?_⟩
    conv => whnf
    exact ⟨rfl, rfl⟩
set_option maxRecDepth 100000 in
theorem get_some (l : List Kl) (hn : Ks l) (c : Int × Int) : Contract Try.prog G0 56 [.ref (.g 0) 0, calC c] (setS l) (fun r t => r = .tup [latK ((getL l c).getD (0, 0, 0)), .d (.bool (getL l c).isSome)] ∧ t = setS l) := by
  refine run56 2 [] rfl rfl ?_
  conv => whnf
  have hg := dget_L hn c
  cases ha : getL l c with
  | none =>
    rw [ha] at hg
    refine ⟨stood36, .none, ⟨dxC_good c, good_encL l, hg⟩, ?_⟩
    conv => whnf
    exact ⟨rfl, rfl⟩
  | some k =>
    rw [ha] at hg
    refine ⟨stood36, .some (dxK k), ⟨dxC_good c, good_encL l, hg⟩, ?_⟩
    conv => whnf
    exact ⟨rfl, rfl⟩
set_option maxRecDepth 100000 in
theorem get_none (c : Int × Int) : Contract Try.prog G0 56 [.ref (.g 0) 0, calC c] set0S (fun r t => r = .tup [latK (0, 0, 0), .d (.bool false)] ∧ t = set0S) := by
  refine run56 1 [] rfl rfl ?_
  conv => whnf
  refine ⟨dxC_good c, ?_⟩
  conv => whnf
  exact ⟨rfl, rfl⟩
set_option maxRecDepth 100000 in
theorem len_none : Contract Try.prog G0 46 [.ref (.g 0) 0] set0S (fun r t => r = .d (.int .i64 0) ∧ t = set0S) := by
  refine run46 1 [] rfl rfl ?_
  conv => whnf
  exact ⟨rfl, rfl⟩
set_option maxRecDepth 100000 in
theorem len_some (l : List Kl) : Contract Try.prog G0 46 [.ref (.g 0) 0] (setS l) (fun r t => r = .d (.int .i64 (l.length : Int)) ∧ t = setS l) := by
  refine run46 2 [] rfl rfl ?_
  conv => whnf
  refine ⟨?_, rfl⟩
  rw [encL_len]
set_option maxRecDepth 100000 in
theorem put_none (k : Kl) : Contract Try.prog G0 26 [.ref (.g 0) 0, latK k] set0S (fun r t => r = .d (.bool true) ∧ t = setS [k]) := by
  refine run26 1 [] rfl rfl ?_
  conv => whnf
  refine .obj rfl ?_
  conv => whnf
  refine ⟨_, _, ⟨WkL.refl _, has_none (keyC k)⟩, fun res s1 h => ?_⟩
  obtain ⟨rfl, rfl⟩ := h
  conv => whnf
  refine ⟨stood36, encL [k], ⟨dxC_good (keyC k), fun e he => (by cases he), .inl ⟨fun e he => (by cases he), rfl⟩⟩, ?_⟩
  conv => whnf
  exact ⟨rfl, rfl⟩
set_option maxRecDepth 100000 in
theorem put_some (l : List Kl) (hn : Ks l) (hne : l ≠ []) (k : Kl) : Contract Try.prog G0 26 [.ref (.g 0) 0, latK k] (setS l) (fun r t => r = .d (.bool !(getL l (keyC k)).isSome) ∧ t = setS (putL l k)) := by
  refine run26 2 [] rfl rfl ?_
  conv => whnf
  refine .obj rfl ?_
  conv => whnf
  refine ⟨_, _, ⟨WkL.refl _, has_some l hn (keyC k)⟩, fun res s1 h => ?_⟩
  obtain ⟨rfl, rfl⟩ := h
  conv => whnf
  refine bcase_intro (fun h => ?_) (fun h => ?_)
  · exfalso
    rw [encL_len] at h
    have h2 : ((l.length : Int) == 0) = true := h
    exact hne (by simpa using h2)
  conv => whnf
  refine ⟨stood36, encL (putL l k), ⟨dxC_good (keyC k), good_encL l, dput_enc (ev := dxK) dxC_inj hn k⟩, ?_⟩
  conv => whnf
  exact ⟨rfl, rfl⟩
set_option maxRecDepth 100000 in
/-- .. onto a set that has been emptied: a new map. -/
theorem put_nil (k : Kl) : Contract Try.prog G0 26 [.ref (.g 0) 0, latK k] (setS []) (fun r t => r = .d (.bool true) ∧ ∃ d, t = [(0, .cells [.mp (.g 2)]), (1, .dmap d), (2, .dmap (encL [k]))]) := by
  refine run26 2 [] rfl rfl ?_
  conv => whnf
  refine .obj rfl ?_
  conv => whnf
  refine ⟨_, _, ⟨WkL.refl _, has_some [] .nil (keyC k)⟩, fun res s1 h => ?_⟩
  obtain ⟨rfl, rfl⟩ := h
  conv => whnf
  refine ⟨stood36, encL [k], ⟨dxC_good (keyC k), fun e he => (by cases he), .inl ⟨fun e he => (by cases he), rfl⟩⟩, ?_⟩
  conv => whnf
  exact ⟨rfl, _, rfl⟩
set_option maxRecDepth 100000 in
theorem del_some (l : List Kl) (hn : Ks l) (c : Int × Int) : Contract Try.prog G0 54 [.ref (.g 0) 0, calC c] (setS l) (fun r t => r = .d (.bool (getL l c).isSome) ∧ t = setS (delL l c)) := by
  refine run54 2 [] rfl rfl ?_
  conv => whnf
  refine .obj rfl ?_
  conv => whnf
  refine ⟨_, _, ⟨WkL.refl _, has_some l hn c⟩, fun res s1 h => ?_⟩
  obtain ⟨rfl, rfl⟩ := h
  conv => whnf
  refine ⟨stood36, encL (delL l c), ⟨dxC_good c, good_encL l, ddel_enc (ev := dxK) dxC_inj hn c⟩, ?_⟩
  conv => whnf
  exact ⟨rfl, rfl⟩
set_option maxRecDepth 100000 in
theorem values74 (l : List Kl) : Contract Try.prog G0 74 [.mp (.g 0)] [(0, .dmap (encL l))] (fun r t => r = .fn 104 [.ref (.g 1) 0] ∧ t = [(0, .dmap (encL l)), (1, .cells [.mp (.g 0)])]) := by
  refine run74 1 [] rfl rfl ?_
  conv => whnf
  exact ⟨rfl, rfl⟩
end Go.Proofs.Ytkenimmellonjaa
/- Seat r2: lists of latches held against each other. -/
namespace Go.Proofs.Ytkenimmellonjaa
open Go.Pv Go.RowKit Go.Shelf
theorem not_t {b : Bool} (h : (!b) = true) : b = false := by cases b <;> simp_all
theorem not_f {b : Bool} (h : (!b) = false) : b = true := by cases b <;> simp_all
def eqLs {α : Type} (f : α → α → Bool) : List α → List α → Bool
  | [], [] => true
  | x :: a, y :: b => bif f x y then eqLs f a b else false
  | _, _ => false
theorem eqLs_len {α : Type} {f : α → α → Bool} : ∀ {a b : List α}, a.length ≠ b.length → eqLs f a b = false
  | [], [], h => absurd rfl h
  | [], _ :: _, _ => rfl
  | _ :: _, [], _ => rfl
  | x :: a, y :: b, h => by
    show (bif f x y then eqLs f a b else false) = false
    rw [eqLs_len (a := a) (b := b) fun e => h (by simp [e])]
    cases f x y <;> rfl
theorem eqLs_refl {α : Type} {f : α → α → Bool} : ∀ {a : List α}, (∀ x ∈ a, f x x = true) → eqLs f a a = true
  | [], _ => rfl
  | x :: a, h => by
    show (bif f x x then eqLs f a a else false) = true
    rw [h x (List.mem_cons_self ..), eqLs_refl fun y hy => h y (List.mem_cons_of_mem _ hy)]
    rfl
theorem eqLs_ext {α : Type} {f g : α → α → Bool} (h : ∀ x y, f x y = g x y) : ∀ (a b : List α), eqLs f a b = eqLs g a b
  | [], [] => rfl
  | [], _ :: _ => rfl
  | _ :: _, [] => rfl
  | x :: a, y :: b => by
    show (bif f x y then eqLs f a b else false) = (bif g x y then eqLs g a b else false)
    rw [h, eqLs_ext h a b]
set_option maxRecDepth 100000 in
theorem sameLatchs30 (a b : List (Int × Int × Int)) (ha : a.length ≤ 4611686018427387904) : Contract Try.prog G0 30 [.d (.list 3 (rowsK a)), .d (.list 3 (rowsK b))] [] (fun r t => r = .d (.bool (eqLs sameK a b)) ∧ t = []) := by
  have hlen := rowsK_len a
  have hlen2 := rowsK_len b
  refine run30 0 [] rfl rfl ?_
  conv => whnf
  refine bcase_intro (fun h => ?_) (fun h => ?_) <;> conv => whnf
  · rw [hlen, hlen2] at h
    have h2 : a.length ≠ b.length := fun e => by rw [e] at h; simp at h
    exact ⟨rd_bool (eqLs_len h2).symm, rfl⟩
  have hab : a.length = b.length := by
    rw [hlen, hlen2] at h
    have : (a.length : Int) = (b.length : Int) := by simpa using h
    omega
  refine StopG.rounds wk30 [] [0, 1, 5] (fun m env s => ∃ i : Nat, i ≤ a.length ∧ m = a.length - i ∧ eqLs sameK a b = eqLs sameK (a.drop i) (b.drop i) ∧
    env = [(0, .d (.list 3 (rowsK a))), (1, .d (.list 3 (rowsK b))), (5, .d (.int .i64 (i : Int)))] ∧ s = []) rfl ?_ ?_
  · conv => whnf
    exact ⟨_, 0, Nat.zero_le _, rfl, rfl, rfl, rfl⟩
  rintro m env s ⟨i, hi, rfl, heq, rfl, rfl⟩
  conv => whnf
  refine bcase_intro (fun h => ?_) (fun h => ?_) <;> conv => whnf
  · have h := lt_of h
    rw [hlen] at h
    obtain ⟨x, hx, hdrop⟩ := at_i h
    obtain ⟨y, hy, hdrop2⟩ := at_i (l := b) (i := i) (by omega)
    rw [hdrop, hdrop2, eqLs] at heq
    refine ⟨rowK x, ⟨by omega, row_i hx⟩, ?_⟩
    conv => whnf
    refine ⟨rowK y, ⟨by omega, row_i hy⟩, ?_⟩
    conv => whnf
    refine .scal [latV x.1 x.2.1 x.2.2, latV y.1 y.2.1 y.2.2] _ ⟨.refl _, rfl, sameLatch _ _ _ _ _ _⟩ ?_
    conv => whnf
    refine bcase_intro (fun h2 => ?_) (fun h2 => ?_) <;> conv => whnf
    · have h2 : sameK x y = false := not_t h2
      rw [h2] at heq
      exact ⟨rd_bool heq.symm, rfl⟩
    · have h2 : sameK x y = true := not_f h2
      rw [h2] at heq
      rw [succ_i h ha]
      exact ⟨_, by omega, i + 1, h, rfl, heq, rfl, rfl⟩
  · have h := ge_of h
    rw [hlen] at h
    rw [List.drop_of_length_le h, List.drop_of_length_le (by omega)] at heq
    exact ⟨rd_bool heq.symm, rfl⟩
end Go.Proofs.Ytkenimmellonjaa
/- Seat r2: sets of calls played: what the chapter's lists come to. -/
namespace Go.Proofs.Ytkenimmellonjaa
open Go.Pv
def ahdB (a b : Kl) : Bool := bif decide (a.1 < b.1) then true else bif a.1 == b.1 then decide (a.2.1 < b.2.1) else false
def samC (a b : Kl) : Bool := bif a.1 == b.1 then a.2.1 == b.2.1 else false
/-- How many stand ahead. -/
def firstNot : List Kl → Kl → Nat
  | [], _ => 0
  | y :: r, x => bif ahdB y x then firstNot r x + 1 else 0
def anewR : List Kl → Kl → Bool
  | [], _ => true
  | y :: r, x => bif ahdB y x then anewR r x else !samC y x
def plI : List Kl → Kl → List Kl
  | [], x => [x]
  | y :: r, x => bif ahdB y x then y :: plI r x else bif samC y x then x :: r else x :: y :: r
theorem firstNot_le : ∀ (l : List Kl) (x : Kl), firstNot l x ≤ l.length
  | [], _ => Nat.le_refl _
  | y :: r, x => by
    unfold firstNot
    cases ahdB y x
    · exact Nat.zero_le _
    · exact Nat.succ_le_succ (firstNot_le r x)
theorem anewR_at : ∀ (l : List Kl) (x : Kl), anewR l x = match l[firstNot l x]? with | none => true | some y => !samC y x
  | [], _ => rfl
  | y :: r, x => by
    unfold firstNot anewR
    cases ahdB y x
    · rfl
    · simp only [cond_true, List.getElem?_cons_succ]
      exact anewR_at r x
theorem plI_at : ∀ (l : List Kl) (x : Kl), plI l x = l.take (firstNot l x) ++ [x] ++ l.drop (bif anewR l x then firstNot l x else firstNot l x + 1)
  | [], _ => rfl
  | y :: r, x => by
    unfold firstNot anewR plI
    cases ahdB y x
    · cases samC y x <;> rfl
    · simp only [cond_true, List.take_succ_cons, List.cons_append]
      rw [plI_at r x]
      cases anewR r x <;> rfl
def delI (H : List Kl) (c : Int × Int) : List Kl := H.filter fun z => !(bif z.1 == c.1 then z.2.1 == c.2 else false)
/-- What the last look comes to. -/
def gotB (a : Int × Int) (g : Kl) (H : List Kl) : Bool := H.foldl (fun b y => bif (bif y.1 == a.1 then y.2.1 == a.2 else false) then sameK y g else b) false
theorem gotB_snoc (a : Int × Int) (g : Kl) (H : List Kl) (y : Kl) : gotB a g (H ++ [y]) = bif (bif y.1 == a.1 then y.2.1 == a.2 else false) then sameK y g else gotB a g H := by simp [gotB]
end Go.Proofs.Ytkenimmellonjaa
/- Seat r2: the chapter's lists of latches: copied, put into, deleted from, kept of. -/
namespace Go.Proofs.Ytkenimmellonjaa
open Go.Pv Go.RowKit Go.Shelf
set_option maxRecDepth 100000 in
theorem latchs85 (l : List Kl) (hl : l.length ≤ 100000) : Contract Try.prog G0 85 [.d (.list 3 (rowsK l))] [] (fun r t => ∃ c, l.length ≤ c ∧ r = .slc (.g 0) 3 0 l.length c ∧ t = [(0, .row 3 (rowsK l))]) := by
  have hlen := rowsK_len l
  refine run85 0 [] rfl rfl ?_
  conv => whnf
  refine ⟨0, l.length, ⟨rfl, by rw [hlen], Nat.zero_le _, by show l.length * 24 ≤ _; omega, by omega⟩, ?_⟩
  conv => whnf
  refine StopG.rounds wk85 [] [0, 3, 4] (fun m env s => ∃ i c : Nat, i ≤ l.length ∧ m = l.length - i ∧ i ≤ c ∧
    env = [(0, .d (.list 3 (rowsK l))), (3, .slc (.g 0) 3 0 i c), (4, .d (.int .i64 (i : Int)))] ∧ s = [(0, .row 3 (rowsK (l.take i)))]) rfl ?_ ?_
  · conv => whnf
    exact ⟨_, 0, l.length, Nat.zero_le _, rfl, Nat.zero_le _, rfl, rfl⟩
  rintro m env s ⟨i, c, hi, rfl, hic, rfl, rfl⟩
  conv => whnf
  refine bcase_intro (fun h => ?_) (fun h => ?_) <;> conv => whnf
  · have h := lt_of h
    rw [hlen] at h
    obtain ⟨x, hx, hdrop⟩ := at_i h
    refine ⟨rowK x, ⟨by omega, row_i hx⟩, ?_⟩
    conv => whnf
    have htl := rowsK_len (l.take i)
    rw [List.length_take] at htl
    refine ⟨by omega, ⟨?_, ?_⟩, ?_⟩
    · show (2 * (i + 1) + 1024) * 24 ≤ 281474976710656; omega
    · show i + 1 ≤ _; omega
    conv => whnf
    intro c2 hc2
    conv => whnf
    rw [succ_i h (by omega)]
    refine ⟨_, by omega, i + 1, c2, h, rfl, hc2, rfl, ?_⟩
    refine congrArg (fun q => [(0, AB.row 3 q)]) ?_
    rw [List.take_of_length_le (by omega), List.take_add_one, hx]
    simp [rowsK, rowK]
  · have h := ge_of h
    rw [hlen] at h
    have : i = l.length := by omega
    subst this
    refine ⟨c, hic, rfl, ?_⟩
    rw [List.take_of_length_le (Nat.le_refl _)]
theorem firstNot_cons (y : Kl) (r : List Kl) (x : Kl) : firstNot (y :: r) x = bif ahdB y x then firstNot r x + 1 else 0 := rfl
set_option maxHeartbeats 1000000 in
set_option maxRecDepth 100000 in
theorem putLatch52 (l : List Kl) (b : Kl) (hl : l.length ≤ 10000) : Contract Try.prog G0 52 [.d (.list 3 (rowsK l)), latK b] [] (fun r t => r = .tup [.d (.list 3 (rowsK (plI l b))), .d (.bool (anewR l b))] ∧ t = []) := by
  have hlen := rowsK_len l
  rw [plI_at]
  refine rung52 0 [4] rfl rfl ?_
  conv => whnf
  refine StopG.rounds wk52 [4] [0, 3, 6] (fun m env s => ∃ i : Nat, i ≤ l.length ∧ m = l.length - i ∧ i + firstNot (l.drop i) b = firstNot l b ∧
    env = [(0, .d (.list 3 (rowsK l))), (3, .ref (.g 0) 0), (6, .d (.int .i64 (i : Int)))] ∧ s = [(0, .cells [.d (.int .i64 b.1), .d (.int .i64 b.2.1), .d (.int .i64 b.2.2)])]) rfl ?_ ?_
  · conv => whnf
    exact ⟨_, 0, Nat.zero_le _, rfl, by simp, rfl, rfl⟩
  rintro m env s ⟨i, hi, rfl, heq, rfl, rfl⟩
  conv => whnf
  obtain ⟨x, hx⟩ : ∃ y : Kl, y = (l[i]?).getD (0, 0, 0) := ⟨_, rfl⟩
  have hx2 : i < l.length → l[i]? = .some x := fun h0 => by rw [hx, List.getElem?_eq_getElem h0]; rfl
  refine ⟨rowK x, fun hg => ?_, ?_⟩
  · have h0 := lt_of (show decide ((i : Int) < ((rowsK l).length : Int)) = true from hg)
    rw [hlen] at h0
    exact ⟨by omega, row_i (hx2 h0)⟩
  conv => whnf
  refine .scal [calV x.1 x.2.1, calV b.1 b.2.1] _ (fun _ => ⟨.refl _, rfl, lessCall _ _ _ _⟩) ?_
  conv => whnf
  refine bcase_intro (fun h => ?_) (fun h => ?_) <;> conv => whnf
  · rw [bif_and, Bool.and_eq_true] at h
    obtain ⟨h, h2⟩ := h
    have h := lt_of h
    rw [hlen] at h
    have h2 : ahdB x b = true := h2
    obtain ⟨y, hy, hdrop⟩ := at_i h
    rw [hx2 h] at hy
    cases hy
    rw [hdrop, firstNot_cons, h2] at heq
    simp only [cond_true] at heq
    rw [succ_i h (by omega)]
    exact ⟨_, by omega, i + 1, h, rfl, by omega, rfl, rfl⟩
  · have hk : i = firstNot l b := by
      rcases Nat.lt_or_ge i l.length with h1 | h1
      · obtain ⟨y, hy, hdrop⟩ := at_i h1
        rw [hx2 h1] at hy
        cases hy
        rw [hdrop, firstNot_cons] at heq
        have h2 : ahdB x b = false := by
          cases h2 : ahdB x b with
          | false => rfl
          | true =>
            rw [hlen, decide_eq_true (show (i : Int) < (l.length : Int) by omega)] at h
            have h : ahdB x b = false := h
            rw [h2] at h
            cases h
        rw [h2] at heq
        simp only [cond_false] at heq
        omega
      · rw [List.drop_eq_nil_of_le h1] at heq
        simpa [firstNot] using heq
    clear heq h
    have hat := anewR_at l b
    have hle := firstNot_le l b
    rw [← hk] at hat ⊢
    have e1 : List.drop (Int.toNat 0) (List.take ((i : Int)).toNat (rowsK l)) = rowsK (l.take i) := by simp [rowsK, List.map_take]
    have e2 : (l.take i).length = i := by rw [List.length_take]; omega
    have hin := latchs85 (l.take i) (by omega)
    have e3 := rowsK_len (l.take i)
    rw [e2] at hin e3
    have e6 : List.take i (rowsK (l.take i)) ++ [rowK b] = rowsK (l.take i ++ [b]) := by
      rw [List.take_of_length_le (by omega)]
      simp [rowsK]
    have hrow : [(0, AB.cells [.d (.int .i64 b.1), .d (.int .i64 b.2.1), .d (.int .i64 b.2.2)]), (1, AB.row 3 (List.take i (rowsK (l.take i)) ++ [rowK b]))] = [(0, AB.cells [.d (.int .i64 b.1), .d (.int .i64 b.2.1), .d (.int .i64 b.2.2)]), (1, AB.row 3 (rowsK (l.take i ++ [b])))] := by rw [e6]
    refine StopG.draw wk52 [] sp52_4 [0, 3, 6, 7] (fun env s => ∃ c2, i + 1 ≤ c2 ∧ env = [(0, .d (.list 3 (rowsK l))), (3, .ref (.g 0) 0), (6, .d (.int .i64 (i : Int))), (7, .slc (.g 1) 3 0 (i + 1) c2)] ∧ s = [(0, .cells [.d (.int .i64 b.1), .d (.int .i64 b.2.1), .d (.int .i64 b.2.2)]), (1, .row 3 (rowsK (l.take i ++ [b])))]) rfl rfl (by kernel_rfl) ?_ ?_
    · conv => whnf
      repeat' (first
        | (refine Both.mk ?_ ?_ <;> conv => whnf)
        | (refine ⟨⟨by omega, by omega, by omega⟩, ?_⟩; (conv => whnf); rw [e1])
        | (refine .obj rfl ?_; (conv => whnf); refine ⟨_, _, ⟨WkL.refl _, hin⟩, fun res s1 h => ?_⟩; obtain ⟨c, hc, rfl, rfl⟩ := h; conv => whnf)
        | (refine ⟨by omega, ⟨show (2 * (i + 1) + 1024) * 24 ≤ 281474976710656 by omega, show i + 1 ≤ 4611686018427387904 by omega⟩, ?_⟩; (conv => whnf); intro c2 hc2; conv => whnf)
        | exact ⟨_, by assumption, rfl, hrow⟩)
    rintro env s ⟨c2, hc2, rfl, rfl⟩
    conv => whnf
    refine ⟨rowK x, fun hg => ?_, ?_⟩
    · have h0 : ¬ ((i : Int) ≥ ((rowsK l).length : Int)) := of_decide_eq_false (show decide ((i : Int) ≥ ((rowsK l).length : Int)) = false from hg)
      rw [hlen] at h0
      exact ⟨by omega, row_i (hx2 (by omega))⟩
    conv => whnf
    refine .scal [calV x.1 x.2.1, calV b.1 b.2.1] _ (fun _ => ⟨.refl _, rfl, sameCall _ _ _ _⟩) ?_
    conv => whnf
    have hanew : (bif decide ((i : Int) ≥ ((rowsK l).length : Int)) then true else !(samC x b)) = anewR l b := by
      rw [hat, hlen]
      rcases Nat.lt_or_ge i l.length with h1 | h1
      · rw [hx2 h1, decide_eq_false (by omega)]; rfl
      · rw [List.getElem?_eq_none h1, decide_eq_true (by omega)]; rfl
    have hin2 : anewR l b = false → i < l.length := fun h => by
      rcases Nat.lt_or_ge i l.length with h1 | h1
      · exact h1
      · rw [hat, List.getElem?_eq_none h1] at h; cases h
    have hanew : (bif decide ((i : Int) ≥ ((rowsK l).length : Int)) then true else !(bif x.1 == b.1 then x.2.1 == b.2.1 else false)) = anewR l b := hanew
    rw [hanew]
    clear hat hanew
    cases ha : anewR l b with
    | true =>
      conv => whnf
      refine ⟨⟨by omega, by omega, by omega⟩, ?_⟩
      conv => whnf
      have e4 : (List.drop ((i : Int)).toNat (List.take (((rowsK l).length : Int)).toNat (rowsK l))) = rowsK (l.drop i) := by rw [Int.toNat_natCast, Int.toNat_natCast, List.take_of_length_le (Nat.le_refl _)]; simp [rowsK]
      have e5 : (rowsK (l.drop i)).length = l.length - i := by rw [rowsK_len, List.length_drop]
      have e7 : (rowsK (l.take i ++ [b])).length = i + 1 := by rw [rowsK_len, List.length_append, e2]; rfl
      rw [e4]
      refine ⟨by omega, ⟨?_, ?_⟩, ?_⟩
      · show (2 * (i + 1 + (rowsK (l.drop i)).length) + 1024) * 24 ≤ 281474976710656; rw [e5]; omega
      · show i + 1 + (rowsK (l.drop i)).length ≤ _; rw [e5]; omega
      conv => whnf
      intro c3 hc3
      conv => whnf
      have e8 : List.take (i + 1) (rowsK (l.take i ++ [b])) ++ rowsK (l.drop i) = rowsK (l.take i ++ [b] ++ l.drop i) := by
        rw [List.take_of_length_le (by omega)]
        simp [rowsK]
      rw [e8]
      have e9 : (rowsK (l.take i ++ [b] ++ l.drop i)).length = i + 1 + (rowsK (l.drop i)).length := by
        rw [rowsK_len, rowsK_len, List.length_append, List.length_append, e2]; rfl
      refine ⟨_, _, GV.freeze 2 rfl (by simp) (by repeat' first | exact trivial | apply And.intro | decide | (simp; done) | omega) (by repeat' first | exact trivial | apply And.intro | decide | (simp; done)), ?_⟩
      conv => whnf
      refine ⟨?_, rfl⟩
      rw [List.drop_zero, List.take_of_length_le (by omega)]
      rfl
    | false =>
      have hil := hin2 ha
      conv => whnf
      rw [succ_i hil (by omega)]
      refine ⟨⟨by omega, by omega, by omega⟩, ?_⟩
      conv => whnf
      have e4 : (List.drop ((((i + 1 : Nat) : Int) : Int)).toNat (List.take (((rowsK l).length : Int)).toNat (rowsK l))) = rowsK (l.drop (i + 1)) := by rw [Int.toNat_natCast, Int.toNat_natCast, List.take_of_length_le (Nat.le_refl _)]; simp [rowsK]
      have e5 : (rowsK (l.drop (i + 1))).length = l.length - (i + 1) := by rw [rowsK_len, List.length_drop]
      have e7 : (rowsK (l.take i ++ [b])).length = i + 1 := by rw [rowsK_len, List.length_append, e2]; rfl
      rw [e4]
      refine ⟨by omega, ⟨?_, ?_⟩, ?_⟩
      · show (2 * (i + 1 + (rowsK (l.drop (i + 1))).length) + 1024) * 24 ≤ 281474976710656; rw [e5]; omega
      · show i + 1 + (rowsK (l.drop (i + 1))).length ≤ _; rw [e5]; omega
      conv => whnf
      intro c3 hc3
      conv => whnf
      have e8 : List.take (i + 1) (rowsK (l.take i ++ [b])) ++ rowsK (l.drop (i + 1)) = rowsK (l.take i ++ [b] ++ l.drop (i + 1)) := by
        rw [List.take_of_length_le (by omega)]
        simp [rowsK]
      rw [e8]
      have e9 : (rowsK (l.take i ++ [b] ++ l.drop (i + 1))).length = i + 1 + (rowsK (l.drop (i + 1))).length := by
        rw [rowsK_len, rowsK_len, List.length_append, List.length_append, e2]; rfl
      refine ⟨_, _, GV.freeze 2 rfl (by simp) (by repeat' first | exact trivial | apply And.intro | decide | (simp; done) | omega) (by repeat' first | exact trivial | apply And.intro | decide | (simp; done)), ?_⟩
      conv => whnf
      refine ⟨?_, rfl⟩
      rw [List.drop_zero, List.take_of_length_le (by omega)]
      rfl
theorem dec_nat (a b : Nat) : decide ((a : Int) < (b : Int)) = decide (a < b) := by
  rw [decide_eq_decide]; exact Int.ofNat_lt
theorem delI_snoc {l : List Kl} {c : Int × Int} {i : Nat} {x : Kl} (hx : l[i]? = some x) : delI (l.take (i + 1)) c = delI (l.take i) c ++ (match !(bif x.1 == c.1 then x.2.1 == c.2 else false) with | true => [x] | false => []) := by
  rw [List.take_add_one, hx]
  simp only [delI, List.filter_append, Option.toList, List.filter_cons, List.filter_nil]
  cases (bif x.1 == c.1 then x.2.1 == c.2 else false) <;> rfl
set_option maxHeartbeats 1000000 in
set_option maxRecDepth 100000 in
theorem delLatch53 (l : List Kl) (hl : l.length ≤ 1000) (c : Int × Int) : Contract Try.prog G0 53 [.d (.list 3 (rowsK l)), calC c] [] (fun r t => r = .tup [.d (.list 3 (rowsK (delI l c))), .d (.bool (decide ((delI l c).length < l.length)))] ∧ t = []) := by
  have hlen := rowsK_len l
  refine rung53 0 [] rfl rfl ?_
  conv => whnf
  refine StopG.rounds wk53 [] [0, 3, 6, 7] (fun m env s => ∃ i : Nat, ∃ w, delI (l.take i) c = w ∧ i ≤ l.length ∧ m = l.length - i ∧ ((w = [] ∧ env = [(0, .d (.list 3 (rowsK l))), (3, .ref (.g 0) 0), (6, .d .nil), (7, .d (.int .i64 (i : Int)))] ∧ s = [(0, .cells [.d (.int .i64 c.1), .d (.int .i64 c.2)])]) ∨ ∃ wc, w.length ≤ wc ∧ env = [(0, .d (.list 3 (rowsK l))), (3, .ref (.g 0) 0), (6, .slc (.g 1) 3 0 w.length wc), (7, .d (.int .i64 (i : Int)))] ∧ s = [(0, .cells [.d (.int .i64 c.1), .d (.int .i64 c.2)])] ++ [(1, .row 3 (rowsK w))])) rfl ?_ ?_
  · conv => whnf
    exact ⟨_, 0, [], rfl, Nat.zero_le _, rfl, .inl ⟨rfl, rfl, rfl⟩⟩
  rintro m env s ⟨i, w, hw, hi, rfl, hout⟩
  rcases hout with ⟨rfl, rfl, rfl⟩ | ⟨wc, hwc, rfl, rfl⟩
  · conv => whnf
    refine bcase_intro (fun h => ?_) (fun h => ?_) <;> conv => whnf
    · have hil := lt_of h
      rw [hlen] at hil
      obtain ⟨x, hx, hdrop⟩ := at_i hil
      refine ⟨rowK x, ⟨by omega, row_i hx⟩, ?_⟩
      conv => whnf
      refine .scal [calV x.1 x.2.1, calV c.1 c.2] _ ⟨.refl _, rfl, sameCall _ _ _ _⟩ ?_
      conv => whnf
      refine bcase_intro (fun hg => ?_) (fun hg => ?_) <;> conv => whnf
      · have hwon : (!(bif x.1 == c.1 then x.2.1 == c.2 else false)) = true := hg
        refine ⟨rowK x, ⟨by omega, row_i hx⟩, ?_⟩
        conv => whnf
        refine ⟨⟨?_, ?_⟩, ?_⟩
        · show (2 * 1 + 1024) * 24 ≤ 281474976710656; omega
        · show 1 ≤ _; omega
        conv => whnf
        intro c2 hc2
        conv => whnf
        rw [succ_i hil (by omega)]
        refine ⟨_, by omega, i + 1, [x], ?_, hil, rfl, .inr ⟨c2, hc2, rfl, rfl⟩⟩
        rw [delI_snoc hx, hw, hwon]; rfl
      · have hwon : (!(bif x.1 == c.1 then x.2.1 == c.2 else false)) = false := hg
        rw [succ_i hil (by omega)]
        refine ⟨_, by omega, i + 1, [], ?_, hil, rfl, .inl ⟨rfl, rfl, rfl⟩⟩
        rw [delI_snoc hx, hw, hwon]; rfl
    · have hil := ge_of h
      rw [hlen] at hil
      rw [show i = l.length by omega, List.take_length] at hw
      refine ⟨_, _, GV.wk 4 3, ?_⟩
      conv => whnf
      refine ⟨?_, rfl⟩
      rw [hlen, hw, show decide ((0 : Int) < (l.length : Int)) = decide (([] : List Kl).length < l.length) from dec_nat 0 l.length]
      rfl
  · conv => whnf
    refine bcase_intro (fun h => ?_) (fun h => ?_) <;> conv => whnf
    · have hil := lt_of h
      rw [hlen] at hil
      obtain ⟨x, hx, hdrop⟩ := at_i hil
      refine ⟨rowK x, ⟨by omega, row_i hx⟩, ?_⟩
      conv => whnf
      refine .scal [calV x.1 x.2.1, calV c.1 c.2] _ ⟨.refl _, rfl, sameCall _ _ _ _⟩ ?_
      conv => whnf
      refine bcase_intro (fun hg => ?_) (fun hg => ?_) <;> conv => whnf
      · have hwon : (!(bif x.1 == c.1 then x.2.1 == c.2 else false)) = true := hg
        have hwl : w.length ≤ 1000 := by
          rw [← hw]
          refine Nat.le_trans (List.length_filter_le ..) ?_
          simp; omega
        have hrl := rowsK_len w
        refine ⟨rowK x, ⟨by omega, row_i hx⟩, ?_⟩
        conv => whnf
        refine ⟨by omega, ⟨?_, ?_⟩, ?_⟩
        · show (2 * (w.length + 1) + 1024) * 24 ≤ 281474976710656; omega
        · show w.length + 1 ≤ _; omega
        conv => whnf
        intro c2 hc2
        conv => whnf
        rw [succ_i hil (by omega), List.take_of_length_le (by omega)]
        refine ⟨_, by omega, i + 1, w ++ [x], ?_, hil, rfl, .inr ⟨c2, by simpa using hc2, ?_, ?_⟩⟩
        · rw [delI_snoc hx, hw, hwon]
        · rw [List.length_append]; rfl
        · rw [show rowsK (w ++ [x]) = rowsK w ++ [rowK x] by simp [rowsK]]; rfl
      · have hwon : (!(bif x.1 == c.1 then x.2.1 == c.2 else false)) = false := hg
        rw [succ_i hil (by omega)]
        refine ⟨_, by omega, i + 1, w, ?_, hil, rfl, .inr ⟨wc, hwc, rfl, rfl⟩⟩
        rw [delI_snoc hx, hw, hwon, List.append_nil]
    · have hil := ge_of h
      rw [hlen] at hil
      rw [show i = l.length by omega, List.take_length] at hw
      have hrl := rowsK_len w
      refine ⟨_, _, GV.freeze 1 rfl (by simp) (by repeat' first | exact trivial | apply And.intro | decide | (simp; done) | omega) (by repeat' first | exact trivial | apply And.intro | decide | (simp; done)), ?_⟩
      conv => whnf
      refine ⟨?_, rfl⟩
      rw [List.drop_zero, List.take_of_length_le (by omega), hlen, hw, show decide ((w.length : Int) < (l.length : Int)) = decide (w.length < l.length) from dec_nat _ _]
theorem keepI_snoc {l ks : List Kl} {i : Nat} {x : Kl} (hx : l[i]? = some x) : (l.take (i + 1)).filter (hasK ks) = (l.take i).filter (hasK ks) ++ (match hasK ks x with | true => [x] | false => []) := by
  rw [List.take_add_one, hx]
  simp only [List.filter_append, Option.toList, List.filter_cons, List.filter_nil]
  cases hasK ks x <;> rfl
set_option maxHeartbeats 1000000 in
set_option maxRecDepth 100000 in
theorem keepLatch55 (l : List Kl) (hl : l.length ≤ 1000) (ks : List Kl) (hk : ks.length ≤ 100000) : Contract Try.prog G0 55 [.d (.list 3 (rowsK l)), .d (.list 3 (rowsK ks))] [] (fun r t => r = .d (.list 3 (rowsK (l.filter (hasK ks)))) ∧ t = []) := by
  have hlen := rowsK_len l
  refine rung55 0 [] rfl rfl ?_
  conv => whnf
  refine StopG.rounds wk55 [] [0, 1, 5, 6] (fun m env s => ∃ i : Nat, ∃ w, List.filter (hasK ks) (l.take i) = w ∧ i ≤ l.length ∧ m = l.length - i ∧ ((w = [] ∧ env = [(0, .d (.list 3 (rowsK l))), (1, .d (.list 3 (rowsK ks))), (5, .d .nil), (6, .d (.int .i64 (i : Int)))] ∧ s = []) ∨ ∃ wc, w.length ≤ wc ∧ env = [(0, .d (.list 3 (rowsK l))), (1, .d (.list 3 (rowsK ks))), (5, .slc (.g 0) 3 0 w.length wc), (6, .d (.int .i64 (i : Int)))] ∧ s = [] ++ [(0, .row 3 (rowsK w))])) rfl ?_ ?_
  · conv => whnf
    exact ⟨_, 0, [], rfl, Nat.zero_le _, rfl, .inl ⟨rfl, rfl, rfl⟩⟩
  rintro m env s ⟨i, w, hw, hi, rfl, hout⟩
  rcases hout with ⟨rfl, rfl, rfl⟩ | ⟨wc, hwc, rfl, rfl⟩
  · conv => whnf
    refine bcase_intro (fun h => ?_) (fun h => ?_) <;> conv => whnf
    · have hil := lt_of h
      rw [hlen] at hil
      obtain ⟨x, hx, hdrop⟩ := at_i hil
      refine ⟨rowK x, ⟨by omega, row_i hx⟩, ?_⟩
      conv => whnf
      refine .scal [.d (.list 3 (rowsK ks)), latV x.1 x.2.1 x.2.2] _ ⟨.refl _, rfl, hasLatch ks hk _ _ _⟩ ?_
      conv => whnf
      refine bcase_intro (fun hg => ?_) (fun hg => ?_) <;> conv => whnf
      · have hwon : hasK ks x = true := hg
        refine ⟨rowK x, ⟨by omega, row_i hx⟩, ?_⟩
        conv => whnf
        refine ⟨⟨?_, ?_⟩, ?_⟩
        · show (2 * 1 + 1024) * 24 ≤ 281474976710656; omega
        · show 1 ≤ _; omega
        conv => whnf
        intro c2 hc2
        conv => whnf
        rw [succ_i hil (by omega)]
        refine ⟨_, by omega, i + 1, [x], ?_, hil, rfl, .inr ⟨c2, hc2, rfl, rfl⟩⟩
        rw [keepI_snoc hx, hw, hwon]; rfl
      · have hwon : hasK ks x = false := hg
        rw [succ_i hil (by omega)]
        refine ⟨_, by omega, i + 1, [], ?_, hil, rfl, .inl ⟨rfl, rfl, rfl⟩⟩
        rw [keepI_snoc hx, hw, hwon]; rfl
    · have hil := ge_of h
      rw [hlen] at hil
      rw [show i = l.length by omega, List.take_length] at hw
      refine ⟨_, _, GV.wk 4 3, ?_⟩
      conv => whnf
      refine ⟨?_, rfl⟩
      rw [hw]
      rfl
  · conv => whnf
    refine bcase_intro (fun h => ?_) (fun h => ?_) <;> conv => whnf
    · have hil := lt_of h
      rw [hlen] at hil
      obtain ⟨x, hx, hdrop⟩ := at_i hil
      refine ⟨rowK x, ⟨by omega, row_i hx⟩, ?_⟩
      conv => whnf
      refine .scal [.d (.list 3 (rowsK ks)), latV x.1 x.2.1 x.2.2] _ ⟨.refl _, rfl, hasLatch ks hk _ _ _⟩ ?_
      conv => whnf
      refine bcase_intro (fun hg => ?_) (fun hg => ?_) <;> conv => whnf
      · have hwon : hasK ks x = true := hg
        have hwl : w.length ≤ 1000 := by
          rw [← hw]
          refine Nat.le_trans (List.length_filter_le ..) ?_
          simp; omega
        have hrl := rowsK_len w
        refine ⟨rowK x, ⟨by omega, row_i hx⟩, ?_⟩
        conv => whnf
        refine ⟨by omega, ⟨?_, ?_⟩, ?_⟩
        · show (2 * (w.length + 1) + 1024) * 24 ≤ 281474976710656; omega
        · show w.length + 1 ≤ _; omega
        conv => whnf
        intro c2 hc2
        conv => whnf
        rw [succ_i hil (by omega), List.take_of_length_le (by omega)]
        refine ⟨_, by omega, i + 1, w ++ [x], ?_, hil, rfl, .inr ⟨c2, by simpa using hc2, ?_, ?_⟩⟩
        · rw [keepI_snoc hx, hw, hwon]
        · rw [List.length_append]; rfl
        · rw [show rowsK (w ++ [x]) = rowsK w ++ [rowK x] by simp [rowsK]]; rfl
      · have hwon : hasK ks x = false := hg
        rw [succ_i hil (by omega)]
        refine ⟨_, by omega, i + 1, w, ?_, hil, rfl, .inr ⟨wc, hwc, rfl, rfl⟩⟩
        rw [keepI_snoc hx, hw, hwon, List.append_nil]
    · have hil := ge_of h
      rw [hlen] at hil
      rw [show i = l.length by omega, List.take_length] at hw
      have hrl := rowsK_len w
      refine ⟨_, _, GV.freeze 0 rfl (by simp) (by repeat' first | exact trivial | apply And.intro | decide | (simp; done) | omega) (by repeat' first | exact trivial | apply And.intro | decide | (simp; done)), ?_⟩
      conv => whnf
      refine ⟨?_, rfl⟩
      rw [List.drop_zero, List.take_of_length_le (by omega), hw]
end Go.Proofs.Ytkenimmellonjaa
