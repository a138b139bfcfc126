/- The seat's texts, part 2: what single functions of the program compute; no statement of its own. -/
import Derived.Test.YtkenimmellonjaaGreatGA
/- Seat Z: whose it is. -/
namespace Go.Proofs.YtkenimmellonjaaGreat
open Go.Pv Go.RowKit Go.Shelf
/-- The latch of an entry. -/
def rowK (e : Int × Int × Int) : List DV := [.int .i64 e.1, .int .i64 e.2.1, .int .i64 e.2.2]
def rowsK (l : List (Int × Int × Int)) : List (List DV) := l.map rowK
theorem rowsK_len (l : List (Int × Int × Int)) : (rowsK l).length = l.length := by simp [rowsK]
def keyE (e : En) : Int × Int × Int := (e.fl, e.dr, e.gn)
def hisE (who : Int) (e : En) : Bool := bif decide (0 ≤ e.aw) then decide (e.aw = who) else false
def mineL (who : Int) (l : List En) : List (Int × Int × Int) := (l.filter (hisE who)).map keyE
theorem mineL_snoc {l : List En} {who : Int} {i : Nat} {x : En} (hx : l[i]? = some x) : mineL who (l.take (i + 1)) = mineL who (l.take i) ++ (match hisE who x with | true => [keyE x] | false => []) := by
  rw [List.take_add_one, hx]
  simp only [mineL, List.filter_append, List.map_append, Option.toList]
  cases h : hisE who x <;> simp [h]
theorem mineL_len (who : Int) (l : List En) : (mineL who l).length ≤ l.length := by
  rw [mineL, List.length_map]; exact List.length_filter_le _ _
set_option maxRecDepth 100000 in
theorem mine (cnt fdr hop : Int) (mem : List Int) (l : List En) (hl : l.length ≤ 1000) (who : Int) : Contract Tryz.prog G0 23 [awG cnt fdr hop mem l, .d (.int .i64 who)] [] (fun r t => r = .d (.list 3 (rowsK (mineL who l))) ∧ t = []) := by
  have hlen := rowsE_len l
  refine Contract.as_list (by decide) ?_
  refine run23 0 [] rfl rfl ?_
  conv => whnf
  refine StopG.rounds wk23 [] [1, 5, 9, 10, 11] (fun m env s => ∃ i : Nat, ∃ w, mineL who (l.take i) = w ∧ i ≤ l.length ∧ m = l.length - i ∧ ((w = [] ∧ env = [(1, .d (.int .i64 who)), (5, .d .nil), (9, .d (.list 5 (rowsE l))), (10, .d (.int .i64 ((rowsE l).length : Int))), (11, .d (.int .i64 (i : Int)))] ∧ s = []) ∨ ∃ wc, w.length ≤ wc ∧ env = [(1, .d (.int .i64 who)), (5, .slc (.g 0) 3 0 w.length wc), (9, .d (.list 5 (rowsE l))), (10, .d (.int .i64 ((rowsE l).length : Int))), (11, .d (.int .i64 (i : Int)))] ∧ s = [(0, .row 3 (rowsK w))])) rfl ?_ ?_
  · conv => whnf
    exact ⟨_, 0, [], rfl, Nat.zero_le _, rfl, .inl ⟨rfl, rfl, rfl⟩⟩
  rintro m env s ⟨i, w, hw, hi, rfl, hout⟩
  rcases hout with ⟨rfl, rfl, rfl⟩ | ⟨wc, hwc, rfl, rfl⟩
  · conv => whnf
    refine bcase_intro (fun h => ?_) (fun h => ?_) <;> conv => whnf
    · have hil := lt_of h
      rw [hlen] at hil
      obtain ⟨x, hx, hdrop⟩ := at_i hil
      refine ⟨rowE x, ⟨by omega, row_i hx⟩, ?_⟩
      conv => whnf
      refine bcase_intro (fun hg => ?_) (fun hg => ?_) <;> conv => whnf
      · have hwon : hisE who x = true := hg
        refine ⟨⟨?_, ?_⟩, ?_⟩
        · show (2 * 1 + 1024) * 24 ≤ 281474976710656; omega
        · show 1 ≤ _; omega
        conv => whnf
        intro c2 hc2
        conv => whnf
        rw [succ_i hil (by omega)]
        refine ⟨_, by omega, i + 1, [keyE x], ?_, hil, rfl, .inr ⟨c2, hc2, rfl, rfl⟩⟩
        rw [mineL_snoc hx, hw, hwon]; rfl
      · have hwon : hisE who x = false := hg
        rw [succ_i hil (by omega)]
        refine ⟨_, by omega, i + 1, [], ?_, hil, rfl, .inl ⟨rfl, rfl, rfl⟩⟩
        rw [mineL_snoc hx, hw, hwon]; rfl
    · have hil := ge_of h
      rw [hlen] at hil
      rw [show i = l.length by omega, List.take_length] at hw
      rw [hw]
      exact .inl ⟨.inl rfl, rfl, rfl⟩
  · conv => whnf
    refine bcase_intro (fun h => ?_) (fun h => ?_) <;> conv => whnf
    · have hil := lt_of h
      rw [hlen] at hil
      obtain ⟨x, hx, hdrop⟩ := at_i hil
      refine ⟨rowE x, ⟨by omega, row_i hx⟩, ?_⟩
      conv => whnf
      refine bcase_intro (fun hg => ?_) (fun hg => ?_) <;> conv => whnf
      · have hwon : hisE who x = true := hg
        have hwl : w.length ≤ 1000 := by
          rw [← hw]
          refine Nat.le_trans (mineL_len _ _) ?_
          simp; omega
        have hrl := rowsK_len w
        refine ⟨by omega, ⟨?_, ?_⟩, ?_⟩
        · show (2 * (w.length + 1) + 1024) * 24 ≤ 281474976710656; omega
        · show w.length + 1 ≤ _; omega
        conv => whnf
        intro c2 hc2
        conv => whnf
        rw [succ_i hil (by omega), List.take_of_length_le (by omega)]
        refine ⟨_, by omega, i + 1, w ++ [keyE x], ?_, hil, rfl, .inr ⟨c2, by simpa using hc2, ?_, ?_⟩⟩
        · rw [mineL_snoc hx, hw, hwon]
        · rw [List.length_append]; rfl
        · rw [show rowsK (w ++ [keyE x]) = rowsK w ++ [rowK (keyE x)] by simp [rowsK]]; rfl
      · have hwon : hisE who x = false := hg
        rw [succ_i hil (by omega)]
        refine ⟨_, by omega, i + 1, w, ?_, hil, rfl, .inr ⟨wc, hwc, rfl, rfl⟩⟩
        rw [mineL_snoc hx, hw, hwon, List.append_nil]
    · have hil := ge_of h
      rw [hlen] at hil
      rw [show i = l.length by omega, List.take_length] at hw
      rw [hw]
      exact .inr ⟨wc, by rw [rowsK_len]; exact hwc, by rw [rowsK_len], rfl⟩
end Go.Proofs.YtkenimmellonjaaGreat
/- Seat Z: latches that come in. -/
namespace Go.Proofs.YtkenimmellonjaaGreat
open Go.Pv Go.RowKit
theorem dat_lat {n : Nat} {r : List DV} (h : Dat T (n + 3) 53 r) : ∃ k : Int × Int × Int, r = rowK k := by
  obtain ⟨_, _, rfl, ⟨_, _, rfl, ⟨fl, _, _, rfl⟩, _, _, rfl, ⟨dr, _, _, rfl⟩, rfl⟩, _, _, rfl, ⟨gn, _, _, rfl⟩, rfl⟩ := h
  exact ⟨(fl, dr, gn), rfl⟩
theorem dat_lats {n : Nat} {r : List DV} (h : Dat T (n + 4) 28 r) : ∃ (x : DV) (l : List (Int × Int × Int)), r = [x] ∧ l.length ≤ maxLen ∧ WkD x (.list 3 (rowsK l)) := by
  rcases h with h | ⟨rows, h1, h2, h⟩
  · exact ⟨.nil, [], h, by simp, WkD.nil 3⟩
  · have : ∃ l : List (Int × Int × Int), rows = rowsK l := by
      clear h1 h
      induction rows with
      | nil => exact ⟨[], rfl⟩
      | cons r rs ih =>
        obtain ⟨l, h3⟩ := ih fun x hx => h2 x (List.mem_cons_of_mem _ hx)
        obtain ⟨b, h4⟩ := dat_lat (h2 r (List.mem_cons_self ..))
        exact ⟨b :: l, by rw [h3, h4]; rfl⟩
    obtain ⟨l, rfl⟩ := this
    exact ⟨_, l, h, by simpa [rowsK] using h1, WkD.refl _⟩
theorem arg_lats {n : Nat} {x : AV} (h : ArgD T (n + 5) 28 x) : ∃ l : List (Int × Int × Int), l.length ≤ maxLen ∧ ∀ {r r' : List AV}, WkL r r' → WkL (x :: r) (.d (.list 3 (rowsK l)) :: r') := by
  obtain ⟨y, h, rfl⟩ := h
  obtain ⟨z, l, hz, hl, hw⟩ := dat_lats h
  cases hz
  exact ⟨l, hl, fun h => .w hw h⟩
end Go.Proofs.YtkenimmellonjaaGreat
/- Seat Z: latches and calls told apart. -/
namespace Go.Proofs.YtkenimmellonjaaGreat
open Go.Pv Go.RowKit Go.Shelf
abbrev calV (fl dr : Int) : AV := .agg [.d (.int .i64 fl), .d (.int .i64 dr)]
abbrev latV (fl dr gn : Int) : AV := .agg [.d (.int .i64 fl), .d (.int .i64 dr), .d (.int .i64 gn)]
set_option maxRecDepth 100000 in
theorem sameCall (a b a' b' : Int) : Contract Tryz.prog G0 61 [calV a b, calV a' b'] [] (fun r t => r = .d (.bool (bif a == a' then b == b' else false)) ∧ t = []) := by
  refine run61 0 [] rfl rfl ?_
  conv => whnf
  exact ⟨rfl, rfl⟩
set_option maxRecDepth 100000 in
theorem sameLatch (a b c a' b' c' : Int) : Contract Tryz.prog G0 64 [latV a b c, latV a' b' c'] [] (fun r t => r = .d (.bool (bif (bif a == a' then b == b' else false) then c == c' else false)) ∧ t = []) := by
  refine run64 0 [] rfl rfl ?_
  conv => whnf
  refine .scal [calV a b, calV a' b'] _ ⟨.refl _, rfl, sameCall a b a' b'⟩ ?_
  conv => whnf
  exact ⟨rfl, rfl⟩
set_option maxRecDepth 100000 in
theorem lessCall (a b a' b' : Int) : Contract Tryz.prog G0 59 [calV a b, calV a' b'] [] (fun r t => r = .d (.bool (bif decide (a < a') then true else bif a == a' then decide (b < b') else false)) ∧ t = []) := by
  refine run59 0 [] rfl rfl ?_
  conv => whnf
  exact ⟨rfl, rfl⟩
def carB (x : Int) : Bool := bif decide (x ≥ 0) then decide (x < 16) else false
set_option maxRecDepth 100000 in
theorem car107 (x : Int) : Contract Tryz.prog G0 72 [.d (.int .i64 x)] [] (fun r t => r = .d (.bool (carB x)) ∧ t = []) := by
  refine run72 0 [] rfl rfl ?_
  conv => whnf
  exact ⟨rfl, rfl⟩
def epoB (cnt fdr : Int) : Bool := bif bif bif decide (cnt ≥ 1) then decide (cnt ≤ 4294967295) else false then decide (fdr ≥ 0) else false then decide (fdr < 16) else false
set_option maxRecDepth 100000 in
theorem epoch106 (cnt fdr : Int) : Contract Tryz.prog G0 71 [.agg [.d (.int .i64 cnt), .d (.int .i64 fdr)]] [] (fun r t => r = .d (.bool (epoB cnt fdr)) ∧ t = []) := by
  refine run71 0 [] rfl rfl ?_
  conv => whnf
  exact ⟨rfl, rfl⟩
def sameK (x y : Int × Int × Int) : Bool := bif (bif x.1 == y.1 then x.2.1 == y.2.1 else false) then x.2.2 == y.2.2 else false
def hasK (l : List (Int × Int × Int)) (y : Int × Int × Int) : Bool := l.any fun x => sameK x y
set_option maxRecDepth 100000 in
theorem hasLatch (l : List (Int × Int × Int)) (hl : l.length ≤ 100000) (a b c : Int) : Contract Tryz.prog G0 49 [.d (.list 3 (rowsK l)), latV a b c] [] (fun r t => r = .d (.bool (hasK l (a, b, c))) ∧ t = []) := by
  have hlen := rowsK_len l
  refine run49 0 [] rfl rfl ?_
  conv => whnf
  refine StopG.rounds wk49 [] [0, 3, 5] (fun m env s => ∃ i : Nat, i ≤ l.length ∧ (hasK l (a, b, c) = hasK (l.drop i) (a, b, c)) ∧ m = l.length - i ∧ env = [(0, .d (.list 3 (rowsK l))), (3, .ref (.g 0) 0), (5, .d (.int .i64 (i : Int)))] ∧ s = [(0, .cells [.d (.int .i64 a), .d (.int .i64 b), .d (.int .i64 c)])]) rfl ?_ ?_
  · conv => whnf
    exact ⟨_, 0, Nat.zero_le _, rfl, rfl, rfl, rfl⟩
  rintro m env s ⟨i, hi, hh, rfl, rfl, rfl⟩
  conv => whnf
  refine bcase_intro (fun h => ?_) (fun h => ?_) <;> conv => whnf
  · have hil := lt_of h
    rw [hlen] at hil
    obtain ⟨x, hx, hdrop⟩ := at_i hil
    refine ⟨rowK x, ⟨by omega, row_i hx⟩, ?_⟩
    conv => whnf
    refine .scal [latV x.1 x.2.1 x.2.2, latV a b c] _ ⟨.refl _, rfl, sameLatch _ _ _ _ _ _⟩ ?_
    conv => whnf
    rw [hdrop] at hh
    refine bcase_intro (fun hg => ?_) (fun hg => ?_) <;> conv => whnf
    · have hs : sameK x (a, b, c) = true := hg
      rw [hh, hasK, List.any_cons, hs]
      exact ⟨rfl, rfl⟩
    · have hs : sameK x (a, b, c) = false := hg
      rw [succ_i hil (by omega)]
      refine ⟨_, by omega, i + 1, hil, ?_, rfl, rfl, rfl⟩
      rw [hh, hasK, List.any_cons, hs, Bool.false_or]; rfl
  · have hil := ge_of h
    rw [hlen] at hil
    rw [hh, show l.drop i = [] from List.drop_of_length_le hil]
    exact ⟨rfl, rfl⟩
end Go.Proofs.YtkenimmellonjaaGreat
/- Seat Z: a valid ring, as the papers say it. -/
namespace Go.Proofs.YtkenimmellonjaaGreat
open Go.Pv Go.RowKit Go.Shelf
/-- A bid that will not do. -/
def badB (ms : List Int) (b : B) : Bool := bif bif !(ms.any fun y => y == b.1) then true else decide (b.2 < 0) then true else decide (b.2 > 1048576)
/-- Neighbours in order. -/
def ascL : List Int → Bool
  | [] => true
  | x :: r => match r with
    | [] => true
    | y :: _ => bif decide (x ≥ y) then false else ascL r
def vBids (ms : List Int) (l : List B) : Int :=
  bif decide ((l.length : Int) > (ms.length : Int)) then 104 else bif l.any (badB ms) then 103 else bif !ascL (l.map (·.1)) then 111 else 0
theorem drop_two {α : Type} {l : List α} {i : Nat} {x y : α} (hx : l[i]? = some x) (hy : l[i + 1]? = some y) : l.drop i = x :: y :: l.drop (i + 2) := by
  obtain ⟨h1, h2⟩ := List.getElem?_eq_some_iff.1 hx
  obtain ⟨h3, h4⟩ := List.getElem?_eq_some_iff.1 hy
  rw [List.drop_eq_getElem_cons h1, List.drop_eq_getElem_cons h3, h2, h4]
theorem ascL_two (x y : Int) (r : List Int) : ascL (x :: y :: r) = bif decide (x ≥ y) then false else ascL (y :: r) := rfl
theorem back_i {i : Nat} (h : i + 1 ≤ 4611686018427387904) : IntKind.wrap .i64 (((i + 1 : Nat) : Int) - 1) = (i : Int) := pred_i (i := i + 1) (by omega) h
theorem ascL_short {l : List Int} (h : l.length ≤ 1) : ascL l = true := by
  match l, h with
  | [], _ => rfl
  | [_], _ => rfl
theorem ascL_drop {l : List Int} {i : Nat} {x y : Int} (hx : l[i]? = some x) (hy : l[i + 1]? = some y) : ascL (l.drop i) = bif decide (x ≥ y) then false else ascL (l.drop (i + 1)) := by
  have h := drop_two hx hy
  rw [h, ascL_two]
  have h2 : l.drop (i + 1) = y :: l.drop (i + 2) := by
    obtain ⟨h3, h4⟩ := List.getElem?_eq_some_iff.1 hy
    rw [List.drop_eq_getElem_cons h3, h4]
  rw [h2]
set_option maxRecDepth 100000 in
theorem validBids (ms : List Int) (hm : ms.length ≤ 100000) (l : List B) (hl : l.length ≤ 100000) : Contract Tryz.prog G0 73 [.d (.list 1 (rowsI ms)), .d (.list 2 (rowsB l))] [] (fun r t => r = .d (.int .i64 (vBids ms l)) ∧ t = []) := by
  have hlen := rowsB_len l
  have hmn := rowsI_len ms
  refine run73 0 [] rfl rfl ?_
  conv => whnf
  refine bcase_intro (fun hg => ?_) (fun hg => ?_) <;> conv => whnf
  · rw [hlen, hmn] at hg
    rw [vBids, hg]
    exact ⟨rfl, rfl⟩
  rw [hlen, hmn] at hg
  refine StopG.rounds wk73 [] [0, 1, 5] (fun m env s => ∃ i : Nat, i ≤ l.length ∧ l.any (badB ms) = (l.drop i).any (badB ms) ∧ m = l.length - i ∧ env = [(0, .d (.list 1 (rowsI ms))), (1, .d (.list 2 (rowsB l))), (5, .d (.int .i64 (i : Int)))] ∧ s = []) rfl ?_ ?_
  · conv => whnf
    exact ⟨_, 0, Nat.zero_le _, rfl, rfl, rfl, rfl⟩
  rintro m env s ⟨i, hi, hh, rfl, rfl, rfl⟩
  conv => whnf
  refine bcase_intro (fun h => ?_) (fun h => ?_) <;> conv => whnf
  · have hil := lt_of h
    rw [hlen] at hil
    obtain ⟨x, hx, hdrop⟩ := at_i hil
    refine ⟨rowB x, ⟨by omega, row_i hx⟩, ?_⟩
    conv => whnf
    refine .scal [.d (.list 1 (rowsI ms)), .d (.int .i64 x.1)] _ ⟨.refl _, rfl, among ms (by omega) x.1⟩ ?_
    conv => whnf
    refine ⟨rowB x, fun _ => ⟨by omega, row_i hx⟩, ?_⟩
    conv => whnf
    refine ⟨rowB x, fun _ => ⟨by omega, row_i hx⟩, ?_⟩
    conv => whnf
    rw [hdrop] at hh
    refine bcase_intro (fun hb => ?_) (fun hb => ?_) <;> conv => whnf
    · have hs : badB ms x = true := hb
      rw [List.any_cons, hs, Bool.true_or] at hh
      rw [vBids, hg, hh]
      exact ⟨rfl, rfl⟩
    · have hs : badB ms x = false := hb
      rw [List.any_cons, hs, Bool.false_or] at hh
      rw [succ_i hil (by omega)]
      exact ⟨_, by omega, i + 1, hil, hh, rfl, rfl, rfl⟩
  have hil := ge_of h
  rw [hlen] at hil
  rw [show l.drop i = [] from List.drop_of_length_le hil] at hh
  have hh : l.any (badB ms) = false := hh
  refine StopG.rounds wk73 [] [1, 6] (fun m env s => ∃ i : Nat, i ≤ l.length ∧ ascL (l.map (·.1)) = ascL ((l.map (·.1)).drop i) ∧ m = l.length - i ∧ env = [(1, .d (.list 2 (rowsB l))), (6, .d (.int .i64 ((i + 1 : Nat) : Int)))] ∧ s = []) rfl ?_ ?_
  · conv => whnf
    exact ⟨_, 0, Nat.zero_le _, rfl, rfl, rfl, rfl⟩
  rintro m env s ⟨i, hi, ha, rfl, rfl, rfl⟩
  conv => whnf
  refine bcase_intro (fun h => ?_) (fun h => ?_) <;> conv => whnf
  · have hil := lt_of h
    rw [hlen] at hil
    obtain ⟨x, hx, _⟩ := at_i (show i < l.length by omega)
    obtain ⟨y, hy, _⟩ := at_i hil
    rw [back_i (by omega)]
    refine ⟨rowB x, ⟨by omega, row_i hx⟩, ?_⟩
    conv => whnf
    refine ⟨rowB y, ⟨by omega, row_i hy⟩, ?_⟩
    conv => whnf
    have hd := ascL_drop (l := l.map (·.1)) (i := i) (x := x.1) (y := y.1) (by rw [List.getElem?_map, hx]; rfl) (by rw [List.getElem?_map, hy]; rfl)
    refine bcase_intro (fun hb => ?_) (fun hb => ?_) <;> conv => whnf
    · rw [hb] at hd
      rw [vBids, hg, hh, ha, hd]
      exact ⟨rfl, rfl⟩
    · rw [hb] at hd
      rw [succ_i (i := i + 1) hil (by omega)]
      exact ⟨_, by omega, i + 1, by omega, ha.trans hd, rfl, rfl, rfl⟩
  · have hil := ge_of h
    rw [hlen] at hil
    rw [ascL_short (l := (l.map (·.1)).drop i) (by simp; omega)] at ha
    rw [vBids, hg, hh, ha]
    exact ⟨rfl, rfl⟩
/-- An entry that will not do. -/
def badE (ms : List Int) (e : En) : Bool :=
  bif bif bif bif bif decide (e.fl < 0) then true else decide (e.fl ≥ 64) then true else (bif !(e.dr == 1) then !(e.dr == -1) else false) then true else decide (e.gn < 1) then true else decide (e.gn > 2147483647) then true else (bif !(e.aw == -1) then !(ms.any fun y => y == e.aw) else false)
def lessE (a b : En) : Bool := bif decide (a.fl < b.fl) then true else bif a.fl == b.fl then decide (a.dr < b.dr) else false
def vEnts (ms : List Int) : Option En → List En → Int
  | _, [] => 0
  | p, e :: r => bif badE ms e then 103 else bif (match p with | none => false | some q => !lessE q e) then 111 else bif !(vBids ms e.bids == 0) then vBids ms e.bids else vEnts ms (some e) r
theorem vEnts_cons (ms : List Int) (p : Option En) (e : En) (r : List En) : vEnts ms p (e :: r) = bif badE ms e then (103 : Int) else bif (match p with | none => false | some q => !lessE q e) then 111 else bif !(vBids ms e.bids == 0) then vBids ms e.bids else vEnts ms (some e) r := by
  cases p <;> rfl
def vRing (cnt fdr hop : Int) (mem : List Int) (l : List En) : Int :=
  bif bif bif !epoB cnt fdr then true else decide (hop < 0) then true else decide (hop > 1099511627776) then 103 else
  bif bif bif ((mem.length : Int) == 0) then true else decide ((mem.length : Int) > 16) then true else decide ((l.length : Int) > 128) then 104 else
  bif mem.any (fun x => !carB x) then 103 else bif !ascL mem then 111 else vEnts mem none l
abbrev epoV (cnt fdr : Int) : AV := .agg [.d (.int .i64 cnt), .d (.int .i64 fdr)]
set_option maxRecDepth 100000 in
theorem validRing (cnt fdr hop : Int) (mem : List Int) (hm : mem.length ≤ 100000) (l : List En) (hl : l.length ≤ 1000) (hb : ∀ e ∈ l, e.bids.length ≤ 100000) : Contract Tryz.prog G0 28 [awG cnt fdr hop mem l] [] (fun r t => r = .d (.int .i64 (vRing cnt fdr hop mem l)) ∧ t = []) := by
  have hlen := rowsE_len l
  have hmn := rowsI_len mem
  refine run28 0 [] rfl rfl ?_
  conv => whnf
  refine .scal [epoV cnt fdr] _ ⟨.refl _, rfl, epoch106 cnt fdr⟩ ?_
  conv => whnf
  refine bcase_intro (fun h1 => ?_) (fun h1 => ?_) <;> conv => whnf
  · rw [vRing, h1]; exact ⟨rfl, rfl⟩
  refine bcase_intro (fun h2 => ?_) (fun h2 => ?_) <;> conv => whnf
  · rw [hlen, hmn] at h2
    rw [vRing, h1, h2]; exact ⟨rfl, rfl⟩
  rw [hlen, hmn] at h2
  refine StopG.rounds wk28 [] [1, 3, 4] (fun m env s => ∃ i : Nat, i ≤ mem.length ∧ (mem.any fun x => !carB x) = ((mem.drop i).any fun x => !carB x) ∧ m = mem.length - i ∧ env = [(1, .ref (.g 0) 0), (3, .d (.int .i64 ((rowsI mem).length : Int))), (4, .d (.int .i64 (i : Int)))] ∧ s = [(0, .cells [.d (.int .i64 cnt), .d (.int .i64 fdr), .d (.int .i64 hop), .d (.list 1 (rowsI mem)), .d (.list 5 (rowsE l))])]) rfl ?_ ?_
  · conv => whnf
    exact ⟨_, 0, Nat.zero_le _, rfl, rfl, rfl, rfl⟩
  rintro m env s ⟨i, hi, h3, rfl, rfl, rfl⟩
  conv => whnf
  refine bcase_intro (fun h => ?_) (fun h => ?_) <;> conv => whnf
  · have hil := lt_of h
    rw [hmn] at hil
    obtain ⟨x, hx, hdrop⟩ := at_i hil
    refine ⟨rowI x, ⟨by omega, row_i hx⟩, ?_⟩
    conv => whnf
    refine .scal [.d (.int .i64 x)] _ ⟨.refl _, rfl, car107 x⟩ ?_
    conv => whnf
    rw [hdrop, List.any_cons] at h3
    refine bcase_intro (fun hb => ?_) (fun hb => ?_) <;> conv => whnf
    · rw [hb, Bool.true_or] at h3
      rw [vRing, h1, h2, h3]; exact ⟨rfl, rfl⟩
    · rw [hb, Bool.false_or] at h3
      rw [succ_i hil (by omega)]
      exact ⟨_, by omega, i + 1, hil, h3, rfl, rfl, rfl⟩
  have hil := ge_of h
  rw [hmn] at hil
  rw [show mem.drop i = [] from List.drop_of_length_le hil] at h3
  refine StopG.rounds wk28 [] [1, 3, 5] (fun m env s => ∃ i : Nat, i ≤ mem.length ∧ ascL mem = ascL (mem.drop i) ∧ m = mem.length - i ∧ env = [(1, .ref (.g 0) 0), (3, .d (.int .i64 ((rowsI mem).length : Int))), (5, .d (.int .i64 ((i + 1 : Nat) : Int)))] ∧ s = [(0, .cells [.d (.int .i64 cnt), .d (.int .i64 fdr), .d (.int .i64 hop), .d (.list 1 (rowsI mem)), .d (.list 5 (rowsE l))])]) rfl ?_ ?_
  · conv => whnf
    exact ⟨_, 0, Nat.zero_le _, rfl, rfl, rfl, rfl⟩
  rintro m env s ⟨i, hi, h4, rfl, rfl, rfl⟩
  conv => whnf
  refine bcase_intro (fun h => ?_) (fun h => ?_) <;> conv => whnf
  · have hil := lt_of h
    rw [hmn] at hil
    obtain ⟨x, hx, _⟩ := at_i (show i < mem.length by omega)
    obtain ⟨y, hy, _⟩ := at_i hil
    rw [back_i (by omega)]
    refine ⟨rowI x, ⟨by omega, row_i hx⟩, ?_⟩
    conv => whnf
    refine ⟨rowI y, ⟨by omega, row_i hy⟩, ?_⟩
    conv => whnf
    have hd := ascL_drop hx hy
    refine bcase_intro (fun hb => ?_) (fun hb => ?_) <;> conv => whnf
    · rw [hb] at hd
      rw [vRing, h1, h2, h3, h4, hd]; exact ⟨rfl, rfl⟩
    · rw [hb] at hd
      rw [succ_i (i := i + 1) hil (by omega)]
      exact ⟨_, by omega, i + 1, by omega, h4.trans hd, rfl, rfl, rfl⟩
  have hil := ge_of h
  rw [hmn] at hil
  rw [ascL_short (l := mem.drop i) (by simp; omega)] at h4
  have hv : vRing cnt fdr hop mem l = vEnts mem none l := by rw [vRing, h1, h2, h3, h4]; rfl
  rw [hv]
  refine StopG.rounds wk28 [] [1, 6] (fun m env s => ∃ i : Nat, i ≤ l.length ∧ vEnts mem none l = vEnts mem (match i with | 0 => none | j + 1 => l[j]?) (l.drop i) ∧ m = l.length - i ∧ env = [(1, .ref (.g 0) 0), (6, .d (.int .i64 (i : Int)))] ∧ s = [(0, .cells [.d (.int .i64 cnt), .d (.int .i64 fdr), .d (.int .i64 hop), .d (.list 1 (rowsI mem)), .d (.list 5 (rowsE l))])]) rfl ?_ ?_
  · conv => whnf
    exact ⟨_, 0, Nat.zero_le _, rfl, rfl, rfl, rfl⟩
  rintro m env s ⟨i, hi, h5, rfl, rfl, rfl⟩
  conv => whnf
  refine bcase_intro (fun h => ?_) (fun h => ?_) <;> conv => whnf
  · have hil := lt_of h
    rw [hlen] at hil
    obtain ⟨x, hx, hdrop⟩ := at_i hil
    have hxb := hb x (List.mem_of_getElem? hx)
    refine ⟨rowE x, ⟨by omega, row_i hx⟩, ?_⟩
    conv => whnf
    refine .scal [.d (.list 1 (rowsI mem)), .d (.int .i64 x.aw)] _ (fun _ => ⟨.refl _, rfl, among mem (by omega) x.aw⟩) ?_
    conv => whnf
    rw [hdrop, vEnts_cons] at h5
    refine bcase_intro (fun hbad => ?_) (fun hbad => ?_) <;> conv => whnf
    · have hbad : badE mem x = true := hbad
      rw [h5, hbad]; exact ⟨rfl, rfl⟩
    have hbad : badE mem x = false := hbad
    rw [hbad] at h5
    cases i with
    | zero =>
      refine ⟨rowE x, (fun hg => by simp [HG, lit, rfind] at hg), ?_⟩
      conv => whnf
      refine .scal [calV x.fl x.dr, calV x.fl x.dr] _ (fun _ => ⟨.refl _, rfl, lessCall _ _ _ _⟩) ?_
      conv => whnf
      simp only at h5
      refine .scal [.d (.list 1 (rowsI mem)), .d (.list 2 (rowsB x.bids))] _ ⟨.refl _, rfl, validBids mem hm x.bids hxb⟩ ?_
      conv => whnf
      refine bcase_intro (fun hq => ?_) (fun hq => ?_) <;> conv => whnf
      · have hq : (!(vBids mem x.bids == 0)) = true := hq
        rw [hq] at h5
        rw [h5]; exact ⟨rfl, rfl⟩
      · have hq : (!(vBids mem x.bids == 0)) = false := hq
        rw [hq] at h5
        rw [succ_i hil (by omega)]
        refine ⟨_, by omega, 0 + 1, hil, ?_, rfl, rfl, rfl⟩
        simp only [hx]
        exact h5
    | succ k =>
      obtain ⟨q, hq, _⟩ := at_i (show k < l.length by omega)
      rw [back_i (by omega)]
      refine ⟨rowE q, (fun _ => ⟨by omega, row_i hq⟩), ?_⟩
      conv => whnf
      refine .scal [calV q.fl q.dr, calV x.fl x.dr] _ (fun _ => ⟨.refl _, rfl, lessCall _ _ _ _⟩) ?_
      conv => whnf
      simp only [hq] at h5
      refine bcase_intro (fun hp => ?_) (fun hp => ?_) <;> conv => whnf
      · have hp : (bif decide (((k + 1 : Nat) : Int) > 0) then !lessE q x else false) = true := hp
        rw [show decide (((k + 1 : Nat) : Int) > 0) = true from decide_eq_true (by omega)] at hp
        have hp : (!lessE q x) = true := hp
        rw [hp] at h5
        rw [h5]; exact ⟨rfl, rfl⟩
      · have hp : (bif decide (((k + 1 : Nat) : Int) > 0) then !lessE q x else false) = false := hp
        rw [show decide (((k + 1 : Nat) : Int) > 0) = true from decide_eq_true (by omega)] at hp
        have hp : (!lessE q x) = false := hp
        rw [hp] at h5
        refine .scal [.d (.list 1 (rowsI mem)), .d (.list 2 (rowsB x.bids))] _ ⟨.refl _, rfl, validBids mem hm x.bids hxb⟩ ?_
        conv => whnf
        refine bcase_intro (fun hq => ?_) (fun hq => ?_) <;> conv => whnf
        · have hq : (!(vBids mem x.bids == 0)) = true := hq
          rw [hq] at h5
          rw [h5]; exact ⟨rfl, rfl⟩
        · have hq : (!(vBids mem x.bids == 0)) = false := hq
          rw [hq] at h5
          rw [succ_i hil (by omega)]
          refine ⟨_, by omega, k + 1 + 1, hil, ?_, rfl, rfl, rfl⟩
          simp only [hx]
          exact h5
  · have hil := ge_of h
    rw [hlen] at hil
    rw [h5, show l.drop i = [] from List.drop_of_length_le hil]
    exact ⟨rfl, rfl⟩
end Go.Proofs.YtkenimmellonjaaGreat
/- Seat Z: rings that are light; the first look. -/
namespace Go.Proofs.YtkenimmellonjaaGreat
open Go.Pv Go.RowKit Go.Shelf
def fat (e : En) : Bool := decide ((e.bids.length : Int) > 16)
def lightB (cnt fdr hop : Int) (mem : List Int) (l : List En) : Bool :=
  bif l.any fat then false else bif bif decide ((mem.length : Int) ≤ 16) then decide ((l.length : Int) ≤ 30) else false then vRing cnt fdr hop mem l == 0 else false
theorem succ_m {i n : Nat} (h : i < n) (hn : n ≤ maxLen) : IntKind.wrap .i64 ((i : Int) + 1) = ((i + 1 : Nat) : Int) := by
  have e : maxLen = 9223372036854775807 := rfl
  rw [wrap_id (by omega) (by omega)]
  rfl
set_option maxRecDepth 100000 in
theorem light (cnt fdr hop : Int) (mem : List Int) (l : List En) (hl : l.length ≤ maxLen) : Contract Tryz.prog G0 5 [awG cnt fdr hop mem l] [] (fun r t => r = .d (.bool (lightB cnt fdr hop mem l)) ∧ t = []) := by
  have hlen := rowsE_len l
  have hmn := rowsI_len mem
  refine run5 0 [] rfl rfl ?_
  conv => whnf
  refine StopG.rounds wk5 [] [1, 3] (fun m env s => ∃ i : Nat, i ≤ l.length ∧ l.any fat = (l.drop i).any fat ∧ m = l.length - i ∧ env = [(1, .ref (.g 0) 0), (3, .d (.int .i64 (i : Int)))] ∧ s = [(0, .cells [.d (.int .i64 cnt), .d (.int .i64 fdr), .d (.int .i64 hop), .d (.list 1 (rowsI mem)), .d (.list 5 (rowsE l))])]) rfl ?_ ?_
  · conv => whnf
    exact ⟨_, 0, Nat.zero_le _, rfl, rfl, rfl, rfl⟩
  rintro m env s ⟨i, hi, h5, rfl, rfl, rfl⟩
  conv => whnf
  refine bcase_intro (fun h => ?_) (fun h => ?_) <;> conv => whnf
  · have hil := lt_of h
    rw [hlen] at hil
    obtain ⟨x, hx, hdrop⟩ := at_i hil
    refine ⟨rowE x, ⟨by omega, row_i hx⟩, ?_⟩
    conv => whnf
    rw [hdrop, List.any_cons] at h5
    refine bcase_intro (fun hb => ?_) (fun hb => ?_) <;> conv => whnf
    · rw [rowsB_len] at hb
      rw [show fat x = true from hb, Bool.true_or] at h5
      rw [lightB, h5]; exact ⟨rfl, rfl⟩
    · rw [rowsB_len] at hb
      rw [show fat x = false from hb, Bool.false_or] at h5
      rw [succ_m hil hl]
      exact ⟨_, by omega, i + 1, hil, h5, rfl, rfl, rfl⟩
  have hil := ge_of h
  rw [hlen] at hil
  rw [show l.drop i = [] from List.drop_of_length_le hil] at h5
  have h5 : l.any fat = false := h5
  refine .scal [awG cnt fdr hop mem l] (.d (.int .i64 (vRing cnt fdr hop mem l))) (fun hg => ⟨.refl _, rfl, ?_⟩) ?_
  · have hg2 : (bif decide (((rowsI mem).length : Int) ≤ 16) then decide (((rowsE l).length : Int) ≤ 30) else false) = true := by simpa [HG, lit, rfind] using hg
    rw [hlen, hmn] at hg2
    have h1 : mem.length ≤ 16 ∧ l.length ≤ 30 := by
      cases h2 : decide ((mem.length : Int) ≤ 16) <;> rw [h2] at hg2 <;> simp at h2 hg2
      omega
    refine validRing cnt fdr hop mem (by omega) l (by omega) fun e he => ?_
    have h3 := (List.any_eq_false.1 h5) e he
    have h4 : ¬ ((e.bids.length : Int) > 16) := by simpa [fat] using h3
    omega
  · conv => whnf
    rw [hlen, hmn, lightB, h5]; exact ⟨rfl, rfl⟩
set_option maxRecDepth 100000 in
theorem new_nil (cnt fdr : Int) (l : List Int) (hl : l.length ≤ 100000) : Contract Tryz.prog G0 25 [epoV cnt fdr, .d (.list 1 (rowsI l))] [] (fun r t => r = rgV cnt fdr 0 (setI l) (.d .nil) ∧ t = []) := by
  refine run25 0 [] rfl rfl ?_
  conv => whnf
  refine .data [.d (.list 1 (rowsI l))] _ ⟨WkL.refl _, rfl, set19 l hl⟩ ?_
  conv => whnf
  exact ⟨rfl, rfl⟩
theorem new (cnt fdr : Int) (l : List Int) (hl : l.length ≤ 100000) : Contract Tryz.prog G0 25 [epoV cnt fdr, .d (.list 1 (rowsI l))] [] (fun r t => r = awG cnt fdr 0 (setI l) [] ∧ t = []) :=
  (new_nil cnt fdr l hl).weak 5 fun r t h => by
    obtain ⟨h, rfl⟩ := h; subst h; exact ⟨rfl, rfl, rfl, rfl⟩
theorem newO (cnt fdr : Int) (l : List Int) (hl : l.length ≤ 100000) (cap : Nat) : Contract Tryz.prog G0 25 [epoV cnt fdr, .slc (.g 0) 1 0 l.length cap] [(0, .row 1 (rowsI l))] (fun r t => r = awG cnt fdr 0 (setI l) [] ∧ t = [(0, .dead)]) := by
  have h0 := new cnt fdr l hl
  have e : fzL 0 (AB.row 1 (rowsI l)) [epoV cnt fdr, .slc (.g 0) 1 0 l.length cap] = [epoV cnt fdr, .d (.list 1 ((List.drop 0 (rowsI l)).take l.length))] := rfl
  have hrl := rowsI_len l
  refine Contract.frz (by simp) (by repeat' first | exact trivial | apply And.intro | decide | (simp; done) | omega) rfl ?_
  rw [e, List.drop_zero, List.take_of_length_le (by rw [rowsI_len]; exact Nat.le_refl _)]
  exact h0
set_option maxRecDepth 100000 in
theorem first47 : Contract Tryz.prog G0 4 [] [] (fun r t => r = .d (.bool true) ∧ t = []) := by
  refine run4 0 [] rfl rfl ?_
  conv => whnf
  refine .data [epoV 1 0, .d (.list 1 (rowsI [2, 0, 2]))] _ ⟨.refl _, rfl, new 1 0 [2, 0, 2] (by decide)⟩ ?_
  rw [show setI [2, 0, 2] = [0, 2] from by rw [← set6_eq]; decide]
  conv => whnf
  refine .data [awG 1 0 0 [0, 2] []] _ ⟨.refl _, rfl, award 1 0 0 [0, 2] (by decide) [] (by decide) (by simp)⟩ ?_
  conv => whnf
  refine ⟨rowI 0, fun _ => ⟨by decide, rfl⟩, ?_⟩
  conv => whnf
  exact ⟨rfl, rfl⟩
end Go.Proofs.YtkenimmellonjaaGreat
/- Seat Z: what is wanted, what is bid. -/
namespace Go.Proofs.YtkenimmellonjaaGreat
open Go.Pv Go.RowKit Go.Shelf
def rowC (c : Int × Int) : List DV := [.int .i64 c.1, .int .i64 c.2]
def rowsC (l : List (Int × Int)) : List (List DV) := l.map rowC
theorem rowsC_len (l : List (Int × Int)) : (rowsC l).length = l.length := by simp [rowsC]
def callE (e : En) : Int × Int := (e.fl, e.dr)
def wishE (car : Int) (e : En) : Bool := bif !(ofB e.bids car).2 then decide (e.aw < 0) else false
def wishL (car : Int) (l : List En) : List (Int × Int) := (l.filter (wishE car)).map callE
def wantL (mem : List Int) (car : Int) (l : List En) : List (Int × Int) := if (mem.any fun y => car == y) = true then wishL car l else []
theorem wishL_snoc {l : List En} {car : Int} {i : Nat} {x : En} (hx : l[i]? = some x) : wishL car (l.take (i + 1)) = wishL car (l.take i) ++ (match wishE car x with | true => [callE x] | false => []) := by
  rw [List.take_add_one, hx]
  simp only [wishL, List.filter_append, List.map_append, Option.toList]
  cases h : wishE car x <;> simp [h]
theorem wishL_len (car : Int) (l : List En) : (wishL car l).length ≤ l.length := by
  rw [wishL, List.length_map]; exact List.length_filter_le _ _
set_option maxRecDepth 100000 in
theorem wants (cnt fdr hop : Int) (mem : List Int) (hm : mem.length ≤ 100000) (l : List En) (hl : l.length ≤ 1000) (hb : ∀ e ∈ l, e.bids.length ≤ 100000) (car : Int) : Contract Tryz.prog G0 20 [awG cnt fdr hop mem l, .d (.int .i64 car)] [] (fun r t => r = .d (.list 2 (rowsC (wantL mem car l))) ∧ t = []) := by
  have hlen := rowsE_len l
  refine Contract.as_list (by decide) ?_
  refine run20 0 [] rfl rfl ?_
  conv => whnf
  refine .scal [.d (.list 1 (rowsI mem)), .d (.int .i64 car)] _ ⟨.refl _, rfl, has mem (by omega) car⟩ ?_
  conv => whnf
  refine bcase_intro (fun hh => ?_) (fun hh => ?_) <;> conv => whnf
  · have hh : (mem.any fun y => car == y) = false := by simpa using hh
    rw [wantL, if_neg (by rw [hh]; decide)]
    exact .inl ⟨.inl rfl, rfl, rfl⟩
  have hh : (mem.any fun y => car == y) = true := by simpa using hh
  rw [wantL, if_pos hh]
  refine StopG.rounds wk20 [] [1, 5, 16, 17, 18] (fun m env s => ∃ i : Nat, ∃ w, wishL car (l.take i) = w ∧ i ≤ l.length ∧ m = l.length - i ∧ ((w = [] ∧ env = [(1, .d (.int .i64 car)), (5, .d .nil), (16, .d (.list 5 (rowsE l))), (17, .d (.int .i64 ((rowsE l).length : Int))), (18, .d (.int .i64 (i : Int)))] ∧ s = []) ∨ ∃ wc, w.length ≤ wc ∧ env = [(1, .d (.int .i64 car)), (5, .slc (.g 0) 2 0 w.length wc), (16, .d (.list 5 (rowsE l))), (17, .d (.int .i64 ((rowsE l).length : Int))), (18, .d (.int .i64 (i : Int)))] ∧ s = [(0, .row 2 (rowsC w))])) rfl ?_ ?_
  · conv => whnf
    exact ⟨_, 0, [], rfl, Nat.zero_le _, rfl, .inl ⟨rfl, rfl, rfl⟩⟩
  rintro m env s ⟨i, w, hw, hi, rfl, hout⟩
  rcases hout with ⟨rfl, rfl, rfl⟩ | ⟨wc, hwc, rfl, rfl⟩
  · conv => whnf
    refine bcase_intro (fun h => ?_) (fun h => ?_) <;> conv => whnf
    · have hil := lt_of h
      rw [hlen] at hil
      obtain ⟨x, hx, hdrop⟩ := at_i hil
      have hxb := hb x (List.mem_of_getElem? hx)
      refine ⟨rowE x, ⟨by omega, row_i hx⟩, ?_⟩
      conv => whnf
      refine .data [.d (.list 2 (rowsB x.bids)), .d (.int .i64 car)] _ ⟨WkL.refl _, rfl, of_ x.bids (by omega) car⟩ ?_
      conv => whnf
      refine bcase_intro (fun hg => ?_) (fun hg => ?_) <;> conv => whnf
      · have hwon : wishE car x = true := hg
        refine ⟨⟨?_, ?_⟩, ?_⟩
        · show (2 * 1 + 1024) * 16 ≤ 281474976710656; omega
        · show 1 ≤ _; omega
        conv => whnf
        intro c2 hc2
        conv => whnf
        rw [succ_i hil (by omega)]
        refine ⟨_, by omega, i + 1, [callE x], ?_, hil, rfl, .inr ⟨c2, hc2, rfl, rfl⟩⟩
        rw [wishL_snoc hx, hw, hwon]; rfl
      · have hwon : wishE car x = false := hg
        rw [succ_i hil (by omega)]
        refine ⟨_, by omega, i + 1, [], ?_, hil, rfl, .inl ⟨rfl, rfl, rfl⟩⟩
        rw [wishL_snoc hx, hw, hwon]; rfl
    · have hil := ge_of h
      rw [hlen] at hil
      rw [show i = l.length by omega, List.take_length] at hw
      rw [hw]
      exact .inl ⟨.inl rfl, rfl, rfl⟩
  · conv => whnf
    refine bcase_intro (fun h => ?_) (fun h => ?_) <;> conv => whnf
    · have hil := lt_of h
      rw [hlen] at hil
      obtain ⟨x, hx, hdrop⟩ := at_i hil
      have hxb := hb x (List.mem_of_getElem? hx)
      refine ⟨rowE x, ⟨by omega, row_i hx⟩, ?_⟩
      conv => whnf
      refine .data [.d (.list 2 (rowsB x.bids)), .d (.int .i64 car)] _ ⟨WkL.refl _, rfl, of_ x.bids (by omega) car⟩ ?_
      conv => whnf
      refine bcase_intro (fun hg => ?_) (fun hg => ?_) <;> conv => whnf
      · have hwon : wishE car x = true := hg
        have hwl : w.length ≤ 1000 := by
          rw [← hw]
          refine Nat.le_trans (wishL_len _ _) ?_
          simp; omega
        have hrl := rowsC_len w
        refine ⟨by omega, ⟨?_, ?_⟩, ?_⟩
        · show (2 * (w.length + 1) + 1024) * 16 ≤ 281474976710656; omega
        · show w.length + 1 ≤ _; omega
        conv => whnf
        intro c2 hc2
        conv => whnf
        rw [succ_i hil (by omega), List.take_of_length_le (by omega)]
        refine ⟨_, by omega, i + 1, w ++ [callE x], ?_, hil, rfl, .inr ⟨c2, by simpa using hc2, ?_, ?_⟩⟩
        · rw [wishL_snoc hx, hw, hwon]
        · rw [List.length_append]; rfl
        · rw [show rowsC (w ++ [callE x]) = rowsC w ++ [rowC (callE x)] by simp [rowsC]]; rfl
      · have hwon : wishE car x = false := hg
        rw [succ_i hil (by omega)]
        refine ⟨_, by omega, i + 1, w, ?_, hil, rfl, .inr ⟨wc, hwc, rfl, rfl⟩⟩
        rw [wishL_snoc hx, hw, hwon, List.append_nil]
    · have hil := ge_of h
      rw [hlen] at hil
      rw [show i = l.length by omega, List.take_length] at hw
      rw [hw]
      exact .inr ⟨wc, by rw [rowsC_len]; exact hwc, by rw [rowsC_len], rfl⟩
abbrev entV (e : En) : AV := .agg [.d (.int .i64 e.fl), .d (.int .i64 e.dr), .d (.int .i64 e.gn), .d (.list 2 (rowsB e.bids)), .d (.int .i64 e.aw)]
def isC (c : Int × Int) (e : En) : Bool := bif e.fl == c.1 then e.dr == c.2 else false
set_option maxRecDepth 100000 in
theorem at116 (e : En) (a b : Int) : Contract Tryz.prog G0 76 [entV e, .d (.ptr [.int .i64 a, .int .i64 b] 0)] [] (fun r s => r = .d (.bool (isC (a, b) e)) ∧ s = []) := by
  refine run76 0 [] rfl rfl ?_
  conv => whnf
  refine ⟨⟨by kernel_rfl, by kernel_rfl⟩, ?_⟩
  conv => whnf
  exact ⟨rfl, rfl⟩
set_option maxRecDepth 100000 in
theorem index96 (l : List En) (hl : l.length ≤ 4611686018427387904) (p : En → Bool) (f : Nat) (cs : List DV) (hf : ∀ x, Contract Tryz.prog G0 f [entV x, .d (.ptr cs 0)] [] (fun r t => r = .d (.bool (p x)) ∧ t = [])) :
    Contract Tryz.prog G0 55 [.d (.list 5 (rowsE l)), .fn f [.d (.ptr cs 0)]] [] (fun r t => r = .d (.int .i64 (idxFrom p l 0)) ∧ t = []) := by
  have hlen := rowsE_len l
  refine run55 0 [] rfl rfl ?_
  conv => whnf
  refine StopG.rounds wk55 [] [0, 1, 4, 7, 8] (fun m env s => ∃ i : Nat, i ≤ l.length ∧ m = l.length - i ∧ idxFrom p (l.drop i) i = idxFrom p l 0 ∧
    env = [(0, .d (.list 5 (rowsE l))), (1, .fn f [.d (.ptr cs 0)]), (4, .d (.int .i64 0)), (7, .d (.int .i64 ((rowsE l).length : Int))), (8, .d (.int .i64 (i : Int)))] ∧ s = []) rfl ?_ ?_
  · conv => whnf
    exact ⟨_, 0, Nat.zero_le _, rfl, rfl, rfl, rfl⟩
  rintro m env s ⟨i, hi, rfl, hidx, rfl, rfl⟩
  conv => whnf
  refine bcase_intro (fun h => ?_) (fun h => ?_) <;> conv => whnf
  · have h := lt_of h
    rw [hlen] at h
    obtain ⟨x, hx, hdrop⟩ := at_i h
    refine ⟨rowE x, ⟨by omega, row_i hx⟩, ?_⟩
    conv => whnf
    refine .scal [entV x, .d (.ptr cs 0)] _ ⟨.refl _, rfl, hf x⟩ ?_
    conv => whnf
    rw [hdrop, idxFrom] at hidx
    refine bcase_intro (fun h2 => ?_) (fun h2 => ?_) <;> conv => whnf
    · rw [if_pos h2] at hidx
      exact ⟨rd_int hidx, rfl⟩
    · rw [succ_i h (by omega)]
      refine ⟨_, by omega, i + 1, h, rfl, ?_, rfl, rfl⟩
      rw [if_neg (by rw [h2]; decide)] at hidx
      exact hidx
  · have h := ge_of h
    rw [hlen] at h
    rw [show l.drop i = [] from List.drop_of_length_le h, idxFrom] at hidx
    exact ⟨rd_int hidx, rfl⟩
set_option maxRecDepth 100000 in
theorem at87 (cnt fdr hop : Int) (mem : List Int) (l : List En) (hl : l.length ≤ 4611686018427387904) (a b : Int) : Contract Tryz.prog G0 32 [awG cnt fdr hop mem l, calV a b] [] (fun r t => r = .d (.int .i64 (idxFrom (isC (a, b)) l 0)) ∧ t = []) := by
  refine run32 0 [] rfl rfl ?_
  conv => whnf
  refine .scal [.d (.list 5 (rowsE l)), .fn 76 [.d (.ptr [.int .i64 a, .int .i64 b] 0)]] _ ⟨.fz 1 _ rfl (by simp) (by repeat' first | exact trivial | apply And.intro) (.refl _), rfl, index96 l hl _ 76 _ fun e => at116 e a b⟩ ?_
  conv => whnf
  exact ⟨rfl, rfl⟩
end Go.Proofs.YtkenimmellonjaaGreat
/- Seat Z: what is struck off. -/
namespace Go.Proofs.YtkenimmellonjaaGreat
open Go.Pv Go.RowKit Go.Shelf
abbrev keepL (p : En → Bool) (l : List En) : List En := l.filter fun e => !p e
theorem idx_before {α : Type} {p : α → Bool} : ∀ (l : List α) (i : Int) (k : Nat), idxFrom p l i = i + k → ∀ e ∈ l.take k, p e = false
  | [], _, _, _, _, h => by simp at h
  | _ :: _, _, 0, _, _, h => by simp at h
  | x :: r, i, k + 1, h, e, he => by
    unfold idxFrom at h
    split at h
    · omega
    · rename_i hx
      rw [List.take_succ_cons] at he
      rcases List.mem_cons.1 he with rfl | he
      · simpa using hx
      · exact idx_before r (i + 1) k (by rw [h]; omega) e he
set_option maxRecDepth 100000 in
theorem index96O (l : List En) (hl : l.length ≤ 4611686018427387904) (p : En → Bool) (f : Nat) (cs : List DV) (hf : ∀ x, Contract Tryz.prog G0 f [entV x, .d (.ptr cs 0)] [] (fun r t => r = .d (.bool (p x)) ∧ t = [])) :
    Contract Tryz.prog G0 55 [.d (.list 5 ((List.drop 0 (rowsE l)).take l.length)), .fn f [.d (.ptr cs 0)]] [] (fun r t => r = .d (.int .i64 (idxFrom p l 0)) ∧ t = []) := by
  rw [List.drop_zero, List.take_of_length_le (by rw [rowsE_len]; exact Nat.le_refl _)]
  exact index96 l hl p f cs hf
set_option maxRecDepth 100000 in
theorem deleteFunc (l : List En) (hl : l.length ≤ 1000) (cap : Nat) (hcap : l.length ≤ cap) (p : En → Bool) (f : Nat) (cs : List DV) (hf : ∀ x, Contract Tryz.prog G0 f [entV x, .d (.ptr cs 0)] [] (fun r t => r = .d (.bool (p x)) ∧ t = [])) :
    Contract Tryz.prog G0 46 [.slc (.g 0) 5 0 l.length cap, .fn f [.d (.ptr cs 0)]] [(0, .row 5 (rowsE l))] (fun r t => ∃ tl, r = .slc (.g 0) 5 0 (keepL p l).length cap ∧ t = [(0, .row 5 (rowsE (keepL p l) ++ tl))]) := by
  have hrl := rowsE_len l
  have hix := index96O l (by omega) p f cs hf
  refine run46 1 [] rfl rfl ?_
  rcases idx_cases0 p l with ⟨h1, hno⟩ | ⟨k, x0, h1, hx0, hfd⟩
  · rw [h1] at hix
    conv => whnf
    refine .scal [.d (.list 5 ((List.drop 0 (rowsE l)).take l.length)), .fn f [.d (.ptr cs 0)]] (.d (.int .i64 (-1))) ⟨.fz 0 _ rfl (by simp) (by repeat' first | exact trivial | apply And.intro | decide | (simp; done) | omega) (.refl _), rfl, hix⟩ ?_
    conv => whnf
    have hall : keepL p l = l := by
      rw [keepL, List.filter_eq_self]
      intro e he
      have := (List.find?_eq_none.1 hno) e he
      simpa using this
    exact ⟨[], by rw [hall], by rw [hall, List.append_nil]⟩
  · rw [h1] at hix
    have hkl := (List.getElem?_eq_some_iff.1 hx0).1
    conv => whnf
    refine .scal [.d (.list 5 ((List.drop 0 (rowsE l)).take l.length)), .fn f [.d (.ptr cs 0)]] (.d (.int .i64 (k : Int))) ⟨.fz 0 _ rfl (by simp) (by repeat' first | exact trivial | apply And.intro | decide | (simp; done) | omega) (.refl _), rfl, hix⟩ ?_
    conv => whnf
    rw [succ_i hkl (by omega)]
    have hpre : keepL p (l.take k) = l.take k := by
      rw [keepL, List.filter_eq_self]
      intro e he
      have := idx_before l 0 k (by rw [h1]; omega) e he
      simpa using this
    have hpx : p x0 = true := List.find?_some hfd
    have hk1 : keepL p (l.take (k + 1)) = l.take k := by
      rw [List.take_add_one, hx0, keepL, List.filter_append]
      have := hpre
      rw [keepL] at this
      rw [this]
      simp [hpx]
    refine StopG.rounds wk46 [] [0, 1, 5, 6] (fun m env s => ∃ (j : Nat) (mid : List (List DV)), j ≤ l.length ∧ mid.length + (keepL p (l.take j)).length = j ∧ 0 < mid.length ∧ (∀ r ∈ mid, r.length = 5) ∧ m = l.length - j ∧ env = [(0, .slc (.g 0) 5 0 l.length cap), (1, .fn f [.d (.ptr cs 0)]), (5, .d (.int .i64 ((keepL p (l.take j)).length : Int))), (6, .d (.int .i64 (j : Int)))] ∧ s = [(0, .row 5 (rowsE (keepL p (l.take j)) ++ mid ++ rowsE (l.drop j)))]) rfl ?_ ?_
    · conv => whnf
      refine ⟨_, k + 1, [rowE x0], hkl, ?_, by simp, by simp [rowE], rfl, ?_, ?_⟩
      · rw [hk1]; simp; omega
      · rw [hk1, List.length_take, Nat.min_eq_left (by omega)]
      · rw [hk1]
        refine congrArg (fun q => [(0, AB.row 5 q)]) ?_
        obtain ⟨y, hy, hd⟩ := at_i hkl
        rw [hx0] at hy
        cases hy
        conv => lhs; rw [← List.take_append_drop k l, hd]
        simp [rowsE]
    rintro m env s ⟨j, mid, hj, hmid, hm0, hm5, rfl, rfl, rfl⟩
    conv => whnf
    refine bcase_intro (fun h => ?_) (fun h => ?_) <;> conv => whnf
    · have hjl := lt_of h
      obtain ⟨x, hx, hd⟩ := at_i hjl
      have hrow : (rowsE (keepL p (l.take j)) ++ mid ++ rowsE (l.drop j))[0 + (j : Int).toNat]? = some (rowE x) := by
        rw [List.getElem?_append_right (by simp [rowsE]; omega)]
        simp only [List.length_append, rowsE_len, Nat.zero_add, Int.toNat_natCast]
        rw [show j - ((keepL p (l.take j)).length + mid.length) = 0 by omega, hd]
        rfl
      refine ⟨⟨by omega, by omega⟩, ?_⟩
      conv => whnf
      refine ⟨rowE x, hrow, rfl, ?_⟩
      conv => whnf
      refine .scal [entV x, .d (.ptr cs 0)] _ ⟨.refl _, rfl, hf x⟩ ?_
      conv => whnf
      have htk : keepL p (l.take (j + 1)) = keepL p (l.take j) ++ (match p x with | true => [] | false => [x]) := by
        rw [List.take_add_one, hx, keepL, keepL, List.filter_append]
        cases hp : p x <;> simp [hp]
      refine bcase_intro (fun hg => ?_) (fun hg => ?_) <;> conv => whnf
      · have hg : p x = false := by simpa using hg
        rw [hg] at htk
        have hlk : (keepL p (l.take (j + 1))).length = (keepL p (l.take j)).length + 1 := by rw [htk]; simp
        obtain ⟨m0, mr, rfl⟩ : ∃ m0 mr, mid = m0 :: mr := by
          cases mid with
          | nil => simp at hm0
          | cons a b => exact ⟨a, b, rfl⟩
        refine ⟨⟨by omega, by simp at hmid; omega⟩, ?_⟩
        conv => whnf
        have h5 : m0.length = 5 := hm5 m0 (List.mem_cons_self ..)
        match m0, h5 with
        | [a0, a1, a2, a3, a4], _ =>
        have hi : (rowsE (keepL p (l.take j)) ++ [a0, a1, a2, a3, a4] :: mr ++ rowsE (l.drop j))[0 + ((keepL p (l.take j)).length : Int).toNat]? = some [a0, a1, a2, a3, a4] := by
          rw [List.append_assoc, List.getElem?_append_right (by simp [rowsE])]
          simp [rowsE]
        refine ⟨_, hi, ?_⟩
        conv => whnf
        rw [succ_i hjl (by omega), succ_i (i := (keepL p (l.take j)).length) (Nat.lt_succ_self _) (by simp at hmid; omega), ← hlk]
        refine ⟨_, by omega, j + 1, mr ++ [rowE x], hjl, ?_, by simp, ?_, rfl, rfl, ?_⟩
        · rw [hlk]; simp at hmid ⊢; omega
        · intro r hr
          rcases List.mem_append.1 hr with hr | hr
          · exact hm5 r (List.mem_cons_of_mem _ hr)
          · rw [List.mem_singleton.1 hr]; rfl
        · refine congrArg (fun q => [(0, AB.row 5 q)]) ?_
          rw [htk, hd, show (0 + ((keepL p (l.take j)).length : Int).toNat) = (rowsE (keepL p (l.take j))).length by simp [rowsE], List.append_assoc, List.set_append_right _ _ (Nat.le_refl _), Nat.sub_self]
          show rowsE (keepL p (l.take j)) ++ (rowE x :: (mr ++ rowsE (x :: l.drop (j + 1)))) = _
          simp [rowsE]
      · have hg : p x = true := by simpa using hg
        rw [hg, List.append_nil] at htk
        rw [succ_i hjl (by omega)]
        refine ⟨_, by omega, j + 1, mid ++ [rowE x], hjl, ?_, by simp, ?_, rfl, by rw [htk], ?_⟩
        · rw [htk, List.length_append]; simp; omega
        · intro r hr
          rcases List.mem_append.1 hr with hr | hr
          · exact hm5 r hr
          · rw [List.mem_singleton.1 hr]; rfl
        · rw [htk, hd]; simp [rowsE]
    · have hjl := ge_of h
      have hjl2 : j = l.length := by omega
      rw [hjl2, List.take_length] at hmid
      rw [hjl2, List.take_length, List.drop_length]
      refine ⟨⟨by omega, by omega, by omega⟩, ?_⟩
      conv => whnf
      refine ⟨by simp [rowsE], ?_⟩
      conv => whnf
      refine ⟨⟨by omega, by omega, by omega⟩, ?_⟩
      conv => whnf
      refine ⟨(List.replicate ((l.length : Int).toNat - ((keepL p l).length : Int).toNat) ti56.zero) ++ (rowsE (keepL p l) ++ mid ++ rowsE []).drop (0 + ((keepL p l).length : Int).toNat + (List.replicate ((l.length : Int).toNat - ((keepL p l).length : Int).toNat) ti56.zero).length), by simp, ?_⟩
      refine congrArg (fun q => [(0, AB.row 5 q)]) ?_
      unfold splice
      rw [List.append_assoc, show (rowsE (keepL p l) ++ mid ++ rowsE []).take (0 + ((keepL p l).length : Int).toNat) = rowsE (keepL p l) by rw [List.append_assoc, List.take_left' (by simp [rowsE])]]
end Go.Proofs.YtkenimmellonjaaGreat
/- Seat Z: the ring without what is lit no more. -/
namespace Go.Proofs.YtkenimmellonjaaGreat
open Go.Pv Go.RowKit Go.Shelf
def eqK (y x : Int × Int × Int) : Bool := bif y.1 == x.1 then (bif y.2.1 == x.2.1 then y.2.2 == x.2.2 else false) else false
set_option maxRecDepth 100000 in
theorem indexK (l : List (Int × Int × Int)) (hl : l.length ≤ 4611686018427387904) (k : Int × Int × Int) : Contract Tryz.prog G0 89 [.d (.list 3 (rowsK l)), latV k.1 k.2.1 k.2.2] [] (fun r t => r = .d (.int .i64 (idxFrom (eqK k) l 0)) ∧ t = []) := by
  have hlen := rowsK_len l
  refine run89 0 [] rfl rfl ?_
  conv => whnf
  refine StopG.rounds wk89 [] [0, 3, 7, 8] (fun m env s => ∃ i : Nat, i ≤ l.length ∧ m = l.length - i ∧ idxFrom (eqK k) (l.drop i) i = idxFrom (eqK k) l 0 ∧
    env = [(0, .d (.list 3 (rowsK l))), (3, .ref (.g 0) 0), (7, .d (.int .i64 ((rowsK l).length : Int))), (8, .d (.int .i64 (i : Int)))] ∧ s = [(0, .cells [.d (.int .i64 k.1), .d (.int .i64 k.2.1), .d (.int .i64 k.2.2)])]) rfl ?_ ?_
  · conv => whnf
    exact ⟨_, 0, Nat.zero_le _, rfl, rfl, rfl, rfl⟩
  rintro m env s ⟨i, hi, rfl, hidx, rfl, rfl⟩
  conv => whnf
  refine bcase_intro (fun h => ?_) (fun h => ?_) <;> conv => whnf
  · have h := lt_of h
    rw [hlen] at h
    obtain ⟨x, hx, hdrop⟩ := at_i h
    refine ⟨rowK x, ⟨by omega, row_i hx⟩, ?_⟩
    conv => whnf
    refine ⟨⟨by kernel_rfl, by kernel_rfl⟩, ?_⟩
    conv => whnf
    rw [hdrop, idxFrom] at hidx
    refine bcase_intro (fun h2 => ?_) (fun h2 => ?_) <;> conv => whnf
    · have h2 : eqK k x = true := h2
      rw [if_pos h2] at hidx
      exact ⟨rd_int hidx, rfl⟩
    · have h2 : eqK k x = false := h2
      rw [succ_i h (by omega)]
      refine ⟨_, by omega, i + 1, h, rfl, ?_, rfl, rfl⟩
      rw [if_neg (by rw [h2]; decide)] at hidx
      exact hidx
  · have h := ge_of h
    rw [hlen] at h
    rw [show l.drop i = [] from List.drop_of_length_le h, idxFrom] at hidx
    exact ⟨rd_int hidx, rfl⟩
set_option maxRecDepth 100000 in
theorem containsK (l : List (Int × Int × Int)) (hl : l.length ≤ 4611686018427387904) (k : Int × Int × Int) : Contract Tryz.prog G0 48 [.d (.list 3 (rowsK l)), latV k.1 k.2.1 k.2.2] [] (fun r t => r = .d (.bool (l.any (eqK k))) ∧ t = []) := by
  refine run48 0 [] rfl rfl ?_
  conv => whnf
  refine .scal [.d (.list 3 (rowsK l)), latV k.1 k.2.1 k.2.2] _ ⟨.refl _, rfl, indexK l hl k⟩ ?_
  conv => whnf
  refine ⟨rd_bool ?_, rfl⟩
  rcases idx_cases0 (eqK k) l with ⟨h1, h2⟩ | ⟨j, x, h1, hx, h2⟩
  · rw [h1, List.find?_eq_none] at *
    exact (List.any_eq_false.2 h2).symm ▸ rfl
  · rw [h1]
    have := List.any_eq_true.2 ⟨x, List.mem_of_find?_eq_some h2, List.find?_some h2⟩
    rw [this]
    simp
def litE (ks : List (Int × Int × Int)) (e : En) : Bool := ks.any (eqK (keyE e))
set_option maxRecDepth 100000 in
theorem purge1 (ks : List (Int × Int × Int)) (hk : ks.length ≤ 4611686018427387904) (e : En) : Contract Tryz.prog G0 47 [entV e, .d (.ptr [.list 3 (rowsK ks)] 0)] [] (fun r s => r = .d (.bool (!litE ks e)) ∧ s = []) := by
  refine run47 0 [] rfl rfl ?_
  conv => whnf
  refine .scal [.d (.list 3 (rowsK ks)), latV e.fl e.dr e.gn] _ ⟨.refl _, rfl, containsK ks hk (keyE e)⟩ ?_
  conv => whnf
  exact ⟨rfl, rfl⟩
set_option maxRecDepth 100000 in
theorem deleteFunc_nil (f : Nat) (cs : List DV) (p : En → Bool) (hf : ∀ x, Contract Tryz.prog G0 f [entV x, .d (.ptr cs 0)] [] (fun r t => r = .d (.bool (p x)) ∧ t = [])) :
    Contract Tryz.prog G0 46 [.d (.list 5 []), .fn f [.d (.ptr cs 0)]] [] (fun r t => r = .d (.list 5 []) ∧ t = []) := by
  refine run46 0 [] rfl rfl ?_
  conv => whnf
  refine .scal [.d (.list 5 []), .fn f [.d (.ptr cs 0)]] (.d (.int .i64 (-1))) ⟨.refl _, rfl, index96 [] (by simp) p f cs hf⟩ ?_
  conv => whnf
  exact ⟨rfl, rfl⟩
/-- What stays lit. -/
def stayL (ks : List (Int × Int × Int)) (l : List En) : List En := l.filter (litE ks)
set_option maxRecDepth 100000 in
theorem purge_nil (cnt fdr hop : Int) (mem : List Int) (hm : mem.length ≤ 100000) (ks : List (Int × Int × Int)) (hk : ks.length ≤ 100000) : Contract Tryz.prog G0 15 [awG cnt fdr hop mem [], .d (.list 3 (rowsK ks))] [] (fun r t => r = awG cnt fdr hop mem [] ∧ t = []) := by
  refine run15 0 [2] rfl rfl ?_
  conv => whnf
  refine .obj rfl ?_
  conv => whnf
  refine ⟨_, _, ⟨WkL.refl _, own_nil cnt fdr hop mem hm⟩, fun res s1 h => ?_⟩
  obtain ⟨rfl, rfl⟩ := h
  conv => whnf
  refine .ghost (GV.freeze 1 rfl (by simp) (by repeat' first | exact trivial | apply And.intro | decide | (simp; done) | omega) (by repeat' first | exact trivial | apply And.intro)) (.go wk15 [] ?_)
  conv => whnf
  refine .obj rfl ?_
  conv => whnf
  refine ⟨_, _, ⟨WkL.refl _, deleteFunc_nil 47 [.list 3 (rowsK ks)] (fun e => !litE ks e) fun e => purge1 ks (by omega) e⟩, fun res s1 h => ?_⟩
  obtain ⟨rfl, rfl⟩ := h
  conv => whnf
  exact ⟨rfl, rfl⟩
set_option maxRecDepth 100000 in
theorem purge_cons (cnt fdr hop : Int) (mem : List Int) (hm : mem.length ≤ 100000) (e0 : En) (l0 : List En) (hl : l0.length + 1 ≤ 1000) (hb : ∀ e ∈ e0 :: l0, e.bids.length ≤ 100000) (ks : List (Int × Int × Int)) (hk : ks.length ≤ 100000) :
    Contract Tryz.prog G0 15 [awG cnt fdr hop mem (e0 :: l0), .d (.list 3 (rowsK ks))] [] (fun r t => ∃ cap tl, (stayL ks (e0 :: l0)).length ≤ cap ∧ r = rgV cnt fdr hop mem (.slc (.g 0) 5 0 (stayL ks (e0 :: l0)).length cap) ∧ t = [(0, .row 5 (rowsE (stayL ks (e0 :: l0)) ++ tl))]) := by
  refine run15 0 [2] rfl rfl ?_
  conv => whnf
  refine .obj rfl ?_
  conv => whnf
  refine ⟨_, _, ⟨WkL.refl _, own_cons cnt fdr hop mem hm e0 l0 (by omega) hb⟩, fun res s1 h => ?_⟩
  obtain ⟨cap, hc, rfl, rfl⟩ := h
  generalize hle : e0 :: l0 = l at hb
  have hll : l.length = l0.length + 1 := by rw [← hle]; rfl
  rw [← hll] at hc ⊢
  conv => whnf
  have hrl := rowsE_len l
  have hkeep : keepL (fun e => !litE ks e) l = stayL ks l := by
    unfold keepL stayL
    congr 1
    funext e
    simp
  have hdf := deleteFunc l (by omega) cap hc (fun e => !litE ks e) 47 [.list 3 (rowsK ks)] fun e => purge1 ks (by omega) e
  rw [hkeep] at hdf
  refine .ghost (GV.freeze 1 rfl (by simp) (by repeat' first | exact trivial | apply And.intro | decide | (simp; done) | omega) (by repeat' first | exact trivial | apply And.intro)) (.go wk15 [] ?_)
  conv => whnf
  refine .obj rfl ?_
  conv => whnf
  refine ⟨_, _, ⟨WkL.refl _, hdf⟩, fun res s1 h => ?_⟩
  obtain ⟨tl, rfl, rfl⟩ := h
  conv => whnf
  have hst : (stayL ks l).length ≤ l.length := List.length_filter_le _ _
  exact ⟨cap, tl, by omega, rfl, rfl⟩
/-- As data. -/
theorem purge (cnt fdr hop : Int) (mem : List Int) (hm : mem.length ≤ 100000) (l : List En) (hl : l.length ≤ 1000) (hb : ∀ e ∈ l, e.bids.length ≤ 100000) (ks : List (Int × Int × Int)) (hk : ks.length ≤ 100000) :
    Contract Tryz.prog G0 15 [awG cnt fdr hop mem l, .d (.list 3 (rowsK ks))] [] (fun r t => r = awG cnt fdr hop mem (stayL ks l) ∧ t = []) := by
  cases l with
  | nil => exact purge_nil cnt fdr hop mem hm ks hk
  | cons e0 l0 =>
    refine (purge_cons cnt fdr hop mem hm e0 l0 (by simpa using hl) hb ks hk).told fun r t hr => ?_
    obtain ⟨cap, tl, hc, rfl, rfl⟩ := hr
    refine ⟨awG cnt fdr hop mem (stayL ks (e0 :: l0)), ?_, rfl, rfl, rfl⟩
    have hrl := rowsE_len (stayL ks (e0 :: l0))
    refine GV.trans (GV.freeze 0 rfl (by simp) (by repeat' first | exact trivial | apply And.intro | decide | (simp; done) | (simp; omega) | omega) (by repeat' first | exact trivial | apply And.intro)) (GV.tidied [0] ?_)
    conv => whnf
    rw [List.drop_zero, List.take_left' (by omega)]
    exact ⟨rfl, rfl⟩
end Go.Proofs.YtkenimmellonjaaGreat
/- Seat Z: latches put in order, piece by piece. -/
namespace Go.Proofs.YtkenimmellonjaaGreat
open Go.Pv Go.RowKit Go.Shelf
abbrev Kt := Int × Int × Int
/-- Put among what is in order, from behind. -/
def insV (c : Kt → Kt → Int) (x : Kt) : List Kt → List Kt
  | [] => [x]
  | y :: r => if c x y < 0 then y :: insV c x r else x :: y :: r
def sortV (c : Kt → Kt → Int) (l : List Kt) : List Kt := l.foldl (fun acc x => insV c x acc) []
/-- In order. -/
def sortK (c : Kt → Kt → Int) (l : List Kt) : List Kt := (sortV c l).reverse
theorem insV_len (c : Kt → Kt → Int) (x : Kt) : ∀ (l : List Kt), (insV c x l).length = l.length + 1
  | [] => rfl
  | y :: r => by
    unfold insV
    split
    · simp [insV_len c x r]
    · rfl
theorem sortV_snoc (c : Kt → Kt → Int) (l : List Kt) (x : Kt) : sortV c (l ++ [x]) = insV c x (sortV c l) := by simp [sortV]
theorem sortV_len (c : Kt → Kt → Int) (l : List Kt) : (sortV c l).length = l.length := by
  have key : ∀ (l : List Kt) (acc : List Kt), (l.foldl (fun acc x => insV c x acc) acc).length = acc.length + l.length := by
    intro l
    induction l with
    | nil => intro acc; rfl
    | cons x r ih => intro acc; rw [List.foldl_cons, ih, insV_len]; simp; omega
  have := key l []
  rw [List.length_nil, Nat.zero_add] at this
  exact this
theorem mid_row {A B : List Kt} {x : Kt} {i : Nat} (h : i = A.length) : (rowsK (A ++ x :: B))[0 + (i : Int).toNat]? = some (rowK x) := by
  subst h
  simp [rowsK]
theorem mid_put {A B : List Kt} {x y : Kt} {i : Nat} (h : i = A.length) : (rowsK (A ++ x :: B)).set (0 + (i : Int).toNat) (rowK y) = rowsK (A ++ y :: B) := by
  subst h
  simp [rowsK]
theorem insV_step (c : Kt → Kt → Int) (x y : Kt) (r : List Kt) : insV c x (y :: r) = if c x y < 0 then y :: insV c x r else x :: y :: r := rfl
set_option maxHeartbeats 4000000 in
set_option maxRecDepth 100000 in
theorem insSort (f : Nat) (c : Kt → Kt → Int) (hf : ∀ x y : Kt, Contract Tryz.prog G0 f [latV x.1 x.2.1 x.2.2, latV y.1 y.2.1 y.2.2] [] (fun r t => r = .d (.int .i64 (c x y)) ∧ t = []))
    (P l Q : List Kt) (hl : P.length + l.length + Q.length ≤ 100000) (cap : Nat) :
    Contract Tryz.prog G0 104 [.slc (.g 0) 3 0 (P.length + l.length + Q.length) cap, .d (.int .i64 (P.length : Int)), .d (.int .i64 ((P.length + l.length : Nat) : Int)), .fn f []] [(0, .row 3 (rowsK (P ++ l ++ Q)))]
      (fun r t => r = .tup [] ∧ t = [(0, .row 3 (rowsK (P ++ sortK c l ++ Q)))]) := by
  refine run104 1 [] rfl rfl ?_
  conv => whnf
  rw [succ_i (i := P.length) (Nat.lt_succ_self _) (by omega)]
  have hN : (rowsK (P ++ l ++ Q)).length = P.length + l.length + Q.length := by simp [rowsK]; omega
  generalize hn : P.length + l.length + Q.length = N at hl hN
  refine StopG.rounds wk104 [] [0, 1, 2, 3, 8] (fun m env s => ∃ k : Nat, 1 ≤ k ∧ (k ≤ l.length ∨ k = 1) ∧ m = l.length - k ∧ env = [(0, .slc (.g 0) 3 0 N cap), (1, .d (.int .i64 (P.length : Int))), (2, .d (.int .i64 ((P.length + l.length : Nat) : Int))), (3, .fn f []), (8, .d (.int .i64 ((P.length + k : Nat) : Int)))] ∧ s = [(0, .row 3 (rowsK (P ++ (sortV c (l.take k)).reverse ++ l.drop k ++ Q)))]) rfl ?_ ?_
  · conv => whnf
    refine ⟨_, 1, Nat.le_refl _, .inr rfl, rfl, rfl, ?_⟩
    refine congrArg (fun q => [(0, AB.row 3 (rowsK q))]) ?_
    cases l with
    | nil => simp [sortV]
    | cons x r => simp [sortV, insV]
  rintro m env s ⟨k, hk1, hk, rfl, rfl, rfl⟩
  conv => whnf
  refine bcase_intro (fun h => ?_) (fun h => ?_) <;> conv => whnf
  · have hkl : k < l.length := by have := lt_of h; omega
    obtain ⟨x, hx, hd⟩ := at_i hkl
    refine StopG.rounds wk104 [] [0, 1, 2, 3, 8, 9] (fun m env s => ∃ S1 S2 : List Kt, S2.reverse ++ insV c x S1.reverse = insV c x (sortV c (l.take k)) ∧ S1.length + S2.length = k ∧ m = S1.length ∧ env = [(0, .slc (.g 0) 3 0 N cap), (1, .d (.int .i64 (P.length : Int))), (2, .d (.int .i64 ((P.length + l.length : Nat) : Int))), (3, .fn f []), (8, .d (.int .i64 ((P.length + k : Nat) : Int))), (9, .d (.int .i64 ((P.length + S1.length : Nat) : Int)))] ∧ s = [(0, .row 3 (rowsK ((P ++ S1) ++ x :: (S2 ++ l.drop (k + 1) ++ Q))))]) rfl ?_ ?_
    · conv => whnf
      have hsl : (sortV c (l.take k)).reverse.length = k := by rw [List.length_reverse, sortV_len]; simp; omega
      refine ⟨_, (sortV c (l.take k)).reverse, [], by simp, by rw [hsl]; rfl, rfl, by rw [hsl], ?_⟩
      refine congrArg (fun q => [(0, AB.row 3 (rowsK q))]) ?_
      rw [hd]; simp
    rintro m env s ⟨S1, S2, hS, hlen, rfl, rfl, rfl⟩
    rcases List.eq_nil_or_concat S1 with rfl | ⟨S0, y, rfl⟩
    · conv => whnf
      refine ⟨(fun hg => by simp [HG, lit, rfind] at hg), ?_⟩
      conv => whnf
      refine ⟨rowK (0, 0, 0), (fun hg => by simp [HG, lit, rfind] at hg), rfl, ?_⟩
      conv => whnf
      refine ⟨(fun hg => by simp [HG, lit, rfind] at hg), ?_⟩
      conv => whnf
      refine ⟨rowK (0, 0, 0), (fun hg => by simp [HG, lit, rfind] at hg), rfl, ?_⟩
      conv => whnf
      refine .scal [latV 0 0 0, latV 0 0 0] _ (fun _ => ⟨.refl _, rfl, hf (0, 0, 0) (0, 0, 0)⟩) ?_
      conv => whnf
      refine bcase_intro (fun hg => ?_) (fun hg => ?_) <;> conv => whnf
      · exfalso
        rw [show decide (((P.length + ([] : List Kt).length : Nat) : Int) > (P.length : Int)) = false from decide_eq_false (by simp)] at hg
        cases hg
      rw [succ_i (i := P.length + k) (Nat.lt_succ_self _) (by omega)]
      refine ⟨_, by omega, k + 1, by omega, .inl (by omega), rfl, rfl, ?_⟩
      refine congrArg (fun q => [(0, AB.row 3 (rowsK q))]) ?_
      rw [List.take_add_one, hx, Option.toList, sortV_snoc, ← hS]
      simp [insV]
    · rw [List.concat_eq_append] at hS hlen ⊢
      have hl1 : (S0 ++ [y]).length = S0.length + 1 := by simp
      rw [hl1] at hlen ⊢
      conv => whnf
      refine ⟨fun _ => ⟨by omega, by omega⟩, ?_⟩
      conv => whnf
      refine ⟨rowK x, (fun _ => mid_row (by simp)), rfl, ?_⟩
      conv => whnf
      rw [show IntKind.wrap .i64 (((P.length + (S0.length + 1) : Nat) : Int) - 1) = ((P.length + S0.length : Nat) : Int) from back_i (i := P.length + S0.length) (by omega)]
      refine ⟨fun _ => ⟨by omega, by omega⟩, ?_⟩
      conv => whnf
      refine ⟨rowK y, (fun _ => by rw [show P ++ (S0 ++ [y]) ++ x :: (S2 ++ l.drop (k + 1) ++ Q) = (P ++ S0) ++ y :: (x :: (S2 ++ l.drop (k + 1) ++ Q)) by simp]; exact mid_row (by simp)), rfl, ?_⟩
      conv => whnf
      refine .scal [latV x.1 x.2.1 x.2.2, latV y.1 y.2.1 y.2.2] _ (fun _ => ⟨.refl _, rfl, hf x y⟩) ?_
      conv => whnf
      rw [show decide (((P.length + (S0.length + 1) : Nat) : Int) > (P.length : Int)) = true from decide_eq_true (by omega)]
      refine bcase_intro (fun hg => ?_) (fun hg => ?_) <;> conv => whnf
      · have hlt : c x y < 0 := of_decide_eq_true hg
        have hwr : IntKind.wrap .i64 (((P.length + (S0.length + 1) : Nat) : Int) - 1) = ((P.length + S0.length : Nat) : Int) := back_i (i := P.length + S0.length) (by omega)
        have e0 : P ++ (S0 ++ [y]) ++ x :: (S2 ++ l.drop (k + 1) ++ Q) = (P ++ S0) ++ y :: (x :: (S2 ++ l.drop (k + 1) ++ Q)) := by simp
        have ry : (rowsK (P ++ (S0 ++ [y]) ++ x :: (S2 ++ l.drop (k + 1) ++ Q)))[0 + ((P.length + S0.length : Nat) : Int).toNat]? = some (rowK y) := by rw [e0]; exact mid_row (by simp)
        have rx : (rowsK (P ++ (S0 ++ [y]) ++ x :: (S2 ++ l.drop (k + 1) ++ Q)))[0 + ((P.length + (S0.length + 1) : Nat) : Int).toNat]? = some (rowK x) := mid_row (by simp)
        have s1 : (rowsK (P ++ (S0 ++ [y]) ++ x :: (S2 ++ l.drop (k + 1) ++ Q))).set (0 + ((P.length + (S0.length + 1) : Nat) : Int).toNat) (rowK y) = rowsK ((P ++ S0) ++ y :: (y :: (S2 ++ l.drop (k + 1) ++ Q))) := by rw [mid_put (by simp)]; simp
        have r1 : ((rowsK (P ++ (S0 ++ [y]) ++ x :: (S2 ++ l.drop (k + 1) ++ Q))).set (0 + ((P.length + (S0.length + 1) : Nat) : Int).toNat) (rowK y))[0 + ((P.length + S0.length : Nat) : Int).toNat]? = some (rowK y) := by rw [s1]; exact mid_row (by simp)
        have s2 : ((rowsK (P ++ (S0 ++ [y]) ++ x :: (S2 ++ l.drop (k + 1) ++ Q))).set (0 + ((P.length + (S0.length + 1) : Nat) : Int).toNat) (rowK y)).set (0 + ((P.length + S0.length : Nat) : Int).toNat) (rowK x) = rowsK ((P ++ S0) ++ x :: (y :: (S2 ++ l.drop (k + 1) ++ Q))) := by rw [s1]; exact mid_put (by simp)
        have ba : 0 ≤ ((P.length + (S0.length + 1) : Nat) : Int) ∧ ((P.length + (S0.length + 1) : Nat) : Int) < (N : Int) := ⟨by omega, by omega⟩
        have bb : 0 ≤ ((P.length + S0.length : Nat) : Int) ∧ ((P.length + S0.length : Nat) : Int) < (N : Int) := ⟨by omega, by omega⟩
        have hwr2 := hwr
        rw [← hwr] at ry r1 s2 bb
        refine ⟨bb, ?_⟩
        conv => whnf
        refine ⟨rowK y, ry, rfl, ?_⟩
        conv => whnf
        refine ⟨ba, ?_⟩
        conv => whnf
        refine ⟨rowK x, rx, rfl, ?_⟩
        conv => whnf
        refine ⟨ba, ?_⟩
        conv => whnf
        refine ⟨rowK x, rx, ?_⟩
        conv => whnf
        refine ⟨bb, ?_⟩
        conv => whnf
        refine ⟨rowK y, r1, ?_⟩
        conv => whnf
        refine ⟨_, Nat.lt_succ_self _, S0, y :: S2, ?_, by simp; omega, rfl, ?_, ?_⟩
        · rw [← hS, show (S0 ++ [y]).reverse = y :: S0.reverse by simp, insV_step, if_pos hlt]; simp
        · rw [hwr2]
        · refine congrArg (fun q => [(0, AB.row 3 q)]) (s2.trans ?_)
          simp
      · have hge : ¬ c x y < 0 := of_decide_eq_false hg
        rw [succ_i (i := P.length + k) (Nat.lt_succ_self _) (by omega)]
        refine ⟨_, by omega, k + 1, by omega, .inl (by omega), rfl, rfl, ?_⟩
        refine congrArg (fun q => [(0, AB.row 3 (rowsK q))]) ?_
        rw [List.take_add_one, hx, Option.toList, sortV_snoc, ← hS, show (S0 ++ [y]).reverse = y :: S0.reverse by simp, insV_step, if_neg hge]
        simp
  · have hkl : l.length ≤ k := by have := ge_of h; omega
    rw [List.take_of_length_le hkl, List.drop_of_length_le hkl]
    rw [List.append_nil]; exact ⟨rfl, rfl⟩
end Go.Proofs.YtkenimmellonjaaGreat
/- Seat Z: latches changed over, range by range. -/
namespace Go.Proofs.YtkenimmellonjaaGreat
open Go.Pv Go.RowKit Go.Shelf
theorem sum_i {a b : Nat} (h : a + b ≤ 4611686018427387904) : IntKind.wrap .i64 ((a : Int) + (b : Int)) = ((a + b : Nat) : Int) := by
  rw [show (a : Int) + (b : Int) = ((a + b : Nat) : Int) by omega]
  exact wrap_id (by omega) (by omega)
set_option maxHeartbeats 4000000 in
set_option maxRecDepth 100000 in
theorem swapRange (f : Nat) (P A M B Q : List Kt) (hab : A.length = B.length) (N : Nat) (hN : P.length + A.length + M.length + B.length + Q.length = N) (hl : N ≤ 100000) (cap : Nat) :
    Contract Tryz.prog G0 124 [.slc (.g 0) 3 0 N cap, .d (.int .i64 (P.length : Int)), .d (.int .i64 ((P.length + A.length + M.length : Nat) : Int)), .d (.int .i64 (A.length : Int)), .fn f []] [(0, .row 3 (rowsK (P ++ A ++ M ++ B ++ Q)))]
      (fun r t => r = .tup [] ∧ t = [(0, .row 3 (rowsK (P ++ B ++ M ++ A ++ Q)))]) := by
  refine run124 1 [] rfl rfl ?_
  conv => whnf
  refine StopG.rounds wk124 [] [0, 1, 2, 3, 10] (fun m env s => ∃ A1 A2 B1 B2 : List Kt, A = A1 ++ A2 ∧ B = B1 ++ B2 ∧ A1.length = B1.length ∧ m = A2.length ∧ env = [(0, .slc (.g 0) 3 0 N cap), (1, .d (.int .i64 (P.length : Int))), (2, .d (.int .i64 ((P.length + A.length + M.length : Nat) : Int))), (3, .d (.int .i64 (A.length : Int))), (10, .d (.int .i64 (A1.length : Int)))] ∧ s = [(0, .row 3 (rowsK (P ++ B1 ++ A2 ++ M ++ A1 ++ B2 ++ Q)))]) rfl ?_ ?_
  · conv => whnf
    exact ⟨_, [], A, [], B, rfl, rfl, rfl, rfl, rfl, by simp⟩
  rintro m env s ⟨A1, A2, B1, B2, hA, hB, hlen, rfl, rfl, rfl⟩
  conv => whnf
  have hAl : A.length = A1.length + A2.length := by rw [hA]; simp
  have hBl : B.length = B1.length + B2.length := by rw [hB]; simp
  refine bcase_intro (fun h => ?_) (fun h => ?_) <;> conv => whnf
  · have hi := lt_of h
    match A2, B2, hA, hB, hAl, hBl with
    | [], _, _, _, hAl, _ => exact absurd hi (by simp at hAl; omega)
    | _ :: _, [], _, _, hAl, hBl => exact absurd hi (by simp at hAl hBl; omega)
    | x :: A2, y :: B2, hA, hB, hAl, hBl =>
    simp only [List.length_cons] at hAl hBl
    have hwa : IntKind.wrap .i64 ((P.length : Int) + (A1.length : Int)) = ((P.length + A1.length : Nat) : Int) := sum_i (by omega)
    have hwb : IntKind.wrap .i64 (((P.length + A.length + M.length : Nat) : Int) + (A1.length : Int)) = ((P.length + A.length + M.length + A1.length : Nat) : Int) := sum_i (by omega)
    have ea : P ++ B1 ++ x :: A2 ++ M ++ A1 ++ y :: B2 ++ Q = (P ++ B1) ++ x :: (A2 ++ M ++ A1 ++ y :: B2 ++ Q) := by simp
    have eb : P ++ B1 ++ x :: A2 ++ M ++ A1 ++ y :: B2 ++ Q = (P ++ B1 ++ x :: A2 ++ M ++ A1) ++ y :: (B2 ++ Q) := by simp
    have ra : (rowsK (P ++ B1 ++ x :: A2 ++ M ++ A1 ++ y :: B2 ++ Q))[0 + ((P.length + A1.length : Nat) : Int).toNat]? = some (rowK x) := by rw [ea]; exact mid_row (by simp; omega)
    have rb : (rowsK (P ++ B1 ++ x :: A2 ++ M ++ A1 ++ y :: B2 ++ Q))[0 + ((P.length + A.length + M.length + A1.length : Nat) : Int).toNat]? = some (rowK y) := by rw [eb]; exact mid_row (by simp; omega)
    have s1 : (rowsK (P ++ B1 ++ x :: A2 ++ M ++ A1 ++ y :: B2 ++ Q)).set (0 + ((P.length + A1.length : Nat) : Int).toNat) (rowK y) = rowsK ((P ++ B1 ++ y :: A2 ++ M ++ A1) ++ y :: (B2 ++ Q)) := by rw [ea, mid_put (by simp; omega)]; simp
    have r1 : ((rowsK (P ++ B1 ++ x :: A2 ++ M ++ A1 ++ y :: B2 ++ Q)).set (0 + ((P.length + A1.length : Nat) : Int).toNat) (rowK y))[0 + ((P.length + A.length + M.length + A1.length : Nat) : Int).toNat]? = some (rowK y) := by rw [s1]; exact mid_row (by simp; omega)
    have s2 : ((rowsK (P ++ B1 ++ x :: A2 ++ M ++ A1 ++ y :: B2 ++ Q)).set (0 + ((P.length + A1.length : Nat) : Int).toNat) (rowK y)).set (0 + ((P.length + A.length + M.length + A1.length : Nat) : Int).toNat) (rowK x) = rowsK ((P ++ B1 ++ y :: A2 ++ M ++ A1) ++ x :: (B2 ++ Q)) := by rw [s1]; exact mid_put (by simp; omega)
    have ba : 0 ≤ ((P.length + A1.length : Nat) : Int) ∧ ((P.length + A1.length : Nat) : Int) < (N : Int) := ⟨by omega, by omega⟩
    have bb : 0 ≤ ((P.length + A.length + M.length + A1.length : Nat) : Int) ∧ ((P.length + A.length + M.length + A1.length : Nat) : Int) < (N : Int) := ⟨by omega, by omega⟩
    rw [← hwa, ← hwb] at r1 s2
    rw [← hwa] at ra ba
    rw [← hwb] at rb bb
    refine ⟨bb, ?_⟩
    conv => whnf
    refine ⟨rowK y, rb, rfl, ?_⟩
    conv => whnf
    refine ⟨ba, ?_⟩
    conv => whnf
    refine ⟨rowK x, ra, rfl, ?_⟩
    conv => whnf
    refine ⟨ba, ?_⟩
    conv => whnf
    refine ⟨rowK x, ra, ?_⟩
    conv => whnf
    refine ⟨bb, ?_⟩
    conv => whnf
    refine ⟨rowK y, r1, ?_⟩
    conv => whnf
    rw [succ_i hi (by omega)]
    refine ⟨_, Nat.lt_succ_self _, A1 ++ [x], A2, B1 ++ [y], B2, by simp [hA], by simp [hB], by simp [hlen], rfl, by simp, ?_⟩
    refine congrArg (fun q => [(0, AB.row 3 q)]) (s2.trans ?_)
    simp
  · have hi := ge_of h
    have hA2 : A2 = [] := List.eq_nil_of_length_eq_zero (by omega)
    have hB2 : B2 = [] := List.eq_nil_of_length_eq_zero (by omega)
    subst hA2
    subst hB2
    rw [hA, hB]
    exact ⟨rfl, by simp⟩
end Go.Proofs.YtkenimmellonjaaGreat
/- Seat Z: latches turned round. -/
namespace Go.Proofs.YtkenimmellonjaaGreat
open Go.Pv Go.RowKit Go.Shelf
theorem sub_i {a b c : Nat} (h : a = b + c) (ha : a ≤ 4611686018427387904) : IntKind.wrap .i64 ((a : Int) - (b : Int)) = (c : Int) := by
  rw [show (a : Int) - (b : Int) = (c : Int) by omega]
  exact wrap_id (by omega) (by omega)
set_option maxHeartbeats 4000000 in
set_option maxRecDepth 100000 in
theorem rotate (f : Nat) (X U V Y : List Kt) (hU : 1 ≤ U.length) (hV : 1 ≤ V.length) (N : Nat) (hN : X.length + U.length + V.length + Y.length = N) (hl : N ≤ 100000) (cap : Nat) :
    Contract Tryz.prog G0 110 [.slc (.g 0) 3 0 N cap, .d (.int .i64 (X.length : Int)), .d (.int .i64 ((X.length + U.length : Nat) : Int)), .d (.int .i64 ((X.length + U.length + V.length : Nat) : Int)), .fn f []] [(0, .row 3 (rowsK (X ++ U ++ V ++ Y)))]
      (fun r t => r = .tup [] ∧ t = [(0, .row 3 (rowsK (X ++ V ++ U ++ Y)))]) := by
  refine run110 1 [] rfl rfl ?_
  conv => whnf
  rw [sub_i (a := X.length + U.length) (b := X.length) (c := U.length) rfl (by omega), sub_i (a := X.length + U.length + V.length) (b := X.length + U.length) (c := V.length) rfl (by omega)]
  refine StopG.rounds wk110 [] [0, 2, 4, 10, 11] (fun m env s => ∃ X' U' V' Y' : List Kt, X ++ V ++ U ++ Y = X' ++ V' ++ U' ++ Y' ∧ X'.length + U'.length = X.length + U.length ∧ X'.length + U'.length + V'.length + Y'.length = N ∧ 1 ≤ U'.length ∧ 1 ≤ V'.length ∧ m = U'.length + V'.length ∧
    env = [(0, .slc (.g 0) 3 0 N cap), (2, .d (.int .i64 ((X'.length + U'.length : Nat) : Int))), (4, .fn f []), (10, .d (.int .i64 (U'.length : Int))), (11, .d (.int .i64 (V'.length : Int)))] ∧ s = [(0, .row 3 (rowsK (X' ++ U' ++ V' ++ Y')))]) rfl ?_ ?_
  · conv => whnf
    exact ⟨_, X, U, V, Y, rfl, rfl, hN, hU, hV, rfl, rfl, rfl⟩
  clear hU hV
  rintro m env s ⟨X', U', V', Y', hT, hm, hN', hU, hV, rfl, rfl, rfl⟩
  rw [hT]
  conv => whnf
  refine bcase_intro (fun h => ?_) (fun h => ?_) <;> conv => whnf
  · have hne : U'.length ≠ V'.length := fun e => by rw [e] at h; simp at h
    refine bcase_intro (fun h2 => ?_) (fun h2 => ?_) <;> conv => whnf
    · have hgt : V'.length < U'.length := by have := of_decide_eq_true h2; omega
      have hlA : (U'.take V'.length).length = V'.length := by rw [List.length_take]; omega
      have hlM : (U'.drop V'.length).length = U'.length - V'.length := List.length_drop ..
      have hsw := swapRange f X' (U'.take V'.length) (U'.drop V'.length) V' Y' hlA N (by rw [hlA, hlM]; omega) hl cap
      rw [hlA, hlM, show X'.length + V'.length + (U'.length - V'.length) = X'.length + U'.length by omega, show X' ++ U'.take V'.length ++ U'.drop V'.length ++ V' ++ Y' = X' ++ U' ++ V' ++ Y' by rw [List.append_assoc X', List.take_append_drop]] at hsw
      rw [sub_i (a := X'.length + U'.length) (b := U'.length) (c := X'.length) (by omega) (by omega)]
      refine .obj rfl ?_
      conv => whnf
      refine ⟨_, _, ⟨WkL.refl _, hsw⟩, fun res s1 hs => ?_⟩
      obtain ⟨rfl, rfl⟩ := hs
      conv => whnf
      rw [sub_i (a := U'.length) (b := V'.length) (c := (U'.drop V'.length).length) (by omega) (by omega)]
      refine ⟨_, ?_, X' ++ V', U'.drop V'.length, U'.take V'.length, Y', ?_, ?_, ?_, ?_, ?_, rfl, ?_, ?_⟩
      · rw [hlM, hlA]; omega
      · conv => lhs; rw [← List.take_append_drop V'.length U']
        simp
      · rw [List.length_append, hlM]; omega
      · rw [List.length_append, hlM, hlA]; omega
      · rw [hlM]; omega
      · rw [hlA]; omega
      · rw [hlA, hlM, List.length_append, show X'.length + V'.length + (U'.length - V'.length) = X'.length + U'.length by omega]
      · rfl
    · have hlt : U'.length < V'.length := by have := of_decide_eq_false h2; omega
      have hlM : (V'.take (V'.length - U'.length)).length = V'.length - U'.length := by rw [List.length_take]; omega
      have hlB : (V'.drop (V'.length - U'.length)).length = U'.length := by rw [List.length_drop]; omega
      have hsw := swapRange f X' U' (V'.take (V'.length - U'.length)) (V'.drop (V'.length - U'.length)) Y' hlB.symm N (by rw [hlB, hlM]; omega) hl cap
      rw [hlM, show X' ++ U' ++ V'.take (V'.length - U'.length) ++ V'.drop (V'.length - U'.length) ++ Y' = X' ++ U' ++ V' ++ Y' by rw [List.append_assoc (X' ++ U'), List.take_append_drop]] at hsw
      rw [sub_i (a := X'.length + U'.length) (b := U'.length) (c := X'.length) (by omega) (by omega), sum_i (a := X'.length + U'.length) (b := V'.length) (by omega), sub_i (a := X'.length + U'.length + V'.length) (b := U'.length) (c := X'.length + U'.length + (V'.length - U'.length)) (by omega) (by omega)]
      refine .obj rfl ?_
      conv => whnf
      refine ⟨_, _, ⟨WkL.refl _, hsw⟩, fun res s1 hs => ?_⟩
      obtain ⟨rfl, rfl⟩ := hs
      conv => whnf
      rw [sub_i (a := V'.length) (b := U'.length) (c := (V'.take (V'.length - U'.length)).length) (by omega) (by omega)]
      refine ⟨_, ?_, X', V'.drop (V'.length - U'.length), V'.take (V'.length - U'.length), U' ++ Y', ?_, ?_, ?_, ?_, ?_, rfl, ?_, ?_⟩
      · rw [hlM, hlB]; omega
      · conv => lhs; rw [← List.take_append_drop (V'.length - U'.length) V']
        simp
      · rw [hlB]; omega
      · rw [List.length_append, hlM, hlB]; omega
      · rw [hlB]; omega
      · rw [hlM]; omega
      · rw [hlB]
      · simp
  · have he : U'.length = V'.length := by
      have : decide ((U'.length : Int) = (V'.length : Int)) = true := by simpa using h
      have := of_decide_eq_true this
      omega
    have hsw := swapRange f X' U' [] V' Y' he N (by simp; omega) hl cap
    rw [List.length_nil, Nat.add_zero (_ + _), List.append_nil, List.append_nil] at hsw
    rw [sub_i (a := X'.length + U'.length) (b := U'.length) (c := X'.length) (by omega) (by omega)]
    refine .obj rfl ?_
    conv => whnf
    refine ⟨_, _, ⟨WkL.refl _, hsw⟩, fun res s1 hs => ?_⟩
    obtain ⟨rfl, rfl⟩ := hs
    conv => whnf
    exact ⟨rfl, rfl⟩
end Go.Proofs.YtkenimmellonjaaGreat
/- Seat Z: what is in order, stable, told without a program. -/
namespace Go.Proofs.YtkenimmellonjaaGreat
open Go.Pv Go.RowKit Go.Shelf
/-- A comparison that orders: less is told by a negative number. -/
structure Ordr (c : Kt → Kt → Int) : Prop where
  asm : ∀ x y, c x y < 0 → ¬ c y x < 0
  tr : ∀ x y z, ¬ c y x < 0 → ¬ c z y < 0 → ¬ c z x < 0
theorem Ordr.irr {c : Kt → Kt → Int} (O : Ordr c) (x : Kt) : ¬ c x x < 0 := fun h => O.asm x x h h
theorem Ordr.lt_le {c : Kt → Kt → Int} (O : Ordr c) {x y z : Kt} (h1 : c x y < 0) (h2 : ¬ c z y < 0) : c x z < 0 := by
  by_cases h : c x z < 0
  · exact h
  · exact absurd h1 (O.tr y z x h2 h)
theorem Ordr.le_lt {c : Kt → Kt → Int} (O : Ordr c) {x y z : Kt} (h1 : ¬ c y x < 0) (h2 : c y z < 0) : c x z < 0 := by
  by_cases h : c x z < 0
  · exact h
  · exact absurd h2 (O.tr z x y h h1)
theorem Ordr.lt_lt {c : Kt → Kt → Int} (O : Ordr c) {x y z : Kt} (h1 : c x y < 0) (h2 : c y z < 0) : c x z < 0 := O.lt_le h1 (O.asm _ _ h2)
def eqv (c : Kt → Kt → Int) (k x : Kt) : Bool := !decide (c x k < 0) && !decide (c k x < 0)
theorem eqv_iff {c : Kt → Kt → Int} {k x : Kt} : eqv c k x = true ↔ ¬ c x k < 0 ∧ ¬ c k x < 0 := by simp [eqv]
/-- Each class stands as it stood. -/
def Stb (c : Kt → Kt → Int) (l o : List Kt) : Prop := ∀ k, o.filter (eqv c k) = l.filter (eqv c k)
def Srt (c : Kt → Kt → Int) (l : List Kt) : Prop := l.Pairwise fun x y => ¬ c y x < 0
theorem Stb.refl (c : Kt → Kt → Int) (l : List Kt) : Stb c l l := fun _ => rfl
theorem Stb.trans {c : Kt → Kt → Int} {l o q : List Kt} (h : Stb c l o) (h2 : Stb c o q) : Stb c l q := fun k => (h2 k).trans (h k)
theorem Stb.app {c : Kt → Kt → Int} {l o l2 o2 : List Kt} (h : Stb c l o) (h2 : Stb c l2 o2) : Stb c (l ++ l2) (o ++ o2) := fun k => by
  rw [List.filter_append, List.filter_append, h k, h2 k]
theorem Stb.swap {c : Kt → Kt → Int} (O : Ordr c) {U V : List Kt} (h : ∀ u ∈ U, ∀ v ∈ V, c v u < 0) : Stb c (U ++ V) (V ++ U) := fun k => by
  rw [List.filter_append, List.filter_append]
  by_cases hu : ∃ u ∈ U, eqv c k u = true
  · obtain ⟨u, hu, hk⟩ := hu
    have hv : V.filter (eqv c k) = [] := by
      rw [List.filter_eq_nil_iff]
      intro v hv hkv
      have h1 := eqv_iff.1 hk
      have h2 := eqv_iff.1 hkv
      exact h2.1 (O.lt_le (h u hu v hv) h1.2)
    rw [hv]; simp
  · have hU : U.filter (eqv c k) = [] := by
      rw [List.filter_eq_nil_iff]
      exact fun u h1 h2 => hu ⟨u, h1, h2⟩
    rw [hU]; simp
theorem eqv_self {c : Kt → Kt → Int} (O : Ordr c) (x : Kt) : eqv c x x = true := eqv_iff.2 ⟨O.irr x, O.irr x⟩
theorem Stb.mem {c : Kt → Kt → Int} (O : Ordr c) {l o : List Kt} (h : Stb c l o) (x : Kt) : x ∈ o ↔ x ∈ l := by
  have e := h x
  constructor
  · intro hx
    have : x ∈ o.filter (eqv c x) := List.mem_filter.2 ⟨hx, eqv_self O x⟩
    rw [e] at this
    exact (List.mem_filter.1 this).1
  · intro hx
    have : x ∈ l.filter (eqv c x) := List.mem_filter.2 ⟨hx, eqv_self O x⟩
    rw [← e] at this
    exact (List.mem_filter.1 this).1
theorem Stb.perm {c : Kt → Kt → Int} (O : Ordr c) {l o : List Kt} (h : Stb c l o) : o.Perm l := by
  rw [List.perm_iff_count]
  intro x
  have key : ∀ q : List Kt, List.count x (q.filter (eqv c x)) = List.count x q := fun q => List.count_filter (eqv_self O x)
  rw [← key o, h x, key l]
theorem Stb.len {c : Kt → Kt → Int} (O : Ordr c) {l o : List Kt} (h : Stb c l o) : o.length = l.length := (h.perm O).length_eq
theorem Srt.app {c : Kt → Kt → Int} {a b : List Kt} (h : Srt c a) (h2 : Srt c b) (h3 : ∀ x ∈ a, ∀ y ∈ b, ¬ c y x < 0) : Srt c (a ++ b) := List.pairwise_append.2 ⟨h, h2, h3⟩
theorem Srt.left {c : Kt → Kt → Int} {a b : List Kt} (h : Srt c (a ++ b)) : Srt c a := (List.pairwise_append.1 h).1
theorem Srt.right {c : Kt → Kt → Int} {a b : List Kt} (h : Srt c (a ++ b)) : Srt c b := (List.pairwise_append.1 h).2.1
theorem Srt.cross {c : Kt → Kt → Int} {a b : List Kt} (h : Srt c (a ++ b)) : ∀ x ∈ a, ∀ y ∈ b, ¬ c y x < 0 := (List.pairwise_append.1 h).2.2
/-- The order is one alone. -/
theorem Srt.uniq {c : Kt → Kt → Int} (O : Ordr c) : ∀ {l o : List Kt}, Srt c l → Srt c o → Stb c l o → o = l
  | [], o, _, _, h => List.eq_nil_of_length_eq_zero (h.len O)
  | x :: l, [], _, _, h => by have := h.len O; simp at this
  | x :: l, y :: o, h1, h2, h => by
    have hxy : x = y := by
      have hx : x ∈ y :: o := (h.mem O x).2 (List.mem_cons_self ..)
      have hy : y ∈ x :: l := (h.mem O y).1 (List.mem_cons_self ..)
      have a : ¬ c y x < 0 := by
        rcases List.mem_cons.1 hy with e | e
        · rw [e]; exact O.irr x
        · exact (List.pairwise_cons.1 h1).1 y e
      have b : ¬ c x y < 0 := by
        rcases List.mem_cons.1 hx with e | e
        · rw [e]; exact O.irr y
        · exact (List.pairwise_cons.1 h2).1 x e
      have e := h x
      rw [List.filter_cons_of_pos (eqv_iff.2 ⟨a, b⟩), List.filter_cons_of_pos (eqv_self O x)] at e
      exact (List.cons.inj e).1.symm
    subst hxy
    have : o = l := Srt.uniq O (List.pairwise_cons.1 h1).2 (List.pairwise_cons.1 h2).2 fun k => by
      have e := h k
      rw [List.filter_cons, List.filter_cons] at e
      split at e
      · exact (List.cons.inj e).2
      · exact e
    rw [this]
theorem insV_srt {c : Kt → Kt → Int} (O : Ordr c) (x : Kt) : ∀ {l : List Kt}, (l.Pairwise fun a b => ¬ c a b < 0) → ((insV c x l).Pairwise fun a b => ¬ c a b < 0)
  | [], _ => List.pairwise_singleton ..
  | y :: r, h => by
    obtain ⟨h1, h2⟩ := List.pairwise_cons.1 h
    rw [insV_step]
    split
    · rename_i hc
      refine List.pairwise_cons.2 ⟨fun z hz => ?_, insV_srt O x h2⟩
      have hm : ∀ (r : List Kt), z ∈ insV c x r → z = x ∨ z ∈ r := by
        intro r
        induction r with
        | nil => intro hz; exact .inl (List.mem_singleton.1 hz)
        | cons w r ih =>
          intro hz
          rw [insV_step] at hz
          split at hz
          · rcases List.mem_cons.1 hz with e | e
            · exact .inr (by rw [e]; exact List.mem_cons_self ..)
            · rcases ih e with e | e
              · exact .inl e
              · exact .inr (List.mem_cons_of_mem _ e)
          · rcases List.mem_cons.1 hz with e | e
            · exact .inl e
            · exact .inr e
      rcases hm r hz with e | e
      · rw [e]; exact O.asm _ _ hc
      · exact h1 z e
    · rename_i hc
      refine List.pairwise_cons.2 ⟨fun z hz => ?_, h⟩
      rcases List.mem_cons.1 hz with e | e
      · rw [e]; exact hc
      · exact O.tr z y x (h1 z e) hc
theorem sortV_srt {c : Kt → Kt → Int} (O : Ordr c) (l : List Kt) : (sortV c l).Pairwise fun a b => ¬ c a b < 0 := by
  have key : ∀ (l acc : List Kt), (acc.Pairwise fun a b => ¬ c a b < 0) → ((l.foldl (fun acc x => insV c x acc) acc).Pairwise fun a b => ¬ c a b < 0) := by
    intro l
    induction l with
    | nil => exact fun _ h => h
    | cons x r ih => exact fun acc h => ih _ (insV_srt O x h)
  exact key l [] List.Pairwise.nil
theorem sortK_srt {c : Kt → Kt → Int} (O : Ordr c) (l : List Kt) : Srt c (sortK c l) := by
  unfold Srt sortK
  rw [List.pairwise_reverse]
  exact sortV_srt O l
theorem insV_stb {c : Kt → Kt → Int} (O : Ordr c) (x : Kt) : ∀ (r : List Kt), Stb c (x :: r) (insV c x r)
  | [] => Stb.refl _ _
  | y :: r => by
    rw [insV_step]
    split
    · rename_i hc
      have h1 : Stb c (x :: y :: r) (y :: x :: r) := by
        have := (Stb.swap O (U := [y]) (V := [x]) (fun u hu v hv => by rw [List.mem_singleton.1 hu, List.mem_singleton.1 hv]; exact hc))
        exact fun k => ((Stb.app this (Stb.refl c r)) k).symm
      exact h1.trans (Stb.app (Stb.refl c [y]) (insV_stb O x r))
    · exact Stb.refl _ _
theorem sortK_stb {c : Kt → Kt → Int} (O : Ordr c) (l : List Kt) : Stb c l (sortK c l) := by
  have rv : ∀ {a b : List Kt}, Stb c a b → Stb c a.reverse b.reverse := fun h k => by rw [List.filter_reverse, List.filter_reverse, h k]
  have key : ∀ (l acc : List Kt), Stb c (l.reverse ++ acc) (l.foldl (fun acc x => insV c x acc) acc) := by
    intro l
    induction l with
    | nil => exact fun _ => Stb.refl _ _
    | cons x r ih =>
      intro acc
      have h := Stb.app (Stb.refl c r.reverse) (insV_stb O x acc)
      rw [List.reverse_cons, List.append_assoc]
      exact Stb.trans h (ih _)
  have := rv (key l [])
  rw [List.append_nil, List.reverse_reverse] at this
  exact this
theorem sortK_len (c : Kt → Kt → Int) (l : List Kt) : (sortK c l).length = l.length := by rw [sortK, List.length_reverse, sortV_len]
/-- Of two that are in order, parts of each changed over, each then put in order: the whole is. -/
theorem merge_parts {c : Kt → Kt → Int} (O : Ordr c) {A1 A2 B1 B2 o1 o2 : List Kt} (hA : Srt c (A1 ++ A2)) (hB : Srt c (B1 ++ B2)) (h1 : ∀ x ∈ A1, ∀ y ∈ B2, ¬ c y x < 0) (h2 : ∀ x ∈ A2, ∀ y ∈ B1, c y x < 0)
    (s1 : Srt c o1) (s2 : Srt c o2) (t1 : Stb c (A1 ++ B1) o1) (t2 : Stb c (A2 ++ B2) o2) : Srt c (o1 ++ o2) ∧ Stb c (A1 ++ A2 ++ (B1 ++ B2)) (o1 ++ o2) := by
  refine ⟨Srt.app s1 s2 fun x hx y hy => ?_, ?_⟩
  · have hx := (t1.mem O x).1 hx
    have hy := (t2.mem O y).1 hy
    rcases List.mem_append.1 hx with hx | hx <;> rcases List.mem_append.1 hy with hy | hy
    · exact hA.cross x hx y hy
    · exact h1 x hx y hy
    · exact O.asm _ _ (h2 y hy x hx)
    · exact hB.cross x hx y hy
  · have e : Stb c (A1 ++ (A2 ++ B1) ++ B2) (A1 ++ (B1 ++ A2) ++ B2) := Stb.app (Stb.app (Stb.refl _ _) (Stb.swap O h2)) (Stb.refl _ _)
    have e2 : Stb c (A1 ++ B1 ++ (A2 ++ B2)) (o1 ++ o2) := Stb.app t1 t2
    have q1 : A1 ++ A2 ++ (B1 ++ B2) = A1 ++ (A2 ++ B1) ++ B2 := by simp
    have q2 : A1 ++ (B1 ++ A2) ++ B2 = A1 ++ B1 ++ (A2 ++ B2) := by simp
    rw [q1]
    rw [q2] at e
    exact e.trans e2
end Go.Proofs.YtkenimmellonjaaGreat
/- Seat Z: two ranges in order made one: one latch against many. -/
namespace Go.Proofs.YtkenimmellonjaaGreat
open Go.Pv Go.RowKit Go.Shelf
theorem srt_get {c : Kt → Kt → Int} (O : Ordr c) {l : List Kt} (h : Srt c l) {i j : Nat} (hij : i ≤ j) {x y : Kt} (hx : l[i]? = some x) (hy : l[j]? = some y) : ¬ c y x < 0 := by
  rcases Nat.lt_or_eq_of_le hij with hlt | rfl
  · obtain ⟨hi, rfl⟩ := List.getElem?_eq_some_iff.1 hx
    obtain ⟨hj, rfl⟩ := List.getElem?_eq_some_iff.1 hy
    exact List.pairwise_iff_getElem.1 h i j hi hj hlt
  · rw [hx] at hy
    cases hy
    exact O.irr x
theorem mem_take {l : List Kt} {n : Nat} {y : Kt} (h : y ∈ l.take n) : ∃ i, i < n ∧ l[i]? = some y := by
  obtain ⟨i, hi, rfl⟩ := List.mem_iff_getElem.1 h
  rw [List.length_take] at hi
  exact ⟨i, by omega, by rw [List.getElem_take]; exact List.getElem?_eq_getElem _⟩
theorem mem_drop {l : List Kt} {n : Nat} {y : Kt} (h : y ∈ l.drop n) : ∃ i, n ≤ i ∧ l[i]? = some y := by
  obtain ⟨i, hi, rfl⟩ := List.mem_iff_getElem.1 h
  rw [List.length_drop] at hi
  exact ⟨n + i, by omega, by rw [List.getElem_drop]; exact List.getElem?_eq_getElem _⟩
theorem half_i {a b : Nat} (h : a + b ≤ 1000000) : IntKind.wrap .i64 ((IntKind.wrap .u64 (IntKind.wrap .i64 ((a : Int) + (b : Int)))).fdiv (2 ^ min 1 IntKind.u64.bits)) = (((a + b) / 2 : Nat) : Int) := by
  rw [sum_i (by omega)]
  have e1 : IntKind.wrap .u64 ((a + b : Nat) : Int) = ((a + b : Nat) : Int) := by
    unfold IntKind.wrap
    simp [IntKind.signed, IntKind.bits]
    omega
  rw [e1]
  have e2 : ((a + b : Nat) : Int).fdiv (2 ^ min 1 IntKind.u64.bits) = (((a + b) / 2 : Nat) : Int) := by
    rw [show (2 : Int) ^ min 1 IntKind.u64.bits = ((2 : Nat) : Int) from rfl, Int.fdiv_eq_ediv_of_nonneg _ (by omega)]
    omega
  rw [e2]
  exact wrap_id (by omega) (by omega)
theorem dec_i {a c : Nat} (h : a = c + 1) (ha : a ≤ 4611686018427387904) : IntKind.wrap .i64 ((a : Int) - 1) = (c : Int) := by
  rw [show (a : Int) - 1 = (c : Int) by omega]
  exact wrap_id (by omega) (by omega)
theorem rowK_at {L : List Kt} {i : Nat} {x : Kt} (h : L[i]? = some x) : (rowsK L)[0 + (i : Int).toNat]? = some (rowK x) := row_g h
set_option maxHeartbeats 4000000 in
set_option maxRecDepth 100000 in
theorem symOne (f : Nat) (c : Kt → Kt → Int) (O : Ordr c) (hf : ∀ x y : Kt, Contract Tryz.prog G0 f [latV x.1 x.2.1 x.2.2, latV y.1 y.2.1 y.2.2] [] (fun r t => r = .d (.int .i64 (c x y)) ∧ t = []))
    (P : List Kt) (x : Kt) (B Q : List Kt) (hB : Srt c B) (N : Nat) (hN : P.length + 1 + B.length + Q.length = N) (hl : N ≤ 100000) (cap : Nat) :
    Contract Tryz.prog G0 105 [.slc (.g 0) 3 0 N cap, .d (.int .i64 (P.length : Int)), .d (.int .i64 ((P.length + 1 : Nat) : Int)), .d (.int .i64 ((P.length + 1 + B.length : Nat) : Int)), .fn f []] [(0, .row 3 (rowsK (P ++ x :: B ++ Q)))]
      (fun r t => ∃ o, r = .tup [] ∧ Srt c o ∧ Stb c (x :: B) o ∧ t = [(0, .row 3 (rowsK (P ++ o ++ Q)))]) := by
  refine run105 1 [] rfl rfl ?_
  conv => whnf
  rw [sub_i (a := P.length + 1) (b := P.length) (c := 1) rfl (by omega)]
  conv => whnf
  refine StopG.rounds wk105 [] [0, 1, 4, 10, 11] (fun m env s => ∃ p q : Nat, p ≤ q ∧ q ≤ B.length ∧ (∀ y, 0 < p → B[p - 1]? = some y → c y x < 0) ∧ (∀ y, B[q]? = some y → ¬ c y x < 0) ∧ m = q - p ∧
    env = [(0, .slc (.g 0) 3 0 N cap), (1, .d (.int .i64 (P.length : Int))), (4, .fn f []), (10, .d (.int .i64 ((P.length + 1 + p : Nat) : Int))), (11, .d (.int .i64 ((P.length + 1 + q : Nat) : Int)))] ∧ s = [(0, .row 3 (rowsK (P ++ x :: B ++ Q)))]) rfl ?_ ?_
  · conv => whnf
    refine ⟨_, 0, B.length, Nat.zero_le _, Nat.le_refl _, fun y h => absurd h (Nat.lt_irrefl _), fun y h => ?_, rfl, rfl, rfl⟩
    rw [List.getElem?_eq_none (Nat.le_refl _)] at h; cases h
  rintro m env s ⟨p, q, hpq, hq, hlo, hhi, rfl, rfl, rfl⟩
  conv => whnf
  have hxr : (rowsK (P ++ x :: B ++ Q))[0 + (P.length : Int).toNat]? = some (rowK x) := by rw [List.append_assoc]; exact mid_row rfl
  refine bcase_intro (fun h => ?_) (fun h => ?_) <;> conv => whnf
  · have hlt := lt_of h
    rw [half_i (by omega)]
    have hmid : (P.length + 1 + p + (P.length + 1 + q)) / 2 = P.length + 1 + (p + q) / 2 := by omega
    rw [hmid]
    obtain ⟨y, hy, _⟩ := at_i (show (p + q) / 2 < B.length by omega)
    have hyr : (rowsK (P ++ x :: B ++ Q))[0 + ((P.length + 1 + (p + q) / 2 : Nat) : Int).toNat]? = some (rowK y) := by
      refine rowK_at ?_
      rw [List.append_assoc, List.getElem?_append_right (by omega), show P.length + 1 + (p + q) / 2 - P.length = (p + q) / 2 + 1 by omega]
      show (B ++ Q)[(p + q) / 2]? = some y
      rw [List.getElem?_append_left (by omega)]
      exact hy
    refine ⟨⟨by omega, by omega⟩, ?_⟩
    conv => whnf
    refine ⟨rowK y, hyr, rfl, ?_⟩
    conv => whnf
    refine ⟨⟨by omega, by omega⟩, ?_⟩
    conv => whnf
    refine ⟨rowK x, hxr, rfl, ?_⟩
    conv => whnf
    refine .scal [latV y.1 y.2.1 y.2.2, latV x.1 x.2.1 x.2.2] _ ⟨.refl _, rfl, hf y x⟩ ?_
    conv => whnf
    refine bcase_intro (fun h2 => ?_) (fun h2 => ?_) <;> conv => whnf
    · have h2 := of_decide_eq_true h2
      rw [succ_i (i := P.length + 1 + (p + q) / 2) (Nat.lt_succ_self _) (by omega)]
      refine ⟨_, ?_, (p + q) / 2 + 1, q, by omega, hq, fun z _ hz => ?_, hhi, rfl, rfl, rfl⟩
      · omega
      · rw [Nat.add_sub_cancel, hy] at hz
        cases hz
        exact h2
    · have h2 := of_decide_eq_false h2
      refine ⟨_, ?_, p, (p + q) / 2, by omega, by omega, hlo, fun z hz => ?_, rfl, rfl, rfl⟩
      · omega
      · rw [hy] at hz
        cases hz
        exact h2
  · have hge := ge_of h
    have hpq : q = p := by omega
    subst hpq
    have hlt1 : ∀ y ∈ B.take q, c y x < 0 := fun y hy => by
      obtain ⟨i, hi, hy⟩ := mem_take hy
      obtain ⟨z, hz, _⟩ := at_i (show q - 1 < B.length by omega)
      exact O.le_lt (srt_get O hB (show i ≤ q - 1 by omega) hy hz) (hlo z (by omega) hz)
    have hge1 : ∀ y ∈ B.drop q, ¬ c y x < 0 := fun y hy => by
      obtain ⟨i, hi, hy⟩ := mem_drop hy
      have hil := (List.getElem?_eq_some_iff.1 hy).1
      obtain ⟨z, hz, _⟩ := at_i (show q < B.length by omega)
      exact O.tr _ _ _ (hhi z hz) (srt_get O hB hi hz hy)
    have hlB : (B.take q).length = q := by rw [List.length_take]; omega
    generalize hB1 : B.take q = B1 at hlt1 hlB
    generalize hB2 : B.drop q = B2 at hge1
    have hBB : B = B1 ++ B2 := by rw [← hB1, ← hB2, List.take_append_drop]
    subst hBB
    clear hB1 hB2 hlo hhi
    refine StopG.rounds wk105 [] [0, 10, 13] (fun m env s => ∃ C1 C2 : List Kt, B1 = C1 ++ C2 ∧ m = C2.length ∧
      env = [(0, .slc (.g 0) 3 0 N cap), (10, .d (.int .i64 ((P.length + 1 + q : Nat) : Int))), (13, .d (.int .i64 ((P.length + C1.length : Nat) : Int)))] ∧ s = [(0, .row 3 (rowsK (P ++ C1 ++ x :: C2 ++ B2 ++ Q)))]) rfl ?_ ?_
    · conv => whnf
      exact ⟨_, [], B1, rfl, rfl, rfl, by simp⟩
    rintro m env s ⟨C1, C2, rfl, rfl, rfl, rfl⟩
    conv => whnf
    rw [List.length_append] at hlB
    rw [dec_i (a := P.length + 1 + q) (c := P.length + q) (by omega) (by omega)]
    refine bcase_intro (fun h => ?_) (fun h => ?_) <;> conv => whnf
    · have hlt := lt_of h
      match C2, hlB with
      | [], hlB => exact absurd hlt (by rw [List.length_nil] at hlB; omega)
      | y :: C2, hlB =>
      rw [List.length_cons] at hlB
      have hw : IntKind.wrap .i64 (((P.length + C1.length : Nat) : Int) + 1) = ((P.length + C1.length + 1 : Nat) : Int) := succ_i (Nat.lt_succ_self _) (by omega)
      have e0 : P ++ C1 ++ x :: (y :: C2) ++ B2 ++ Q = (P ++ C1) ++ x :: (y :: C2 ++ B2 ++ Q) := by simp
      have e1 : P ++ C1 ++ x :: (y :: C2) ++ B2 ++ Q = (P ++ C1 ++ [x]) ++ y :: (C2 ++ B2 ++ Q) := by simp
      have rx : (rowsK (P ++ C1 ++ x :: (y :: C2) ++ B2 ++ Q))[0 + ((P.length + C1.length : Nat) : Int).toNat]? = some (rowK x) := by rw [e0]; exact mid_row (by simp)
      have ry : (rowsK (P ++ C1 ++ x :: (y :: C2) ++ B2 ++ Q))[0 + ((P.length + C1.length + 1 : Nat) : Int).toNat]? = some (rowK y) := by rw [e1]; exact mid_row (by simp; omega)
      have s1 : (rowsK (P ++ C1 ++ x :: (y :: C2) ++ B2 ++ Q)).set (0 + ((P.length + C1.length : Nat) : Int).toNat) (rowK y) = rowsK ((P ++ C1 ++ [y]) ++ y :: (C2 ++ B2 ++ Q)) := by rw [e0, mid_put (by simp)]; simp
      have r1 : ((rowsK (P ++ C1 ++ x :: (y :: C2) ++ B2 ++ Q)).set (0 + ((P.length + C1.length : Nat) : Int).toNat) (rowK y))[0 + ((P.length + C1.length + 1 : Nat) : Int).toNat]? = some (rowK y) := by rw [s1]; exact mid_row (by simp; omega)
      have s2 : ((rowsK (P ++ C1 ++ x :: (y :: C2) ++ B2 ++ Q)).set (0 + ((P.length + C1.length : Nat) : Int).toNat) (rowK y)).set (0 + ((P.length + C1.length + 1 : Nat) : Int).toNat) (rowK x) = rowsK ((P ++ C1 ++ [y]) ++ x :: (C2 ++ B2 ++ Q)) := by rw [s1]; exact mid_put (by simp; omega)
      simp only [List.length_append, List.length_cons] at hN
      have ba : 0 ≤ ((P.length + C1.length : Nat) : Int) ∧ ((P.length + C1.length : Nat) : Int) < (N : Int) := ⟨by omega, by omega⟩
      have bb : 0 ≤ ((P.length + C1.length + 1 : Nat) : Int) ∧ ((P.length + C1.length + 1 : Nat) : Int) < (N : Int) := ⟨by omega, by omega⟩
      have hw2 := hw
      rw [← hw] at ry r1 s2 bb
      refine ⟨bb, ?_⟩
      conv => whnf
      refine ⟨rowK y, ry, rfl, ?_⟩
      conv => whnf
      refine ⟨ba, ?_⟩
      conv => whnf
      refine ⟨rowK x, rx, rfl, ?_⟩
      conv => whnf
      refine ⟨ba, ?_⟩
      conv => whnf
      refine ⟨rowK x, rx, ?_⟩
      conv => whnf
      refine ⟨bb, ?_⟩
      conv => whnf
      refine ⟨rowK y, r1, ?_⟩
      conv => whnf
      refine ⟨_, Nat.lt_succ_self _, C1 ++ [y], C2, by simp, rfl, ?_, ?_⟩
      · rw [hw2, List.length_append]; rfl
      · refine congrArg (fun q => [(0, AB.row 3 q)]) (s2.trans ?_)
        simp
    · have hge := ge_of h
      have hC2 : C2 = [] := List.eq_nil_of_length_eq_zero (by omega)
      subst hC2
      rw [List.append_nil] at hlt1 hB
      have hm := merge_parts O (A1 := []) (A2 := [x]) (B1 := C1) (B2 := B2) (o1 := C1) (o2 := x :: B2) (List.pairwise_singleton ..) hB (fun a ha => by cases ha) (fun a ha b hb => by rw [List.mem_singleton.1 ha]; exact hlt1 b hb) hB.left (List.pairwise_cons.2 ⟨hge1, hB.right⟩) (Stb.refl _ _) (Stb.refl _ _)
      exact ⟨C1 ++ x :: B2, rfl, hm.1, by simpa using hm.2, by simp⟩
end Go.Proofs.YtkenimmellonjaaGreat
/- Seat Z: two ranges in order made one: many latches against one. -/
namespace Go.Proofs.YtkenimmellonjaaGreat
open Go.Pv Go.RowKit Go.Shelf
theorem not_one {n : Nat} (h : 2 ≤ n) : ((n : Int) == 1) = false := beq_eq_false_iff_ne.2 (by omega)
set_option maxHeartbeats 4000000 in
set_option maxRecDepth 100000 in
theorem symTwo (f : Nat) (c : Kt → Kt → Int) (O : Ordr c) (hf : ∀ x y : Kt, Contract Tryz.prog G0 f [latV x.1 x.2.1 x.2.2, latV y.1 y.2.1 y.2.2] [] (fun r t => r = .d (.int .i64 (c x y)) ∧ t = []))
    (P A : List Kt) (y : Kt) (Q : List Kt) (hA2 : 2 ≤ A.length) (hA : Srt c A) (N : Nat) (hN : P.length + A.length + 1 + Q.length = N) (hl : N ≤ 100000) (cap : Nat) :
    Contract Tryz.prog G0 105 [.slc (.g 0) 3 0 N cap, .d (.int .i64 (P.length : Int)), .d (.int .i64 ((P.length + A.length : Nat) : Int)), .d (.int .i64 ((P.length + A.length + 1 : Nat) : Int)), .fn f []] [(0, .row 3 (rowsK (P ++ A ++ y :: Q)))]
      (fun r t => ∃ o, r = .tup [] ∧ Srt c o ∧ Stb c (A ++ [y]) o ∧ t = [(0, .row 3 (rowsK (P ++ o ++ Q)))]) := by
  refine run105 1 [] rfl rfl ?_
  conv => whnf
  rw [sub_i (a := P.length + A.length) (b := P.length) (c := A.length) rfl (by omega), not_one hA2]
  conv => whnf
  rw [sub_i (a := P.length + A.length + 1) (b := P.length + A.length) (c := 1) rfl (by omega)]
  conv => whnf
  refine StopG.rounds wk105 [] [0, 1, 2, 4, 14, 15] (fun m env s => ∃ p q : Nat, p ≤ q ∧ q ≤ A.length ∧ (∀ z, 0 < p → A[p - 1]? = some z → ¬ c y z < 0) ∧ (∀ z, A[q]? = some z → c y z < 0) ∧ m = q - p ∧
    env = [(0, .slc (.g 0) 3 0 N cap), (1, .d (.int .i64 (P.length : Int))), (2, .d (.int .i64 ((P.length + A.length : Nat) : Int))), (4, .fn f []), (14, .d (.int .i64 ((P.length + p : Nat) : Int))), (15, .d (.int .i64 ((P.length + q : Nat) : Int)))] ∧ s = [(0, .row 3 (rowsK (P ++ A ++ y :: Q)))]) rfl ?_ ?_
  · conv => whnf
    refine ⟨_, 0, A.length, Nat.zero_le _, Nat.le_refl _, fun y h => absurd h (Nat.lt_irrefl _), fun y h => ?_, rfl, rfl, rfl⟩
    rw [List.getElem?_eq_none (Nat.le_refl _)] at h; cases h
  rintro m env s ⟨p, q, hpq, hq, hlo, hhi, rfl, rfl, rfl⟩
  conv => whnf
  have hyr : (rowsK (P ++ A ++ y :: Q))[0 + ((P.length + A.length : Nat) : Int).toNat]? = some (rowK y) := mid_row (by simp)
  refine bcase_intro (fun h => ?_) (fun h => ?_) <;> conv => whnf
  · have hlt := lt_of h
    rw [half_i (by omega)]
    have hmid : (P.length + p + (P.length + q)) / 2 = P.length + (p + q) / 2 := by omega
    rw [hmid]
    obtain ⟨z, hz, _⟩ := at_i (show (p + q) / 2 < A.length by omega)
    have hzr : (rowsK (P ++ A ++ y :: Q))[0 + ((P.length + (p + q) / 2 : Nat) : Int).toNat]? = some (rowK z) := by
      refine rowK_at ?_
      rw [List.append_assoc, List.getElem?_append_right (by omega), Nat.add_sub_cancel_left, List.getElem?_append_left (by omega)]
      exact hz
    refine ⟨⟨by omega, by omega⟩, ?_⟩
    conv => whnf
    refine ⟨rowK y, hyr, rfl, ?_⟩
    conv => whnf
    refine ⟨⟨by omega, by omega⟩, ?_⟩
    conv => whnf
    refine ⟨rowK z, hzr, rfl, ?_⟩
    conv => whnf
    refine .scal [latV y.1 y.2.1 y.2.2, latV z.1 z.2.1 z.2.2] _ ⟨.refl _, rfl, hf y z⟩ ?_
    conv => whnf
    refine bcase_intro (fun h2 => ?_) (fun h2 => ?_) <;> conv => whnf
    · have h2 : ¬ c y z < 0 := by simpa using h2
      rw [succ_i (i := P.length + (p + q) / 2) (Nat.lt_succ_self _) (by omega)]
      refine ⟨_, ?_, (p + q) / 2 + 1, q, by omega, hq, fun w _ hw => ?_, hhi, rfl, rfl, rfl⟩
      · omega
      · rw [Nat.add_sub_cancel, hz] at hw
        cases hw
        exact h2
    · have h2 : c y z < 0 := by simpa using h2
      refine ⟨_, ?_, p, (p + q) / 2, by omega, by omega, hlo, fun w hw => ?_, rfl, rfl, rfl⟩
      · omega
      · rw [hz] at hw
        cases hw
        exact h2
  · have hge := ge_of h
    have hpq : q = p := by omega
    subst hpq
    have hle1 : ∀ z ∈ A.take q, ¬ c y z < 0 := fun z hz => by
      obtain ⟨i, hi, hz⟩ := mem_take hz
      obtain ⟨w, hw, _⟩ := at_i (show q - 1 < A.length by omega)
      exact O.tr _ _ _ (srt_get O hA (show i ≤ q - 1 by omega) hz hw) (hlo w (by omega) hw)
    have hgt1 : ∀ z ∈ A.drop q, c y z < 0 := fun z hz => by
      obtain ⟨i, hi, hz⟩ := mem_drop hz
      have hil := (List.getElem?_eq_some_iff.1 hz).1
      obtain ⟨w, hw, _⟩ := at_i (show q < A.length by omega)
      exact O.lt_le (hhi w hw) (srt_get O hA hi hw hz)
    have hlA : (A.take q).length = q := by rw [List.length_take]; omega
    generalize hA1 : A.take q = A1 at hle1 hlA
    generalize hA2 : A.drop q = A2 at hgt1
    have hAA : A = A1 ++ A2 := by rw [← hA1, ← hA2, List.take_append_drop]
    subst hAA
    clear hA1 hA2 hlo hhi
    refine StopG.rounds wk105 [] [0, 14, 17] (fun m env s => ∃ C1 C2 : List Kt, A2 = C1 ++ C2 ∧ m = C1.length ∧
      env = [(0, .slc (.g 0) 3 0 N cap), (14, .d (.int .i64 ((P.length + q : Nat) : Int))), (17, .d (.int .i64 ((P.length + A1.length + C1.length : Nat) : Int)))] ∧ s = [(0, .row 3 (rowsK (P ++ A1 ++ C1 ++ y :: C2 ++ Q)))]) rfl ?_ ?_
    · conv => whnf
      exact ⟨_, A2, [], by simp, rfl, by rw [List.length_append, Nat.add_assoc], by simp⟩
    rintro m env s ⟨C1, C2, rfl, rfl, rfl, rfl⟩
    conv => whnf
    refine bcase_intro (fun h => ?_) (fun h => ?_) <;> conv => whnf
    · have hlt : P.length + q < P.length + A1.length + C1.length := by have := of_decide_eq_true h; omega
      rcases List.eq_nil_or_concat C1 with rfl | ⟨C0, z, rfl⟩
      · exact absurd hlt (by rw [List.length_nil]; omega)
      rw [List.concat_eq_append]
      have hl1 : (C0 ++ [z]).length = C0.length + 1 := by simp
      simp only [List.length_append, List.length_concat] at hN
      rw [hl1]
      have hw : IntKind.wrap .i64 (((P.length + A1.length + (C0.length + 1) : Nat) : Int) - 1) = ((P.length + A1.length + C0.length : Nat) : Int) := dec_i (by omega) (by omega)
      have e0 : P ++ A1 ++ (C0 ++ [z]) ++ y :: C2 ++ Q = (P ++ A1 ++ C0) ++ z :: (y :: C2 ++ Q) := by simp
      have e1 : P ++ A1 ++ (C0 ++ [z]) ++ y :: C2 ++ Q = (P ++ A1 ++ C0 ++ [z]) ++ y :: (C2 ++ Q) := by simp
      have rz : (rowsK (P ++ A1 ++ (C0 ++ [z]) ++ y :: C2 ++ Q))[0 + ((P.length + A1.length + C0.length : Nat) : Int).toNat]? = some (rowK z) := by rw [e0]; exact mid_row (by simp; omega)
      have ry : (rowsK (P ++ A1 ++ (C0 ++ [z]) ++ y :: C2 ++ Q))[0 + ((P.length + A1.length + (C0.length + 1) : Nat) : Int).toNat]? = some (rowK y) := by rw [e1]; exact mid_row (by simp; omega)
      have s1 : (rowsK (P ++ A1 ++ (C0 ++ [z]) ++ y :: C2 ++ Q)).set (0 + ((P.length + A1.length + (C0.length + 1) : Nat) : Int).toNat) (rowK z) = rowsK ((P ++ A1 ++ C0) ++ z :: (z :: C2 ++ Q)) := by rw [e1, mid_put (by simp; omega)]; simp
      have r1 : ((rowsK (P ++ A1 ++ (C0 ++ [z]) ++ y :: C2 ++ Q)).set (0 + ((P.length + A1.length + (C0.length + 1) : Nat) : Int).toNat) (rowK z))[0 + ((P.length + A1.length + C0.length : Nat) : Int).toNat]? = some (rowK z) := by rw [s1]; exact mid_row (by simp; omega)
      have s2 : ((rowsK (P ++ A1 ++ (C0 ++ [z]) ++ y :: C2 ++ Q)).set (0 + ((P.length + A1.length + (C0.length + 1) : Nat) : Int).toNat) (rowK z)).set (0 + ((P.length + A1.length + C0.length : Nat) : Int).toNat) (rowK y) = rowsK ((P ++ A1 ++ C0) ++ y :: (z :: C2 ++ Q)) := by rw [s1]; exact mid_put (by simp; omega)
      have ba : 0 ≤ ((P.length + A1.length + C0.length : Nat) : Int) ∧ ((P.length + A1.length + C0.length : Nat) : Int) < (N : Int) := ⟨by omega, by omega⟩
      have bb : 0 ≤ ((P.length + A1.length + (C0.length + 1) : Nat) : Int) ∧ ((P.length + A1.length + (C0.length + 1) : Nat) : Int) < (N : Int) := ⟨by omega, by omega⟩
      have hw2 := hw
      rw [← hw] at rz r1 s2 ba
      refine ⟨ba, ?_⟩
      conv => whnf
      refine ⟨rowK z, rz, rfl, ?_⟩
      conv => whnf
      refine ⟨bb, ?_⟩
      conv => whnf
      refine ⟨rowK y, ry, rfl, ?_⟩
      conv => whnf
      refine ⟨bb, ?_⟩
      conv => whnf
      refine ⟨rowK y, ry, ?_⟩
      conv => whnf
      refine ⟨ba, ?_⟩
      conv => whnf
      refine ⟨rowK z, r1, ?_⟩
      conv => whnf
      refine ⟨_, Nat.lt_succ_self _, C0, z :: C2, by simp, rfl, ?_, ?_⟩
      · rw [hw2]
      · refine congrArg (fun q => [(0, AB.row 3 q)]) (s2.trans ?_)
        simp
    · have hge : ¬ (P.length + A1.length + C1.length > P.length + q) := by have := of_decide_eq_false h; omega
      have hC1 : C1 = [] := List.eq_nil_of_length_eq_zero (by omega)
      subst hC1
      rw [List.nil_append] at hgt1 hA
      have hm := merge_parts O (A1 := A1) (A2 := C2) (B1 := [y]) (B2 := []) (o1 := A1 ++ [y]) (o2 := C2) hA (List.pairwise_singleton ..) (fun a _ b hb => by cases hb) (fun a ha b hb => by rw [List.mem_singleton.1 hb]; exact hgt1 a ha) (Srt.app hA.left (List.pairwise_singleton ..) fun a ha b hb => by rw [List.mem_singleton.1 hb]; exact hle1 a ha) hA.right (Stb.refl _ _) (by rw [List.append_nil]; exact Stb.refl _ _)
      exact ⟨A1 ++ [y] ++ C2, rfl, hm.1, by simpa using hm.2, by simp⟩
end Go.Proofs.YtkenimmellonjaaGreat
