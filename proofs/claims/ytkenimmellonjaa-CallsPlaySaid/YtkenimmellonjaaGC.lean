/- The seat's texts, part 3: what single functions of the program compute; no statement of its own. -/
import Derived.Test.YtkenimmellonjaaGB
import Derived.Test.YtkenimmellonjaaGA
import Derived.Test.YtkenimmellonjaaFrD
import Derived.Deep.RegionHeld3
import Derived.Sort.Grow
import Derived.Tactics
import Derived.LoopN
import Derived.Shelf.SlSortCmp.WholeK
import Derived.Test.YtkenimmellonjaaProg
/- Seat r2: a valid ring, as the papers say it. -/
namespace Go.Proofs.Ytkenimmellonjaa
open Go.Pv Go.RowKit Go.Shelf
/-- A bid that will not do. -/
def badB (ms : List Int) (b : B) : Bool := bif bif !(ms.any fun y => y == b.1) then true else decide (b.2 < 0) then true else decide (b.2 > 1048576)
/-- Neighbours in order. -/
def ascL : List Int → Bool
  | [] => true
  | x :: r => match r with
    | [] => true
    | y :: _ => bif decide (x ≥ y) then false else ascL r
def vBids (ms : List Int) (l : List B) : Int :=
  bif decide ((l.length : Int) > (ms.length : Int)) then 104 else bif l.any (badB ms) then 103 else bif !ascL (l.map (·.1)) then 111 else 0
theorem drop_two {α : Type} {l : List α} {i : Nat} {x y : α} (hx : l[i]? = some x) (hy : l[i + 1]? = some y) : l.drop i = x :: y :: l.drop (i + 2) := by
  obtain ⟨h1, h2⟩ := List.getElem?_eq_some_iff.1 hx
  obtain ⟨h3, h4⟩ := List.getElem?_eq_some_iff.1 hy
  rw [List.drop_eq_getElem_cons h1, List.drop_eq_getElem_cons h3, h2, h4]
theorem ascL_two (x y : Int) (r : List Int) : ascL (x :: y :: r) = bif decide (x ≥ y) then false else ascL (y :: r) := rfl
theorem back_i {i : Nat} (h : i + 1 ≤ 4611686018427387904) : IntKind.wrap .i64 (((i + 1 : Nat) : Int) - 1) = (i : Int) := pred_i (i := i + 1) (by omega) h
theorem ascL_short {l : List Int} (h : l.length ≤ 1) : ascL l = true := by
  match l, h with
  | [], _ => rfl
  | [_], _ => rfl
theorem ascL_drop {l : List Int} {i : Nat} {x y : Int} (hx : l[i]? = some x) (hy : l[i + 1]? = some y) : ascL (l.drop i) = bif decide (x ≥ y) then false else ascL (l.drop (i + 1)) := by
  have h := drop_two hx hy
  rw [h, ascL_two]
  have h2 : l.drop (i + 1) = y :: l.drop (i + 2) := by
    obtain ⟨h3, h4⟩ := List.getElem?_eq_some_iff.1 hy
    rw [List.drop_eq_getElem_cons h3, h4]
  rw [h2]
set_option maxRecDepth 100000 in
theorem validBids (ms : List Int) (hm : ms.length ≤ 100000) (l : List B) (hl : l.length ≤ 100000) : Contract Try.prog G0 108 [.d (.list 1 (rowsI ms)), .d (.list 2 (rowsB l))] [] (fun r t => r = .d (.int .i64 (vBids ms l)) ∧ t = []) := by
  have hlen := rowsB_len l
  have hmn := rowsI_len ms
  refine run108 0 [] rfl rfl ?_
  conv => whnf
  refine bcase_intro (fun hg => ?_) (fun hg => ?_) <;> conv => whnf
  · rw [hlen, hmn] at hg
    rw [vBids, hg]
    exact ⟨rfl, rfl⟩
  rw [hlen, hmn] at hg
  refine StopG.rounds wk108 [] [0, 1, 5] (fun m env s => ∃ i : Nat, i ≤ l.length ∧ l.any (badB ms) = (l.drop i).any (badB ms) ∧ m = l.length - i ∧ env = [(0, .d (.list 1 (rowsI ms))), (1, .d (.list 2 (rowsB l))), (5, .d (.int .i64 (i : Int)))] ∧ s = []) rfl ?_ ?_
  · conv => whnf
    exact ⟨_, 0, Nat.zero_le _, rfl, rfl, rfl, rfl⟩
  rintro m env s ⟨i, hi, hh, rfl, rfl, rfl⟩
  conv => whnf
  refine bcase_intro (fun h => ?_) (fun h => ?_) <;> conv => whnf
  · have hil := lt_of h
    rw [hlen] at hil
    obtain ⟨x, hx, hdrop⟩ := at_i hil
    refine ⟨rowB x, ⟨by omega, row_i hx⟩, ?_⟩
    conv => whnf
    refine .scal [.d (.list 1 (rowsI ms)), .d (.int .i64 x.1)] _ ⟨.refl _, rfl, among ms (by omega) x.1⟩ ?_
    conv => whnf
    refine ⟨rowB x, fun _ => ⟨by omega, row_i hx⟩, ?_⟩
    conv => whnf
    refine ⟨rowB x, fun _ => ⟨by omega, row_i hx⟩, ?_⟩
    conv => whnf
    rw [hdrop] at hh
    refine bcase_intro (fun hb => ?_) (fun hb => ?_) <;> conv => whnf
    · have hs : badB ms x = true := hb
      rw [List.any_cons, hs, Bool.true_or] at hh
      rw [vBids, hg, hh]
      exact ⟨rfl, rfl⟩
    · have hs : badB ms x = false := hb
      rw [List.any_cons, hs, Bool.false_or] at hh
      rw [succ_i hil (by omega)]
      exact ⟨_, by omega, i + 1, hil, hh, rfl, rfl, rfl⟩
  have hil := ge_of h
  rw [hlen] at hil
  rw [show l.drop i = [] from List.drop_of_length_le hil] at hh
  have hh : l.any (badB ms) = false := hh
  refine StopG.rounds wk108 [] [1, 6] (fun m env s => ∃ i : Nat, i ≤ l.length ∧ ascL (l.map (·.1)) = ascL ((l.map (·.1)).drop i) ∧ m = l.length - i ∧ env = [(1, .d (.list 2 (rowsB l))), (6, .d (.int .i64 ((i + 1 : Nat) : Int)))] ∧ s = []) rfl ?_ ?_
  · conv => whnf
    exact ⟨_, 0, Nat.zero_le _, rfl, rfl, rfl, rfl⟩
  rintro m env s ⟨i, hi, ha, rfl, rfl, rfl⟩
  conv => whnf
  refine bcase_intro (fun h => ?_) (fun h => ?_) <;> conv => whnf
  · have hil := lt_of h
    rw [hlen] at hil
    obtain ⟨x, hx, _⟩ := at_i (show i < l.length by omega)
    obtain ⟨y, hy, _⟩ := at_i hil
    rw [back_i (by omega)]
    refine ⟨rowB x, ⟨by omega, row_i hx⟩, ?_⟩
    conv => whnf
    refine ⟨rowB y, ⟨by omega, row_i hy⟩, ?_⟩
    conv => whnf
    have hd := ascL_drop (l := l.map (·.1)) (i := i) (x := x.1) (y := y.1) (by rw [List.getElem?_map, hx]; rfl) (by rw [List.getElem?_map, hy]; rfl)
    refine bcase_intro (fun hb => ?_) (fun hb => ?_) <;> conv => whnf
    · rw [hb] at hd
      rw [vBids, hg, hh, ha, hd]
      exact ⟨rfl, rfl⟩
    · rw [hb] at hd
      rw [succ_i (i := i + 1) hil (by omega)]
      exact ⟨_, by omega, i + 1, by omega, ha.trans hd, rfl, rfl, rfl⟩
  · have hil := ge_of h
    rw [hlen] at hil
    rw [ascL_short (l := (l.map (·.1)).drop i) (by simp; omega)] at ha
    rw [vBids, hg, hh, ha]
    exact ⟨rfl, rfl⟩
/-- An entry that will not do. -/
def badE (ms : List Int) (e : En) : Bool :=
  bif bif bif bif bif decide (e.fl < 0) then true else decide (e.fl ≥ 64) then true else (bif !(e.dr == 1) then !(e.dr == -1) else false) then true else decide (e.gn < 1) then true else decide (e.gn > 2147483647) then true else (bif !(e.aw == -1) then !(ms.any fun y => y == e.aw) else false)
def lessE (a b : En) : Bool := bif decide (a.fl < b.fl) then true else bif a.fl == b.fl then decide (a.dr < b.dr) else false
def vEnts (ms : List Int) : Option En → List En → Int
  | _, [] => 0
  | p, e :: r => bif badE ms e then 103 else bif (match p with | none => false | some q => !lessE q e) then 111 else bif !(vBids ms e.bids == 0) then vBids ms e.bids else vEnts ms (some e) r
theorem vEnts_cons (ms : List Int) (p : Option En) (e : En) (r : List En) : vEnts ms p (e :: r) = bif badE ms e then (103 : Int) else bif (match p with | none => false | some q => !lessE q e) then 111 else bif !(vBids ms e.bids == 0) then vBids ms e.bids else vEnts ms (some e) r := by
  cases p <;> rfl
def vRing (cnt fdr hop : Int) (mem : List Int) (l : List En) : Int :=
  bif bif bif !epoB cnt fdr then true else decide (hop < 0) then true else decide (hop > 1099511627776) then 103 else
  bif bif bif ((mem.length : Int) == 0) then true else decide ((mem.length : Int) > 16) then true else decide ((l.length : Int) > 128) then 104 else
  bif mem.any (fun x => !carB x) then 103 else bif !ascL mem then 111 else vEnts mem none l
abbrev epoV (cnt fdr : Int) : AV := .agg [.d (.int .i64 cnt), .d (.int .i64 fdr)]
set_option maxRecDepth 100000 in
theorem validRing (cnt fdr hop : Int) (mem : List Int) (hm : mem.length ≤ 100000) (l : List En) (hl : l.length ≤ 1000) (hb : ∀ e ∈ l, e.bids.length ≤ 100000) : Contract Try.prog G0 79 [awG cnt fdr hop mem l] [] (fun r t => r = .d (.int .i64 (vRing cnt fdr hop mem l)) ∧ t = []) := by
  have hlen := rowsE_len l
  have hmn := rowsI_len mem
  refine run79 0 [] rfl rfl ?_
  conv => whnf
  refine .scal [epoV cnt fdr] _ ⟨.refl _, rfl, epoch106 cnt fdr⟩ ?_
  conv => whnf
  refine bcase_intro (fun h1 => ?_) (fun h1 => ?_) <;> conv => whnf
  · rw [vRing, h1]; exact ⟨rfl, rfl⟩
  refine bcase_intro (fun h2 => ?_) (fun h2 => ?_) <;> conv => whnf
  · rw [hlen, hmn] at h2
    rw [vRing, h1, h2]; exact ⟨rfl, rfl⟩
  rw [hlen, hmn] at h2
  refine StopG.rounds wk79 [] [1, 3, 4] (fun m env s => ∃ i : Nat, i ≤ mem.length ∧ (mem.any fun x => !carB x) = ((mem.drop i).any fun x => !carB x) ∧ m = mem.length - i ∧ env = [(1, .ref (.g 0) 0), (3, .d (.int .i64 ((rowsI mem).length : Int))), (4, .d (.int .i64 (i : Int)))] ∧ s = [(0, .cells [.d (.int .i64 cnt), .d (.int .i64 fdr), .d (.int .i64 hop), .d (.list 1 (rowsI mem)), .d (.list 5 (rowsE l))])]) rfl ?_ ?_
  · conv => whnf
    exact ⟨_, 0, Nat.zero_le _, rfl, rfl, rfl, rfl⟩
  rintro m env s ⟨i, hi, h3, rfl, rfl, rfl⟩
  conv => whnf
  refine bcase_intro (fun h => ?_) (fun h => ?_) <;> conv => whnf
  · have hil := lt_of h
    rw [hmn] at hil
    obtain ⟨x, hx, hdrop⟩ := at_i hil
    refine ⟨rowI x, ⟨by omega, row_i hx⟩, ?_⟩
    conv => whnf
    refine .scal [.d (.int .i64 x)] _ ⟨.refl _, rfl, car107 x⟩ ?_
    conv => whnf
    rw [hdrop, List.any_cons] at h3
    refine bcase_intro (fun hb => ?_) (fun hb => ?_) <;> conv => whnf
    · rw [hb, Bool.true_or] at h3
      rw [vRing, h1, h2, h3]; exact ⟨rfl, rfl⟩
    · rw [hb, Bool.false_or] at h3
      rw [succ_i hil (by omega)]
      exact ⟨_, by omega, i + 1, hil, h3, rfl, rfl, rfl⟩
  have hil := ge_of h
  rw [hmn] at hil
  rw [show mem.drop i = [] from List.drop_of_length_le hil] at h3
  refine StopG.rounds wk79 [] [1, 3, 5] (fun m env s => ∃ i : Nat, i ≤ mem.length ∧ ascL mem = ascL (mem.drop i) ∧ m = mem.length - i ∧ env = [(1, .ref (.g 0) 0), (3, .d (.int .i64 ((rowsI mem).length : Int))), (5, .d (.int .i64 ((i + 1 : Nat) : Int)))] ∧ s = [(0, .cells [.d (.int .i64 cnt), .d (.int .i64 fdr), .d (.int .i64 hop), .d (.list 1 (rowsI mem)), .d (.list 5 (rowsE l))])]) rfl ?_ ?_
  · conv => whnf
    exact ⟨_, 0, Nat.zero_le _, rfl, rfl, rfl, rfl⟩
  rintro m env s ⟨i, hi, h4, rfl, rfl, rfl⟩
  conv => whnf
  refine bcase_intro (fun h => ?_) (fun h => ?_) <;> conv => whnf
  · have hil := lt_of h
    rw [hmn] at hil
    obtain ⟨x, hx, _⟩ := at_i (show i < mem.length by omega)
    obtain ⟨y, hy, _⟩ := at_i hil
    rw [back_i (by omega)]
    refine ⟨rowI x, ⟨by omega, row_i hx⟩, ?_⟩
    conv => whnf
    refine ⟨rowI y, ⟨by omega, row_i hy⟩, ?_⟩
    conv => whnf
    have hd := ascL_drop hx hy
    refine bcase_intro (fun hb => ?_) (fun hb => ?_) <;> conv => whnf
    · rw [hb] at hd
      rw [vRing, h1, h2, h3, h4, hd]; exact ⟨rfl, rfl⟩
    · rw [hb] at hd
      rw [succ_i (i := i + 1) hil (by omega)]
      exact ⟨_, by omega, i + 1, by omega, h4.trans hd, rfl, rfl, rfl⟩
  have hil := ge_of h
  rw [hmn] at hil
  rw [ascL_short (l := mem.drop i) (by simp; omega)] at h4
  have hv : vRing cnt fdr hop mem l = vEnts mem none l := by rw [vRing, h1, h2, h3, h4]; rfl
  rw [hv]
  refine StopG.rounds wk79 [] [1, 6] (fun m env s => ∃ i : Nat, i ≤ l.length ∧ vEnts mem none l = vEnts mem (match i with | 0 => none | j + 1 => l[j]?) (l.drop i) ∧ m = l.length - i ∧ env = [(1, .ref (.g 0) 0), (6, .d (.int .i64 (i : Int)))] ∧ s = [(0, .cells [.d (.int .i64 cnt), .d (.int .i64 fdr), .d (.int .i64 hop), .d (.list 1 (rowsI mem)), .d (.list 5 (rowsE l))])]) rfl ?_ ?_
  · conv => whnf
    exact ⟨_, 0, Nat.zero_le _, rfl, rfl, rfl, rfl⟩
  rintro m env s ⟨i, hi, h5, rfl, rfl, rfl⟩
  conv => whnf
  refine bcase_intro (fun h => ?_) (fun h => ?_) <;> conv => whnf
  · have hil := lt_of h
    rw [hlen] at hil
    obtain ⟨x, hx, hdrop⟩ := at_i hil
    have hxb := hb x (List.mem_of_getElem? hx)
    refine ⟨rowE x, ⟨by omega, row_i hx⟩, ?_⟩
    conv => whnf
    refine .scal [.d (.list 1 (rowsI mem)), .d (.int .i64 x.aw)] _ (fun _ => ⟨.refl _, rfl, among mem (by omega) x.aw⟩) ?_
    conv => whnf
    rw [hdrop, vEnts_cons] at h5
    refine bcase_intro (fun hbad => ?_) (fun hbad => ?_) <;> conv => whnf
    · have hbad : badE mem x = true := hbad
      rw [h5, hbad]; exact ⟨rfl, rfl⟩
    have hbad : badE mem x = false := hbad
    rw [hbad] at h5
    cases i with
    | zero =>
      refine ⟨rowE x, (fun hg => by simp [HG, lit, rfind] at hg), ?_⟩
      conv => whnf
      refine .scal [calV x.fl x.dr, calV x.fl x.dr] _ (fun _ => ⟨.refl _, rfl, lessCall _ _ _ _⟩) ?_
      conv => whnf
      simp only at h5
      refine .scal [.d (.list 1 (rowsI mem)), .d (.list 2 (rowsB x.bids))] _ ⟨.refl _, rfl, validBids mem hm x.bids hxb⟩ ?_
      conv => whnf
      refine bcase_intro (fun hq => ?_) (fun hq => ?_) <;> conv => whnf
      · have hq : (!(vBids mem x.bids == 0)) = true := hq
        rw [hq] at h5
        rw [h5]; exact ⟨rfl, rfl⟩
      · have hq : (!(vBids mem x.bids == 0)) = false := hq
        rw [hq] at h5
        rw [succ_i hil (by omega)]
        refine ⟨_, by omega, 0 + 1, hil, ?_, rfl, rfl, rfl⟩
        simp only [hx]
        exact h5
    | succ k =>
      obtain ⟨q, hq, _⟩ := at_i (show k < l.length by omega)
      rw [back_i (by omega)]
      refine ⟨rowE q, (fun _ => ⟨by omega, row_i hq⟩), ?_⟩
      conv => whnf
      refine .scal [calV q.fl q.dr, calV x.fl x.dr] _ (fun _ => ⟨.refl _, rfl, lessCall _ _ _ _⟩) ?_
      conv => whnf
      simp only [hq] at h5
      refine bcase_intro (fun hp => ?_) (fun hp => ?_) <;> conv => whnf
      · have hp : (bif decide (((k + 1 : Nat) : Int) > 0) then !lessE q x else false) = true := hp
        rw [show decide (((k + 1 : Nat) : Int) > 0) = true from decide_eq_true (by omega)] at hp
        have hp : (!lessE q x) = true := hp
        rw [hp] at h5
        rw [h5]; exact ⟨rfl, rfl⟩
      · have hp : (bif decide (((k + 1 : Nat) : Int) > 0) then !lessE q x else false) = false := hp
        rw [show decide (((k + 1 : Nat) : Int) > 0) = true from decide_eq_true (by omega)] at hp
        have hp : (!lessE q x) = false := hp
        rw [hp] at h5
        refine .scal [.d (.list 1 (rowsI mem)), .d (.list 2 (rowsB x.bids))] _ ⟨.refl _, rfl, validBids mem hm x.bids hxb⟩ ?_
        conv => whnf
        refine bcase_intro (fun hq => ?_) (fun hq => ?_) <;> conv => whnf
        · have hq : (!(vBids mem x.bids == 0)) = true := hq
          rw [hq] at h5
          rw [h5]; exact ⟨rfl, rfl⟩
        · have hq : (!(vBids mem x.bids == 0)) = false := hq
          rw [hq] at h5
          rw [succ_i hil (by omega)]
          refine ⟨_, by omega, k + 1 + 1, hil, ?_, rfl, rfl, rfl⟩
          simp only [hx]
          exact h5
  · have hil := ge_of h
    rw [hlen] at hil
    rw [h5, show l.drop i = [] from List.drop_of_length_le hil]
    exact ⟨rfl, rfl⟩
end Go.Proofs.Ytkenimmellonjaa
/- Seat r2: rings that are light; the first look. -/
namespace Go.Proofs.Ytkenimmellonjaa
open Go.Pv Go.RowKit Go.Shelf
def fat (e : En) : Bool := decide ((e.bids.length : Int) > 16)
def lightB (cnt fdr hop : Int) (mem : List Int) (l : List En) : Bool :=
  bif l.any fat then false else bif bif decide ((mem.length : Int) ≤ 16) then decide ((l.length : Int) ≤ 30) else false then vRing cnt fdr hop mem l == 0 else false
theorem succ_m {i n : Nat} (h : i < n) (hn : n ≤ maxLen) : IntKind.wrap .i64 ((i : Int) + 1) = ((i + 1 : Nat) : Int) := by
  have e : maxLen = 9223372036854775807 := rfl
  rw [wrap_id (by omega) (by omega)]
  rfl
set_option maxRecDepth 100000 in
theorem light (cnt fdr hop : Int) (mem : List Int) (l : List En) (hl : l.length ≤ maxLen) : Contract Try.prog G0 48 [awG cnt fdr hop mem l] [] (fun r t => r = .d (.bool (lightB cnt fdr hop mem l)) ∧ t = []) := by
  have hlen := rowsE_len l
  have hmn := rowsI_len mem
  refine run48 0 [] rfl rfl ?_
  conv => whnf
  refine StopG.rounds wk48 [] [1, 3] (fun m env s => ∃ i : Nat, i ≤ l.length ∧ l.any fat = (l.drop i).any fat ∧ m = l.length - i ∧ env = [(1, .ref (.g 0) 0), (3, .d (.int .i64 (i : Int)))] ∧ s = [(0, .cells [.d (.int .i64 cnt), .d (.int .i64 fdr), .d (.int .i64 hop), .d (.list 1 (rowsI mem)), .d (.list 5 (rowsE l))])]) rfl ?_ ?_
  · conv => whnf
    exact ⟨_, 0, Nat.zero_le _, rfl, rfl, rfl, rfl⟩
  rintro m env s ⟨i, hi, h5, rfl, rfl, rfl⟩
  conv => whnf
  refine bcase_intro (fun h => ?_) (fun h => ?_) <;> conv => whnf
  · have hil := lt_of h
    rw [hlen] at hil
    obtain ⟨x, hx, hdrop⟩ := at_i hil
    refine ⟨rowE x, ⟨by omega, row_i hx⟩, ?_⟩
    conv => whnf
    rw [hdrop, List.any_cons] at h5
    refine bcase_intro (fun hb => ?_) (fun hb => ?_) <;> conv => whnf
    · rw [rowsB_len] at hb
      rw [show fat x = true from hb, Bool.true_or] at h5
      rw [lightB, h5]; exact ⟨rfl, rfl⟩
    · rw [rowsB_len] at hb
      rw [show fat x = false from hb, Bool.false_or] at h5
      rw [succ_m hil hl]
      exact ⟨_, by omega, i + 1, hil, h5, rfl, rfl, rfl⟩
  have hil := ge_of h
  rw [hlen] at hil
  rw [show l.drop i = [] from List.drop_of_length_le hil] at h5
  have h5 : l.any fat = false := h5
  refine .scal [awG cnt fdr hop mem l] (.d (.int .i64 (vRing cnt fdr hop mem l))) (fun hg => ⟨.refl _, rfl, ?_⟩) ?_
  · have hg2 : (bif decide (((rowsI mem).length : Int) ≤ 16) then decide (((rowsE l).length : Int) ≤ 30) else false) = true := by simpa [HG, lit, rfind] using hg
    rw [hlen, hmn] at hg2
    have h1 : mem.length ≤ 16 ∧ l.length ≤ 30 := by
      cases h2 : decide ((mem.length : Int) ≤ 16) <;> rw [h2] at hg2 <;> simp at h2 hg2
      omega
    refine validRing cnt fdr hop mem (by omega) l (by omega) fun e he => ?_
    have h3 := (List.any_eq_false.1 h5) e he
    have h4 : ¬ ((e.bids.length : Int) > 16) := by simpa [fat] using h3
    omega
  · conv => whnf
    rw [hlen, hmn, lightB, h5]; exact ⟨rfl, rfl⟩
set_option maxRecDepth 100000 in
theorem new_nil (cnt fdr : Int) (l : List Int) (hl : l.length ≤ 100000) : Contract Try.prog G0 65 [epoV cnt fdr, .d (.list 1 (rowsI l))] [] (fun r t => r = rgV cnt fdr 0 (setI l) (.d .nil) ∧ t = []) := by
  refine run65 0 [] rfl rfl ?_
  conv => whnf
  refine .data [.d (.list 1 (rowsI l))] _ ⟨WkL.refl _, rfl, set19 l hl⟩ ?_
  conv => whnf
  exact ⟨rfl, rfl⟩
theorem new (cnt fdr : Int) (l : List Int) (hl : l.length ≤ 100000) : Contract Try.prog G0 65 [epoV cnt fdr, .d (.list 1 (rowsI l))] [] (fun r t => r = awG cnt fdr 0 (setI l) [] ∧ t = []) :=
  (new_nil cnt fdr l hl).weak 5 fun r t h => by
    obtain ⟨h, rfl⟩ := h; subst h; exact ⟨rfl, rfl, rfl, rfl⟩
theorem newO (cnt fdr : Int) (l : List Int) (hl : l.length ≤ 100000) (cap : Nat) : Contract Try.prog G0 65 [epoV cnt fdr, .slc (.g 0) 1 0 l.length cap] [(0, .row 1 (rowsI l))] (fun r t => r = awG cnt fdr 0 (setI l) [] ∧ t = [(0, .dead)]) := by
  have h0 := new cnt fdr l hl
  have e : fzL 0 (AB.row 1 (rowsI l)) [epoV cnt fdr, .slc (.g 0) 1 0 l.length cap] = [epoV cnt fdr, .d (.list 1 ((List.drop 0 (rowsI l)).take l.length))] := rfl
  have hrl := rowsI_len l
  refine Contract.frz (by simp) (by repeat' first | exact trivial | apply And.intro | decide | (simp; done) | omega) rfl ?_
  rw [e, List.drop_zero, List.take_of_length_le (by rw [rowsI_len]; exact Nat.le_refl _)]
  exact h0
set_option maxRecDepth 100000 in
theorem first47 : Contract Try.prog G0 47 [] [] (fun r t => r = .d (.bool true) ∧ t = []) := by
  refine run47 0 [] rfl rfl ?_
  conv => whnf
  refine .data [epoV 1 0, .d (.list 1 (rowsI [2, 0, 2]))] _ ⟨.refl _, rfl, new 1 0 [2, 0, 2] (by decide)⟩ ?_
  rw [show setI [2, 0, 2] = [0, 2] from by rw [← set6_eq]; decide]
  conv => whnf
  refine .data [awG 1 0 0 [0, 2] []] _ ⟨.refl _, rfl, award 1 0 0 [0, 2] (by decide) [] (by decide) (by simp)⟩ ?_
  conv => whnf
  refine ⟨rowI 0, fun _ => ⟨by decide, rfl⟩, ?_⟩
  conv => whnf
  exact ⟨rfl, rfl⟩
end Go.Proofs.Ytkenimmellonjaa
/- Seat r2: what is wanted, what is bid. -/
namespace Go.Proofs.Ytkenimmellonjaa
open Go.Pv Go.RowKit Go.Shelf
def rowC (c : Int × Int) : List DV := [.int .i64 c.1, .int .i64 c.2]
def rowsC (l : List (Int × Int)) : List (List DV) := l.map rowC
theorem rowsC_len (l : List (Int × Int)) : (rowsC l).length = l.length := by simp [rowsC]
def callE (e : En) : Int × Int := (e.fl, e.dr)
def wishE (car : Int) (e : En) : Bool := bif !(ofB e.bids car).2 then decide (e.aw < 0) else false
def wishL (car : Int) (l : List En) : List (Int × Int) := (l.filter (wishE car)).map callE
def wantL (mem : List Int) (car : Int) (l : List En) : List (Int × Int) := if (mem.any fun y => car == y) = true then wishL car l else []
theorem wishL_snoc {l : List En} {car : Int} {i : Nat} {x : En} (hx : l[i]? = some x) : wishL car (l.take (i + 1)) = wishL car (l.take i) ++ (match wishE car x with | true => [callE x] | false => []) := by
  rw [List.take_add_one, hx]
  simp only [wishL, List.filter_append, List.map_append, Option.toList]
  cases h : wishE car x <;> simp [h]
theorem wishL_len (car : Int) (l : List En) : (wishL car l).length ≤ l.length := by
  rw [wishL, List.length_map]; exact List.length_filter_le _ _
set_option maxRecDepth 100000 in
theorem wants (cnt fdr hop : Int) (mem : List Int) (hm : mem.length ≤ 100000) (l : List En) (hl : l.length ≤ 1000) (hb : ∀ e ∈ l, e.bids.length ≤ 100000) (car : Int) : Contract Try.prog G0 60 [awG cnt fdr hop mem l, .d (.int .i64 car)] [] (fun r t => r = .d (.list 2 (rowsC (wantL mem car l))) ∧ t = []) := by
  have hlen := rowsE_len l
  refine Contract.as_list (by decide) ?_
  refine run60 0 [] rfl rfl ?_
  conv => whnf
  refine .scal [.d (.list 1 (rowsI mem)), .d (.int .i64 car)] _ ⟨.refl _, rfl, has mem (by omega) car⟩ ?_
  conv => whnf
  refine bcase_intro (fun hh => ?_) (fun hh => ?_) <;> conv => whnf
  · have hh : (mem.any fun y => car == y) = false := by simpa using hh
    rw [wantL, if_neg (by rw [hh]; decide)]
    exact .inl ⟨.inl rfl, rfl, rfl⟩
  have hh : (mem.any fun y => car == y) = true := by simpa using hh
  rw [wantL, if_pos hh]
  refine StopG.rounds wk60 [] [1, 5, 16, 17, 18] (fun m env s => ∃ i : Nat, ∃ w, wishL car (l.take i) = w ∧ i ≤ l.length ∧ m = l.length - i ∧ ((w = [] ∧ env = [(1, .d (.int .i64 car)), (5, .d .nil), (16, .d (.list 5 (rowsE l))), (17, .d (.int .i64 ((rowsE l).length : Int))), (18, .d (.int .i64 (i : Int)))] ∧ s = []) ∨ ∃ wc, w.length ≤ wc ∧ env = [(1, .d (.int .i64 car)), (5, .slc (.g 0) 2 0 w.length wc), (16, .d (.list 5 (rowsE l))), (17, .d (.int .i64 ((rowsE l).length : Int))), (18, .d (.int .i64 (i : Int)))] ∧ s = [(0, .row 2 (rowsC w))])) rfl ?_ ?_
  · conv => whnf
    exact ⟨_, 0, [], rfl, Nat.zero_le _, rfl, .inl ⟨rfl, rfl, rfl⟩⟩
  rintro m env s ⟨i, w, hw, hi, rfl, hout⟩
  rcases hout with ⟨rfl, rfl, rfl⟩ | ⟨wc, hwc, rfl, rfl⟩
  · conv => whnf
    refine bcase_intro (fun h => ?_) (fun h => ?_) <;> conv => whnf
    · have hil := lt_of h
      rw [hlen] at hil
      obtain ⟨x, hx, hdrop⟩ := at_i hil
      have hxb := hb x (List.mem_of_getElem? hx)
      refine ⟨rowE x, ⟨by omega, row_i hx⟩, ?_⟩
      conv => whnf
      refine .data [.d (.list 2 (rowsB x.bids)), .d (.int .i64 car)] _ ⟨WkL.refl _, rfl, of_ x.bids (by omega) car⟩ ?_
      conv => whnf
      refine bcase_intro (fun hg => ?_) (fun hg => ?_) <;> conv => whnf
      · have hwon : wishE car x = true := hg
        refine ⟨⟨?_, ?_⟩, ?_⟩
        · show (2 * 1 + 1024) * 16 ≤ 281474976710656; omega
        · show 1 ≤ _; omega
        conv => whnf
        intro c2 hc2
        conv => whnf
        rw [succ_i hil (by omega)]
        refine ⟨_, by omega, i + 1, [callE x], ?_, hil, rfl, .inr ⟨c2, hc2, rfl, rfl⟩⟩
        rw [wishL_snoc hx, hw, hwon]; rfl
      · have hwon : wishE car x = false := hg
        rw [succ_i hil (by omega)]
        refine ⟨_, by omega, i + 1, [], ?_, hil, rfl, .inl ⟨rfl, rfl, rfl⟩⟩
        rw [wishL_snoc hx, hw, hwon]; rfl
    · have hil := ge_of h
      rw [hlen] at hil
      rw [show i = l.length by omega, List.take_length] at hw
      rw [hw]
      exact .inl ⟨.inl rfl, rfl, rfl⟩
  · conv => whnf
    refine bcase_intro (fun h => ?_) (fun h => ?_) <;> conv => whnf
    · have hil := lt_of h
      rw [hlen] at hil
      obtain ⟨x, hx, hdrop⟩ := at_i hil
      have hxb := hb x (List.mem_of_getElem? hx)
      refine ⟨rowE x, ⟨by omega, row_i hx⟩, ?_⟩
      conv => whnf
      refine .data [.d (.list 2 (rowsB x.bids)), .d (.int .i64 car)] _ ⟨WkL.refl _, rfl, of_ x.bids (by omega) car⟩ ?_
      conv => whnf
      refine bcase_intro (fun hg => ?_) (fun hg => ?_) <;> conv => whnf
      · have hwon : wishE car x = true := hg
        have hwl : w.length ≤ 1000 := by
          rw [← hw]
          refine Nat.le_trans (wishL_len _ _) ?_
          simp; omega
        have hrl := rowsC_len w
        refine ⟨by omega, ⟨?_, ?_⟩, ?_⟩
        · show (2 * (w.length + 1) + 1024) * 16 ≤ 281474976710656; omega
        · show w.length + 1 ≤ _; omega
        conv => whnf
        intro c2 hc2
        conv => whnf
        rw [succ_i hil (by omega), List.take_of_length_le (by omega)]
        refine ⟨_, by omega, i + 1, w ++ [callE x], ?_, hil, rfl, .inr ⟨c2, by simpa using hc2, ?_, ?_⟩⟩
        · rw [wishL_snoc hx, hw, hwon]
        · rw [List.length_append]; rfl
        · rw [show rowsC (w ++ [callE x]) = rowsC w ++ [rowC (callE x)] by simp [rowsC]]; rfl
      · have hwon : wishE car x = false := hg
        rw [succ_i hil (by omega)]
        refine ⟨_, by omega, i + 1, w, ?_, hil, rfl, .inr ⟨wc, hwc, rfl, rfl⟩⟩
        rw [wishL_snoc hx, hw, hwon, List.append_nil]
    · have hil := ge_of h
      rw [hlen] at hil
      rw [show i = l.length by omega, List.take_length] at hw
      rw [hw]
      exact .inr ⟨wc, by rw [rowsC_len]; exact hwc, by rw [rowsC_len], rfl⟩
abbrev entV (e : En) : AV := .agg [.d (.int .i64 e.fl), .d (.int .i64 e.dr), .d (.int .i64 e.gn), .d (.list 2 (rowsB e.bids)), .d (.int .i64 e.aw)]
def isC (c : Int × Int) (e : En) : Bool := bif e.fl == c.1 then e.dr == c.2 else false
set_option maxRecDepth 100000 in
theorem at116 (e : En) (a b : Int) : Contract Try.prog G0 116 [entV e, .d (.ptr [.int .i64 a, .int .i64 b] 0)] [] (fun r s => r = .d (.bool (isC (a, b) e)) ∧ s = []) := by
  refine run116 0 [] rfl rfl ?_
  conv => whnf
  refine ⟨⟨by kernel_rfl, by kernel_rfl⟩, ?_⟩
  conv => whnf
  exact ⟨rfl, rfl⟩
set_option maxRecDepth 100000 in
theorem index96 (l : List En) (hl : l.length ≤ 4611686018427387904) (p : En → Bool) (f : Nat) (cs : List DV) (hf : ∀ x, Contract Try.prog G0 f [entV x, .d (.ptr cs 0)] [] (fun r t => r = .d (.bool (p x)) ∧ t = [])) :
    Contract Try.prog G0 96 [.d (.list 5 (rowsE l)), .fn f [.d (.ptr cs 0)]] [] (fun r t => r = .d (.int .i64 (idxFrom p l 0)) ∧ t = []) := by
  have hlen := rowsE_len l
  refine run96 0 [] rfl rfl ?_
  conv => whnf
  refine StopG.rounds wk96 [] [0, 1, 4, 7, 8] (fun m env s => ∃ i : Nat, i ≤ l.length ∧ m = l.length - i ∧ idxFrom p (l.drop i) i = idxFrom p l 0 ∧
    env = [(0, .d (.list 5 (rowsE l))), (1, .fn f [.d (.ptr cs 0)]), (4, .d (.int .i64 0)), (7, .d (.int .i64 ((rowsE l).length : Int))), (8, .d (.int .i64 (i : Int)))] ∧ s = []) rfl ?_ ?_
  · conv => whnf
    exact ⟨_, 0, Nat.zero_le _, rfl, rfl, rfl, rfl⟩
  rintro m env s ⟨i, hi, rfl, hidx, rfl, rfl⟩
  conv => whnf
  refine bcase_intro (fun h => ?_) (fun h => ?_) <;> conv => whnf
  · have h := lt_of h
    rw [hlen] at h
    obtain ⟨x, hx, hdrop⟩ := at_i h
    refine ⟨rowE x, ⟨by omega, row_i hx⟩, ?_⟩
    conv => whnf
    refine .scal [entV x, .d (.ptr cs 0)] _ ⟨.refl _, rfl, hf x⟩ ?_
    conv => whnf
    rw [hdrop, idxFrom] at hidx
    refine bcase_intro (fun h2 => ?_) (fun h2 => ?_) <;> conv => whnf
    · rw [if_pos h2] at hidx
      exact ⟨rd_int hidx, rfl⟩
    · rw [succ_i h (by omega)]
      refine ⟨_, by omega, i + 1, h, rfl, ?_, rfl, rfl⟩
      rw [if_neg (by rw [h2]; decide)] at hidx
      exact hidx
  · have h := ge_of h
    rw [hlen] at h
    rw [show l.drop i = [] from List.drop_of_length_le h, idxFrom] at hidx
    exact ⟨rd_int hidx, rfl⟩
set_option maxRecDepth 100000 in
theorem at87 (cnt fdr hop : Int) (mem : List Int) (l : List En) (hl : l.length ≤ 4611686018427387904) (a b : Int) : Contract Try.prog G0 87 [awG cnt fdr hop mem l, calV a b] [] (fun r t => r = .d (.int .i64 (idxFrom (isC (a, b)) l 0)) ∧ t = []) := by
  refine run87 0 [] rfl rfl ?_
  conv => whnf
  refine .scal [.d (.list 5 (rowsE l)), .fn 116 [.d (.ptr [.int .i64 a, .int .i64 b] 0)]] _ ⟨.fz 1 _ rfl (by simp) (by repeat' first | exact trivial | apply And.intro) (.refl _), rfl, index96 l hl _ 116 _ fun e => at116 e a b⟩ ?_
  conv => whnf
  exact ⟨rfl, rfl⟩
end Go.Proofs.Ytkenimmellonjaa
/- Seat r2: what is struck off. -/
namespace Go.Proofs.Ytkenimmellonjaa
open Go.Pv Go.RowKit Go.Shelf
abbrev keepL (p : En → Bool) (l : List En) : List En := l.filter fun e => !p e
theorem idx_before {α : Type} {p : α → Bool} : ∀ (l : List α) (i : Int) (k : Nat), idxFrom p l i = i + k → ∀ e ∈ l.take k, p e = false
  | [], _, _, _, _, h => by simp at h
  | _ :: _, _, 0, _, _, h => by simp at h
  | x :: r, i, k + 1, h, e, he => by
    unfold idxFrom at h
    split at h
    · omega
    · rename_i hx
      rw [List.take_succ_cons] at he
      rcases List.mem_cons.1 he with rfl | he
      · simpa using hx
      · exact idx_before r (i + 1) k (by rw [h]; omega) e he
set_option maxRecDepth 100000 in
theorem index96O (l : List En) (hl : l.length ≤ 4611686018427387904) (p : En → Bool) (f : Nat) (cs : List DV) (hf : ∀ x, Contract Try.prog G0 f [entV x, .d (.ptr cs 0)] [] (fun r t => r = .d (.bool (p x)) ∧ t = [])) :
    Contract Try.prog G0 96 [.d (.list 5 ((List.drop 0 (rowsE l)).take l.length)), .fn f [.d (.ptr cs 0)]] [] (fun r t => r = .d (.int .i64 (idxFrom p l 0)) ∧ t = []) := by
  rw [List.drop_zero, List.take_of_length_le (by rw [rowsE_len]; exact Nat.le_refl _)]
  exact index96 l hl p f cs hf
set_option maxRecDepth 100000 in
theorem deleteFunc (l : List En) (hl : l.length ≤ 1000) (cap : Nat) (hcap : l.length ≤ cap) (p : En → Bool) (f : Nat) (cs : List DV) (hf : ∀ x, Contract Try.prog G0 f [entV x, .d (.ptr cs 0)] [] (fun r t => r = .d (.bool (p x)) ∧ t = [])) :
    Contract Try.prog G0 89 [.slc (.g 0) 5 0 l.length cap, .fn f [.d (.ptr cs 0)]] [(0, .row 5 (rowsE l))] (fun r t => ∃ tl, r = .slc (.g 0) 5 0 (keepL p l).length cap ∧ t = [(0, .row 5 (rowsE (keepL p l) ++ tl))]) := by
  have hrl := rowsE_len l
  have hix := index96O l (by omega) p f cs hf
  refine run89 1 [] rfl rfl ?_
  rcases idx_cases0 p l with ⟨h1, hno⟩ | ⟨k, x0, h1, hx0, hfd⟩
  · rw [h1] at hix
    conv => whnf
    refine .scal [.d (.list 5 ((List.drop 0 (rowsE l)).take l.length)), .fn f [.d (.ptr cs 0)]] (.d (.int .i64 (-1))) ⟨.fz 0 _ rfl (by simp) (by repeat' first | exact trivial | apply And.intro | decide | (simp; done) | omega) (.refl _), rfl, hix⟩ ?_
    conv => whnf
    have hall : keepL p l = l := by
      rw [keepL, List.filter_eq_self]
      intro e he
      have := (List.find?_eq_none.1 hno) e he
      simpa using this
    exact ⟨[], by rw [hall], by rw [hall, List.append_nil]⟩
  · rw [h1] at hix
    have hkl := (List.getElem?_eq_some_iff.1 hx0).1
    conv => whnf
    refine .scal [.d (.list 5 ((List.drop 0 (rowsE l)).take l.length)), .fn f [.d (.ptr cs 0)]] (.d (.int .i64 (k : Int))) ⟨.fz 0 _ rfl (by simp) (by repeat' first | exact trivial | apply And.intro | decide | (simp; done) | omega) (.refl _), rfl, hix⟩ ?_
    conv => whnf
    rw [succ_i hkl (by omega)]
    have hpre : keepL p (l.take k) = l.take k := by
      rw [keepL, List.filter_eq_self]
      intro e he
      have := idx_before l 0 k (by rw [h1]; omega) e he
      simpa using this
    have hpx : p x0 = true := List.find?_some hfd
    have hk1 : keepL p (l.take (k + 1)) = l.take k := by
      rw [List.take_add_one, hx0, keepL, List.filter_append]
      have := hpre
      rw [keepL] at this
      rw [this]
      simp [hpx]
    refine StopG.rounds wk89 [] [0, 1, 5, 6] (fun m env s => ∃ (j : Nat) (mid : List (List DV)), j ≤ l.length ∧ mid.length + (keepL p (l.take j)).length = j ∧ 0 < mid.length ∧ (∀ r ∈ mid, r.length = 5) ∧ m = l.length - j ∧ env = [(0, .slc (.g 0) 5 0 l.length cap), (1, .fn f [.d (.ptr cs 0)]), (5, .d (.int .i64 ((keepL p (l.take j)).length : Int))), (6, .d (.int .i64 (j : Int)))] ∧ s = [(0, .row 5 (rowsE (keepL p (l.take j)) ++ mid ++ rowsE (l.drop j)))]) rfl ?_ ?_
    · conv => whnf
      refine ⟨_, k + 1, [rowE x0], hkl, ?_, by simp, by simp [rowE], rfl, ?_, ?_⟩
      · rw [hk1]; simp; omega
      · rw [hk1, List.length_take, Nat.min_eq_left (by omega)]
      · rw [hk1]
        refine congrArg (fun q => [(0, AB.row 5 q)]) ?_
        obtain ⟨y, hy, hd⟩ := at_i hkl
        rw [hx0] at hy
        cases hy
        conv => lhs; rw [← List.take_append_drop k l, hd]
        simp [rowsE]
    rintro m env s ⟨j, mid, hj, hmid, hm0, hm5, rfl, rfl, rfl⟩
    conv => whnf
    refine bcase_intro (fun h => ?_) (fun h => ?_) <;> conv => whnf
    · have hjl := lt_of h
      obtain ⟨x, hx, hd⟩ := at_i hjl
      have hrow : (rowsE (keepL p (l.take j)) ++ mid ++ rowsE (l.drop j))[0 + (j : Int).toNat]? = some (rowE x) := by
        rw [List.getElem?_append_right (by simp [rowsE]; omega)]
        simp only [List.length_append, rowsE_len, Nat.zero_add, Int.toNat_natCast]
        rw [show j - ((keepL p (l.take j)).length + mid.length) = 0 by omega, hd]
        rfl
      refine ⟨⟨by omega, by omega⟩, ?_⟩
      conv => whnf
      refine ⟨rowE x, hrow, rfl, ?_⟩
      conv => whnf
      refine .scal [entV x, .d (.ptr cs 0)] _ ⟨.refl _, rfl, hf x⟩ ?_
      conv => whnf
      have htk : keepL p (l.take (j + 1)) = keepL p (l.take j) ++ (match p x with | true => [] | false => [x]) := by
        rw [List.take_add_one, hx, keepL, keepL, List.filter_append]
        cases hp : p x <;> simp [hp]
      refine bcase_intro (fun hg => ?_) (fun hg => ?_) <;> conv => whnf
      · have hg : p x = false := by simpa using hg
        rw [hg] at htk
        have hlk : (keepL p (l.take (j + 1))).length = (keepL p (l.take j)).length + 1 := by rw [htk]; simp
        obtain ⟨m0, mr, rfl⟩ : ∃ m0 mr, mid = m0 :: mr := by
          cases mid with
          | nil => simp at hm0
          | cons a b => exact ⟨a, b, rfl⟩
        refine ⟨⟨by omega, by simp at hmid; omega⟩, ?_⟩
        conv => whnf
        have h5 : m0.length = 5 := hm5 m0 (List.mem_cons_self ..)
        match m0, h5 with
        | [a0, a1, a2, a3, a4], _ =>
        have hi : (rowsE (keepL p (l.take j)) ++ [a0, a1, a2, a3, a4] :: mr ++ rowsE (l.drop j))[0 + ((keepL p (l.take j)).length : Int).toNat]? = some [a0, a1, a2, a3, a4] := by
          rw [List.append_assoc, List.getElem?_append_right (by simp [rowsE])]
          simp [rowsE]
        refine ⟨_, hi, ?_⟩
        conv => whnf
        rw [succ_i hjl (by omega), succ_i (i := (keepL p (l.take j)).length) (Nat.lt_succ_self _) (by simp at hmid; omega), ← hlk]
        refine ⟨_, by omega, j + 1, mr ++ [rowE x], hjl, ?_, by simp, ?_, rfl, rfl, ?_⟩
        · rw [hlk]; simp at hmid ⊢; omega
        · intro r hr
          rcases List.mem_append.1 hr with hr | hr
          · exact hm5 r (List.mem_cons_of_mem _ hr)
          · rw [List.mem_singleton.1 hr]; rfl
        · refine congrArg (fun q => [(0, AB.row 5 q)]) ?_
          rw [htk, hd, show (0 + ((keepL p (l.take j)).length : Int).toNat) = (rowsE (keepL p (l.take j))).length by simp [rowsE], List.append_assoc, List.set_append_right _ _ (Nat.le_refl _), Nat.sub_self]
          show rowsE (keepL p (l.take j)) ++ (rowE x :: (mr ++ rowsE (x :: l.drop (j + 1)))) = _
          simp [rowsE]
      · have hg : p x = true := by simpa using hg
        rw [hg, List.append_nil] at htk
        rw [succ_i hjl (by omega)]
        refine ⟨_, by omega, j + 1, mid ++ [rowE x], hjl, ?_, by simp, ?_, rfl, by rw [htk], ?_⟩
        · rw [htk, List.length_append]; simp; omega
        · intro r hr
          rcases List.mem_append.1 hr with hr | hr
          · exact hm5 r hr
          · rw [List.mem_singleton.1 hr]; rfl
        · rw [htk, hd]; simp [rowsE]
    · have hjl := ge_of h
      have hjl2 : j = l.length := by omega
      rw [hjl2, List.take_length] at hmid
      rw [hjl2, List.take_length, List.drop_length]
      refine ⟨⟨by omega, by omega, by omega⟩, ?_⟩
      conv => whnf
      refine ⟨by simp [rowsE], ?_⟩
      conv => whnf
      refine ⟨⟨by omega, by omega, by omega⟩, ?_⟩
      conv => whnf
      refine ⟨(List.replicate ((l.length : Int).toNat - ((keepL p l).length : Int).toNat) ti72.zero) ++ (rowsE (keepL p l) ++ mid ++ rowsE []).drop (0 + ((keepL p l).length : Int).toNat + (List.replicate ((l.length : Int).toNat - ((keepL p l).length : Int).toNat) ti72.zero).length), by simp, ?_⟩
      refine congrArg (fun q => [(0, AB.row 5 q)]) ?_
      unfold splice
      rw [List.append_assoc, show (rowsE (keepL p l) ++ mid ++ rowsE []).take (0 + ((keepL p l).length : Int).toNat) = rowsE (keepL p l) by rw [List.append_assoc, List.take_left' (by simp [rowsE])]]
end Go.Proofs.Ytkenimmellonjaa
/- Seat r2: the ring without what is lit no more. -/
namespace Go.Proofs.Ytkenimmellonjaa
open Go.Pv Go.RowKit Go.Shelf
def eqK (y x : Int × Int × Int) : Bool := bif y.1 == x.1 then (bif y.2.1 == x.2.1 then y.2.2 == x.2.2 else false) else false
set_option maxRecDepth 100000 in
theorem indexK (l : List (Int × Int × Int)) (hl : l.length ≤ 4611686018427387904) (k : Int × Int × Int) : Contract Try.prog G0 105 [.d (.list 3 (rowsK l)), latV k.1 k.2.1 k.2.2] [] (fun r t => r = .d (.int .i64 (idxFrom (eqK k) l 0)) ∧ t = []) := by
  have hlen := rowsK_len l
  refine run105 0 [] rfl rfl ?_
  conv => whnf
  refine StopG.rounds wk105 [] [0, 3, 7, 8] (fun m env s => ∃ i : Nat, i ≤ l.length ∧ m = l.length - i ∧ idxFrom (eqK k) (l.drop i) i = idxFrom (eqK k) l 0 ∧
    env = [(0, .d (.list 3 (rowsK l))), (3, .ref (.g 0) 0), (7, .d (.int .i64 ((rowsK l).length : Int))), (8, .d (.int .i64 (i : Int)))] ∧ s = [(0, .cells [.d (.int .i64 k.1), .d (.int .i64 k.2.1), .d (.int .i64 k.2.2)])]) rfl ?_ ?_
  · conv => whnf
    exact ⟨_, 0, Nat.zero_le _, rfl, rfl, rfl, rfl⟩
  rintro m env s ⟨i, hi, rfl, hidx, rfl, rfl⟩
  conv => whnf
  refine bcase_intro (fun h => ?_) (fun h => ?_) <;> conv => whnf
  · have h := lt_of h
    rw [hlen] at h
    obtain ⟨x, hx, hdrop⟩ := at_i h
    refine ⟨rowK x, ⟨by omega, row_i hx⟩, ?_⟩
    conv => whnf
    refine ⟨⟨by kernel_rfl, by kernel_rfl⟩, ?_⟩
    conv => whnf
    rw [hdrop, idxFrom] at hidx
    refine bcase_intro (fun h2 => ?_) (fun h2 => ?_) <;> conv => whnf
    · have h2 : eqK k x = true := h2
      rw [if_pos h2] at hidx
      exact ⟨rd_int hidx, rfl⟩
    · have h2 : eqK k x = false := h2
      rw [succ_i h (by omega)]
      refine ⟨_, by omega, i + 1, h, rfl, ?_, rfl, rfl⟩
      rw [if_neg (by rw [h2]; decide)] at hidx
      exact hidx
  · have h := ge_of h
    rw [hlen] at h
    rw [show l.drop i = [] from List.drop_of_length_le h, idxFrom] at hidx
    exact ⟨rd_int hidx, rfl⟩
set_option maxRecDepth 100000 in
theorem containsK (l : List (Int × Int × Int)) (hl : l.length ≤ 4611686018427387904) (k : Int × Int × Int) : Contract Try.prog G0 78 [.d (.list 3 (rowsK l)), latV k.1 k.2.1 k.2.2] [] (fun r t => r = .d (.bool (l.any (eqK k))) ∧ t = []) := by
  refine run78 0 [] rfl rfl ?_
  conv => whnf
  refine .scal [.d (.list 3 (rowsK l)), latV k.1 k.2.1 k.2.2] _ ⟨.refl _, rfl, indexK l hl k⟩ ?_
  conv => whnf
  refine ⟨rd_bool ?_, rfl⟩
  rcases idx_cases0 (eqK k) l with ⟨h1, h2⟩ | ⟨j, x, h1, hx, h2⟩
  · rw [h1, List.find?_eq_none] at *
    exact (List.any_eq_false.2 h2).symm ▸ rfl
  · rw [h1]
    have := List.any_eq_true.2 ⟨x, List.mem_of_find?_eq_some h2, List.find?_some h2⟩
    rw [this]
    simp
def litE (ks : List (Int × Int × Int)) (e : En) : Bool := ks.any (eqK (keyE e))
set_option maxRecDepth 100000 in
theorem purge1 (ks : List (Int × Int × Int)) (hk : ks.length ≤ 4611686018427387904) (e : En) : Contract Try.prog G0 90 [entV e, .d (.ptr [.list 3 (rowsK ks)] 0)] [] (fun r s => r = .d (.bool (!litE ks e)) ∧ s = []) := by
  refine run90 0 [] rfl rfl ?_
  conv => whnf
  refine .scal [.d (.list 3 (rowsK ks)), latV e.fl e.dr e.gn] _ ⟨.refl _, rfl, containsK ks hk (keyE e)⟩ ?_
  conv => whnf
  exact ⟨rfl, rfl⟩
set_option maxRecDepth 100000 in
theorem deleteFunc_nil (f : Nat) (cs : List DV) (p : En → Bool) (hf : ∀ x, Contract Try.prog G0 f [entV x, .d (.ptr cs 0)] [] (fun r t => r = .d (.bool (p x)) ∧ t = [])) :
    Contract Try.prog G0 89 [.d (.list 5 []), .fn f [.d (.ptr cs 0)]] [] (fun r t => r = .d (.list 5 []) ∧ t = []) := by
  refine run89 0 [] rfl rfl ?_
  conv => whnf
  refine .scal [.d (.list 5 []), .fn f [.d (.ptr cs 0)]] (.d (.int .i64 (-1))) ⟨.refl _, rfl, index96 [] (by simp) p f cs hf⟩ ?_
  conv => whnf
  exact ⟨rfl, rfl⟩
/-- What stays lit. -/
def stayL (ks : List (Int × Int × Int)) (l : List En) : List En := l.filter (litE ks)
set_option maxRecDepth 100000 in
theorem purge_nil (cnt fdr hop : Int) (mem : List Int) (hm : mem.length ≤ 100000) (ks : List (Int × Int × Int)) (hk : ks.length ≤ 100000) : Contract Try.prog G0 62 [awG cnt fdr hop mem [], .d (.list 3 (rowsK ks))] [] (fun r t => r = awG cnt fdr hop mem [] ∧ t = []) := by
  refine run62 0 [2] rfl rfl ?_
  conv => whnf
  refine .obj rfl ?_
  conv => whnf
  refine ⟨_, _, ⟨WkL.refl _, own_nil cnt fdr hop mem hm⟩, fun res s1 h => ?_⟩
  obtain ⟨rfl, rfl⟩ := h
  conv => whnf
  refine .ghost (GV.freeze 1 rfl (by simp) (by repeat' first | exact trivial | apply And.intro | decide | (simp; done) | omega) (by repeat' first | exact trivial | apply And.intro)) (.go wk62 [] ?_)
  conv => whnf
  refine .obj rfl ?_
  conv => whnf
  refine ⟨_, _, ⟨WkL.refl _, deleteFunc_nil 90 [.list 3 (rowsK ks)] (fun e => !litE ks e) fun e => purge1 ks (by omega) e⟩, fun res s1 h => ?_⟩
  obtain ⟨rfl, rfl⟩ := h
  conv => whnf
  exact ⟨rfl, rfl⟩
set_option maxRecDepth 100000 in
theorem purge_cons (cnt fdr hop : Int) (mem : List Int) (hm : mem.length ≤ 100000) (e0 : En) (l0 : List En) (hl : l0.length + 1 ≤ 1000) (hb : ∀ e ∈ e0 :: l0, e.bids.length ≤ 100000) (ks : List (Int × Int × Int)) (hk : ks.length ≤ 100000) :
    Contract Try.prog G0 62 [awG cnt fdr hop mem (e0 :: l0), .d (.list 3 (rowsK ks))] [] (fun r t => ∃ cap tl, (stayL ks (e0 :: l0)).length ≤ cap ∧ r = rgV cnt fdr hop mem (.slc (.g 0) 5 0 (stayL ks (e0 :: l0)).length cap) ∧ t = [(0, .row 5 (rowsE (stayL ks (e0 :: l0)) ++ tl))]) := by
  refine run62 0 [2] rfl rfl ?_
  conv => whnf
  refine .obj rfl ?_
  conv => whnf
  refine ⟨_, _, ⟨WkL.refl _, own_cons cnt fdr hop mem hm e0 l0 (by omega) hb⟩, fun res s1 h => ?_⟩
  obtain ⟨cap, hc, rfl, rfl⟩ := h
  generalize hle : e0 :: l0 = l at hb
  have hll : l.length = l0.length + 1 := by rw [← hle]; rfl
  rw [← hll] at hc ⊢
  conv => whnf
  have hrl := rowsE_len l
  have hkeep : keepL (fun e => !litE ks e) l = stayL ks l := by
    unfold keepL stayL
    congr 1
    funext e
    simp
  have hdf := deleteFunc l (by omega) cap hc (fun e => !litE ks e) 90 [.list 3 (rowsK ks)] fun e => purge1 ks (by omega) e
  rw [hkeep] at hdf
  refine .ghost (GV.freeze 1 rfl (by simp) (by repeat' first | exact trivial | apply And.intro | decide | (simp; done) | omega) (by repeat' first | exact trivial | apply And.intro)) (.go wk62 [] ?_)
  conv => whnf
  refine .obj rfl ?_
  conv => whnf
  refine ⟨_, _, ⟨WkL.refl _, hdf⟩, fun res s1 h => ?_⟩
  obtain ⟨tl, rfl, rfl⟩ := h
  conv => whnf
  have hst : (stayL ks l).length ≤ l.length := List.length_filter_le _ _
  exact ⟨cap, tl, by omega, rfl, rfl⟩
/-- As data. -/
theorem purge (cnt fdr hop : Int) (mem : List Int) (hm : mem.length ≤ 100000) (l : List En) (hl : l.length ≤ 1000) (hb : ∀ e ∈ l, e.bids.length ≤ 100000) (ks : List (Int × Int × Int)) (hk : ks.length ≤ 100000) :
    Contract Try.prog G0 62 [awG cnt fdr hop mem l, .d (.list 3 (rowsK ks))] [] (fun r t => r = awG cnt fdr hop mem (stayL ks l) ∧ t = []) := by
  cases l with
  | nil => exact purge_nil cnt fdr hop mem hm ks hk
  | cons e0 l0 =>
    refine (purge_cons cnt fdr hop mem hm e0 l0 (by simpa using hl) hb ks hk).told fun r t hr => ?_
    obtain ⟨cap, tl, hc, rfl, rfl⟩ := hr
    refine ⟨awG cnt fdr hop mem (stayL ks (e0 :: l0)), ?_, rfl, rfl, rfl⟩
    have hrl := rowsE_len (stayL ks (e0 :: l0))
    refine GV.trans (GV.freeze 0 rfl (by simp) (by repeat' first | exact trivial | apply And.intro | decide | (simp; done) | (simp; omega) | omega) (by repeat' first | exact trivial | apply And.intro)) (GV.tidied [0] ?_)
    conv => whnf
    rw [List.drop_zero, List.take_left' (by omega)]
    exact ⟨rfl, rfl⟩
end Go.Proofs.Ytkenimmellonjaa
/- Seat r2: those that are not named go: what the loop over the map does. -/
namespace Go.Proofs.Ytkenimmellonjaa
open Go.RowKit Go.Maps Go.Shelf
open Go.ChangeMaps (setBlock)
open Go.Pv
/-- An entry: its latch, its stamp. -/
def mkE (z : Kl × Nat) : MapEntry := ⟨.agg #[.int .i64 z.1.1, .int .i64 z.1.2.1], encK z.1, z.2⟩
theorem kval_dxC (c : Int × Int) : kval (dxC c) = .agg #[.int .i64 c.1, .int .i64 c.2] := rfl
/-- 'delete' of a key that is there. -/
theorem run_drop (W : World) (b : Nat) (zs : List (Kl × Nat)) (clock : Nat) (hb : W.heap[b]? = some (.map (zs.map mkE).toArray clock)) (hk : (zs.map fun z => keyC z.1).Nodup) (z : Kl × Nat) (hz : z ∈ zs) (ty : TypeId) :
    ∃ j, zs[j]? = some z ∧ (Builtin.delete_ #[31, 36] ty #[.map (some b), .agg #[.int .i64 z.1.1, .int .i64 z.1.2.1]]).run Try.prog W = .ok (.tuple #[]) (setBlock W b (.map ((zs.eraseIdx j).map mkE).toArray clock)) := by
  have hf := flat_find (P := Try.prog) (T := T) (w := W) tabOK flat36 stood36 (a := dxC (keyC z.1)) (dxC_good _) (zs.map mkE) (zs.map fun z => dxC (keyC z.1)) (by simp) (fun i e d he hd => by
    rw [List.getElem?_map] at he hd
    cases hi : zs[i]? with
    | none => rw [hi] at he; cases he
    | some y =>
      rw [hi] at he hd
      cases he
      cases hd
      exact ⟨rfl, dxC_good _⟩)
  rcases hf with ⟨_, hno⟩ | ⟨j, e, hrun, he, hd⟩
  · exact absurd rfl (hno (dxC (keyC z.1)) (List.mem_map.2 ⟨z, hz, rfl⟩))
  · rw [List.getElem?_map] at hd he
    cases hj : zs[j]? with
    | none => rw [hj] at hd; cases hd
    | some y =>
      rw [hj] at hd he
      have hkey : keyC y.1 = keyC z.1 := dxC_inj _ _ (by simpa using hd)
      obtain ⟨i, hi⟩ := List.mem_iff_getElem?.1 hz
      have hij : i = j := by
        have h1 := (List.getElem?_eq_some_iff.1 hi).1
        have h2 : (zs.map fun z => keyC z.1)[i]? = (zs.map fun z => keyC z.1)[j]? := by
          rw [List.getElem?_map, List.getElem?_map, hi, hj]; simp [hkey]
        exact (List.getElem?_inj (by simpa using h1) hk).1 h2
      subst hij
      rw [hi] at hj
      cases hj
      refine ⟨i, hi, ?_⟩
      have hun : (underlying 31).run Try.prog W = .ok (.map 36 38) W := run_underlying Try.underlying31 W
      have hch := flat_check (P := Try.prog) (T := T) (w := W) tabOK flat36 (a := dxC (keyC z.1)) (dxC_good _)
      rw [kval_dxC] at hch hrun
      have hch : ∀ em, (Instr.checkKey em 10000 36 (.agg #[.int .i64 z.1.1, .int .i64 z.1.2.1])).run Try.prog W = .ok () W := hch
      have hrun : (Instr.findKey 36 (.agg #[.int .i64 z.1.1, .int .i64 z.1.2.1]) (zs.map mkE)).run Try.prog W = .ok (some (i, e.val)) W := hrun
      unfold Builtin.delete_
      have hset : ∀ o, (setObj b o).run Try.prog W = .ok () (setBlock W b o) := fun o => by simp [setObj, Sem.run, hb, setBlock]
      have hme := map_erase mkE zs i
      simp [Sem.run_bind, hun, run_getMap hb, hch, hrun, Result.andThen, hset, hme]
/-- Which entries are there still: those that have not been met, and those that stay. -/
def cur (p : Kl → Bool) (S : List Nat) (z : Kl × Nat) : Bool := !S.contains z.2 || p z.1
def esOf (p : Kl → Bool) (S : List Nat) (zs : List (Kl × Nat)) : Array MapEntry := ((zs.filter (cur p S)).map mkE).toArray
/-- Under way. -/
structure Keeping (w wr : World) (b r : Nat) (zs : List (Kl × Nat)) (clock : Nat) (p : Kl → Bool) (S : List Nat) (c0 : Nat) : Prop where
  map : wr.heap[b]? = some (.map (esOf p S zs) clock)
  iter : wr.heap[r]? = some (.mapIter (some b) clock S.toArray c0)
  le : clock ≤ c0
  nd : S.Nodup
  sub : ∀ s ∈ S, ∃ z ∈ zs, z.2 = s
  gr : w.grownBy wr (some b)
def goneN (p : Kl → Bool) (S : List Nat) (zs : List (Kl × Nat)) : Nat := (zs.filter fun z => S.contains z.2 && !p z.1).length
theorem stamp_eq {zs : List (Kl × Nat)} (hs : (zs.map (·.2)).Nodup) {y z : Kl × Nat} (hy : y ∈ zs) (hz : z ∈ zs) (h : y.2 = z.2) : y = z := key_uniq (κ := fun z : Kl × Nat => z.2) hs hy hz h
theorem has_snoc {S : List Nat} {a b : Nat} : (S ++ [a]).contains b = (S.contains b || (a == b)) := by
  rw [Bool.eq_iff_iff, Bool.or_eq_true, List.contains_iff_mem, List.contains_iff_mem, List.mem_append, List.mem_singleton, beq_iff_eq]
  constructor
  · rintro (h | h)
    · exact .inl h
    · exact .inr h.symm
  · rintro (h | h)
    · exact .inl h
    · exact .inr h.symm
theorem filter_one {f g : Kl × Nat → Bool} {z : Kl × Nat} : ∀ {zs : List (Kl × Nat)}, (zs.map (·.2)).Nodup → z ∈ zs → f z = false → g z = true → (∀ y ∈ zs, y.2 ≠ z.2 → g y = f y) → (zs.filter g).length = (zs.filter f).length + 1
  | [], _, hz, _, _, _ => by cases hz
  | x :: r, hs, hz, hf, hg, h => by
    rw [List.map_cons, List.nodup_cons] at hs
    rcases List.mem_cons.1 hz with rfl | hz
    · have : r.filter g = r.filter f := List.filter_congr fun y hy => h y (List.mem_cons_of_mem _ hy) fun e => hs.1 (e ▸ List.mem_map_of_mem hy)
      rw [List.filter_cons, List.filter_cons, hf, hg, this]
      simp
    · have hx : x.2 ≠ z.2 := fun e => hs.1 (e ▸ List.mem_map_of_mem hz)
      have ih := filter_one hs.2 hz hf hg fun y hy => h y (List.mem_cons_of_mem _ hy)
      rw [List.filter_cons, List.filter_cons, h x (List.mem_cons_self ..) hx]
      cases f x
      · simpa using ih
      · simp only [if_true, List.length_cons, ih]
theorem erase_filter : ∀ {l : List (Kl × Nat)} {j : Nat} {z : Kl × Nat}, (l.map (·.2)).Nodup → l[j]? = some z → l.eraseIdx j = l.filter fun y => y.2 != z.2
  | [], j, z, _, h => by simp at h
  | x :: r, 0, z, hs, h => by
    rw [List.map_cons, List.nodup_cons] at hs
    simp at h
    subst h
    rw [List.filter_cons]
    simp only [bne_self_eq_false, Bool.false_eq_true, if_false, List.eraseIdx_cons_zero]
    refine (List.filter_eq_self.2 fun y hy => ?_).symm
    have : y.2 ≠ x.2 := fun e => hs.1 (e ▸ List.mem_map_of_mem hy)
    simpa using this
  | x :: r, j + 1, z, hs, h => by
    rw [List.map_cons, List.nodup_cons] at hs
    have h : r[j]? = some z := by simpa using h
    have hx : x.2 ≠ z.2 := fun e => hs.1 (e ▸ List.mem_map_of_mem (List.mem_of_getElem? h))
    rw [List.eraseIdx_cons_succ, erase_filter hs.2 h, List.filter_cons]
    simp [hx]
theorem cur_keep {p : Kl → Bool} {S : List Nat} {zs : List (Kl × Nat)} {z : Kl × Nat} (hs : (zs.map (·.2)).Nodup) (hz : z ∈ zs) (hp : p z.1 = true) : zs.filter (cur p (S ++ [z.2])) = zs.filter (cur p S) := List.filter_congr fun y hy => by
  unfold cur
  rw [has_snoc]
  by_cases h : y.2 = z.2
  · rw [stamp_eq hs hy hz h, hp]; simp
  · have : (z.2 == y.2) = false := by simpa using fun e => h e.symm
    rw [this, Bool.or_false]
theorem cur_drop {p : Kl → Bool} {S : List Nat} {zs : List (Kl × Nat)} {z : Kl × Nat} (hs : (zs.map (·.2)).Nodup) (hz : z ∈ zs) (hp : p z.1 = false) : zs.filter (cur p (S ++ [z.2])) = (zs.filter (cur p S)).filter fun y => y.2 != z.2 := by
  rw [List.filter_filter]
  refine List.filter_congr fun y hy => ?_
  unfold cur
  rw [has_snoc]
  by_cases h : y.2 = z.2
  · rw [stamp_eq hs hy hz h, hp]; simp
  · have : (z.2 == y.2) = false := by simpa using fun e => h e.symm
    rw [this, Bool.or_false]
    have : (y.2 != z.2) = true := by simpa using h
    rw [this, Bool.true_and]
theorem gone_keep {p : Kl → Bool} {S : List Nat} {zs : List (Kl × Nat)} {z : Kl × Nat} (hs : (zs.map (·.2)).Nodup) (hz : z ∈ zs) (hp : p z.1 = true) : goneN p (S ++ [z.2]) zs = goneN p S zs := congrArg List.length (List.filter_congr fun y hy => by
  rw [has_snoc]
  by_cases h : y.2 = z.2
  · rw [stamp_eq hs hy hz h, hp]; simp
  · have : (z.2 == y.2) = false := by simpa using fun e => h e.symm
    rw [this, Bool.or_false])
theorem gone_drop {p : Kl → Bool} {S : List Nat} {zs : List (Kl × Nat)} {z : Kl × Nat} (hs : (zs.map (·.2)).Nodup) (hz : z ∈ zs) (hzS : z.2 ∉ S) (hp : p z.1 = false) : goneN p (S ++ [z.2]) zs = goneN p S zs + 1 :=
  filter_one hs hz (by simp [hzS]) (by rw [hp]; simp) fun y hy h => by
    have : (z.2 == y.2) = false := by simpa using fun e => h e.symm
    rw [has_snoc, this, Bool.or_false]
theorem Keeping.seen {w wr : World} {b r clock c0 : Nat} {zs : List (Kl × Nat)} {p : Kl → Bool} {S : List Nat} (h : Keeping w wr b r zs clock p S c0) : seenAt wr r = S.length := by
  unfold seenAt
  rw [h.iter]
  simp
theorem Keeping.len {w wr : World} {b r clock c0 : Nat} {zs : List (Kl × Nat)} {p : Kl → Bool} {S : List Nat} (h : Keeping w wr b r zs clock p S c0) : S.length ≤ zs.length := by
  have := nd_leV h.nd (b := zs.map (·.2)) fun s hs => by
    obtain ⟨z, hz, rfl⟩ := h.sub s hs
    exact List.mem_map_of_mem hz
  simpa using this
theorem gone_le (p : Kl → Bool) (S : List Nat) (zs : List (Kl × Nat)) : goneN p S zs ≤ zs.length := List.length_filter_le ..
set_option maxRecDepth 100000 in
set_option maxHeartbeats 2000000 in
theorem keepW (n : Nat) (hn : 2 ≤ n) (c b : Nat) (tt : TypeId) (zs : List (Kl × Nat)) (clock : Nat) (w : World) (v1 : Value) (p : Kl → Bool)
    (hc : w.heap[c]? = some (.cells #[.map (some b)] tt (0, 0))) (hb : w.heap[b]? = some (.map (zs.map mkE).toArray clock)) (hk : (zs.map fun z => keyC z.1).Nodup) (hs : (zs.map (·.2)).Nodup) (ho : ∀ z ∈ zs, z.2 < clock) (hzl : zs.length ≤ 100000)
    (hcont : ∀ W, w.grownBy W (some b) → ∀ k : Kl, Calls Try.prog 78 #[v1, encK k] W fun e w' => e = .returned (.bool (p k)) ∧ Below W.heap.size W w') :
    CallsIn Fence.wide n Try.prog 44 #[.pointer (some ⟨c, 0, none⟩), v1] w fun e w' => e = .returned (.int .i64 ((zs.filter fun z => !p z.1).length : Int)) ∧ w'.heap[b]? = some (.map ((zs.filter fun z => p z.1).map mkE).toArray clock) ∧ w.grownBy w' (some b) := by
  refine callsIn_of_wp Try.func44 rfl trivial ?_ rfl
  simp only [Try.ntmps44, List.size_toArray, List.length_cons, List.length_nil, Nat.reduceAdd, Nat.reduceSub, Array.replicate_succ, Array.replicate_zero, List.push_toArray, List.append_toArray, List.nil_append, List.cons_append]
  have hbl := (Array.getElem?_eq_some_iff.1 hb).1
  have hcl := (Array.getElem?_eq_some_iff.1 hc).1
  have hc0 : w.cell? ⟨c, 0, none⟩ = some (.map (some b)) := by simp [World.cell?, hc]
  gi_wp2_with (first
    | (gi_at_range; refine range_raw rfl _ 31 rfl 36 38 Try.underlying31 b _ clock rfl hb ?_)
    | gi_in)
  go_frame
  gi_loopw [5] (fun u5 wr => ∃ (S : List Nat) (c0 : Nat), Keeping w wr b w.heap.size zs clock p S c0 ∧ u5 = .int .i64 (goneN p S zs : Int))
    (fun _ wr => zs.length - seenAt wr w.heap.size)
  case atStart =>
    refine ⟨[], clock, ⟨?_, World.alloc_heap_new w _, Nat.le_refl _, .nil, by simp, World.grownBy_alloc w _ _⟩, ?_⟩
    · rw [Below.heap_alloc w _ b hbl, hb]
      have : zs.filter (cur p []) = zs := List.filter_eq_self.2 fun z _ => rfl
      rw [esOf, this]
    · have : zs.filter (fun z => List.contains [] z.2 && !p z.1) = [] := List.filter_eq_nil_iff.2 fun z _ => by simp
      rw [goneN, this]
      rfl
  case round =>
    obtain ⟨S, c0, hK, rfl⟩ := hrel
    have hKm := hK.map
    have hmem : ∀ e ∈ esOf p S zs, ∃ z ∈ zs.filter (cur p S), mkE z = e := fun e he => List.mem_map.1 (List.mem_toArray.1 he)
    have hold : ∀ x ∈ (esOf p S zs).toList, x.born < clock := fun x hx => by
      obtain ⟨z, hz, rfl⟩ := hmem x (Array.mem_toList_iff.1 hx)
      exact ho z (List.mem_filter.1 hz).1
    gi_wp2_with (first
      | (gi_at_next; refine next_raw rfl _ rfl b w.heap.size clock c0 S.toArray (esOf p S zs) clock rfl hK.iter hKm hold hK.le ?_ ?_)
      | gi_in)
    · intro hall
      have hin : ∀ z ∈ zs, p z.1 = false → S.contains z.2 = true := fun z hz hp => by
        cases hS : S.contains z.2 with
        | true => rfl
        | false =>
          have hz2 : z ∈ zs.filter (cur p S) := List.mem_filter.2 ⟨hz, by unfold cur; rw [hS]; rfl⟩
          have := hall (mkE z) (List.mem_toArray.2 (List.mem_map_of_mem hz2))
          have h1 : z.2 ∈ S := by simpa [mkE] using this
          have h2 : S.contains z.2 = true := List.contains_iff_mem.2 h1
          rw [hS] at h2
          cases h2
      have hcur : zs.filter (cur p S) = zs.filter fun z => p z.1 := List.filter_congr fun z hz => by
        unfold cur
        cases hp : p z.1 with
        | true => simp
        | false => rw [hin z hz hp]; rfl
      have hgone : goneN p S zs = (zs.filter fun z => !p z.1).length := congrArg List.length (List.filter_congr fun z hz => by
        cases hp : p z.1 with
        | true => simp
        | false => rw [hin z hz hp]; rfl)
      gi_wp2
      go_ret
      rw [hgone]
      refine ⟨rfl, ?_, hK.gr⟩
      rw [hKm, esOf, hcur]
    · intro e he hes w1 hw1
      obtain ⟨z, hz, rfl⟩ := hmem e he
      have hzS : z.2 ∉ S := by simpa [mkE] using hes
      have hrb : w.heap.size ≠ b := by omega
      have e2 : S.toArray.push (mkE z).born = (S ++ [z.2]).toArray := by simp [mkE]
      rw [show (mkE z).born = z.2 from rfl]
      have hh1 : w1.heap = wr.heap := by rcases hw1 with rfl | rfl <;> rfl
      have hrl := (Array.getElem?_eq_some_iff.1 hK.iter).1
      have hit2 : (setBlock w1 w.heap.size (.mapIter (some b) clock (S ++ [z.2]).toArray clock)).heap[w.heap.size]? = some (.mapIter (some b) clock (S ++ [z.2]).toArray clock) := by
        show (w1.heap.setIfInBounds _ _)[_]? = _
        rw [Array.getElem?_setIfInBounds_self_of_lt (by rw [hh1]; exact hrl)]
      have hmp2 : (setBlock w1 w.heap.size (.mapIter (some b) clock (S ++ [z.2]).toArray clock)).heap[b]? = some (.map (esOf p S zs) clock) := by
        show (w1.heap.setIfInBounds _ _)[_]? = _
        rw [Array.getElem?_setIfInBounds_ne hrb, hh1]; exact hKm
      have hg2 : w.grownBy (setBlock w1 w.heap.size (.mapIter (some b) clock (S ++ [z.2]).toArray clock)) (some b) := by
        have hg := hK.gr
        have hx : w1.os = wr.os ∧ w1.output = wr.output ∧ w1.tape = wr.tape := by rcases hw1 with rfl | rfl <;> exact ⟨rfl, rfl, rfl⟩
        refine ⟨hx.1.trans hg.os, hx.2.2.trans hg.tape, hx.2.1.trans hg.output, ?_, fun k hk hkb => ?_⟩
        · show w.heap.size ≤ (w1.heap.setIfInBounds _ _).size
          rw [Array.size_setIfInBounds, hh1]; exact hg.size
        · show (w1.heap.setIfInBounds _ _)[k]? = _
          rw [Array.getElem?_setIfInBounds_ne (by omega), hh1]; exact hg.block k hk hkb
      have hne : ((esOf p S zs).toList.map (·.born)).Nodup := by
        have h1 : ((zs.filter (cur p S)).map (·.2)).Nodup := hs.sublist (List.filter_sublist.map _)
        unfold esOf
        simpa [List.map_map, Function.comp_def, mkE] using h1
      have hen := run_entry_at (P := Try.prog) _ w.heap.size b clock S.toArray (esOf p S zs) clock (mkE z) (by rw [e2]; exact hit2) hmp2 (Array.mem_toList_iff.2 he) hne
      generalize setBlock w1 w.heap.size (.mapIter (some b) clock (S ++ [z.2]).toArray clock) = w2 at hit2 hmp2 hg2 hen
      unfold mkE encK at hen
      unfold mkE encK
      have hg3 : w.grownBy ((w2.alloc (.cells #[.int .i64 z.1.1, .int .i64 z.1.2.1] 36)).alloc (.cells #[.int .i64 z.1.1, .int .i64 z.1.2.1, .int .i64 z.1.2.2] 38)) (some b) :=
        (hg2.andThen (World.grownBy_alloc w2 _ none) (fun j e => by cases e)).andThen (World.grownBy_alloc _ _ none) (fun j e => by cases e)
      have hsz2 := hg2.size
      have hc3 := hcont _ hg3 z.1
      unfold encK at hc3
      have hh3 : ∀ k, k < w2.heap.size → ((w2.alloc (.cells #[.int .i64 z.1.1, .int .i64 z.1.2.1] 36)).alloc (.cells #[.int .i64 z.1.1, .int .i64 z.1.2.1, .int .i64 z.1.2.2] 38)).heap[k]? = w2.heap[k]? := fun k hk => by
        rw [Below.heap_alloc _ _ k (by simp; omega), Below.heap_alloc _ _ k hk]
      have hx3 : ((w2.alloc (.cells #[.int .i64 z.1.1, .int .i64 z.1.2.1] 36)).alloc (.cells #[.int .i64 z.1.1, .int .i64 z.1.2.1, .int .i64 z.1.2.2] 38)).heap[w2.heap.size]? = some (.cells #[.int .i64 z.1.1, .int .i64 z.1.2.1] 36 (0, 0)) := by
        rw [Below.heap_alloc _ _ _ (by simp)]
        exact World.alloc_heap_new w2 _
      have hbl2 : b < w2.heap.size := by omega
      have hrl2 := (Array.getElem?_eq_some_iff.1 hit2).1
      gi_wp2
      refine ⟨trivial, fun _ => by omega, (callsIn_wide.2 hc3).mono ?_⟩
      rintro e w4 ⟨rfl, hB4⟩
      clear hc3 hen
      generalize ((w2.alloc (.cells #[.int .i64 z.1.1, .int .i64 z.1.2.1] 36)).alloc (.cells #[.int .i64 z.1.1, .int .i64 z.1.2.1, .int .i64 z.1.2.2] 38)) = w3 at hg3 hh3 hx3 hB4
      have hsz3 : w2.heap.size < w3.heap.size := (Array.getElem?_eq_some_iff.1 hx3).1
      have hg4 : w.grownBy w4 (some b) := hg3.andThen (row' := none) ⟨hB4.os, hB4.tape, hB4.output, hB4.size, fun k hk _ => hB4.block k hk⟩ (fun j e => by cases e)
      have hmp4 : w4.heap[b]? = some (.map (esOf p S zs) clock) := by rw [hB4.block b (by omega), hh3 b hbl2]; exact hmp2
      have hit4 : w4.heap[w.heap.size]? = some (.mapIter (some b) clock (S ++ [z.2]).toArray clock) := by rw [hB4.block _ (by omega), hh3 _ hrl2]; exact hit2
      have hx4 : w4.heap[w2.heap.size]? = some (.cells #[.int .i64 z.1.1, .int .i64 z.1.2.1] 36 (0, 0)) := by rw [hB4.block _ hsz3]; exact hx3
      have hc4 : w4.heap[c]? = some (.cells #[.map (some b)] tt (0, 0)) := by rw [hg4.block c hcl (by simpa using fun e => by rw [e, hb] at hc; cases hc)]; exact hc
      have k0 : w4.cell? ⟨c, 0, none⟩ = some (.map (some b)) := by simp [World.cell?, hc4]
      have k1 : w4.cell? ⟨w2.heap.size, 0, none⟩ = some (.int .i64 z.1.1) := by simp [World.cell?, hx4]
      have k2 : w4.cell? ⟨w2.heap.size, 1, none⟩ = some (.int .i64 z.1.2.1) := by simp [World.cell?, hx4]
      have hzz := (List.mem_filter.1 hz).1
      have hS2 : (S ++ [z.2]).Nodup := List.nodup_append.2 ⟨hK.nd, by simp, fun x hx y hy => by
        rw [List.mem_singleton] at hy
        subst hy
        exact fun e => hzS (e ▸ hx)⟩
      have hS3 : ∀ s ∈ S ++ [z.2], ∃ y ∈ zs, y.2 = s := fun s hsm => by
        rcases List.mem_append.1 hsm with h | h
        · exact hK.sub s h
        · rw [List.mem_singleton.1 h]; exact ⟨z, hzz, rfl⟩
      have hseen := hK.seen
      cases hp : p z.1 with
      | true =>
        have hK4 : Keeping w w4 b w.heap.size zs clock p (S ++ [z.2]) clock := ⟨by rw [esOf, cur_keep hs hzz hp]; exact hmp4, hit4, Nat.le_refl _, hS2, hS3, hg4⟩
        gi_wp2
        refine ⟨⟨S ++ [z.2], clock, hK4, by rw [gone_keep hs hzz hp]⟩, ?_⟩
        have h1 := hK4.seen
        have h2 := hK4.len
        rw [h1, hseen]
        simp only [List.length_append, List.length_cons, List.length_nil] at h2 ⊢
        omega
      | false =>
        obtain ⟨j, hj, hrun⟩ := run_drop w4.drew b (zs.filter (cur p S)) clock hmp4 (hk.sublist (List.filter_sublist.map _)) z hz 0
        gi_wp2
        have hel : ((zs.filter (cur p S)).map (·.2)).Nodup := hs.sublist (List.filter_sublist.map _)
        have hgr5 : w4.grownBy (setBlock w4.drew b (.map (((zs.filter (cur p S)).eraseIdx j).map mkE).toArray clock)) (some b) := by
          refine ⟨rfl, rfl, rfl, ?_, fun k _ hk => ?_⟩
          · show w4.heap.size ≤ (w4.heap.setIfInBounds b _).size
            rw [Array.size_setIfInBounds]; exact Nat.le_refl _
          · show (w4.heap.setIfInBounds b _)[k]? = _
            rw [Array.getElem?_setIfInBounds_ne (fun q => hk (by rw [q]))]
        have hb4 := (Array.getElem?_eq_some_iff.1 hmp4).1
        have hK5 : Keeping w (setBlock w4.drew b (.map (((zs.filter (cur p S)).eraseIdx j).map mkE).toArray clock)) b w.heap.size zs clock p (S ++ [z.2]) clock := by
          refine ⟨?_, ?_, Nat.le_refl _, hS2, hS3, hg4.andThen hgr5 (fun k e => .inr e)⟩
          · show (w4.heap.setIfInBounds b _)[b]? = _
            rw [Array.getElem?_setIfInBounds_self_of_lt hb4, esOf, cur_drop hs hzz hp, erase_filter hel hj]
          · show (w4.heap.setIfInBounds b _)[w.heap.size]? = _
            rw [Array.getElem?_setIfInBounds_ne (fun q => hrb q.symm)]; exact hit4
        have hgl := gone_le p S zs
        have hgd := gone_drop hs hzz hzS hp
        have h1 := hK5.seen
        have h2 := hK5.len
        gi_region
        clear hrun hgr5
        generalize setBlock w4.drew b (.map (((zs.filter (cur p S)).eraseIdx j).map mkE).toArray clock) = w5 at hK5 h1
        gi_wp2
        refine ⟨⟨S ++ [z.2], clock, hK5, by rw [hgd]; rfl⟩, ?_⟩
        rw [h1, hseen]
        simp only [List.length_append, List.length_cons, List.length_nil] at h2 ⊢
        omega
end Go.Proofs.Ytkenimmellonjaa
/- Seat r2: how calls are held against one another, told to the world. -/
namespace Go.Proofs.Ytkenimmellonjaa
open Go.RowKit Go.Shelf
def cmpW (a b : Int) : Int := if a < b then -1 else if a > b then 1 else 0
set_option maxHeartbeats 1000000 in
theorem nan121 (x : Int) (W : World) : Calls Try.prog 121 #[.int .i64 x] W fun e w' => e = .returned (.bool false) ∧ w' = W := by
  go_enter Try.func121, Try.ntmps121
  go_wp2
  go_ret
  exact ⟨by simp, rfl⟩
set_option maxHeartbeats 1000000 in
theorem compare95 (x y : Int) (W : World) : Calls Try.prog 95 #[.int .i64 x, .int .i64 y] W fun e w' => e = .returned (.int .i64 (cmpW x y)) ∧ w' = W := by
  go_enter Try.func95, Try.ntmps95
  go_wp2_with (go_at_call 121; refine (nan121 _ _).mono ?_; rintro e w' ⟨rfl, rfl⟩)
  · go_ret
    have e : cmpW x y = -1 := by rw [cmpW, if_pos (by assumption)]
    rw [e]
    exact ⟨rfl, rfl⟩
  · go_ret
    have e : cmpW x y = 1 := by rw [cmpW, if_neg (by omega), if_pos (by omega)]
    rw [e]
    exact ⟨rfl, rfl⟩
  · go_ret
    have e : cmpW x y = 0 := by rw [cmpW, if_neg (by omega), if_neg (by omega)]
    rw [e]
    exact ⟨rfl, rfl⟩
def orW (p q : Int) : Int := if p = 0 then q else p
set_option maxHeartbeats 1000000 in
theorem or94 (b : Nat) (p q : Int) (W : World) (h0 : W.cell? ⟨b, 0, none⟩ = some (.int .i64 p)) (h1 : W.cell? ⟨b, 1, none⟩ = some (.int .i64 q)) :
    Calls Try.prog 94 #[.slice (some ⟨b, 0, none⟩) 2 2] W fun e w' => e = .returned (.int .i64 (orW p q)) ∧ w' = W := by
  go_enter Try.func94, Try.ntmps94
  go_wp2
  refine wp_loop_rounds 3 ?_
  rw [rounds_succ]
  go_wp2
  · go_ret
    have e : orW p q = p := by simp_all [orW]
    rw [e]
    exact ⟨rfl, rfl⟩
  rw [rounds_succ]
  go_wp2
  · go_ret
    have e : orW p q = q := by simp_all [orW]
    rw [e]
    exact ⟨rfl, rfl⟩
  rw [rounds_succ]
  go_wp2
  go_ret
  have e : orW p q = 0 := by simp_all [orW]
  rw [e]
  exact ⟨rfl, rfl⟩
theorem or94b (A : World) (b : Nat) (p q : Int) (hb : b = A.heap.size) : Calls Try.prog 94 #[.slice (some ⟨b, 0, none⟩) 2 2] (A.alloc (.cells #[.int .i64 p, .int .i64 q] 3)).drew fun e w' => e = .returned (.int .i64 (orW p q)) ∧ w' = (A.alloc (.cells #[.int .i64 p, .int .i64 q] 3)).drew := by
  subst hb
  exact or94 _ p q _ (by simp) (by simp)
set_option maxHeartbeats 2000000 in
theorem compare76 (x y : Int × Int) (W : World) : Calls Try.prog 76 #[.agg #[.int .i64 x.1, .int .i64 x.2], .agg #[.int .i64 y.1, .int .i64 y.2]] W fun e w' => e = .returned (.int .i64 (orW (cmpW x.1 y.1) (cmpW x.2 y.2))) ∧ ∃ k os', w' = Sort.grow (W.drewN k) os' := by
  go_enter Try.func76, Try.ntmps76
  go_wp2
  go_region_held3 (fun w' => w'.cell? ⟨W.heap.size, 0, none⟩ = some (.int .i64 x.1) ∧ w'.cell? ⟨W.heap.size, 1, none⟩ = some (.int .i64 x.2) ∧ w'.cell? ⟨W.heap.size + 1, 0, none⟩ = some (.int .i64 y.1) ∧ w'.cell? ⟨W.heap.size + 1, 1, none⟩ = some (.int .i64 y.2)) (go_keep)
    (first
      | (go_at_call 95; refine (compare95 _ _ _).mono ?_; rintro e w' ⟨rfl, rfl⟩)
      | (go_at_call 94; refine (or94b _ _ _ _ (by simp)).mono ?_; rintro e w' ⟨rfl, rfl⟩))
  all_goals
    go_wp2
    go_ret
    exact ⟨rfl, 1, _, by rw [Sort.alloc_eq_grow, Sort.alloc_eq_grow, Sort.alloc_eq_grow, Sort.grow_grow, Sort.grow_grow]; rfl⟩
set_option maxHeartbeats 2000000 in
theorem compare75 (x y : Int × Int × Int) (W : World) : Calls Try.prog 75 #[.agg #[.int .i64 x.1, .int .i64 x.2.1, .int .i64 x.2.2], .agg #[.int .i64 y.1, .int .i64 y.2.1, .int .i64 y.2.2]] W fun e w' => e = .returned (.int .i64 (orW (cmpW x.1 y.1) (cmpW x.2.1 y.2.1))) ∧ ∃ k os', w' = Sort.grow (W.drewN k) os' := by
  have hcon := fun W' => compare76 (x.1, x.2.1) (y.1, y.2.1) W'
  go_enter Try.func75, Try.ntmps75
  go_wp2_with (go_at_call 76; refine (hcon _).mono ?_; rintro e w' ⟨rfl, k, os, rfl⟩)
  go_ret
  exact ⟨rfl, k, _, by rw [Sort.alloc_eq_grow, Sort.alloc_eq_grow, Sort.grow_grow]; exact Sort.grow_grow (W.drewN k) _ _⟩
end Go.Proofs.Ytkenimmellonjaa
/- The library that this program reaches, as the kit's shelf wants it laid: printed by a program. -/
namespace Go.Proofs.Ytkenimmellonjaa
open Go.Shelf
def laysF_ren : Ren :=
  {
    f := fun x =>
      match x with
      | 6 => 103
      | 15 => 101
      | 14 => 137
      | 28 => 134
      | 29 => 135
      | 20 => 142
      | 21 => 150
      | 22 => 151
      | 23 => 152
      | 24 => 153
      | 25 => 154
      | 26 => 155
      | 27 => 156
      | 46 => 161
      | 47 => 146
      | 48 => 147
      | 49 => 162
      | 50 => 163
      | 57 => 166
      | n => n,
    t := fun x =>
      match x with
      | 22 => 30
      | 24 => 38
      | 25 => 106
      | 3 => 3
      | 39 => 130
      | 0 => 0
      | 53 => 155
      | 55 => 157
      | 4 => 4
      | 46 => 149
      | 45 => 148
      | 50 => 25
      | 5 => 5
      | 9 => 9
      | 66 => 163
      | 70 => 167
      | 76 => 174
      | 77 => 175
      | n => n,
    g := fun x =>
      have n := x;
      n }
theorem laysF : SlLaysF0.n6 Try.prog laysF_ren :=
  { mixed := Eq.refl true,
    f6 :=
      Exists.intro "slices.SortFunc[[]paternoster/api.Latch,paternoster/api.Latch]"
        ⟨of_decide_eq_true (id (Eq.refl true)),
          Eq.trans Try.func103
            (congrArg some
              (Eq.refl (α := Go.Func)
                { name := "slices.SortFunc[[]paternoster/api.Latch,paternoster/api.Latch]",
                  origin := (SlBodyF.n6 laysF_ren).origin, targs := (SlBodyF.n6 laysF_ren).targs,
                  params := (SlBodyF.n6 laysF_ren).params, resultTypes := (SlBodyF.n6 laysF_ren).resultTypes,
                  nfree := (SlBodyF.n6 laysF_ren).nfree, ntmps := (SlBodyF.n6 laysF_ren).ntmps,
                  results := (SlBodyF.n6 laysF_ren).results, body := (SlBodyF.n6 laysF_ren).body,
                  norace := (SlBodyF.n6 laysF_ren).norace, ours := (SlBodyF.n6 laysF_ren).ours,
                  file := (SlBodyF.n6 laysF_ren).file, endLine := (SlBodyF.n6 laysF_ren).endLine,
                  litNo := (SlBodyF.n6 laysF_ren).litNo, met := (SlBodyF.n6 laysF_ren).met,
                  tmpNames := (SlBodyF.n6 laysF_ren).tmpNames }))⟩,
    f14 :=
      Exists.intro "slices.pdqsortCmpFunc[paternoster/api.Latch]"
        ⟨of_decide_eq_true (id (Eq.refl true)),
          Eq.trans Try.func137
            (congrArg some
              (Eq.refl (α := Go.Func)
                { name := "slices.pdqsortCmpFunc[paternoster/api.Latch]", origin := (SlBodyF.n14 laysF_ren).origin,
                  targs := (SlBodyF.n14 laysF_ren).targs, params := (SlBodyF.n14 laysF_ren).params,
                  resultTypes := (SlBodyF.n14 laysF_ren).resultTypes, nfree := (SlBodyF.n14 laysF_ren).nfree,
                  ntmps := (SlBodyF.n14 laysF_ren).ntmps, results := (SlBodyF.n14 laysF_ren).results,
                  body := (SlBodyF.n14 laysF_ren).body, norace := (SlBodyF.n14 laysF_ren).norace,
                  ours := (SlBodyF.n14 laysF_ren).ours, file := (SlBodyF.n14 laysF_ren).file,
                  endLine := (SlBodyF.n14 laysF_ren).endLine, litNo := (SlBodyF.n14 laysF_ren).litNo,
                  met := (SlBodyF.n14 laysF_ren).met, tmpNames := (SlBodyF.n14 laysF_ren).tmpNames }))⟩,
    f15 := Eq.trans Try.func101 (congrArg some (Eq.refl (SlBodyF.n15 laysF_ren))),
    f20 :=
      Exists.intro "slices.insertionSortCmpFunc[paternoster/api.Latch]"
        ⟨of_decide_eq_true (id (Eq.refl true)),
          Eq.trans Try.func142
            (congrArg some
              (Eq.refl (α := Go.Func)
                { name := "slices.insertionSortCmpFunc[paternoster/api.Latch]",
                  origin := (SlBodyF.n20 laysF_ren).origin, targs := (SlBodyF.n20 laysF_ren).targs,
                  params := (SlBodyF.n20 laysF_ren).params, resultTypes := (SlBodyF.n20 laysF_ren).resultTypes,
                  nfree := (SlBodyF.n20 laysF_ren).nfree, ntmps := (SlBodyF.n20 laysF_ren).ntmps,
                  results := (SlBodyF.n20 laysF_ren).results, body := (SlBodyF.n20 laysF_ren).body,
                  norace := (SlBodyF.n20 laysF_ren).norace, ours := (SlBodyF.n20 laysF_ren).ours,
                  file := (SlBodyF.n20 laysF_ren).file, endLine := (SlBodyF.n20 laysF_ren).endLine,
                  litNo := (SlBodyF.n20 laysF_ren).litNo, met := (SlBodyF.n20 laysF_ren).met,
                  tmpNames := (SlBodyF.n20 laysF_ren).tmpNames }))⟩,
    f21 :=
      Exists.intro "slices.heapSortCmpFunc[paternoster/api.Latch]"
        ⟨of_decide_eq_true (id (Eq.refl true)),
          Eq.trans Try.func150
            (congrArg some
              (Eq.refl (α := Go.Func)
                { name := "slices.heapSortCmpFunc[paternoster/api.Latch]", origin := (SlBodyF.n21 laysF_ren).origin,
                  targs := (SlBodyF.n21 laysF_ren).targs, params := (SlBodyF.n21 laysF_ren).params,
                  resultTypes := (SlBodyF.n21 laysF_ren).resultTypes, nfree := (SlBodyF.n21 laysF_ren).nfree,
                  ntmps := (SlBodyF.n21 laysF_ren).ntmps, results := (SlBodyF.n21 laysF_ren).results,
                  body := (SlBodyF.n21 laysF_ren).body, norace := (SlBodyF.n21 laysF_ren).norace,
                  ours := (SlBodyF.n21 laysF_ren).ours, file := (SlBodyF.n21 laysF_ren).file,
                  endLine := (SlBodyF.n21 laysF_ren).endLine, litNo := (SlBodyF.n21 laysF_ren).litNo,
                  met := (SlBodyF.n21 laysF_ren).met, tmpNames := (SlBodyF.n21 laysF_ren).tmpNames }))⟩,
    f22 :=
      Exists.intro "slices.breakPatternsCmpFunc[paternoster/api.Latch]"
        ⟨of_decide_eq_true (id (Eq.refl true)),
          Eq.trans Try.func151
            (congrArg some
              (Eq.refl (α := Go.Func)
                { name := "slices.breakPatternsCmpFunc[paternoster/api.Latch]",
                  origin := (SlBodyF.n22 laysF_ren).origin, targs := (SlBodyF.n22 laysF_ren).targs,
                  params := (SlBodyF.n22 laysF_ren).params, resultTypes := (SlBodyF.n22 laysF_ren).resultTypes,
                  nfree := (SlBodyF.n22 laysF_ren).nfree, ntmps := (SlBodyF.n22 laysF_ren).ntmps,
                  results := (SlBodyF.n22 laysF_ren).results, body := (SlBodyF.n22 laysF_ren).body,
                  norace := (SlBodyF.n22 laysF_ren).norace, ours := (SlBodyF.n22 laysF_ren).ours,
                  file := (SlBodyF.n22 laysF_ren).file, endLine := (SlBodyF.n22 laysF_ren).endLine,
                  litNo := (SlBodyF.n22 laysF_ren).litNo, met := (SlBodyF.n22 laysF_ren).met,
                  tmpNames := (SlBodyF.n22 laysF_ren).tmpNames }))⟩,
    f23 :=
      Exists.intro "slices.choosePivotCmpFunc[paternoster/api.Latch]"
        ⟨of_decide_eq_true (id (Eq.refl true)),
          Eq.trans Try.func152
            (congrArg some
              (Eq.refl (α := Go.Func)
                { name := "slices.choosePivotCmpFunc[paternoster/api.Latch]",
                  origin := (SlBodyF.n23 laysF_ren).origin, targs := (SlBodyF.n23 laysF_ren).targs,
                  params := (SlBodyF.n23 laysF_ren).params, resultTypes := (SlBodyF.n23 laysF_ren).resultTypes,
                  nfree := (SlBodyF.n23 laysF_ren).nfree, ntmps := (SlBodyF.n23 laysF_ren).ntmps,
                  results := (SlBodyF.n23 laysF_ren).results, body := (SlBodyF.n23 laysF_ren).body,
                  norace := (SlBodyF.n23 laysF_ren).norace, ours := (SlBodyF.n23 laysF_ren).ours,
                  file := (SlBodyF.n23 laysF_ren).file, endLine := (SlBodyF.n23 laysF_ren).endLine,
                  litNo := (SlBodyF.n23 laysF_ren).litNo, met := (SlBodyF.n23 laysF_ren).met,
                  tmpNames := (SlBodyF.n23 laysF_ren).tmpNames }))⟩,
    f24 :=
      Exists.intro "slices.reverseRangeCmpFunc[paternoster/api.Latch]"
        ⟨of_decide_eq_true (id (Eq.refl true)),
          Eq.trans Try.func153
            (congrArg some
              (Eq.refl (α := Go.Func)
                { name := "slices.reverseRangeCmpFunc[paternoster/api.Latch]",
                  origin := (SlBodyF.n24 laysF_ren).origin, targs := (SlBodyF.n24 laysF_ren).targs,
                  params := (SlBodyF.n24 laysF_ren).params, resultTypes := (SlBodyF.n24 laysF_ren).resultTypes,
                  nfree := (SlBodyF.n24 laysF_ren).nfree, ntmps := (SlBodyF.n24 laysF_ren).ntmps,
                  results := (SlBodyF.n24 laysF_ren).results, body := (SlBodyF.n24 laysF_ren).body,
                  norace := (SlBodyF.n24 laysF_ren).norace, ours := (SlBodyF.n24 laysF_ren).ours,
                  file := (SlBodyF.n24 laysF_ren).file, endLine := (SlBodyF.n24 laysF_ren).endLine,
                  litNo := (SlBodyF.n24 laysF_ren).litNo, met := (SlBodyF.n24 laysF_ren).met,
                  tmpNames := (SlBodyF.n24 laysF_ren).tmpNames }))⟩,
    f25 :=
      Exists.intro "slices.partialInsertionSortCmpFunc[paternoster/api.Latch]"
        ⟨of_decide_eq_true (id (Eq.refl true)),
          Eq.trans Try.func154
            (congrArg some
              (Eq.refl (α := Go.Func)
                { name := "slices.partialInsertionSortCmpFunc[paternoster/api.Latch]",
                  origin := (SlBodyF.n25 laysF_ren).origin, targs := (SlBodyF.n25 laysF_ren).targs,
                  params := (SlBodyF.n25 laysF_ren).params, resultTypes := (SlBodyF.n25 laysF_ren).resultTypes,
                  nfree := (SlBodyF.n25 laysF_ren).nfree, ntmps := (SlBodyF.n25 laysF_ren).ntmps,
                  results := (SlBodyF.n25 laysF_ren).results, body := (SlBodyF.n25 laysF_ren).body,
                  norace := (SlBodyF.n25 laysF_ren).norace, ours := (SlBodyF.n25 laysF_ren).ours,
                  file := (SlBodyF.n25 laysF_ren).file, endLine := (SlBodyF.n25 laysF_ren).endLine,
                  litNo := (SlBodyF.n25 laysF_ren).litNo, met := (SlBodyF.n25 laysF_ren).met,
                  tmpNames := (SlBodyF.n25 laysF_ren).tmpNames }))⟩,
    f26 :=
      Exists.intro "slices.partitionEqualCmpFunc[paternoster/api.Latch]"
        ⟨of_decide_eq_true (id (Eq.refl true)),
          Eq.trans Try.func155
            (congrArg some
              (Eq.refl (α := Go.Func)
                { name := "slices.partitionEqualCmpFunc[paternoster/api.Latch]",
                  origin := (SlBodyF.n26 laysF_ren).origin, targs := (SlBodyF.n26 laysF_ren).targs,
                  params := (SlBodyF.n26 laysF_ren).params, resultTypes := (SlBodyF.n26 laysF_ren).resultTypes,
                  nfree := (SlBodyF.n26 laysF_ren).nfree, ntmps := (SlBodyF.n26 laysF_ren).ntmps,
                  results := (SlBodyF.n26 laysF_ren).results, body := (SlBodyF.n26 laysF_ren).body,
                  norace := (SlBodyF.n26 laysF_ren).norace, ours := (SlBodyF.n26 laysF_ren).ours,
                  file := (SlBodyF.n26 laysF_ren).file, endLine := (SlBodyF.n26 laysF_ren).endLine,
                  litNo := (SlBodyF.n26 laysF_ren).litNo, met := (SlBodyF.n26 laysF_ren).met,
                  tmpNames := (SlBodyF.n26 laysF_ren).tmpNames }))⟩,
    f27 :=
      Exists.intro "slices.partitionCmpFunc[paternoster/api.Latch]"
        ⟨of_decide_eq_true (id (Eq.refl true)),
          Eq.trans Try.func156
            (congrArg some
              (Eq.refl (α := Go.Func)
                { name := "slices.partitionCmpFunc[paternoster/api.Latch]", origin := (SlBodyF.n27 laysF_ren).origin,
                  targs := (SlBodyF.n27 laysF_ren).targs, params := (SlBodyF.n27 laysF_ren).params,
                  resultTypes := (SlBodyF.n27 laysF_ren).resultTypes, nfree := (SlBodyF.n27 laysF_ren).nfree,
                  ntmps := (SlBodyF.n27 laysF_ren).ntmps, results := (SlBodyF.n27 laysF_ren).results,
                  body := (SlBodyF.n27 laysF_ren).body, norace := (SlBodyF.n27 laysF_ren).norace,
                  ours := (SlBodyF.n27 laysF_ren).ours, file := (SlBodyF.n27 laysF_ren).file,
                  endLine := (SlBodyF.n27 laysF_ren).endLine, litNo := (SlBodyF.n27 laysF_ren).litNo,
                  met := (SlBodyF.n27 laysF_ren).met, tmpNames := (SlBodyF.n27 laysF_ren).tmpNames }))⟩,
    f28 := Eq.trans Try.func134 (congrArg some (Eq.refl (SlBodyF.n28 laysF_ren))),
    f29 := Eq.trans Try.func135 (congrArg some (Eq.refl (SlBodyF.n29 laysF_ren))),
    f46 :=
      Exists.intro "slices.siftDownCmpFunc[paternoster/api.Latch]"
        ⟨of_decide_eq_true (id (Eq.refl true)),
          Eq.trans Try.func161
            (congrArg some
              (Eq.refl (α := Go.Func)
                { name := "slices.siftDownCmpFunc[paternoster/api.Latch]", origin := (SlBodyF.n46 laysF_ren).origin,
                  targs := (SlBodyF.n46 laysF_ren).targs, params := (SlBodyF.n46 laysF_ren).params,
                  resultTypes := (SlBodyF.n46 laysF_ren).resultTypes, nfree := (SlBodyF.n46 laysF_ren).nfree,
                  ntmps := (SlBodyF.n46 laysF_ren).ntmps, results := (SlBodyF.n46 laysF_ren).results,
                  body := (SlBodyF.n46 laysF_ren).body, norace := (SlBodyF.n46 laysF_ren).norace,
                  ours := (SlBodyF.n46 laysF_ren).ours, file := (SlBodyF.n46 laysF_ren).file,
                  endLine := (SlBodyF.n46 laysF_ren).endLine, litNo := (SlBodyF.n46 laysF_ren).litNo,
                  met := (SlBodyF.n46 laysF_ren).met, tmpNames := (SlBodyF.n46 laysF_ren).tmpNames }))⟩,
    f47 := Eq.trans Try.func146 (congrArg some (Eq.refl (SlBodyF.n47 laysF_ren))),
    f48 := Eq.trans Try.func147 (congrArg some (Eq.refl (SlBodyF.n48 laysF_ren))),
    f49 :=
      Exists.intro "slices.medianAdjacentCmpFunc[paternoster/api.Latch]"
        ⟨of_decide_eq_true (id (Eq.refl true)),
          Eq.trans Try.func162
            (congrArg some
              (Eq.refl (α := Go.Func)
                { name := "slices.medianAdjacentCmpFunc[paternoster/api.Latch]",
                  origin := (SlBodyF.n49 laysF_ren).origin, targs := (SlBodyF.n49 laysF_ren).targs,
                  params := (SlBodyF.n49 laysF_ren).params, resultTypes := (SlBodyF.n49 laysF_ren).resultTypes,
                  nfree := (SlBodyF.n49 laysF_ren).nfree, ntmps := (SlBodyF.n49 laysF_ren).ntmps,
                  results := (SlBodyF.n49 laysF_ren).results, body := (SlBodyF.n49 laysF_ren).body,
                  norace := (SlBodyF.n49 laysF_ren).norace, ours := (SlBodyF.n49 laysF_ren).ours,
                  file := (SlBodyF.n49 laysF_ren).file, endLine := (SlBodyF.n49 laysF_ren).endLine,
                  litNo := (SlBodyF.n49 laysF_ren).litNo, met := (SlBodyF.n49 laysF_ren).met,
                  tmpNames := (SlBodyF.n49 laysF_ren).tmpNames }))⟩,
    f50 :=
      Exists.intro "slices.medianCmpFunc[paternoster/api.Latch]"
        ⟨of_decide_eq_true (id (Eq.refl true)),
          Eq.trans Try.func163
            (congrArg some
              (Eq.refl (α := Go.Func)
                { name := "slices.medianCmpFunc[paternoster/api.Latch]", origin := (SlBodyF.n50 laysF_ren).origin,
                  targs := (SlBodyF.n50 laysF_ren).targs, params := (SlBodyF.n50 laysF_ren).params,
                  resultTypes := (SlBodyF.n50 laysF_ren).resultTypes, nfree := (SlBodyF.n50 laysF_ren).nfree,
                  ntmps := (SlBodyF.n50 laysF_ren).ntmps, results := (SlBodyF.n50 laysF_ren).results,
                  body := (SlBodyF.n50 laysF_ren).body, norace := (SlBodyF.n50 laysF_ren).norace,
                  ours := (SlBodyF.n50 laysF_ren).ours, file := (SlBodyF.n50 laysF_ren).file,
                  endLine := (SlBodyF.n50 laysF_ren).endLine, litNo := (SlBodyF.n50 laysF_ren).litNo,
                  met := (SlBodyF.n50 laysF_ren).met, tmpNames := (SlBodyF.n50 laysF_ren).tmpNames }))⟩,
    f57 :=
      Exists.intro "slices.order2CmpFunc[paternoster/api.Latch]"
        ⟨of_decide_eq_true (id (Eq.refl true)),
          Eq.trans Try.func166
            (congrArg some
              (Eq.refl (α := Go.Func)
                { name := "slices.order2CmpFunc[paternoster/api.Latch]", origin := (SlBodyF.n57 laysF_ren).origin,
                  targs := (SlBodyF.n57 laysF_ren).targs, params := (SlBodyF.n57 laysF_ren).params,
                  resultTypes := (SlBodyF.n57 laysF_ren).resultTypes, nfree := (SlBodyF.n57 laysF_ren).nfree,
                  ntmps := (SlBodyF.n57 laysF_ren).ntmps, results := (SlBodyF.n57 laysF_ren).results,
                  body := (SlBodyF.n57 laysF_ren).body, norace := (SlBodyF.n57 laysF_ren).norace,
                  ours := (SlBodyF.n57 laysF_ren).ours, file := (SlBodyF.n57 laysF_ren).file,
                  endLine := (SlBodyF.n57 laysF_ren).endLine, litNo := (SlBodyF.n57 laysF_ren).litNo,
                  met := (SlBodyF.n57 laysF_ren).met, tmpNames := (SlBodyF.n57 laysF_ren).tmpNames }))⟩,
    t0 := Try.underlying0, a0 := Try.isAgg0, z0 := Try.sizeOf0, v0 := Try.zeroValue0, t3 := Try.underlying3,
    a3 := Try.isAgg3, z3 := Try.sizeOf3, v3 := Try.zeroValue3, t4 := Try.underlying4, a4 := Try.isAgg4, z4 := Try.sizeOf4,
    v4 := Try.zeroValue4, t5 := Try.underlying5, a5 := Try.isAgg5, z5 := Try.sizeOf5, v5 := Try.zeroValue5,
    t9 := Try.underlying9, a9 := Try.isAgg9, z9 := Try.sizeOf9, v9 := Try.zeroValue9, t22 := Try.underlying30,
    a22 := Try.isAgg30, z22 := Try.sizeOf30, v22 := Try.zeroValue30, t25 := Try.underlying106, a25 := Try.isAgg106,
    z25 := Try.sizeOf106, v25 := Try.zeroValue106, t39 := Try.underlying130, a39 := Try.isAgg130, z39 := Try.sizeOf130,
    v39 := Try.zeroValue130, t45 := Try.underlying148, a45 := Try.isAgg148, z45 := Try.sizeOf148, v45 := Try.zeroValue148,
    t46 := Try.underlying149, a46 := Try.isAgg149, z46 := Try.sizeOf149, v46 := Try.zeroValue149, t50 := Try.underlying25,
    a50 := Try.isAgg25, z50 := Try.sizeOf25, v50 := Try.zeroValue25, t53 := Try.underlying155, a53 := Try.isAgg155,
    z53 := Try.sizeOf155, v53 := Try.zeroValue155, t55 := Try.underlying157, a55 := Try.isAgg157, z55 := Try.sizeOf157,
    v55 := Try.zeroValue157, t66 := Try.underlying163, a66 := Try.isAgg163, z66 := Try.sizeOf163, v66 := Try.zeroValue163,
    t70 := Try.underlying167, a70 := Try.isAgg167, z70 := Try.sizeOf167, v70 := Try.zeroValue167,
    t76 := Try.underlying174, a76 := Try.isAgg174, z76 := Try.sizeOf174, v76 := Try.zeroValue174,
    t77 := Try.underlying175, a77 := Try.isAgg175, z77 := Try.sizeOf175, v77 := Try.zeroValue175 }
end Go.Proofs.Ytkenimmellonjaa
/- Seat r2: latches sorted by their calls. -/
namespace Go.Proofs.Ytkenimmellonjaa
open Go.Pv Go.RowKit Go.Shelf
def cmpK (a b : Kl) : Int := orW (cmpW a.1 b.1) (cmpW a.2.1 b.2.1)
theorem cmpK_lt (a b : Kl) : cmpK a b < 0 ↔ a.1 < b.1 ∨ (a.1 = b.1 ∧ a.2.1 < b.2.1) := by
  unfold cmpK orW cmpW
  by_cases h1 : a.1 < b.1
  · simp [h1]
  · by_cases h2 : a.1 > b.1
    · have : a.1 ≠ b.1 := by omega
      simp [h1, h2, this]
    · have h3 : a.1 = b.1 := by omega
      by_cases h4 : a.2.1 < b.2.1
      · simp [h3, h4]
      · by_cases h5 : a.2.1 > b.2.1
        · simp [h3, h4, h5]
        · simp [h3, h4, h5]
theorem swoK : Sort.SWO (ltOf cmpK) where
  irrefl x := by
    unfold ltOf
    rw [decide_eq_false_iff_not, cmpK_lt]
    omega
  trans x y z h1 h2 := by
    unfold ltOf at *
    rw [decide_eq_true_iff, cmpK_lt] at *
    omega
  ntrans x y z h1 h2 := by
    unfold ltOf at *
    rw [decide_eq_false_iff_not, cmpK_lt] at *
    omega
/-- A call that lays a row anew, by what another function says. -/
theorem turnE {P : Program} {G : Gl} {f g2 sz : Nat} (hcal : Go.Pv.Callee P f) {rows : List (List DV)} {cap : Nat} (Rr : List (List DV) → Prop) (hR0 : rows = [] → Rr [])
    (h0 : ∀ A w, Calls P f #[.slice A 0 0, .func (.func g2) #[] #[]] w fun e w' => e = .returned (.tuple #[]) ∧ w' = w)
    (h1 : ∀ (F : Nat → Prop) (w : World) (b : Nat) (arr : Array Value) (tt : TypeId), w.heap[b]? = some (.cells arr tt (0, 0)) → RowV F w sz rows arr.toList →
      Calls P f #[.slice (some ⟨b, 0, none⟩) rows.length cap, .func (.func g2) #[] #[]] w fun e w' => e = .returned (.tuple #[]) ∧ ∃ rows', rows'.length = rows.length ∧ Rr rows' ∧ ∃ k os nv, nv.length = rows'.length * sz ∧ RowV F (Sort.ahead w k) sz rows' nv ∧ w' = Sort.grow ((Sort.ahead w k).setRow b (setN arr.toList 0 nv).toArray) os) :
    Contract P G f [.slc (.g 0) sz 0 rows.length cap, .fn g2 []] [(0, .row sz rows)] (fun r t => r = .tup [] ∧ ∃ rows', rows'.length = rows.length ∧ Rr rows' ∧ t = [(0, .row sz rows')]) := by
  refine ⟨hcal, fun g F U w vals hS hG hlv hv => ?_⟩
  obtain ⟨v, u, rfl⟩ : ∃ v u, vals = [v, u] := by
    match vals, hlv with
    | [v, u], _ => exact ⟨v, u, rfl⟩
  have hrv := hv 0 _ v rfl rfl
  have hru := hv 1 _ u rfl rfl
  obtain rfl : u = .func (.func g2) #[] #[] := by
    cases hru with
    | fn _ _ vs hl _ =>
      have : vs = [] := List.eq_nil_of_length_eq_zero (by simpa using hl)
      rw [this]
  have htup : ∀ (M : Mp) (F : Nat → Prop) (w : World), RV M F w (.tup []) (.tuple #[]) := fun M F w => .tup [] [] rfl (fun j x v hx => by simp at hx)
  generalize hn : rows.length = n at hrv h1
  cases hrv with
  | slc0 _ _ _ A =>
    have hr : rows = [] := List.eq_nil_of_length_eq_zero hn
    refine (h0 A w).mono fun e w' he => ?_
    obtain ⟨rfl, rfl⟩ := he
    exact ⟨_, _, _, g, F, U, rfl, ⟨rfl, [], by simp, hR0 hr, by rw [hr]⟩, fun _ _ h => h, fun id ab h => .inl ⟨ab, h⟩, fun _ h => h, fun _ h => h, fun _ h => .inl h, .refl _ _, hS, htup _ _ _⟩
  | slc _ _ _ _ _ b hm hc hs =>
    obtain ⟨arr, tt, hbk, hold⟩ := (hS.rb (.g 0) (.row sz rows) b (by simp [Here]) hm).row_of
    rw [Nat.zero_mul]
    refine (h1 F w b arr tt hbk hold).mono fun e w' he => ?_
    obtain ⟨rfl, rows', hl, hR, k, os, nv, hnl, hrow, rfl⟩ := he
    have hspl : splice rows 0 rows' = rows' := by simp [splice, hl, hn]
    have hSa := St.ahead hS k
    have hle := hold.le
    have hE := eff_rows (p := 0) hSa (id := 0) (rows := rows) (by rfl) hm (Nat.zero_le _) hrow hnl (arr := arr) (tt := tt) hbk (by rw [Nat.zero_mul, Nat.zero_add, hnl, hl, ← hn]; simpa using hle) (hold.mono (fun _ h => h) (fun _ _ => rfl))
    rw [hspl, Nat.zero_mul] at hE
    refine ⟨_, _, _, g, F, U, rfl, ⟨rfl, rows', hl, hR, ?_⟩, fun _ _ h => h, fun id ab h => ?_, fun _ h => h, fun _ h => h, fun _ h => .inl h, ?_, St.grow hE.st os, htup _ _ _⟩
    · rfl
    · exact hE.ids id ab h
    · exact ((ahead_ext w k U).trans hE.ext (fun _ h => h)).trans (grow_ext _ os hE.st.Ult) (fun _ h => h)
set_option maxHeartbeats 2000000 in
theorem ins142_none (p : Option Addr) (cap : Nat) (fv : Value) (w : World) : Calls Try.prog 142 #[.slice p 0 cap, .int .i64 0, .int .i64 0, fv] w fun e w' => e = .returned (.tuple #[]) ∧ w' = w := by
  go_enter Try.func142, Try.ntmps142
  go_wp2
  refine wp_loop_rounds 1 ?_
  rw [rounds_succ]
  go_wp2
  go_end0
  exact ⟨rfl, rfl⟩
set_option maxHeartbeats 2000000 in
theorem pdq137_none (p : Option Addr) (cap : Nat) (lim : Int) (fv : Value) (w : World) : Calls Try.prog 137 #[.slice p 0 cap, .int .i64 0, .int .i64 0, .int .i64 lim, fv] w fun e w' => e = .returned (.tuple #[]) ∧ w' = w := by
  have hi := fun W => ins142_none p cap fv W
  go_enter Try.func137, Try.ntmps137
  go_wp2
  refine wp_loop_rounds 1 ?_
  rw [rounds_succ]
  go_wp2_with (go_at_call 142; refine (hi _).mono ?_; rintro e w' ⟨rfl, rfl⟩)
  (try simp only [Exit.inBlock, Exit.then])
  refine bodyPost_ret (results_none rfl _ _ _) rfl ?_
  exact ⟨rfl, rfl⟩
theorem bits101 (n : Nat) (hn : n < 4611686018427387904) (W : World) : Calls Try.prog 101 #[.int .u64 (n : Int)] W fun e w' => e = .returned (.int .i64 (Lib.bitLen n : Nat)) ∧ w' = W := by
  have h := Any.bits_Len (SlLaysF0.n15.bits (P := Try.prog) (ρ := laysF_ren) { laysF with }) (n : Int) W (by omega) (by omega)
  rwa [Int.toNat_natCast] at h
set_option maxHeartbeats 2000000 in
theorem sortF_none (p : Option Addr) (cap : Nat) (fv : Value) (w : World) : Calls Try.prog 103 #[.slice p 0 cap, fv] w fun e w' => e = .returned (.tuple #[]) ∧ w' = w := by
  have hl := fun W => bits101 0 (by omega) W
  have hp := fun lim W => pdq137_none p cap lim fv W
  go_enter Try.func103, Try.ntmps103
  go_wp2_with (first | (go_at_call 101; refine (hl _).mono ?_; rintro e w' ⟨rfl, rfl⟩) | (go_at_call 137; refine (hp _ _).mono ?_; rintro e w' ⟨rfl, rfl⟩))
  go_end0
  exact ⟨rfl, rfl⟩
theorem cmpLays (blk off size : Nat) (w : World) : CmpLays Try.prog 75 #[] cellsK 3 cmpK blk off size w := fun _ _ _ _ x y => compare75 x y _
theorem flat_at (d : Array Kl) (i j : Nat) (hj : j < 3) (hi : i < d.size) : (Sort.flatK cellsK 3 d)[i * 3 + j]? = (cellsK d[i]!)[j]? := by
  have hlt : i * 3 + j < d.size * 3 := by omega
  have h1 := Sort.get_flatK cellsK 3 d (i * 3 + j) hlt
  have h2 : (Sort.flatK cellsK 3 d)[i * 3 + j]? = some (Sort.flatK cellsK 3 d)[i * 3 + j]! := by
    rw [Array.getElem?_eq_getElem (by rw [Sort.size_flatK]; exact hlt), getElem!_pos]
  rw [h2, h1, show (i * 3 + j) / 3 = i by omega, show (i * 3 + j) % 3 = j by omega]
  rw [List.getElem?_eq_getElem (show j < (cellsK d[i]!).length by simpa [cellsK] using hj), getElem!_pos]
theorem sort103 (ss : List Kl) (hs : ss.length ≤ 100000) (cap : Nat) : Contract Try.prog G0 103 [.slc (.g 0) 3 0 ss.length cap, .fn 75 []] [(0, .row 3 (rowsK ss))] (fun r t => r = .tup [] ∧ ∃ q : List Kl, q.Perm ss ∧ q.Pairwise (fun a b => ¬ cmpK b a < 0) ∧ t = [(0, .row 3 (rowsK q))]) := by
  have hrl := rowsK_len ss
  have := turnE (P := Try.prog) (G := G0) (f := 103) (g2 := 75) (sz := 3) (enters_of Try.func103 (by kernel_rfl) rfl) (rows := rowsK ss) (cap := cap)
    (fun rows' => ∃ q : List Kl, q.Perm ss ∧ q.Pairwise (fun a b => ¬ cmpK b a < 0) ∧ rows' = rowsK q) ?_ (fun A w => sortF_none A 0 _ w) ?_
  · rw [hrl] at this
    refine this.mono fun r t h => ?_
    obtain ⟨rfl, rows', _, ⟨q, h1, h2, rfl⟩, rfl⟩ := h
    exact ⟨rfl, q, h1, h2, rfl⟩
  · intro h
    have : ss = [] := List.eq_nil_of_length_eq_zero (by rw [← hrl, h]; rfl)
    subst this
    exact ⟨[], .nil, .nil, rfl⟩
  intro F w b arr tt hbk hrow
  rw [hrl]
  have hle : ss.length * 3 ≤ arr.size := by
    have := hrow.le
    rw [hrl] at this
    simpa using this
  have e75 : ∀ args w, (callFunc 75 args).run Try.prog w = .ok (.enter 75 args) w := enters_of Try.func75 (by kernel_rfl) rfl
  have cell3 : ∀ (k : Kl) (j : Nat) (x : DV) (v : Value), (rowK k)[j]? = some x → (cellsK k)[j]? = some v → ∃ z, x = .int .i64 z ∧ v = .int .i64 z := by
    intro k j x v hx hv
    match j with
    | 0 => simp [rowK] at hx; simp [cellsK] at hv; exact ⟨_, hx.symm, hv.symm⟩
    | 1 => simp [rowK] at hx; simp [cellsK] at hv; exact ⟨_, hx.symm, hv.symm⟩
    | 2 => simp [rowK] at hx; simp [cellsK] at hv; exact ⟨_, hx.symm, hv.symm⟩
    | j + 3 => simp [rowK] at hx
  have hH : Sort.HoldsK cellsK 3 w b 0 ss.toArray := by
    intro j hj
    have hj : j < ss.length * 3 := by simpa using hj
    have hi : j / 3 < ss.length := by omega
    have hr : j % 3 < 3 := Nat.mod_lt _ (by decide)
    have he : j / 3 * 3 + j % 3 = j := by omega
    have hf := flat_at ss.toArray (j / 3) (j % 3) hr (by simpa using hi)
    rw [he] at hf
    have hk : ss.toArray[j / 3]! = ss[j / 3] := by simp [hi]
    rw [hk] at hf
    obtain ⟨v, hv⟩ : ∃ v, arr[j]? = some v := ⟨_, Array.getElem?_eq_getElem (by omega)⟩
    obtain ⟨u, hu⟩ : ∃ u, (cellsK ss[j / 3])[j % 3]? = some u := ⟨_, List.getElem?_eq_getElem (l := cellsK ss[j / 3]) (by simpa [cellsK] using hr)⟩
    obtain ⟨x, hx⟩ : ∃ x, (rowK ss[j / 3])[j % 3]? = some x := ⟨_, List.getElem?_eq_getElem (l := rowK ss[j / 3]) (by simpa [rowK] using hr)⟩
    have hrd := hrow.rd (j / 3) (rowK ss[j / 3]) (j % 3) x v (by simp [rowsK, hi]) hx (by rw [he, Array.getElem?_toList]; exact hv)
    obtain ⟨z, rfl, rfl⟩ := cell3 _ _ _ _ hx hu
    rw [hu] at hf
    have hb : (Sort.flatK cellsK 3 ss.toArray)[j]! = .int .i64 z := by
      rw [getElem!_def, hf]
    refine ⟨?_, by simp [World.frozen?, hbk]⟩
    rw [hb]
    simp only [World.cell?, hbk, Nat.zero_add, Option.isSome_none, Bool.false_eq_true, if_false]
    rw [hv]
    cases hrd with
    | int => rfl
  have hcon := AnyQ.slices_SortFunc laysF 3 Try.isAgg38 Try.sizeOf38 cellsK (fun _ => rfl) (fun x v hv => by simp [cellsK] at hv; rcases hv with rfl | rfl | rfl <;> rfl) cmpK swoK 75 #[] b 0 cap ss.toArray w e75 (cmpLays b 0 ss.toArray.size w) hH ((Array.getElem?_eq_some_iff.1 hbk).1) (by rw [List.size_toArray]; omega)
  refine hcon.mono fun e w' he => ?_
  obtain ⟨rfl, d', n, os, ⟨hsz, _, hp⟩, hsr, rfl⟩ := he
  have hsz : d'.size = ss.length := by simpa using hsz
  have hdl : d'.toList.length = ss.length := by simpa using hsz
  have hq : d'.toList.Perm ss := by
    have h1 : d'.extract 0 ss.toArray.size = d' := by
      rw [List.size_toArray, ← hsz]; simp
    have h2 : ss.toArray.extract 0 ss.toArray.size = ss.toArray := by simp
    rw [h1, h2] at hp
    simpa using hp
  have hfl : (Sort.flatK cellsK 3 d').toList.length = ss.length * 3 := by simp [hsz]
  refine ⟨rfl, rowsK d'.toList, by rw [rowsK_len]; exact hdl, ⟨d'.toList, hq, ?_, rfl⟩, n, os, (Sort.flatK cellsK 3 d').toList, ?_, ⟨?_, ?_, ?_, ?_⟩, ?_⟩
  · refine List.pairwise_iff_getElem.2 fun i j hi hj hij => ?_
    have h1 := hsr i j (Nat.zero_le _) hij (by rw [List.size_toArray]; omega)
    unfold ltOf at h1
    rw [decide_eq_false_iff_not] at h1
    have hi2 : i < d'.size := by simpa using hi
    have hj2 : j < d'.size := by simpa using hj
    rw [getElem!_pos d' i hi2, getElem!_pos d' j hj2] at h1
    simpa using h1
  · rw [rowsK_len, hdl, hfl]
  · rw [rowsK_len, hdl, hfl]
    exact Nat.le_refl _
  · intro i r hr
    simp only [rowsK, List.getElem?_map, Option.map_eq_some_iff] at hr
    obtain ⟨k, _, rfl⟩ := hr
    rfl
  · intro v hv
    obtain ⟨j, hj⟩ := List.mem_iff_getElem?.1 hv
    have hlt : j < ss.length * 3 := by
      have := (List.getElem?_eq_some_iff.1 hj).1
      rw [hfl] at this
      exact this
    have hf := flat_at d' (j / 3) (j % 3) (Nat.mod_lt _ (by decide)) (by omega)
    rw [show j / 3 * 3 + j % 3 = j by omega, ← Array.getElem?_toList, hj] at hf
    have := List.mem_of_getElem? hf.symm
    simp [cellsK] at this
    rcases this with rfl | rfl | rfl <;> rfl
  · intro i r j x v hr hx hv
    simp only [rowsK, List.getElem?_map, Option.map_eq_some_iff] at hr
    obtain ⟨k, hk, rfl⟩ := hr
    have hi : i < d'.size := by
      have := (List.getElem?_eq_some_iff.1 hk).1
      simpa using this
    have hj : j < 3 := by
      have := (List.getElem?_eq_some_iff.1 hx).1
      simpa [rowK] using this
    rw [Array.getElem?_toList, flat_at d' i j hj hi, getElem!_pos d' i hi] at hv
    have hk2 : d'[i] = k := by
      have := (List.getElem?_eq_some_iff.1 hk).2
      simpa using this
    rw [hk2] at hv
    obtain ⟨z, rfl, rfl⟩ := cell3 _ _ _ _ hx hv
    exact .int _ _
  · have hbk' : (Sort.ahead w n).heap[b]? = some (.cells arr tt (0, 0)) := hbk
    have := putRow_eq (id : Value → Value) hbk' (Sort.flatK cellsK 3 d') (by rw [Sort.size_flatK, hsz]; exact hle)
    rw [List.map_id] at this
    rw [← this]
    rfl
theorem sort103_nil : Contract Try.prog G0 103 [.d .nil, .fn 75 []] [] (fun r t => r = .tup [] ∧ t = []) := by
  refine ⟨enters_of Try.func103 (by kernel_rfl) rfl, fun g F U w vals hS hG hlv hv => ?_⟩
  obtain ⟨v, u, rfl⟩ : ∃ v u, vals = [v, u] := by
    match vals, hlv with
    | [v, u], _ => exact ⟨v, u, rfl⟩
  have hrv := hv 0 _ v rfl rfl
  obtain ⟨p, c, rfl⟩ : ∃ p c, v = .slice p 0 c := by
    cases hrv with
    | d h =>
      cases h with
      | nil => exact ⟨_, _, rfl⟩
  refine (sortF_none p c u w).mono fun e w' he => ?_
  obtain ⟨rfl, rfl⟩ := he
  exact ⟨_, _, _, g, F, U, rfl, ⟨rfl, rfl⟩, fun _ _ h => h, fun id ab h => .inl ⟨ab, h⟩, fun _ h => h, fun _ h => h, fun _ h => .inl h, .refl _ _, hS, .tup [] [] rfl (fun j x v hx => by simp at hx)⟩
end Go.Proofs.Ytkenimmellonjaa
/- Seat r2: all latches of a set, in order. -/
namespace Go.Proofs.Ytkenimmellonjaa
open Go.Pv Go.RowKit
/-- Latches that stand in order, none ahead of what is less. -/
def Srd (q : List Kl) : Prop := q.Pairwise fun a b => ¬ cmpK b a < 0
abbrev c1 : AB := .cells [.mp (.g 1)]
set_option maxRecDepth 100000 in
theorem sorted73 (l : List Kl) (hl : l.length ≤ 100000) : Contract Try.prog G0 73 [.fn 104 [.ref (.g 0) 0], .fn 75 []] [(0, c1), (1, .dmap (encL l))] (fun r t => ∃ q : List Kl, q.Perm l ∧ Srd q ∧
    ((q = [] ∧ r = .d .nil ∧ t = [(0, c1), (1, .dmap (encL l))]) ∨ ∃ c, q.length ≤ c ∧ r = .slc (.g 2) 3 0 q.length c ∧ t = [(0, c1), (1, .dmap (encL l)), (2, .row 3 (rowsK q))])) := by
  refine run73 2 [] rfl rfl ?_
  conv => whnf
  refine .obj rfl ?_
  conv => whnf
  refine ⟨_, _, ⟨WkL.refl _, collectC l hl⟩, fun res s1 h => ?_⟩
  obtain ⟨ss, hp, ⟨rfl, rfl, rfl⟩ | ⟨c, hc, rfl, rfl⟩⟩ := h
  · conv => whnf
    refine .obj rfl ?_
    conv => whnf
    refine ⟨_, _, ⟨WkL.refl _, sort103_nil⟩, fun res s1 h => ?_⟩
    obtain ⟨rfl, rfl⟩ := h
    conv => whnf
    exact ⟨[], hp, .nil, .inl ⟨rfl, rfl, rfl⟩⟩
  · conv => whnf
    refine .obj rfl ?_
    conv => whnf
    refine ⟨_, _, ⟨WkL.refl _, sort103 ss (by rw [hp.length_eq]; exact hl) c⟩, fun res s1 h => ?_⟩
    obtain ⟨rfl, q, hq, hs, rfl⟩ := h
    conv => whnf
    exact ⟨q, hq.trans hp, hs, .inr ⟨c, by rw [hq.length_eq]; exact hc, by rw [hq.length_eq], rfl⟩⟩
set_option maxRecDepth 100000 in
theorem all27 (l : List Kl) (hl : l.length ≤ 100000) : Contract Try.prog G0 27 [.ref (.g 0) 0] (setS l) (fun r t => ∃ q : List Kl, q.Perm l ∧ Srd q ∧
    ((q = [] ∧ r = .d .nil ∧ t = setS l) ∨ ∃ c, q.length ≤ c ∧ r = .slc (.g 2) 3 0 q.length c ∧ t = setS l ++ [(2, .row 3 (rowsK q))])) := by
  refine run27 2 [] rfl rfl ?_
  conv => whnf
  refine .obj rfl ?_
  conv => whnf
  refine ⟨_, _, ⟨WkL.refl _, values74 l⟩, fun res s1 h => ?_⟩
  obtain ⟨rfl, rfl⟩ := h
  conv => whnf
  refine .obj rfl ?_
  conv => whnf
  refine ⟨_, _, ⟨WkL.refl _, sorted73 l hl⟩, fun res s1 h => ?_⟩
  obtain ⟨q, hq, hs, ⟨rfl, rfl, rfl⟩ | ⟨c, hc, rfl, rfl⟩⟩ := h
  · conv => whnf
    exact ⟨[], hq, hs, .inl ⟨rfl, rfl, rfl⟩⟩
  · conv => whnf
    exact ⟨q, hq, hs, .inr ⟨c, hc, rfl, rfl⟩⟩
end Go.Proofs.Ytkenimmellonjaa
/- Seat r2: the values of a map that is nil; all latches of such a set. -/
namespace Go.Proofs.Ytkenimmellonjaa
open Go.RowKit Go.Maps Go.Shelf
set_option maxRecDepth 100000 in
set_option maxHeartbeats 1000000 in
theorem values1_nil (F : Fence) (n : Nat) (h104 : F.fn 104) (hro : F.round = none) (l Bm : Nat) (J : List (Int × Int × Int) → World → Prop)
    (W : World) (hJ : AbidesFrom W.heap.size J) (hm : W.cell? ⟨Bm, 0, none⟩ = some (.map none)) (h0 : J [] W) :
    CallsIn F n Try.prog 104 #[.func (.yield l) #[] #[], .pointer (some ⟨Bm, 0, none⟩)] W fun e W' => (∃ v, e = .returned v) ∧ J [] W' := by
  refine callsIn_of_wp Try.func104 rfl h104 ?_ hro
  simp only [Try.ntmps104, List.size_toArray, List.length_cons, List.length_nil, Nat.reduceAdd, Nat.reduceSub, Array.replicate_succ, Array.replicate_zero, List.push_toArray, List.append_toArray, List.nil_append, List.cons_append]
  have hrg := run_range_nilMap (P := Try.prog) W 31 36 38 Try.underlying31
  have hnx : ∀ ty, (Instr.next (.pointer (some ⟨W.heap.size, 0, none⟩)) false ty).run Try.prog (W.alloc (.mapIter none 0 #[] 0)) = _ := fun ty => run_next_nilMap _ ty 0 0 #[]
  gi_wp2
  refine wpIn_loop_rounds 1 ?_
  rw [roundsIn_succ]
  gi_wp2
  go_end0
  exact ⟨⟨_, rfl⟩, hJ [] W _ none h0 (World.grownBy_alloc W _ none) (fun r e => by cases e)⟩
open Go.Pv
def nilC : AB := .cells [.d (.raw (.map .none))]
theorem collectN : Contract Try.prog G0 102 [.fn 104 [.ref (.g 0) 0]] [(0, nilC)] (fun r t => r = .d (.list 3 []) ∧ t = [(0, nilC)]) := by
  refine ⟨enters_of Try.func102 (by kernel_rfl) rfl, fun g F U w vals hS hG hlv hv => ?_⟩
  obtain ⟨v, rfl⟩ : ∃ v, vals = [v] := by
    match vals, hlv with
    | [v], _ => exact ⟨v, rfl⟩
  have hrv := hv 0 _ v rfl rfl
  obtain ⟨B, hgB, rfl⟩ : ∃ B, g 0 = some B ∧ v = .func (.func 104) #[] #[.pointer (some ⟨B, 0, none⟩)] := by
    cases hrv with
    | fn _ _ vs hl h =>
      obtain ⟨u, rfl⟩ : ∃ u, vs = [u] := by
        match vs, hl with
        | [u], _ => exact ⟨u, rfl⟩
      have := h 0 _ u rfl rfl
      cases this with
      | ref _ _ b hb => exact ⟨b, hb, rfl⟩
  obtain ⟨arr, tt, hb1, hsz, hc1⟩ := hS.rb (.g 0) nilC B (by simp [Here]) hgB
  have hsz : arr.size = 1 := hsz
  obtain ⟨u, hu⟩ : ∃ u, arr[0]? = some u := ⟨_, Array.getElem?_eq_getElem (by omega)⟩
  have hru := (hc1 0 _ u rfl hu).2
  obtain rfl : u = .map none := by
    cases hru with
    | d h => cases h; rfl
  have hm : w.cell? ⟨B, 0, none⟩ = some (.map none) := by simp [World.cell?, hb1, hu]
  have hBl := (Array.getElem?_eq_some_iff.1 hb1).1
  have e104 : ∀ args w, (callFunc 104 args).run Try.prog w = .ok (.enter 104 args) w := enters_of Try.func104 (by kernel_rfl) rfl
  have hco := collect Fence.wide 5 trivial trivial rfl (by decide) 104 #[.pointer (some ⟨B, 0, none⟩)] trivial e104 (fun ss => ss = []) (fun _ => True) 0 (by decide) w
    (fun w' hB l J Jx W hW hJ _ _ h0 => (values1_nil Fence.wide 3 trivial rfl l B J W hJ ((hW.cell (p := ⟨B, 0, none⟩) (Nat.lt_of_lt_of_le hBl hB.size)).trans ((hB.cell (p := ⟨B, 0, none⟩) hBl).trans hm)) h0).mono fun e W' ⟨hv, hj⟩ => ⟨hv, .inl ⟨[], rfl, hj⟩⟩)
  refine (callsIn_wide.1 hco).mono ?_
  rintro e w' ⟨v, ss, rfl, rfl, hrow, _, hBe⟩
  have hS2 := St.later hS hBe
  obtain ⟨A, c, rfl⟩ : ∃ A c, v = .slice A 0 c := by
    rcases hrow.2 with ⟨rfl, _⟩ | ⟨nb, cap, cur, rfl, _⟩
    · exact ⟨_, _, rfl⟩
    · exact ⟨_, _, rfl⟩
  exact ⟨_, .d (.list 3 []), _, g, F, U, rfl, ⟨rfl, rfl⟩, fun _ _ h => h, fun id ab h => .inl ⟨ab, h⟩, fun _ h => h, fun _ h => h, fun _ h => .inl h, ext_below hBe hS.Ult, hS2, .d (.empty 3 A c)⟩
theorem sort103_none : Contract Try.prog G0 103 [.d (.list 3 []), .fn 75 []] [] (fun r t => r = .tup [] ∧ t = []) := by
  refine ⟨enters_of Try.func103 (by kernel_rfl) rfl, fun g F U w vals hS hG hlv hv => ?_⟩
  obtain ⟨v, u, rfl⟩ : ∃ v u, vals = [v, u] := by
    match vals, hlv with
    | [v, u], _ => exact ⟨v, u, rfl⟩
  have hrv := hv 0 _ v rfl rfl
  obtain ⟨p, c, rfl⟩ : ∃ p c, v = .slice p 0 c := by
    cases hrv with
    | d h =>
      cases h with
      | empty => exact ⟨_, _, rfl⟩
      | list => exact ⟨_, _, rfl⟩
  refine (sortF_none p c u w).mono fun e w' he => ?_
  obtain ⟨rfl, rfl⟩ := he
  exact ⟨_, _, _, g, F, U, rfl, ⟨rfl, rfl⟩, fun _ _ h => h, fun id ab h => .inl ⟨ab, h⟩, fun _ h => h, fun _ h => h, fun _ h => .inl h, .refl _ _, hS, .tup [] [] rfl (fun j x v hx => by simp at hx)⟩
set_option maxRecDepth 100000 in
theorem values74_none : Contract Try.prog G0 74 [.d (.raw (.map .none))] [] (fun r t => r = .fn 104 [.ref (.g 0) 0] ∧ t = [(0, nilC)]) := by
  refine run74 0 [] rfl rfl ?_
  conv => whnf
  exact ⟨rfl, rfl⟩
set_option maxRecDepth 100000 in
theorem sorted73_none : Contract Try.prog G0 73 [.fn 104 [.ref (.g 0) 0], .fn 75 []] [(0, nilC)] (fun r t => r = .d (.list 3 []) ∧ t = [(0, nilC)]) := by
  refine run73 1 [] rfl rfl ?_
  conv => whnf
  refine .obj rfl ?_
  conv => whnf
  refine ⟨_, _, ⟨WkL.refl _, collectN⟩, fun res s1 h => ?_⟩
  obtain ⟨rfl, rfl⟩ := h
  conv => whnf
  refine .obj rfl ?_
  conv => whnf
  refine ⟨_, _, ⟨WkL.refl _, sort103_none⟩, fun res s1 h => ?_⟩
  obtain ⟨rfl, rfl⟩ := h
  conv => whnf
  exact ⟨rfl, rfl⟩
set_option maxRecDepth 100000 in
/-- All of a set that nothing was put into. -/
theorem all27_none : Contract Try.prog G0 27 [.ref (.g 0) 0] [(0, nilC)] (fun r t => r = .d (.list 3 []) ∧ t = [(0, nilC)]) := by
  refine run27 1 [] rfl rfl ?_
  conv => whnf
  refine .obj rfl ?_
  conv => whnf
  refine ⟨_, _, ⟨WkL.refl _, values74_none⟩, fun res s1 h => ?_⟩
  obtain ⟨rfl, rfl⟩ := h
  conv => whnf
  refine .obj rfl ?_
  conv => whnf
  refine ⟨_, _, ⟨WkL.refl _, sorted73_none⟩, fun res s1 h => ?_⟩
  obtain ⟨rfl, rfl⟩ := h
  conv => whnf
  exact ⟨rfl, rfl⟩
end Go.Proofs.Ytkenimmellonjaa
