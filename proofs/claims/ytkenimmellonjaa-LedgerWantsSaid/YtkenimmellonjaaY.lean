/- Seat r2: a valid ring, as the papers say it. -/
import Derived.Test.YtkenimmellonjaaX
namespace Go.Proofs.Ytkenimmellonjaa
open Go.Pv Go.RowKit Go.Shelf
/-- A bid that will not do. -/
def badB (ms : List Int) (b : B) : Bool := bif bif !(ms.any fun y => y == b.1) then true else decide (b.2 < 0) then true else decide (b.2 > 1048576)
/-- Neighbours in order. -/
def ascL : List Int → Bool
  | [] => true
  | x :: r => match r with
    | [] => true
    | y :: _ => bif decide (x ≥ y) then false else ascL r
def vBids (ms : List Int) (l : List B) : Int :=
  bif decide ((l.length : Int) > (ms.length : Int)) then 104 else bif l.any (badB ms) then 103 else bif !ascL (l.map (·.1)) then 111 else 0
theorem drop_two {α : Type} {l : List α} {i : Nat} {x y : α} (hx : l[i]? = some x) (hy : l[i + 1]? = some y) : l.drop i = x :: y :: l.drop (i + 2) := by
  obtain ⟨h1, h2⟩ := List.getElem?_eq_some_iff.1 hx
  obtain ⟨h3, h4⟩ := List.getElem?_eq_some_iff.1 hy
  rw [List.drop_eq_getElem_cons h1, List.drop_eq_getElem_cons h3, h2, h4]
theorem ascL_two (x y : Int) (r : List Int) : ascL (x :: y :: r) = bif decide (x ≥ y) then false else ascL (y :: r) := rfl
theorem back_i {i : Nat} (h : i + 1 ≤ 4611686018427387904) : IntKind.wrap .i64 (((i + 1 : Nat) : Int) - 1) = (i : Int) := pred_i (i := i + 1) (by omega) h
theorem ascL_short {l : List Int} (h : l.length ≤ 1) : ascL l = true := by
  match l, h with
  | [], _ => rfl
  | [_], _ => rfl
theorem ascL_drop {l : List Int} {i : Nat} {x y : Int} (hx : l[i]? = some x) (hy : l[i + 1]? = some y) : ascL (l.drop i) = bif decide (x ≥ y) then false else ascL (l.drop (i + 1)) := by
  have h := drop_two hx hy
  rw [h, ascL_two]
  have h2 : l.drop (i + 1) = y :: l.drop (i + 2) := by
    obtain ⟨h3, h4⟩ := List.getElem?_eq_some_iff.1 hy
    rw [List.drop_eq_getElem_cons h3, h4]
  rw [h2]
set_option maxRecDepth 100000 in
theorem validBids (ms : List Int) (hm : ms.length ≤ 100000) (l : List B) (hl : l.length ≤ 100000) : Contract Try.prog G0 108 [.d (.list 1 (rowsI ms)), .d (.list 2 (rowsB l))] [] (fun r t => r = .d (.int .i64 (vBids ms l)) ∧ t = []) := by
  have hlen := rowsB_len l
  have hmn := rowsI_len ms
  refine run108 0 [] rfl rfl ?_
  conv => whnf
  refine bcase_intro (fun hg => ?_) (fun hg => ?_) <;> conv => whnf
  · rw [hlen, hmn] at hg
    rw [vBids, hg]
    exact ⟨rfl, rfl⟩
  rw [hlen, hmn] at hg
  refine StopG.rounds wk108 [] [0, 1, 5] (fun m env s => ∃ i : Nat, i ≤ l.length ∧ l.any (badB ms) = (l.drop i).any (badB ms) ∧ m = l.length - i ∧ env = [(0, .d (.list 1 (rowsI ms))), (1, .d (.list 2 (rowsB l))), (5, .d (.int .i64 (i : Int)))] ∧ s = []) rfl ?_ ?_
  · conv => whnf
    exact ⟨_, 0, Nat.zero_le _, rfl, rfl, rfl, rfl⟩
  rintro m env s ⟨i, hi, hh, rfl, rfl, rfl⟩
  conv => whnf
  refine bcase_intro (fun h => ?_) (fun h => ?_) <;> conv => whnf
  · have hil := lt_of h
    rw [hlen] at hil
    obtain ⟨x, hx, hdrop⟩ := at_i hil
    refine ⟨rowB x, ⟨by omega, row_i hx⟩, ?_⟩
    conv => whnf
    refine .scal [.d (.list 1 (rowsI ms)), .d (.int .i64 x.1)] _ ⟨.refl _, rfl, among ms (by omega) x.1⟩ ?_
    conv => whnf
    refine ⟨rowB x, fun _ => ⟨by omega, row_i hx⟩, ?_⟩
    conv => whnf
    refine ⟨rowB x, fun _ => ⟨by omega, row_i hx⟩, ?_⟩
    conv => whnf
    rw [hdrop] at hh
    refine bcase_intro (fun hb => ?_) (fun hb => ?_) <;> conv => whnf
    · have hs : badB ms x = true := hb
      rw [List.any_cons, hs, Bool.true_or] at hh
      rw [vBids, hg, hh]
      exact ⟨rfl, rfl⟩
    · have hs : badB ms x = false := hb
      rw [List.any_cons, hs, Bool.false_or] at hh
      rw [succ_i hil (by omega)]
      exact ⟨_, by omega, i + 1, hil, hh, rfl, rfl, rfl⟩
  have hil := ge_of h
  rw [hlen] at hil
  rw [show l.drop i = [] from List.drop_of_length_le hil] at hh
  have hh : l.any (badB ms) = false := hh
  refine StopG.rounds wk108 [] [1, 6] (fun m env s => ∃ i : Nat, i ≤ l.length ∧ ascL (l.map (·.1)) = ascL ((l.map (·.1)).drop i) ∧ m = l.length - i ∧ env = [(1, .d (.list 2 (rowsB l))), (6, .d (.int .i64 ((i + 1 : Nat) : Int)))] ∧ s = []) rfl ?_ ?_
  · conv => whnf
    exact ⟨_, 0, Nat.zero_le _, rfl, rfl, rfl, rfl⟩
  rintro m env s ⟨i, hi, ha, rfl, rfl, rfl⟩
  conv => whnf
  refine bcase_intro (fun h => ?_) (fun h => ?_) <;> conv => whnf
  · have hil := lt_of h
    rw [hlen] at hil
    obtain ⟨x, hx, _⟩ := at_i (show i < l.length by omega)
    obtain ⟨y, hy, _⟩ := at_i hil
    rw [back_i (by omega)]
    refine ⟨rowB x, ⟨by omega, row_i hx⟩, ?_⟩
    conv => whnf
    refine ⟨rowB y, ⟨by omega, row_i hy⟩, ?_⟩
    conv => whnf
    have hd := ascL_drop (l := l.map (·.1)) (i := i) (x := x.1) (y := y.1) (by rw [List.getElem?_map, hx]; rfl) (by rw [List.getElem?_map, hy]; rfl)
    refine bcase_intro (fun hb => ?_) (fun hb => ?_) <;> conv => whnf
    · rw [hb] at hd
      rw [vBids, hg, hh, ha, hd]
      exact ⟨rfl, rfl⟩
    · rw [hb] at hd
      rw [succ_i (i := i + 1) hil (by omega)]
      exact ⟨_, by omega, i + 1, by omega, ha.trans hd, rfl, rfl, rfl⟩
  · have hil := ge_of h
    rw [hlen] at hil
    rw [ascL_short (l := (l.map (·.1)).drop i) (by simp; omega)] at ha
    rw [vBids, hg, hh, ha]
    exact ⟨rfl, rfl⟩
/-- An entry that will not do. -/
def badE (ms : List Int) (e : En) : Bool :=
  bif bif bif bif bif decide (e.fl < 0) then true else decide (e.fl ≥ 64) then true else (bif !(e.dr == 1) then !(e.dr == -1) else false) then true else decide (e.gn < 1) then true else decide (e.gn > 2147483647) then true else (bif !(e.aw == -1) then !(ms.any fun y => y == e.aw) else false)
def lessE (a b : En) : Bool := bif decide (a.fl < b.fl) then true else bif a.fl == b.fl then decide (a.dr < b.dr) else false
def vEnts (ms : List Int) : Option En → List En → Int
  | _, [] => 0
  | p, e :: r => bif badE ms e then 103 else bif (match p with | none => false | some q => !lessE q e) then 111 else bif !(vBids ms e.bids == 0) then vBids ms e.bids else vEnts ms (some e) r
theorem vEnts_cons (ms : List Int) (p : Option En) (e : En) (r : List En) : vEnts ms p (e :: r) = bif badE ms e then (103 : Int) else bif (match p with | none => false | some q => !lessE q e) then 111 else bif !(vBids ms e.bids == 0) then vBids ms e.bids else vEnts ms (some e) r := by
  cases p <;> rfl
def vRing (cnt fdr hop : Int) (mem : List Int) (l : List En) : Int :=
  bif bif bif !epoB cnt fdr then true else decide (hop < 0) then true else decide (hop > 1099511627776) then 103 else
  bif bif bif ((mem.length : Int) == 0) then true else decide ((mem.length : Int) > 16) then true else decide ((l.length : Int) > 128) then 104 else
  bif mem.any (fun x => !carB x) then 103 else bif !ascL mem then 111 else vEnts mem none l
abbrev epoV (cnt fdr : Int) : AV := .agg [.d (.int .i64 cnt), .d (.int .i64 fdr)]
set_option maxRecDepth 100000 in
theorem validRing (cnt fdr hop : Int) (mem : List Int) (hm : mem.length ≤ 100000) (l : List En) (hl : l.length ≤ 1000) (hb : ∀ e ∈ l, e.bids.length ≤ 100000) : Contract Try.prog G0 79 [awG cnt fdr hop mem l] [] (fun r t => r = .d (.int .i64 (vRing cnt fdr hop mem l)) ∧ t = []) := by
  have hlen := rowsE_len l
  have hmn := rowsI_len mem
  refine run79 0 [] rfl rfl ?_
  conv => whnf
  refine .scal [epoV cnt fdr] _ ⟨.refl _, rfl, epoch106 cnt fdr⟩ ?_
  conv => whnf
  refine bcase_intro (fun h1 => ?_) (fun h1 => ?_) <;> conv => whnf
  · rw [vRing, h1]; exact ⟨rfl, rfl⟩
  refine bcase_intro (fun h2 => ?_) (fun h2 => ?_) <;> conv => whnf
  · rw [hlen, hmn] at h2
    rw [vRing, h1, h2]; exact ⟨rfl, rfl⟩
  rw [hlen, hmn] at h2
  refine StopG.rounds wk79 [] [1, 3, 4] (fun m env s => ∃ i : Nat, i ≤ mem.length ∧ (mem.any fun x => !carB x) = ((mem.drop i).any fun x => !carB x) ∧ m = mem.length - i ∧ env = [(1, .ref (.g 0) 0), (3, .d (.int .i64 ((rowsI mem).length : Int))), (4, .d (.int .i64 (i : Int)))] ∧ s = [(0, .cells [.d (.int .i64 cnt), .d (.int .i64 fdr), .d (.int .i64 hop), .d (.list 1 (rowsI mem)), .d (.list 5 (rowsE l))])]) rfl ?_ ?_
  · conv => whnf
    exact ⟨_, 0, Nat.zero_le _, rfl, rfl, rfl, rfl⟩
  rintro m env s ⟨i, hi, h3, rfl, rfl, rfl⟩
  conv => whnf
  refine bcase_intro (fun h => ?_) (fun h => ?_) <;> conv => whnf
  · have hil := lt_of h
    rw [hmn] at hil
    obtain ⟨x, hx, hdrop⟩ := at_i hil
    refine ⟨rowI x, ⟨by omega, row_i hx⟩, ?_⟩
    conv => whnf
    refine .scal [.d (.int .i64 x)] _ ⟨.refl _, rfl, car107 x⟩ ?_
    conv => whnf
    rw [hdrop, List.any_cons] at h3
    refine bcase_intro (fun hb => ?_) (fun hb => ?_) <;> conv => whnf
    · rw [hb, Bool.true_or] at h3
      rw [vRing, h1, h2, h3]; exact ⟨rfl, rfl⟩
    · rw [hb, Bool.false_or] at h3
      rw [succ_i hil (by omega)]
      exact ⟨_, by omega, i + 1, hil, h3, rfl, rfl, rfl⟩
  have hil := ge_of h
  rw [hmn] at hil
  rw [show mem.drop i = [] from List.drop_of_length_le hil] at h3
  refine StopG.rounds wk79 [] [1, 3, 5] (fun m env s => ∃ i : Nat, i ≤ mem.length ∧ ascL mem = ascL (mem.drop i) ∧ m = mem.length - i ∧ env = [(1, .ref (.g 0) 0), (3, .d (.int .i64 ((rowsI mem).length : Int))), (5, .d (.int .i64 ((i + 1 : Nat) : Int)))] ∧ s = [(0, .cells [.d (.int .i64 cnt), .d (.int .i64 fdr), .d (.int .i64 hop), .d (.list 1 (rowsI mem)), .d (.list 5 (rowsE l))])]) rfl ?_ ?_
  · conv => whnf
    exact ⟨_, 0, Nat.zero_le _, rfl, rfl, rfl, rfl⟩
  rintro m env s ⟨i, hi, h4, rfl, rfl, rfl⟩
  conv => whnf
  refine bcase_intro (fun h => ?_) (fun h => ?_) <;> conv => whnf
  · have hil := lt_of h
    rw [hmn] at hil
    obtain ⟨x, hx, _⟩ := at_i (show i < mem.length by omega)
    obtain ⟨y, hy, _⟩ := at_i hil
    rw [back_i (by omega)]
    refine ⟨rowI x, ⟨by omega, row_i hx⟩, ?_⟩
    conv => whnf
    refine ⟨rowI y, ⟨by omega, row_i hy⟩, ?_⟩
    conv => whnf
    have hd := ascL_drop hx hy
    refine bcase_intro (fun hb => ?_) (fun hb => ?_) <;> conv => whnf
    · rw [hb] at hd
      rw [vRing, h1, h2, h3, h4, hd]; exact ⟨rfl, rfl⟩
    · rw [hb] at hd
      rw [succ_i (i := i + 1) hil (by omega)]
      exact ⟨_, by omega, i + 1, by omega, h4.trans hd, rfl, rfl, rfl⟩
  have hil := ge_of h
  rw [hmn] at hil
  rw [ascL_short (l := mem.drop i) (by simp; omega)] at h4
  have hv : vRing cnt fdr hop mem l = vEnts mem none l := by rw [vRing, h1, h2, h3, h4]; rfl
  rw [hv]
  refine StopG.rounds wk79 [] [1, 6] (fun m env s => ∃ i : Nat, i ≤ l.length ∧ vEnts mem none l = vEnts mem (match i with | 0 => none | j + 1 => l[j]?) (l.drop i) ∧ m = l.length - i ∧ env = [(1, .ref (.g 0) 0), (6, .d (.int .i64 (i : Int)))] ∧ s = [(0, .cells [.d (.int .i64 cnt), .d (.int .i64 fdr), .d (.int .i64 hop), .d (.list 1 (rowsI mem)), .d (.list 5 (rowsE l))])]) rfl ?_ ?_
  · conv => whnf
    exact ⟨_, 0, Nat.zero_le _, rfl, rfl, rfl, rfl⟩
  rintro m env s ⟨i, hi, h5, rfl, rfl, rfl⟩
  conv => whnf
  refine bcase_intro (fun h => ?_) (fun h => ?_) <;> conv => whnf
  · have hil := lt_of h
    rw [hlen] at hil
    obtain ⟨x, hx, hdrop⟩ := at_i hil
    have hxb := hb x (List.mem_of_getElem? hx)
    refine ⟨rowE x, ⟨by omega, row_i hx⟩, ?_⟩
    conv => whnf
    refine .scal [.d (.list 1 (rowsI mem)), .d (.int .i64 x.aw)] _ (fun _ => ⟨.refl _, rfl, among mem (by omega) x.aw⟩) ?_
    conv => whnf
    rw [hdrop, vEnts_cons] at h5
    refine bcase_intro (fun hbad => ?_) (fun hbad => ?_) <;> conv => whnf
    · have hbad : badE mem x = true := hbad
      rw [h5, hbad]; exact ⟨rfl, rfl⟩
    have hbad : badE mem x = false := hbad
    rw [hbad] at h5
    cases i with
    | zero =>
      refine ⟨rowE x, (fun hg => by simp [HG, lit, rfind] at hg), ?_⟩
      conv => whnf
      refine .scal [calV x.fl x.dr, calV x.fl x.dr] _ (fun _ => ⟨.refl _, rfl, lessCall _ _ _ _⟩) ?_
      conv => whnf
      simp only at h5
      refine .scal [.d (.list 1 (rowsI mem)), .d (.list 2 (rowsB x.bids))] _ ⟨.refl _, rfl, validBids mem hm x.bids hxb⟩ ?_
      conv => whnf
      refine bcase_intro (fun hq => ?_) (fun hq => ?_) <;> conv => whnf
      · have hq : (!(vBids mem x.bids == 0)) = true := hq
        rw [hq] at h5
        rw [h5]; exact ⟨rfl, rfl⟩
      · have hq : (!(vBids mem x.bids == 0)) = false := hq
        rw [hq] at h5
        rw [succ_i hil (by omega)]
        refine ⟨_, by omega, 0 + 1, hil, ?_, rfl, rfl, rfl⟩
        simp only [hx]
        exact h5
    | succ k =>
      obtain ⟨q, hq, _⟩ := at_i (show k < l.length by omega)
      rw [back_i (by omega)]
      refine ⟨rowE q, (fun _ => ⟨by omega, row_i hq⟩), ?_⟩
      conv => whnf
      refine .scal [calV q.fl q.dr, calV x.fl x.dr] _ (fun _ => ⟨.refl _, rfl, lessCall _ _ _ _⟩) ?_
      conv => whnf
      simp only [hq] at h5
      refine bcase_intro (fun hp => ?_) (fun hp => ?_) <;> conv => whnf
      · have hp : (bif decide (((k + 1 : Nat) : Int) > 0) then !lessE q x else false) = true := hp
        rw [show decide (((k + 1 : Nat) : Int) > 0) = true from decide_eq_true (by omega)] at hp
        have hp : (!lessE q x) = true := hp
        rw [hp] at h5
        rw [h5]; exact ⟨rfl, rfl⟩
      · have hp : (bif decide (((k + 1 : Nat) : Int) > 0) then !lessE q x else false) = false := hp
        rw [show decide (((k + 1 : Nat) : Int) > 0) = true from decide_eq_true (by omega)] at hp
        have hp : (!lessE q x) = false := hp
        rw [hp] at h5
        refine .scal [.d (.list 1 (rowsI mem)), .d (.list 2 (rowsB x.bids))] _ ⟨.refl _, rfl, validBids mem hm x.bids hxb⟩ ?_
        conv => whnf
        refine bcase_intro (fun hq => ?_) (fun hq => ?_) <;> conv => whnf
        · have hq : (!(vBids mem x.bids == 0)) = true := hq
          rw [hq] at h5
          rw [h5]; exact ⟨rfl, rfl⟩
        · have hq : (!(vBids mem x.bids == 0)) = false := hq
          rw [hq] at h5
          rw [succ_i hil (by omega)]
          refine ⟨_, by omega, k + 1 + 1, hil, ?_, rfl, rfl, rfl⟩
          simp only [hx]
          exact h5
  · have hil := ge_of h
    rw [hlen] at hil
    rw [h5, show l.drop i = [] from List.drop_of_length_le hil]
    exact ⟨rfl, rfl⟩
end Go.Proofs.Ytkenimmellonjaa
