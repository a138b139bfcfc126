/- The seat's texts, part 4: what single functions of the program compute; no statement of its own. -/
import Derived.Test.YtgadgajhahfabaaDoorGC
import Derived.Test.YtgadgajhahfabaaDoorGA
import Derived.Test.YtgadgajhahfabaaDoorFrD
import Derived.Test.YtgadgajhahfabaaDoorGB
import Derived.LaidLaws
import Derived.ChangeSame
import Derived.ChangeVars
import Derived.Test.YtgadgajhahfabaaDoorRows
/- Seat of TraceLooks: how a car is, of events that lie in a row of one's own. -/
namespace Go.Proofs.YtgadgajhahfabaaDoor
open Go.Pv Go.RowKit
variable {bs : Nat → Addr}
abbrev chkS : AB := .cells [iV 3, iV 6, iV 1, iV 1, .slc (.g 2) 9 0 3 3, .mp (.g 3), .mp (.g 4), .mp (.g 5)]
set_option maxHeartbeats 4000000 in
set_option maxRecDepth 100000 in
theorem all24o (l : List Ev) (hl : l.length ≤ 100000) (cap : Nat) (k : Ck) (hk : allX 6 ⟨[zC, zC, zC], [], [], []⟩ l 0 = .ok k) : Contract Tryd.prog (G0 bs) 11 [.agg [iV 3, iV 6, iV 1, iV 1], .slc (.g 0) 9 0 l.length cap] [(0, .row 9 (rowsV l))] (fun r t => ∃ c0 c1 c2 : Cr, k.cars = [c0, c1, c2] ∧ r = .tup [.ref (.g 1) 0, nilE] ∧ t = [(0, .row 9 (rowsV l)), (1, chkS), (2, .arow 9 [carR c0 6, carR c1 7, carR c2 8]), (3, .dmap (encE k.fo)), (4, .dmap (encA k.aw)), (5, .dmap (encW k.cl)), (6, .dmap (encK c0.cm)), (7, .dmap (encK c1.cm)), (8, .dmap (encK c2.cm))]) := by
  have hlen := rowsV_len l
  refine run11 1 [] rfl rfl ?_
  conv => whnf
  refine .obj rfl ?_
  conv => whnf
  refine ⟨_, _, ⟨WkL.refl _, start31_3 6 1 1⟩, fun res s1 h => ?_⟩
  obtain ⟨rfl, rfl⟩ := h
  conv => whnf
  refine StopG.rounds wk11 [] [6, 12, 13, 14] (fun m env s => ∃ (i : Nat) (c0 c1 c2 : Cr) (fo : List Ep) (aw : List At) (cl : List (At × Int)), i ≤ l.length ∧ Nds ⟨[c0, c1, c2], fo, aw, cl⟩ ∧ allX 6 ⟨[c0, c1, c2], fo, aw, cl⟩ (l.drop i) i = .ok k ∧ m = l.length - i ∧ env = [(6, .ref (.g 1) 0), (12, .slc (.g 0) 9 0 l.length cap), (13, iV (l.length : Int)), (14, iV (i : Int))] ∧ s = [(0, .row 9 (rowsV l)), (1, chkS), (2, .arow 9 [carR c0 6, carR c1 7, carR c2 8]), (3, .dmap (encE fo)), (4, .dmap (encA aw)), (5, .dmap (encW cl)), (6, .dmap (encK c0.cm)), (7, .dmap (encK c1.cm)), (8, .dmap (encK c2.cm))]) rfl ?_ ?_
  · conv => whnf
    exact ⟨_, 0, zC, zC, zC, [], [], [], Nat.zero_le _, ⟨.nil, .nil, .nil, fun c hc => by simp [zC] at hc; (try rcases hc with rfl); first | (rw [hc]; exact .nil) | exact .nil⟩, hk, rfl, rfl, rfl⟩
  rintro m env s ⟨i, c0, c1, c2, fo, aw, cl, hi, hnd, hY, rfl, rfl, rfl⟩
  conv => whnf
  cases hlt : decide ((i : Int) < (l.length : Int)) with
  | false =>
    conv => whnf
    have hil := of_decide_eq_false hlt
    rw [show l.drop i = [] from List.drop_eq_nil_of_le (by omega)] at hY
    cases hY
    exact ⟨c0, c1, c2, rfl, rfl, rfl⟩
  | true =>
    have hil : i < l.length := by have := of_decide_eq_true hlt; omega
    obtain ⟨e, he, hd⟩ := at_i hil
    rw [hd] at hY
    unfold allX at hY
    conv => whnf
    refine ⟨⟨by omega, by omega⟩, ?_⟩
    conv => whnf
    refine ⟨rowV e, row_g he, rfl, ?_⟩
    conv => whnf
    refine .obj rfl ?_
    conv => whnf
    refine ⟨_, _, ⟨WkL.refl _, event_3 3 6 1 1 c0 c1 c2 fo aw cl e hnd⟩, fun res s1 h => ?_⟩
    cases hE : eventX 6 ⟨[c0, c1, c2], fo, aw, cl⟩ e with
    | error g =>
      rw [hE] at hY
      cases hY
    | ok k9 =>
      rw [hE] at h hY
      obtain ⟨rfl, d0, d1, d2, hk9, hnd9, h3⟩ := h
      obtain ⟨cars9, fo9, aw9, cl9⟩ := k9
      have hk9 : cars9 = [d0, d1, d2] := hk9
      subst hk9
      rcases h3 with rfl | ⟨hc, rfl⟩ | ⟨hc, rfl⟩ | ⟨hc, rfl⟩
      · conv => whnf
        rw [succ_i hil (by omega)]
        exact ⟨_, by omega, i + 1, d0, d1, d2, fo9, aw9, cl9, hil, hnd9, hY, rfl, rfl, rfl⟩
      all_goals
        conv => whnf
        rw [succ_i hil (by omega)]
        exact ⟨_, by omega, i + 1, d0, d1, d2, fo9, aw9, cl9, hil, hnd9, hY, rfl, rfl, by rw [hc]⟩
set_option maxRecDepth 100000 in
set_option maxHeartbeats 4000000 in
theorem look6o_0 (l : List Ev) (hl : l.length ≤ 100000) (cap : Nat) (k : Ck) (c0 c1 c2 : Cr) (hk : allX 6 ⟨[zC, zC, zC], [], [], []⟩ l 0 = .ok k) (hc : k.cars = [c0, c1, c2]) (hcm : c0.cm.length ≤ 1) : Contract Tryd.prog (G0 bs) 6 [.agg [iV 3, iV 6, iV 1, iV 1], iV 0, .slc (.g 0) 9 0 l.length cap] [(0, .row 9 (rowsV l))] (fun r t => r = .tup [sightV c0, nilE] ∧ t = [(0, .row 9 (rowsV l))]) := by
  have hall := all24o (bs := bs) l hl cap k hk
  refine run6 1 [] rfl rfl ?_
  conv => whnf
  refine .obj rfl ?_
  conv => whnf
  refine ⟨_, _, ⟨WkL.refl _, hall⟩, fun res s1 h => ?_⟩
  obtain ⟨d0, d1, d2, hd, rfl, rfl⟩ := h
  rw [hc] at hd
  cases hd
  conv => whnf
  refine ⟨⟨by decide, by decide⟩, ?_⟩
  conv => whnf
  refine ⟨_, rfl, rfl, ?_⟩
  conv => whnf
  refine .grow _ _ (keys13N 8) ?_
  conv => whnf
  refine .grow _ _ (sorted12N 0 8 c0.cm hcm rfl (by simp)) ?_
  conv => whnf
  exact ⟨rfl, rfl⟩
set_option maxRecDepth 100000 in
set_option maxHeartbeats 4000000 in
theorem look6o_1 (l : List Ev) (hl : l.length ≤ 100000) (cap : Nat) (k : Ck) (c0 c1 c2 : Cr) (hk : allX 6 ⟨[zC, zC, zC], [], [], []⟩ l 0 = .ok k) (hc : k.cars = [c0, c1, c2]) (hcm : c1.cm.length ≤ 1) : Contract Tryd.prog (G0 bs) 6 [.agg [iV 3, iV 6, iV 1, iV 1], iV 1, .slc (.g 0) 9 0 l.length cap] [(0, .row 9 (rowsV l))] (fun r t => r = .tup [sightV c1, nilE] ∧ t = [(0, .row 9 (rowsV l))]) := by
  have hall := all24o (bs := bs) l hl cap k hk
  refine run6 1 [] rfl rfl ?_
  conv => whnf
  refine .obj rfl ?_
  conv => whnf
  refine ⟨_, _, ⟨WkL.refl _, hall⟩, fun res s1 h => ?_⟩
  obtain ⟨d0, d1, d2, hd, rfl, rfl⟩ := h
  rw [hc] at hd
  cases hd
  conv => whnf
  refine ⟨⟨by decide, by decide⟩, ?_⟩
  conv => whnf
  refine ⟨_, rfl, rfl, ?_⟩
  conv => whnf
  refine .grow _ _ (keys13N 9) ?_
  conv => whnf
  refine .grow _ _ (sorted12N 0 9 c1.cm hcm rfl (by simp)) ?_
  conv => whnf
  exact ⟨rfl, rfl⟩
set_option maxRecDepth 100000 in
set_option maxHeartbeats 4000000 in
theorem look6o_2 (l : List Ev) (hl : l.length ≤ 100000) (cap : Nat) (k : Ck) (c0 c1 c2 : Cr) (hk : allX 6 ⟨[zC, zC, zC], [], [], []⟩ l 0 = .ok k) (hc : k.cars = [c0, c1, c2]) (hcm : c2.cm.length ≤ 1) : Contract Tryd.prog (G0 bs) 6 [.agg [iV 3, iV 6, iV 1, iV 1], iV 2, .slc (.g 0) 9 0 l.length cap] [(0, .row 9 (rowsV l))] (fun r t => r = .tup [sightV c2, nilE] ∧ t = [(0, .row 9 (rowsV l))]) := by
  have hall := all24o (bs := bs) l hl cap k hk
  refine run6 1 [] rfl rfl ?_
  conv => whnf
  refine .obj rfl ?_
  conv => whnf
  refine ⟨_, _, ⟨WkL.refl _, hall⟩, fun res s1 h => ?_⟩
  obtain ⟨d0, d1, d2, hd, rfl, rfl⟩ := h
  rw [hc] at hd
  cases hd
  conv => whnf
  refine ⟨⟨by decide, by decide⟩, ?_⟩
  conv => whnf
  refine ⟨_, rfl, rfl, ?_⟩
  conv => whnf
  refine .grow _ _ (keys13N 10) ?_
  conv => whnf
  refine .grow _ _ (sorted12N 0 10 c2.cm hcm rfl (by simp)) ?_
  conv => whnf
  exact ⟨rfl, rfl⟩
end Go.Proofs.YtgadgajhahfabaaDoor
/- Seat of TraceLooks: what the events say. -/
namespace Go.Proofs.YtgadgajhahfabaaDoor
open Go.Pv Go.RowKit
def l4 (f d ca : Int) : List Ev := [⟨9, ca, (0, 0, 0), (0, 0), 0, 0⟩, ⟨4, ca, (0, 0, 0), (1, 2), 0, 0⟩, ⟨1, ca, (f, d, 2), (1, 2), 0, 0⟩, ⟨5, ca, (0, 0, 0), (0, 0), f, d⟩]
def l3 (f d ca : Int) : List Ev := [⟨8, ca, (f, d, 2), (1, 2), f, 0⟩, ⟨6, ca, (0, 0, 0), (0, 0), f, 0⟩, ⟨7, ca, (0, 0, 0), (0, 0), f + d, d⟩]
def C4 (f d : Int) : Cr := ⟨true, true, false, f, f, d, (1, 2), [(f, d, 2)]⟩
def C7 (f d : Int) : Cr := ⟨false, true, false, f + d, f, d, (1, 2), []⟩
theorem say4 {f d ca : Int} (h1 : 1 ≤ f) (h2 : f ≤ 4) (hd : d = 1 ∨ d = -1) (hc : ca = 0 ∨ ca = 1 ∨ ca = 2) : allX 6 ⟨[zC, zC, zC], [], [], []⟩ (l4 f d ca) 0 = .ok ⟨[zC, zC, zC].set ca.toNat (C4 f d), [], [], [(((f, d, 2), (1, 2)), ca + 1)]⟩ := by
  have e1 : ¬ f < 0 := by omega
  have e2 : ¬ 6 ≤ f := by omega
  have e3 : decide (f < 0) = false := decide_eq_false e1
  have e4 : decide (f ≥ 6) = false := decide_eq_false (by omega)
  have w1 : IntKind.i64.wrap 1 = 1 := by decide
  have w2 : IntKind.i64.wrap 2 = 2 := by decide
  have w3 : IntKind.i64.wrap 3 = 3 := by decide
  rcases hc with rfl | rfl | rfl <;> rcases hd with rfl | rfl <;> simp [l4, allX, eventX, carX, ringX, claimX, moveX, zC, lessE, sameE, isIn, aget, aput, whoOf, C4, e3, e4, w1, w2, w3]
theorem say7 {f d ca : Int} (h1 : 1 ≤ f) (h2 : f ≤ 4) (hd : d = 1 ∨ d = -1) (hc : ca = 0 ∨ ca = 1 ∨ ca = 2) : allX 6 ⟨[zC, zC, zC], [], [], []⟩ (l4 f d ca ++ l3 f d ca) 0 = .ok ⟨[zC, zC, zC].set ca.toNat (C7 f d), [], [], [(((f, d, 2), (1, 2)), ca + 1)]⟩ := by
  have e1 : ¬ f < 0 := by omega
  have e2 : ¬ 6 ≤ f := by omega
  have e3 : decide (f < 0) = false := decide_eq_false e1
  have e4 : decide (f ≥ 6) = false := decide_eq_false (by omega)
  have e5 : decide (f + d < 0) = false := decide_eq_false (by omega)
  have e6 : decide (f + d ≥ 6) = false := decide_eq_false (by omega)
  have w1 : IntKind.i64.wrap 1 = 1 := by decide
  have w2 : IntKind.i64.wrap 2 = 2 := by decide
  have w3 : IntKind.i64.wrap 3 = 3 := by decide
  rcases hc with rfl | rfl | rfl <;> rcases hd with rfl | rfl <;> simp [l4, l3, allX, eventX, carX, ringX, claimX, clearX, moveX, zC, lessE, sameE, isIn, aget, aput, adel, whoOf, C7, e3, e4, e5, e6, w1, w2, w3]
end Go.Proofs.YtgadgajhahfabaaDoor
/- Seat of TraceLooks: the statement's walk. -/
namespace Go.Proofs.YtgadgajhahfabaaDoor
open Go.Pv Go.RowKit
set_option maxRecDepth 100000 in
theorem same7 {bs : Nat → Addr} : Contract Tryd.prog (G0 bs) 7 [epV (1, 2), epV (1, 2)] [] (fun r t => r = bV true ∧ t = []) := by
  refine run7 0 [] rfl rfl ?_
  conv => whnf
  exact ⟨rfl, rfl⟩
set_option maxRecDepth 100000 in
set_option maxHeartbeats 4000000 in
theorem looks_0 {bs : Nat → Addr} (ha : Apart bs) (x y z : Int) (hz : numX z 3 = 0) : Contract Tryd.prog (G0 bs) 3 [iV x, iV y, iV z] [] (fun r t => r = bV true ∧ t = []) := by
  have gf := numX_ge (n := x) (m := 4) (by omega)
  have lf := numX_lt (n := x) (m := 4) (by omega)
  have gd := numX_ge (n := y) (m := 2) (by omega)
  have ld := numX_lt (n := y) (m := 2) (by omega)
  have nf := number10 (bs := bs) x 4 (by omega) (by omega)
  have nd := number10 (bs := bs) y 2 (by omega) (by omega)
  have nz := number10 (bs := bs) z 3 (by omega) (by omega)
  rw [hz] at nz
  generalize numX x 4 = f0 at *
  generalize numX y 2 = d0 at *
  refine run3 0 [13] rfl rfl ?_
  conv => whnf
  refine .data [] _ ⟨WkL.refl _, rfl, first9 ha⟩ ?_
  conv => whnf
  refine .data [iV x, iV 4] _ ⟨WkL.refl _, rfl, nf⟩ ?_
  conv => whnf
  rw [wrap_id (show -9223372036854775808 ≤ f0 + 1 by omega) (by omega)]
  refine .data [iV y, iV 2] _ ⟨WkL.refl _, rfl, nd⟩ ?_
  conv => whnf
  rw [wrap_id (show -9223372036854775808 ≤ 2 * d0 by omega) (by omega), wrap_id (show -9223372036854775808 ≤ 2 * d0 - 1 by omega) (by omega)]
  refine .data [iV z, iV 3] _ ⟨WkL.refl _, rfl, nz⟩ ?_
  conv => whnf
  generalize hf : f0 + 1 = f
  generalize hd : 2 * d0 - 1 = d
  have hd2 : d = 1 ∨ d = -1 := by omega
  have s4 := say4 (f := f) (d := d) (ca := 0) (by omega) (by omega) hd2 (by omega)
  have s7 := say7 (f := f) (d := d) (ca := 0) (by omega) (by omega) hd2 (by omega)
  refine .obj rfl ?_
  conv => whnf
  refine ⟨_, _, ⟨WkL.refl _, look6o_0 (l4 f d 0) (by simp [l4]) 4 _ _ _ _ s4 rfl (by simp [C4, zC])⟩, fun res s1 h => ?_⟩
  obtain ⟨rfl, rfl⟩ := h
  conv => whnf
  rw [wrap_id (show -9223372036854775808 ≤ f + d by omega) (by omega)]
  refine ⟨by simp [rowsV, l4], ⟨by show (2 * 7 + 1024) * 72 ≤ _; decide, by show 7 ≤ _; decide⟩, ?_⟩
  conv => whnf
  intro c hc
  conv => whnf
  refine .ghost (GV.trans (GV.freeze 5 (ab := .row 9 (rowsV (l4 f d 0 ++ l3 f d 0))) rfl (by simp) ?_ ?_) (GV.tidied [0, 1, 2, 7, 8, 9, 11, 12, 13] (E := [(0, iV f), (1, iV d), (2, iV 0), (7, bV true), (8, .ref (.g 0) 0), (9, .ref (.g 1) 0), (11, .d (.list 9 (rowsV (l4 f d 0 ++ l3 f d 0)))), (12, .ref (.g 2) 0), (13, nilE)]) (S := [(0, .cells [iV 3, iV 6, iV 1, iV 1]), (1, .cells [iV 1, iV 2]), (2, .cells [bV true, iV f, iV 1, iV 2, .d (.list 3 (rowsK [(f, d, 2)])), bV true])]) ?_)) ?_
  · repeat' first | exact trivial | apply And.intro | decide | (simp [rowsV, l4, l3]; done) | omega
  · repeat' first | exact trivial | apply And.intro | decide | (simp [rowsV, l4, l3]; done) | omega
  · conv => whnf
    exact ⟨rfl, rfl⟩
  refine .go wk3 [] ?_
  conv => whnf
  refine .obj rfl ?_
  conv => whnf
  refine ⟨_, _, ⟨WkL.refl _, look6_0 (l4 f d 0 ++ l3 f d 0) (by simp [l4, l3]) _ _ _ _ s7 rfl (by simp [C7, zC])⟩, fun res s1 h => ?_⟩
  obtain ⟨rfl, rfl⟩ := h
  conv => whnf
  refine ⟨⟨rfl, by decide⟩, ?_⟩
  conv => whnf
  refine .obj rfl ?_
  conv => whnf
  refine ⟨_, _, ⟨WkL.refl _, look6_1 (l4 f d 0 ++ l3 f d 0) (by simp [l4, l3]) _ _ _ _ s7 rfl (by simp [C7, zC])⟩, fun res s1 h => ?_⟩
  obtain ⟨rfl, rfl⟩ := h
  conv => whnf
  refine .scal [epV (1, 2), epV (1, 2)] _ (fun _ => ⟨.refl _, rfl, same7⟩) ?_
  conv => whnf
  refine ⟨?_, rfl⟩
  rw [wrap_id (show -9223372036854775808 ≤ f + d by omega) (by omega)]
  simp [C7, zC, rowsK]
set_option maxRecDepth 100000 in
set_option maxHeartbeats 4000000 in
theorem looks_1 {bs : Nat → Addr} (ha : Apart bs) (x y z : Int) (hz : numX z 3 = 1) : Contract Tryd.prog (G0 bs) 3 [iV x, iV y, iV z] [] (fun r t => r = bV true ∧ t = []) := by
  have gf := numX_ge (n := x) (m := 4) (by omega)
  have lf := numX_lt (n := x) (m := 4) (by omega)
  have gd := numX_ge (n := y) (m := 2) (by omega)
  have ld := numX_lt (n := y) (m := 2) (by omega)
  have nf := number10 (bs := bs) x 4 (by omega) (by omega)
  have nd := number10 (bs := bs) y 2 (by omega) (by omega)
  have nz := number10 (bs := bs) z 3 (by omega) (by omega)
  rw [hz] at nz
  generalize numX x 4 = f0 at *
  generalize numX y 2 = d0 at *
  refine run3 0 [13] rfl rfl ?_
  conv => whnf
  refine .data [] _ ⟨WkL.refl _, rfl, first9 ha⟩ ?_
  conv => whnf
  refine .data [iV x, iV 4] _ ⟨WkL.refl _, rfl, nf⟩ ?_
  conv => whnf
  rw [wrap_id (show -9223372036854775808 ≤ f0 + 1 by omega) (by omega)]
  refine .data [iV y, iV 2] _ ⟨WkL.refl _, rfl, nd⟩ ?_
  conv => whnf
  rw [wrap_id (show -9223372036854775808 ≤ 2 * d0 by omega) (by omega), wrap_id (show -9223372036854775808 ≤ 2 * d0 - 1 by omega) (by omega)]
  refine .data [iV z, iV 3] _ ⟨WkL.refl _, rfl, nz⟩ ?_
  conv => whnf
  generalize hf : f0 + 1 = f
  generalize hd : 2 * d0 - 1 = d
  have hd2 : d = 1 ∨ d = -1 := by omega
  have s4 := say4 (f := f) (d := d) (ca := 1) (by omega) (by omega) hd2 (by omega)
  have s7 := say7 (f := f) (d := d) (ca := 1) (by omega) (by omega) hd2 (by omega)
  refine .obj rfl ?_
  conv => whnf
  refine ⟨_, _, ⟨WkL.refl _, look6o_1 (l4 f d 1) (by simp [l4]) 4 _ _ _ _ s4 rfl (by simp [C4, zC])⟩, fun res s1 h => ?_⟩
  obtain ⟨rfl, rfl⟩ := h
  conv => whnf
  rw [wrap_id (show -9223372036854775808 ≤ f + d by omega) (by omega)]
  refine ⟨by simp [rowsV, l4], ⟨by show (2 * 7 + 1024) * 72 ≤ _; decide, by show 7 ≤ _; decide⟩, ?_⟩
  conv => whnf
  intro c hc
  conv => whnf
  refine .ghost (GV.trans (GV.freeze 5 (ab := .row 9 (rowsV (l4 f d 1 ++ l3 f d 1))) rfl (by simp) ?_ ?_) (GV.tidied [0, 1, 2, 7, 8, 9, 11, 12, 13] (E := [(0, iV f), (1, iV d), (2, iV 1), (7, bV true), (8, .ref (.g 0) 0), (9, .ref (.g 1) 0), (11, .d (.list 9 (rowsV (l4 f d 1 ++ l3 f d 1)))), (12, .ref (.g 2) 0), (13, nilE)]) (S := [(0, .cells [iV 3, iV 6, iV 1, iV 1]), (1, .cells [iV 1, iV 2]), (2, .cells [bV true, iV f, iV 1, iV 2, .d (.list 3 (rowsK [(f, d, 2)])), bV true])]) ?_)) ?_
  · repeat' first | exact trivial | apply And.intro | decide | (simp [rowsV, l4, l3]; done) | omega
  · repeat' first | exact trivial | apply And.intro | decide | (simp [rowsV, l4, l3]; done) | omega
  · conv => whnf
    exact ⟨rfl, rfl⟩
  refine .go wk3 [] ?_
  conv => whnf
  refine .obj rfl ?_
  conv => whnf
  refine ⟨_, _, ⟨WkL.refl _, look6_1 (l4 f d 1 ++ l3 f d 1) (by simp [l4, l3]) _ _ _ _ s7 rfl (by simp [C7, zC])⟩, fun res s1 h => ?_⟩
  obtain ⟨rfl, rfl⟩ := h
  conv => whnf
  refine ⟨⟨rfl, by decide⟩, ?_⟩
  conv => whnf
  refine .obj rfl ?_
  conv => whnf
  refine ⟨_, _, ⟨WkL.refl _, look6_2 (l4 f d 1 ++ l3 f d 1) (by simp [l4, l3]) _ _ _ _ s7 rfl (by simp [C7, zC])⟩, fun res s1 h => ?_⟩
  obtain ⟨rfl, rfl⟩ := h
  conv => whnf
  refine .scal [epV (1, 2), epV (1, 2)] _ (fun _ => ⟨.refl _, rfl, same7⟩) ?_
  conv => whnf
  refine ⟨?_, rfl⟩
  rw [wrap_id (show -9223372036854775808 ≤ f + d by omega) (by omega)]
  simp [C7, zC, rowsK]
set_option maxRecDepth 100000 in
set_option maxHeartbeats 4000000 in
theorem looks_2 {bs : Nat → Addr} (ha : Apart bs) (x y z : Int) (hz : numX z 3 = 2) : Contract Tryd.prog (G0 bs) 3 [iV x, iV y, iV z] [] (fun r t => r = bV true ∧ t = []) := by
  have gf := numX_ge (n := x) (m := 4) (by omega)
  have lf := numX_lt (n := x) (m := 4) (by omega)
  have gd := numX_ge (n := y) (m := 2) (by omega)
  have ld := numX_lt (n := y) (m := 2) (by omega)
  have nf := number10 (bs := bs) x 4 (by omega) (by omega)
  have nd := number10 (bs := bs) y 2 (by omega) (by omega)
  have nz := number10 (bs := bs) z 3 (by omega) (by omega)
  rw [hz] at nz
  generalize numX x 4 = f0 at *
  generalize numX y 2 = d0 at *
  refine run3 0 [13] rfl rfl ?_
  conv => whnf
  refine .data [] _ ⟨WkL.refl _, rfl, first9 ha⟩ ?_
  conv => whnf
  refine .data [iV x, iV 4] _ ⟨WkL.refl _, rfl, nf⟩ ?_
  conv => whnf
  rw [wrap_id (show -9223372036854775808 ≤ f0 + 1 by omega) (by omega)]
  refine .data [iV y, iV 2] _ ⟨WkL.refl _, rfl, nd⟩ ?_
  conv => whnf
  rw [wrap_id (show -9223372036854775808 ≤ 2 * d0 by omega) (by omega), wrap_id (show -9223372036854775808 ≤ 2 * d0 - 1 by omega) (by omega)]
  refine .data [iV z, iV 3] _ ⟨WkL.refl _, rfl, nz⟩ ?_
  conv => whnf
  generalize hf : f0 + 1 = f
  generalize hd : 2 * d0 - 1 = d
  have hd2 : d = 1 ∨ d = -1 := by omega
  have s4 := say4 (f := f) (d := d) (ca := 2) (by omega) (by omega) hd2 (by omega)
  have s7 := say7 (f := f) (d := d) (ca := 2) (by omega) (by omega) hd2 (by omega)
  refine .obj rfl ?_
  conv => whnf
  refine ⟨_, _, ⟨WkL.refl _, look6o_2 (l4 f d 2) (by simp [l4]) 4 _ _ _ _ s4 rfl (by simp [C4, zC])⟩, fun res s1 h => ?_⟩
  obtain ⟨rfl, rfl⟩ := h
  conv => whnf
  rw [wrap_id (show -9223372036854775808 ≤ f + d by omega) (by omega)]
  refine ⟨by simp [rowsV, l4], ⟨by show (2 * 7 + 1024) * 72 ≤ _; decide, by show 7 ≤ _; decide⟩, ?_⟩
  conv => whnf
  intro c hc
  conv => whnf
  refine .ghost (GV.trans (GV.freeze 5 (ab := .row 9 (rowsV (l4 f d 2 ++ l3 f d 2))) rfl (by simp) ?_ ?_) (GV.tidied [0, 1, 2, 7, 8, 9, 11, 12, 13] (E := [(0, iV f), (1, iV d), (2, iV 2), (7, bV true), (8, .ref (.g 0) 0), (9, .ref (.g 1) 0), (11, .d (.list 9 (rowsV (l4 f d 2 ++ l3 f d 2)))), (12, .ref (.g 2) 0), (13, nilE)]) (S := [(0, .cells [iV 3, iV 6, iV 1, iV 1]), (1, .cells [iV 1, iV 2]), (2, .cells [bV true, iV f, iV 1, iV 2, .d (.list 3 (rowsK [(f, d, 2)])), bV true])]) ?_)) ?_
  · repeat' first | exact trivial | apply And.intro | decide | (simp [rowsV, l4, l3]; done) | omega
  · repeat' first | exact trivial | apply And.intro | decide | (simp [rowsV, l4, l3]; done) | omega
  · conv => whnf
    exact ⟨rfl, rfl⟩
  refine .go wk3 [] ?_
  conv => whnf
  refine .obj rfl ?_
  conv => whnf
  refine ⟨_, _, ⟨WkL.refl _, look6_2 (l4 f d 2 ++ l3 f d 2) (by simp [l4, l3]) _ _ _ _ s7 rfl (by simp [C7, zC])⟩, fun res s1 h => ?_⟩
  obtain ⟨rfl, rfl⟩ := h
  conv => whnf
  refine ⟨⟨rfl, by decide⟩, ?_⟩
  conv => whnf
  refine .obj rfl ?_
  conv => whnf
  refine ⟨_, _, ⟨WkL.refl _, look6_0 (l4 f d 2 ++ l3 f d 2) (by simp [l4, l3]) _ _ _ _ s7 rfl (by simp [C7, zC])⟩, fun res s1 h => ?_⟩
  obtain ⟨rfl, rfl⟩ := h
  conv => whnf
  refine .scal [epV (1, 2), epV (1, 2)] _ (fun _ => ⟨.refl _, rfl, same7⟩) ?_
  conv => whnf
  refine ⟨?_, rfl⟩
  rw [wrap_id (show -9223372036854775808 ≤ f + d by omega) (by omega)]
  simp [C7, zC, rowsK]
theorem traceLooks {bs : Nat → Addr} (ha : Apart bs) (x y z : Int) : Contract Tryd.prog (G0 bs) 3 [iV x, iV y, iV z] [] (fun r t => r = bV true ∧ t = []) := by
  have g := numX_ge (n := z) (m := 3) (by omega)
  have l := numX_lt (n := z) (m := 3) (by omega)
  have h : numX z 3 = 0 ∨ numX z 3 = 1 ∨ numX z 3 = 2 := by omega
  rcases h with h | h | h
  · exact looks_0 ha x y z h
  · exact looks_1 ha x y z h
  · exact looks_2 ha x y z h
end Go.Proofs.YtgadgajhahfabaaDoor
/- Seat of TraceLooks: what the listed variables hold, told to the calculus. -/
namespace Go.Proofs.YtgadgajhahfabaaDoor
open Go.Pv Go.RowKit Go.ChangeShapes Go.WideShapes
abbrev laidE (x : String × Nat × List UInt8) : String × DataW Unit := (x.1, .iface "*errors.errorString" (.ptr (.agg [.lit (.string x.2.2)])))
theorem starE : "*" ++ "errors.errorString" = "*errors.errorString" := by decide
theorem row114 (u : TypeId) (h : Tryd.prog.typeName? 3 u = some "*errors.errorString") : u = 114 :=
  typeName_ptr_named (nm := "errors.errorString") (by rw [starE]; kernel_rfl) (by kernel_rfl) (by decide) u (by rw [starE]; exact h)
theorem Tryd.cells131 : Tryd.prog.cellsOf 131 = 1 := by kernel_rfl
theorem Tryd.cells9 : Tryd.prog.cellsOf 9 = 1 := by kernel_rfl
set_option maxRecDepth 100000 in
theorem laid_open {W : World} : ∀ (ns : List (String × Nat × List UInt8)) (ps : List MemPlace), (∀ x ∈ ns, Tryd.prog.globalNamed x.1 = some x.2.1 ∧ (Tryd.prog.globals[x.2.1]?).map (·.type) = some 39) →
    DataW.LaidVars Tryd.prog W (ns.map laidE) ps → (∀ b off, MemPlace.cell b off ∈ ps → (∃ c t, W.heap[b]? = some (.cells c t (0, 0))) ∧ ∀ u v, W.cell? ⟨b, off, .none⟩ = some (.iface u v) → Value.okWide Tryd.prog W .any 0 u v) →
    ∃ L : List (Nat × Addr), L.map (·.1) = ns.map (fun x => x.2.1) ∧ (L.map fun p => MemPlace.cell p.2.block p.2.off).Sublist ps ∧ ∀ p ∈ L, W.cell? ⟨p.1, 0, .none⟩ = some (.iface 114 (.pointer (some p.2))) ∧ MemPlace.cell p.1 0 ∈ ps
  | [], ps, _, _, _ => ⟨[], rfl, List.nil_sublist _, by simp⟩
  | x :: ns, ps, hn, h, hrows => by
    obtain ⟨g, t, cs, fuel, p, q, hg, ht, hv, hd, hq, e⟩ := h
    obtain ⟨n1, n2⟩ := hn x (List.mem_cons_self ..)
    obtain rfl := Option.some.inj (n1.symm.trans hg)
    obtain rfl := Option.some.inj (n2.symm.trans ht)
    obtain ⟨l0⟩ := cs
    have hmem : ∀ u v, l0 = [.iface u v] → MemPlace.cell x.2.1 0 ∈ ps := fun u v e0 => by
      rw [e, e0]
      simp [MemPlace.row]
    have ok0 : ∀ u v, l0 = [.iface u v] → Value.okWide Tryd.prog W .any 0 u v := fun u v e0 => by
      refine (hrows x.2.1 0 (hmem u v e0)).2 u v ?_
      subst e0
      exact (World.var?_cell hg hv 0).trans rfl
    obtain ⟨a, s, rfl, hc, hs, hz, rfl⟩ := errorString_of_trod Tryd.underlying39 row114 Tryd.underlying114 Tryd.underlying131 rfl rfl Tryd.underlying9 Tryd.cells131 Tryd.cells9 hd ok0
    have hm := hmem _ _ rfl
    subst e
    obtain ⟨L, h1, h2, h3⟩ := laid_open ns q (fun y hy => hn y (List.mem_cons_of_mem _ hy)) hq (fun b off hb => hrows b off (List.mem_append_right _ hb))
    refine ⟨(x.2.1, a) :: L, by simp [h1], ?_, fun y hy => ?_⟩
    · show (MemPlace.cell a.block a.off :: L.map fun p => MemPlace.cell p.2.block p.2.off).Sublist _
      have : (MemPlace.cell a.block a.off :: L.map fun p => MemPlace.cell p.2.block p.2.off).Sublist (MemPlace.row a 1 ++ q) := by
        simpa [MemPlace.row] using h2
      rw [List.append_assoc]
      exact this.trans (List.sublist_append_right ..)
    · rcases List.mem_cons.1 hy with rfl | hy
      · refine ⟨?_, hm⟩
        exact (World.var?_cell hg hv 0).trans rfl
      · obtain ⟨k1, k2⟩ := h3 y hy
        exact ⟨k1, List.mem_append_right _ k2⟩
/-- The variable of error k. -/
def gl (k : Nat) : Nat := [0, 1, 2, 3, 7, 8, 9, 10, 6, 4, 5, 11, 12].getD k 0
theorem glob_of_laid {W : World} {ns : List (String × Nat × List UInt8)} (hns : ∀ x ∈ ns, Tryd.prog.globalNamed x.1 = some x.2.1 ∧ (Tryd.prog.globals[x.2.1]?).map (·.type) = some 39) (hall : ∀ g, g < 13 → g ∈ ns.map (fun x => x.2.1))
    (h : laidMet Tryd.prog (ns.map laidE) W) : ∃ bs : Nat → Addr, Apart bs ∧ Glob (G0 bs) (fun b => b < W.heap.size) W := by
  obtain ⟨ps, hv, hnd, hrows⟩ := h
  obtain ⟨L, h1, h2, h3⟩ := laid_open ns ps hns hv hrows
  have hL := hnd.sublist h2
  obtain ⟨cs, hcs⟩ : ∃ cs : Nat → Addr, ∀ g, g < 13 → (g, cs g) ∈ L := by
    have : ∀ g, ∃ a : Addr, g < 13 → (g, a) ∈ L := fun g => by
      by_cases hg : g < 13
      · have := hall g hg
        rw [← h1] at this
        obtain ⟨⟨g', a⟩, hp, rfl⟩ := List.mem_map.1 this
        exact ⟨a, fun _ => hp⟩
      · exact ⟨⟨0, 0, .none⟩, fun h => absurd h hg⟩
    exact ⟨fun g => Classical.choose (this g), fun g hg => Classical.choose_spec (this g) hg⟩
  have hgl : ∀ k, k < 13 → gl k < 13 ∧ lg[gl k]? = some k := by decide
  have hlg : ∀ g k, g < 13 → lg[g]? = some k → k < 13 ∧ gl k = g := by
    have : ∀ g, g < 13 → ∀ k, lg[g]? = some k → k < 13 ∧ gl k = g := by
      have h0 : ∀ g, g < 13 → (match lg[g]? with
        | some k => decide (k < 13) && decide (gl k = g)
        | none => true) = true := by decide
      intro g hg k hk
      have := h0 g hg
      rw [hk] at this
      simpa using this
    exact fun g k hg hk => this g hg k hk
  refine ⟨fun k => cs (gl k), fun i j hi hj e => ?_, fun g cs' hg => ?_⟩
  · have := key_uniq (κ := fun p : Nat × Addr => MemPlace.cell p.2.block p.2.off) hL (hcs (gl i) (hgl i hi).1) (hcs (gl j) (hgl j hj).1) (by simp only [e])
    have e2 : gl i = gl j := congrArg Prod.fst this
    have a1 := (hgl i hi).2
    rw [e2, (hgl j hj).2] at a1
    exact (Option.some.inj a1).symm
  · unfold G0 at hg
    split at hg
    · rename_i k hk
      have hlt : g < 13 := by
        have := (List.getElem?_eq_some_iff.1 hk).1
        simpa [lg] using this
      cases hg
      obtain ⟨hk13, hkg⟩ := hlg g k hlt hk
      obtain ⟨k1, k2⟩ := h3 _ (hcs g hlt)
      rw [← hkg] at k1 k2
      obtain ⟨⟨c, t, hc⟩, _⟩ := hrows _ 0 k2
      rw [hkg] at k1 k2 hc
      have hgl2 := (Array.getElem?_eq_some_iff.1 hc).1
      refine ⟨?_, hgl2, c, t, hc⟩
      have hr := RD.ptr (N := fun b => b < W.heap.size) (w := W) [errD (fun k => cs (gl k)) k] 0 ⟨g, 0, .none⟩ (fun _ => .iface 114 (.pointer (some (cs (gl k))))) hgl2 (fun j hj => by
        have : j = 0 := by simpa using hj
        subst this
        have k1 : W.cell? ⟨g, 0, .none⟩ = some (.iface 114 (.pointer (some (cs g)))) := k1
        show W.cell? ⟨g, 0, .none⟩ = some (.iface 114 (.pointer (some (cs (gl k)))))
        rw [hkg]
        exact k1) (fun j x hx => by
        cases j with
        | zero => cases hx; exact .iface 114 _ _ (.raw _ rfl)
        | succ j => cases hx)
      exact hr
    · split at hg
      · rename_i hb
        cases hg
        obtain ⟨k, hk, hkb⟩ := List.any_eq_true.1 hb
        have hk13 := List.mem_range.1 hk
        have hkb := Nat.eq_of_beq_eq_true hkb
        subst hkb
        have hpl : MemPlace.cell (cs (gl k)).block (cs (gl k)).off ∈ ps := h2.subset (List.mem_map.2 ⟨_, hcs (gl k) (hgl k hk13).1, rfl⟩)
        obtain ⟨⟨c, t, hc⟩, _⟩ := hrows _ _ hpl
        have hgl2 := (Array.getElem?_eq_some_iff.1 hc).1
        refine ⟨?_, hgl2, c, t, hc⟩
        have hr := RD.ptr (N := fun b => b < W.heap.size) (w := W) [] 0 ⟨(cs (gl k)).block, 0, .none⟩ (fun _ => .nilIface) hgl2 (fun j hj => absurd hj (Nat.not_lt_zero j)) (fun j x hx => by cases hx)
        exact hr
      · cases hg
/-- The thirteen variables that the rows list. -/
def errs13L : List (String × Nat × List UInt8) := [("paternoster/api.ErrEnd", 7, [105, 116, 32, 101, 110, 100, 115, 32, 116, 111, 111, 32, 101, 97, 114, 108, 121]), ("paternoster/api.ErrShape", 8, [110, 111, 116, 32, 97, 115, 32, 105, 116, 32, 104, 97, 115, 32, 116, 111, 32, 98, 101]), ("paternoster/api.ErrRange", 0, [97, 32, 110, 117, 109, 98, 101, 114, 32, 111, 117, 116, 32, 111, 102, 32, 105, 116, 115, 32, 114, 97, 110, 103, 101]), ("paternoster/api.ErrMany", 9, [116, 111, 111, 32, 109, 97, 110, 121]), ("paternoster/api.ErrPower", 10, [116, 104, 101, 32, 112, 111, 119, 101, 114, 32, 105, 115, 32, 103, 111, 110, 101]), ("paternoster/api.ErrNone", 6, [116, 104, 101, 114, 101, 32, 105, 115, 32, 110, 111, 110, 101]), ("paternoster/api.ErrKind", 1, [110, 111, 116, 32, 111, 102, 32, 116, 104, 97, 116, 32, 107, 105, 110, 100]), ("paternoster/api.ErrOrder", 4, [110, 111, 116, 32, 105, 110, 32, 116, 104, 97, 116, 32, 111, 114, 100, 101, 114]), ("paternoster/api.ErrDoor", 2, [110, 111, 116, 32, 119, 105, 116, 104, 32, 116, 104, 101, 32, 100, 111, 111, 114, 32, 115, 111]), ("paternoster/api.ErrFloor", 5, [110, 111, 116, 32, 97, 116, 32, 116, 104, 97, 116, 32, 102, 108, 111, 111, 114]), ("paternoster/api.ErrTwice", 3, [116, 104, 101, 114, 101, 32, 105, 115, 32, 111, 110, 101]), ("paternoster/api.ErrWord", 11, [110, 111, 32, 115, 117, 99, 104, 32, 119, 111, 114, 100]), ("paternoster/api.ErrNumber", 12, [110, 111, 116, 32, 97, 32, 110, 117, 109, 98, 101, 114])]
set_option maxRecDepth 100000 in
theorem errs13 {W : World} (h : laidMet Tryd.prog (errs13L.map laidE) W) : ∃ bs : Nat → Addr, Apart bs ∧ Glob (G0 bs) (fun b => b < W.heap.size) W :=
  glob_of_laid (ns := errs13L) (fun x hx => by
    have hall : (errs13L.all fun x => decide (Tryd.prog.globalNamed x.1 = some x.2.1) && decide ((Tryd.prog.globals[x.2.1]?).map (·.type) = some 39)) = true := by kernel_rfl
    have := List.all_eq_true.1 hall x hx
    simp only [Bool.and_eq_true, decide_eq_true_eq] at this
    exact this) (fun g hg => by
    have : ∀ g, g < 13 → g ∈ errs13L.map (fun x => x.2.1) := by decide
    exact this g hg) h
end Go.Proofs.YtgadgajhahfabaaDoor
/- Seat of TraceLooks: what comes in. -/
namespace Go.Proofs.YtgadgajhahfabaaDoor
open Go.Pv Go.RowKit
theorem dat_ev {n : Nat} {r : List DV} (h : Dat T (n + 4) 33 r) : ∃ e : Ev, r = rowV e := by
  obtain ⟨_, _, rfl, ⟨kd, _, _, rfl⟩, _, _, rfl, ⟨ca, _, _, rfl⟩, _, _, rfl, ⟨_, _, rfl, ⟨_, _, rfl, ⟨fl, _, _, rfl⟩, _, _, rfl, ⟨dr, _, _, rfl⟩, rfl⟩, _, _, rfl, ⟨gn, _, _, rfl⟩, rfl⟩, _, _, rfl, ⟨_, _, rfl, ⟨e1, _, _, rfl⟩, _, _, rfl, ⟨e2, _, _, rfl⟩, rfl⟩, _, _, rfl, ⟨f, _, _, rfl⟩, _, _, rfl, ⟨d, _, _, rfl⟩, rfl⟩ := h
  exact ⟨⟨kd, ca, (fl, dr, gn), (e1, e2), f, d⟩, rfl⟩
theorem dat_evs {n : Nat} {r : List DV} (h : Dat T (n + 5) 34 r) : ∃ (x : DV) (l : List Ev), r = [x] ∧ l.length ≤ maxLen ∧ WkD x (.list 9 (rowsV l)) := by
  rcases h with h | ⟨rows, h1, h2, h⟩
  · exact ⟨.nil, [], h, by simp, WkD.nil 9⟩
  · have : ∃ l : List Ev, rows = rowsV l := by
      clear h1 h
      induction rows with
      | nil => exact ⟨[], rfl⟩
      | cons r rs ih =>
        obtain ⟨l, h3⟩ := ih fun x hx => h2 x (List.mem_cons_of_mem _ hx)
        obtain ⟨b, h4⟩ := dat_ev (h2 r (List.mem_cons_self ..))
        exact ⟨b :: l, by rw [h3, h4]; rfl⟩
    obtain ⟨l, rfl⟩ := this
    exact ⟨_, l, h, by simpa [rowsV] using h1, WkD.refl _⟩
theorem arg_evs {n : Nat} {x : AV} (h : ArgD T (n + 6) 34 x) : ∃ l : List Ev, l.length ≤ maxLen ∧ ∀ {r r' : List AV}, WkL r r' → WkL (x :: r) (.d (.list 9 (rowsV l)) :: r') := by
  obtain ⟨y, h, rfl⟩ := h
  obtain ⟨z, l, hz, hl, hw⟩ := dat_evs h
  cases hz
  exact ⟨l, hl, fun h => .w hw h⟩
theorem arg_i64 {n : Nat} {x : AV} (h : ArgD T (n + 1) 3 x) : ∃ a : Int, IntKind.min .i64 ≤ a ∧ a ≤ IntKind.max .i64 ∧ x = iV a := by
  obtain ⟨_, ⟨a, h1, h2, h⟩, rfl⟩ := h
  cases h
  exact ⟨a, h1, h2, rfl⟩
end Go.Proofs.YtgadgajhahfabaaDoor
