/- The seat's texts, part 2: what single functions of the program compute; no statement of its own. -/
import Derived.Test.YtgadgajhahfabaaDoorGA
import Derived.Test.YtgadgajhahfabaaDoorSp
/- Seat of TraceLooks: a checker's methods, of 3 cars: printed by mk_s4d.py. -/
namespace Go.Proofs.YtgadgajhahfabaaDoor
open Go.Pv Go.RowKit
set_option maxHeartbeats 1000000 in
set_option maxRecDepth 100000 in
theorem ring50_3_0 {bs : Nat → Addr} (q1 q2 q3 q4 : Int) (c0 c1 c2 : Cr) (fo : List Ep) (aw : List At) (cl : List (At × Int)) (e : Ev) (hfo : (fo.map kE).Nodup) : Contract Tryd.prog (G0 bs) 27 [.ref (.g 0) 0, .el (.g 1) 9 0 0, evV e] [(0, chk q1 q2 q3 q4 3), (1, .arow 9 [carR c0 5, carR c1 6, carR c2 7]), (2, .dmap (encE fo)), (3, .dmap (encA aw)), (4, .dmap (encW cl)), (5, .dmap (encK c0.cm)), (6, .dmap (encK c1.cm)), (7, .dmap (encK c2.cm))] (fun r t => match ringX c0 fo e with
    | .error g => r = .d (errD bs g) ∧ t = [(0, chk q1 q2 q3 q4 3), (1, .arow 9 [carR c0 5, carR c1 6, carR c2 7]), (2, .dmap (encE fo)), (3, .dmap (encA aw)), (4, .dmap (encW cl)), (5, .dmap (encK c0.cm)), (6, .dmap (encK c1.cm)), (7, .dmap (encK c2.cm))]
    | .ok (c', fo') => r = .d (.raw .nilIface) ∧ t = [(0, chk q1 q2 q3 q4 3), (1, .arow 9 [carR c' 8, carR c1 6, carR c2 7]), (2, .dmap (encE fo')), (3, .dmap (encA aw)), (4, .dmap (encW cl)), (5, .dmap (encK c0.cm)), (6, .dmap (encK c1.cm)), (7, .dmap (encK c2.cm)), (8, .dmap (encK []))]) := by
  obtain ⟨X, hX⟩ : ∃ X, ringX c0 fo e = X := ⟨_, rfl⟩
  rw [hX]
  unfold ringX at hX
  have hg := dget_enc (ev := one1) dxE_inj hfo e.ep
  refine run27 8 [] rfl rfl ?_
  conv => whnf
  refine ⟨carR c0 5, rfl, rfl, ?_⟩
  conv => whnf
  refine .scal [epV c0.le, epV e.ep] _ ⟨.refl _, rfl, less69 _ _⟩ ?_
  conv => whnf
  refine ⟨carR c0 5, fun _ => rfl, rfl, ?_⟩
  conv => whnf
  refine ⟨carR c0 5, fun _ => rfl, rfl, ?_⟩
  conv => whnf
  refine bcase_intro (fun h1 => ?_) (fun h1 => ?_) <;> conv => whnf
  · have h1 : (bif !lessE c0.le e.ep then true else bif c0.an then decide (e.ep.1 ≤ c0.le.1) else false) = true := h1
    rw [h1] at hX
    subst hX
    exact ⟨rfl, rfl⟩
  have h1 : (bif !lessE c0.le e.ep then true else bif c0.an then decide (e.ep.1 ≤ c0.le.1) else false) = false := h1
  rw [h1] at hX
  cases hf : aget kE fo e.ep with
  | none =>
    rw [hf] at hg hX
    refine ⟨heldE, .none, fun _ => ⟨dxE_good _, good_enc dxE_good fo, hg⟩, ?_⟩
    conv => whnf
    refine bcase_intro (fun h2 => ?_) (fun h2 => ?_) <;> conv => whnf
    · exfalso
      have h2 : (bif e.kd == 3 then decide ((0 : Int) > 0) else false) = true := h2
      cases e.kd == 3 <;> simp at h2 
    refine bcase_intro (fun h3 => ?_) (fun h3 => ?_) <;> conv => whnf
    · have h3 : (e.kd == 3) = true := h3
      rw [h3] at hX
      refine ⟨heldE, encE (aput kE fo e.ep), ⟨dxE_good _, good_enc dxE_good fo, dput_enc dxE_inj hfo e.ep⟩, ?_⟩
      conv => whnf
      refine ⟨carR c0 5, rfl, ?_⟩
      conv => whnf
      refine ⟨_, rfl, ?_⟩
      conv => whnf
      refine ⟨_, rfl, ?_⟩
      conv => whnf
      subst hX
      exact ⟨rfl, rfl⟩
    · have h3 : (e.kd == 3) = false := h3
      rw [h3] at hX
      refine ⟨carR c0 5, rfl, ?_⟩
      conv => whnf
      refine ⟨_, rfl, ?_⟩
      conv => whnf
      refine ⟨_, rfl, ?_⟩
      conv => whnf
      subst hX
      exact ⟨rfl, rfl⟩
  | some y =>
    rw [hf] at hg hX
    refine ⟨heldE, .some (.one (.int .i64 1)), fun _ => ⟨dxE_good _, good_enc dxE_good fo, hg⟩, ?_⟩
    conv => whnf
    refine bcase_intro (fun h2 => ?_) (fun h2 => ?_) <;> conv => whnf
    · have h2 : (bif e.kd == 3 then decide ((1 : Int) > 0) else false) = true := h2
      have hX : (bif (bif e.kd == 3 then decide ((1 : Int) > 0) else false) then _ else _) = X := hX
      rw [h2] at hX
      subst hX
      exact ⟨rfl, rfl⟩
    have h2 : (bif e.kd == 3 then decide ((1 : Int) > 0) else false) = false := h2
    have hX : (bif (bif e.kd == 3 then decide ((1 : Int) > 0) else false) then _ else _) = X := hX
    rw [h2] at hX
    refine bcase_intro (fun h3 => ?_) (fun h3 => ?_) <;> conv => whnf
    · exfalso
      have h3 : (e.kd == 3) = true := h3
      rw [h3] at h2
      cases h2
    · have h3 : (e.kd == 3) = false := h3
      rw [h3] at hX
      refine ⟨carR c0 5, rfl, ?_⟩
      conv => whnf
      refine ⟨_, rfl, ?_⟩
      conv => whnf
      refine ⟨_, rfl, ?_⟩
      conv => whnf
      subst hX
      exact ⟨rfl, rfl⟩
set_option maxHeartbeats 1000000 in
set_option maxRecDepth 100000 in
theorem claim51_3_0 {bs : Nat → Addr} (q1 q2 q3 q4 : Int) (c0 c1 c2 : Cr) (fo : List Ep) (aw : List At) (cl : List (At × Int)) (e : Ev) (hcl : (cl.map kW).Nodup) (hcm : (c0.cm.map kK).Nodup) : Contract Tryd.prog (G0 bs) 28 [.ref (.g 0) 0, .el (.g 1) 9 0 0, evV e] [(0, chk q1 q2 q3 q4 3), (1, .arow 9 [carR c0 5, carR c1 6, carR c2 7]), (2, .dmap (encE fo)), (3, .dmap (encA aw)), (4, .dmap (encW cl)), (5, .dmap (encK c0.cm)), (6, .dmap (encK c1.cm)), (7, .dmap (encK c2.cm))] (fun r t => match claimX c0 cl e with
    | .error g => r = .d (errD bs g) ∧ t = [(0, chk q1 q2 q3 q4 3), (1, .arow 9 [carR c0 5, carR c1 6, carR c2 7]), (2, .dmap (encE fo)), (3, .dmap (encA aw)), (4, .dmap (encW cl)), (5, .dmap (encK c0.cm)), (6, .dmap (encK c1.cm)), (7, .dmap (encK c2.cm))]
    | .ok (c', cl') => r = .d (.raw .nilIface) ∧ t = [(0, chk q1 q2 q3 q4 3), (1, .arow 9 [carR c' 5, carR c1 6, carR c2 7]), (2, .dmap (encE fo)), (3, .dmap (encA aw)), (4, .dmap (encW cl')), (5, .dmap (encK c'.cm)), (6, .dmap (encK c1.cm)), (7, .dmap (encK c2.cm))]) := by
  obtain ⟨X, hX⟩ : ∃ X, claimX c0 cl e = X := ⟨_, rfl⟩
  rw [hX]
  unfold claimX at hX
  have hg := dget_enc (ev := whoW) dxA_inj hcl (e.lt, e.ep)
  have hk := dget_enc (ev := one1) dxK_inj hcm e.lt
  refine run28 8 [] rfl rfl ?_
  conv => whnf
  cases hf : aget kW cl (e.lt, e.ep) with
  | none =>
    rw [hf] at hg hX
    refine ⟨heldA, .none, ⟨dxA_good (e.lt, e.ep), good_enc dxA_good cl, hg⟩, ?_⟩
    conv => whnf
    refine ⟨carR c0 5, rfl, rfl, ?_⟩
    conv => whnf
    refine ⟨⟨by kernel_rfl, by kernel_rfl⟩, ?_⟩
    conv => whnf
    refine bcase_intro (fun h1 => ?_) (fun h1 => ?_) <;> conv => whnf
    · have h1 : (!sameE e.ep c0.le) = true := h1
      rw [h1] at hX
      subst hX
      exact ⟨rfl, rfl⟩
    have h1 : (!sameE e.ep c0.le) = false := h1
    rw [h1] at hX
    refine ⟨carR c0 5, fun _ => rfl, rfl, ?_⟩
    conv => whnf
    cases hm : aget kK c0.cm e.lt with
    | none =>
      rw [hm] at hk hX
      refine ⟨heldK, .none, fun _ => ⟨dxK_good _, good_enc dxK_good c0.cm, hk⟩, ?_⟩
      conv => whnf
      refine ⟨heldA, encW (aput kW cl ((e.lt, e.ep), IntKind.wrap .i64 (e.ca + 1))), ⟨dxA_good (e.lt, e.ep), good_enc dxA_good cl, dput_enc (ev := whoW) dxA_inj hcl ((e.lt, e.ep), IntKind.wrap .i64 (e.ca + 1))⟩, ?_⟩
      conv => whnf
      refine ⟨carR c0 5, rfl, rfl, ?_⟩
      conv => whnf
      refine ⟨heldK, encK (aput kK c0.cm e.lt), ⟨dxK_good _, good_enc dxK_good c0.cm, dput_enc (ev := one1) dxK_inj hcm e.lt⟩, ?_⟩
      conv => whnf
      subst hX
      exact ⟨rfl, rfl⟩
    | some z =>
      rw [hm] at hk hX
      refine ⟨heldK, .some (.one (.int .i64 1)), fun _ => ⟨dxK_good _, good_enc dxK_good c0.cm, hk⟩, ?_⟩
      conv => whnf
      subst hX
      exact ⟨rfl, rfl⟩
  | some y =>
    rw [hf] at hg hX
    refine ⟨heldA, .some (.one (.int .i64 y.2)), ⟨dxA_good (e.lt, e.ep), good_enc dxA_good cl, hg⟩, ?_⟩
    conv => whnf
    refine ⟨carR c0 5, rfl, rfl, ?_⟩
    conv => whnf
    refine ⟨⟨by kernel_rfl, by kernel_rfl⟩, ?_⟩
    conv => whnf
    refine bcase_intro (fun h1 => ?_) (fun h1 => ?_) <;> conv => whnf
    · have h1 : (!sameE e.ep c0.le) = true := h1
      rw [h1] at hX
      subst hX
      exact ⟨rfl, rfl⟩
    have h1 : (!sameE e.ep c0.le) = false := h1
    rw [h1] at hX
    refine ⟨carR c0 5, fun _ => rfl, rfl, ?_⟩
    conv => whnf
    cases hm : aget kK c0.cm e.lt with
    | none =>
      rw [hm] at hk hX
      refine ⟨heldK, .none, fun _ => ⟨dxK_good _, good_enc dxK_good c0.cm, hk⟩, ?_⟩
      conv => whnf
      refine bcase_intro (fun h2 => ?_) (fun h2 => ?_) <;> conv => whnf
      · have h2 : (bif (bif decide (y.2 > 0) then y.2 != IntKind.wrap .i64 (e.ca + 1) else false) then true else decide ((0 : Int) > 0)) = true := h2
        have hX : (bif (bif (bif decide (y.2 > 0) then y.2 != IntKind.wrap .i64 (e.ca + 1) else false) then true else decide ((0 : Int) > 0)) then _ else _) = X := hX
        rw [h2] at hX
        subst hX
        exact ⟨rfl, rfl⟩
      have h2 : (bif (bif decide (y.2 > 0) then y.2 != IntKind.wrap .i64 (e.ca + 1) else false) then true else decide ((0 : Int) > 0)) = false := h2
      have hX : (bif (bif (bif decide (y.2 > 0) then y.2 != IntKind.wrap .i64 (e.ca + 1) else false) then true else decide ((0 : Int) > 0)) then _ else _) = X := hX
      rw [h2] at hX
      refine ⟨heldA, encW (aput kW cl ((e.lt, e.ep), IntKind.wrap .i64 (e.ca + 1))), ⟨dxA_good (e.lt, e.ep), good_enc dxA_good cl, dput_enc (ev := whoW) dxA_inj hcl ((e.lt, e.ep), IntKind.wrap .i64 (e.ca + 1))⟩, ?_⟩
      conv => whnf
      refine ⟨carR c0 5, rfl, rfl, ?_⟩
      conv => whnf
      refine ⟨heldK, encK (aput kK c0.cm e.lt), ⟨dxK_good _, good_enc dxK_good c0.cm, dput_enc (ev := one1) dxK_inj hcm e.lt⟩, ?_⟩
      conv => whnf
      subst hX
      exact ⟨rfl, rfl⟩
    | some z =>
      rw [hm] at hk hX
      refine ⟨heldK, .some (.one (.int .i64 1)), fun _ => ⟨dxK_good _, good_enc dxK_good c0.cm, hk⟩, ?_⟩
      conv => whnf
      refine bcase_intro (fun h2 => ?_) (fun h2 => ?_) <;> conv => whnf
      · have h2 : (bif (bif decide (y.2 > 0) then y.2 != IntKind.wrap .i64 (e.ca + 1) else false) then true else decide ((1 : Int) > 0)) = true := h2
        have hX : (bif (bif (bif decide (y.2 > 0) then y.2 != IntKind.wrap .i64 (e.ca + 1) else false) then true else decide ((1 : Int) > 0)) then _ else _) = X := hX
        rw [h2] at hX
        subst hX
        exact ⟨rfl, rfl⟩
      exfalso
      have h2 : (bif (bif decide (y.2 > 0) then y.2 != IntKind.wrap .i64 (e.ca + 1) else false) then true else decide ((1 : Int) > 0)) = false := h2
      cases hb : (bif decide (y.2 > 0) then y.2 != IntKind.wrap .i64 (e.ca + 1) else false) <;> rw [hb] at h2 <;> cases h2
set_option maxHeartbeats 1000000 in
set_option maxRecDepth 100000 in
theorem clears52_3_0 {bs : Nat → Addr} (c0 c1 c2 : Cr) (e : Ev) (hcm : (c0.cm.map kK).Nodup) : Contract Tryd.prog (G0 bs) 29 [.el (.g 0) 9 0 0, evV e] [(0, .arow 9 [carR c0 1, carR c1 2, carR c2 3]), (1, .dmap (encK c0.cm)), (2, .dmap (encK c1.cm)), (3, .dmap (encK c2.cm))] (fun r t => match clearX c0 e with
    | .error g => r = .d (errD bs g) ∧ t = [(0, .arow 9 [carR c0 1, carR c1 2, carR c2 3]), (1, .dmap (encK c0.cm)), (2, .dmap (encK c1.cm)), (3, .dmap (encK c2.cm))]
    | .ok c' => r = .d (.raw .nilIface) ∧ t = [(0, .arow 9 [carR c' 1, carR c1 2, carR c2 3]), (1, .dmap (encK c'.cm)), (2, .dmap (encK c1.cm)), (3, .dmap (encK c2.cm))]) := by
  obtain ⟨X, hX⟩ : ∃ X, clearX c0 e = X := ⟨_, rfl⟩
  rw [hX]
  unfold clearX at hX
  have hk := dget_enc (ev := one1) dxK_inj hcm e.lt
  refine run29 4 [] rfl rfl ?_
  conv => whnf
  refine ⟨carR c0 1, rfl, rfl, ?_⟩
  conv => whnf
  refine bcase_intro (fun h1 => ?_) (fun h1 => ?_) <;> conv => whnf
  · have h1 : (!c0.op) = true := h1
    rw [h1] at hX
    subst hX
    exact ⟨rfl, rfl⟩
  have h1 : (!c0.op) = false := h1
  rw [h1] at hX
  refine ⟨carR c0 1, rfl, rfl, ?_⟩
  conv => whnf
  refine ⟨carR c0 1, fun _ => rfl, rfl, ?_⟩
  conv => whnf
  refine bcase_intro (fun h2 => ?_) (fun h2 => ?_) <;> conv => whnf
  · have h2 : (bif e.fl != c0.wh then true else e.lt.1 != c0.wh) = true := h2
    rw [h2] at hX
    subst hX
    exact ⟨rfl, rfl⟩
  have h2 : (bif e.fl != c0.wh then true else e.lt.1 != c0.wh) = false := h2
  rw [h2] at hX
  refine ⟨carR c0 1, rfl, rfl, ?_⟩
  conv => whnf
  refine bcase_intro (fun h3 => ?_) (fun h3 => ?_) <;> conv => whnf
  · have h3 : (e.lt.2.1 != c0.la) = true := h3
    rw [h3] at hX
    subst hX
    exact ⟨rfl, rfl⟩
  have h3 : (e.lt.2.1 != c0.la) = false := h3
  rw [h3] at hX
  refine ⟨carR c0 1, rfl, rfl, ?_⟩
  conv => whnf
  cases hm : aget kK c0.cm e.lt with
  | none =>
    rw [hm] at hk hX
    refine ⟨heldK, .none, ⟨dxK_good _, good_enc dxK_good c0.cm, hk⟩, ?_⟩
    conv => whnf
    subst hX
    exact ⟨rfl, rfl⟩
  | some z =>
    rw [hm] at hk hX
    refine ⟨heldK, .some (.one (.int .i64 1)), ⟨dxK_good _, good_enc dxK_good c0.cm, hk⟩, ?_⟩
    conv => whnf
    refine ⟨carR c0 1, rfl, rfl, ?_⟩
    conv => whnf
    refine ⟨heldK, encK (adel kK c0.cm e.lt), ⟨dxK_good _, good_enc dxK_good c0.cm, ddel_enc (ev := one1) dxK_inj hcm e.lt⟩, ?_⟩
    conv => whnf
    subst hX
    exact ⟨rfl, rfl⟩
set_option maxHeartbeats 1000000 in
set_option maxRecDepth 100000 in
theorem moves53_3_0 {bs : Nat → Addr} (q1 q2 q3 q4 : Int) (c0 c1 c2 : Cr) (fo : List Ep) (aw : List At) (cl : List (At × Int)) (e : Ev) : Contract Tryd.prog (G0 bs) 30 [.ref (.g 0) 0, .el (.g 1) 9 0 0, evV e] [(0, chk q1 q2 q3 q4 3), (1, .arow 9 [carR c0 5, carR c1 6, carR c2 7]), (2, .dmap (encE fo)), (3, .dmap (encA aw)), (4, .dmap (encW cl)), (5, .dmap (encK c0.cm)), (6, .dmap (encK c1.cm)), (7, .dmap (encK c2.cm))] (fun r t => match moveX q2 c0 e with
    | .error g => r = .d (errD bs g) ∧ t = [(0, chk q1 q2 q3 q4 3), (1, .arow 9 [carR c0 5, carR c1 6, carR c2 7]), (2, .dmap (encE fo)), (3, .dmap (encA aw)), (4, .dmap (encW cl)), (5, .dmap (encK c0.cm)), (6, .dmap (encK c1.cm)), (7, .dmap (encK c2.cm))]
    | .ok c' => r = .d (.raw .nilIface) ∧ t = [(0, chk q1 q2 q3 q4 3), (1, .arow 9 [carR c' 5, carR c1 6, carR c2 7]), (2, .dmap (encE fo)), (3, .dmap (encA aw)), (4, .dmap (encW cl)), (5, .dmap (encK c'.cm)), (6, .dmap (encK c1.cm)), (7, .dmap (encK c2.cm))]) := by
  obtain ⟨X, hX⟩ : ∃ X, moveX q2 c0 e = X := ⟨_, rfl⟩
  rw [hX]
  unfold moveX at hX
  refine run30 8 [13] rfl rfl ?_
  conv => whnf
  refine ⟨carR c0 5, rfl, rfl, ?_⟩
  conv => whnf
  have hne : (c0.op != (e.kd == 6)) = !(c0.op == (e.kd == 6)) := rfl
  rw [hne] at hX
  cases h1 : c0.op == (e.kd == 6) with
  | false =>
    conv => whnf
    rw [h1] at hX
    subst hX
    exact ⟨rfl, rfl⟩
  | true =>
  conv => whnf
  rw [h1] at hX
  refine ⟨carR c0 5, fun _ => rfl, rfl, ?_⟩
  conv => whnf
  refine bcase_intro (fun h2 => ?_) (fun h2 => ?_) <;> conv => whnf
  · refine bcase_intro (fun h3 => ?_) (fun h3 => ?_) <;> conv => whnf
    · have h2 : (bif e.kd == 6 then e.fl != c0.wh else false) = true := h2
      rw [h2] at hX
      subst hX
      exact ⟨rfl, rfl⟩
    · exact absurd (h2.symm.trans h3) (by decide)
  have h2 : (bif e.kd == 6 then e.fl != c0.wh else false) = false := h2
  rw [h2] at hX
  refine bcase_intro (fun h3 => ?_) (fun h3 => ?_) <;> conv => whnf
  · have h3 : (bif e.kd != 6 then (bif decide (e.fl < 0) then true else decide (e.fl ≥ q2)) else false) = true := h3
    rw [h3] at hX
    subst hX
    exact ⟨rfl, rfl⟩
  have h3 : (bif e.kd != 6 then (bif decide (e.fl < 0) then true else decide (e.fl ≥ q2)) else false) = false := h3
  rw [h3] at hX
  refine bcase_intro (fun h4 => ?_) (fun h4 => ?_) <;> conv => whnf
  · refine bcase_intro (fun h5 => ?_) (fun h5 => ?_) <;> conv => whnf
    · have h4 : (bif e.kd == 5 then (bif decide (e.di < -1) then true else decide (e.di > 1)) else false) = true := h4
      rw [h4] at hX
      subst hX
      exact ⟨rfl, rfl⟩
    · exact absurd (h4.symm.trans h5) (by decide)
  have h4 : (bif e.kd == 5 then (bif decide (e.di < -1) then true else decide (e.di > 1)) else false) = false := h4
  rw [h4] at hX
  refine bcase_intro (fun h5 => ?_) (fun h5 => ?_) <;> conv => whnf
  · have h5 : (bif (bif e.kd == 7 then e.di != 1 else false) then e.di != -1 else false) = true := h5
    rw [h5] at hX
    subst hX
    exact ⟨rfl, rfl⟩
  have h5 : (bif (bif e.kd == 7 then e.di != 1 else false) then e.di != -1 else false) = false := h5
  rw [h5] at hX
  cases h6 : e.kd == 5 with
  | true =>
    rw [h6] at hX
    refine ⟨carR c0 5, rfl, ?_⟩
    conv => whnf
    refine ⟨_, rfl, ?_⟩
    conv => whnf
    refine ⟨_, rfl, rfl, ?_⟩
    conv => whnf
    refine StopG.draw wk30 [] sp30_13 [6] (fun env s => env = [(6, .d (.raw .nilIface))] ∧ s = [(0, chk q1 q2 q3 q4 3), (1, .arow 9 [carR { c0 with op := true, fl := e.fl, wh := e.fl, la := e.di } 5, carR c1 6, carR c2 7]), (2, .dmap (encE fo)), (3, .dmap (encA aw)), (4, .dmap (encW cl)), (5, .dmap (encK c0.cm)), (6, .dmap (encK c1.cm)), (7, .dmap (encK c2.cm))]) rfl rfl (by kernel_rfl) ?_ ?_
    · conv => whnf
      repeat' (first
        | (refine Both.mk ?_ ?_ <;> conv => whnf)
        | (refine ⟨_, rfl, ?_⟩; conv => whnf)
        | exact ⟨rfl, rfl⟩)
    rintro env s ⟨rfl, rfl⟩
    conv => whnf
    subst hX
    exact ⟨rfl, rfl⟩
  | false =>
    rw [h6] at hX
    refine ⟨carR c0 5, rfl, ?_⟩
    conv => whnf
    refine ⟨_, rfl, ?_⟩
    conv => whnf
    refine ⟨_, rfl, rfl, ?_⟩
    conv => whnf
    subst hX
    exact ⟨rfl, rfl⟩
set_option maxHeartbeats 2000000 in
set_option maxRecDepth 100000 in
theorem event32_3_0 {bs : Nat → Addr} (q1 q2 q3 q4 : Int) (c0 c1 c2 : Cr) (fo : List Ep) (aw : List At) (cl : List (At × Int)) (e : Ev) (hkd : ¬ (e.kd < 1 ∨ e.kd > 11)) (hca : e.ca = 0) (hfo : (fo.map kE).Nodup) (haw : (aw.map kA).Nodup) (hcl : (cl.map kW).Nodup) (hcm : (c0.cm.map kK).Nodup) : Contract Tryd.prog (G0 bs) 19 [.ref (.g 0) 0, evV e] [(0, chk q1 q2 q3 q4 3), (1, .arow 9 [carR c0 5, carR c1 6, carR c2 7]), (2, .dmap (encE fo)), (3, .dmap (encA aw)), (4, .dmap (encW cl)), (5, .dmap (encK c0.cm)), (6, .dmap (encK c1.cm)), (7, .dmap (encK c2.cm))] (fun r t => match carX q2 ⟨[c0, c1, c2], fo, aw, cl⟩ 0 c0 e with
    | .error g => r = .d (errD bs g) ∧ t = [(0, chk q1 q2 q3 q4 3), (1, .arow 9 [carR c0 5, carR c1 6, carR c2 7]), (2, .dmap (encE fo)), (3, .dmap (encA aw)), (4, .dmap (encW cl)), (5, .dmap (encK c0.cm)), (6, .dmap (encK c1.cm)), (7, .dmap (encK c2.cm))]
    | .ok k' => r = .d (.raw .nilIface) ∧ ∃ d0 d1 d2 : Cr, k'.cars = [d0, d1, d2] ∧ (t = [(0, chk q1 q2 q3 q4 3), (1, .arow 9 [carR d0 5, carR d1 6, carR d2 7]), (2, .dmap (encE k'.fo)), (3, .dmap (encA k'.aw)), (4, .dmap (encW k'.cl)), (5, .dmap (encK d0.cm)), (6, .dmap (encK d1.cm)), (7, .dmap (encK d2.cm))] ∨ (d0.cm = [] ∧ t = [(0, chk q1 q2 q3 q4 3), (1, .arow 9 [carR d0 8, carR d1 6, carR d2 7]), (2, .dmap (encE k'.fo)), (3, .dmap (encA k'.aw)), (4, .dmap (encW k'.cl)), (5, .dmap (encK c0.cm)), (6, .dmap (encK d1.cm)), (7, .dmap (encK d2.cm)), (8, .dmap (encK []))]))) := by
  obtain ⟨kd, ca, lt, ep, fl, di⟩ := e
  have hca : ca = 0 := hca
  subst hca
  obtain ⟨X, hX⟩ : ∃ X, carX q2 ⟨[c0, c1, c2], fo, aw, cl⟩ 0 c0 ⟨kd, 0, lt, ep, fl, di⟩ = X := ⟨_, rfl⟩
  rw [hX]
  unfold carX at hX
  dsimp only at hX hkd
  have hg := dget_enc (ev := one1) dxA_inj haw (lt, ep)
  refine run19 8 [] rfl rfl ?_
  conv => whnf
  refine bcase_intro (fun h => ?_) (fun h => ?_) <;> conv => whnf
  · exfalso
    have h : (bif decide (kd < 1) then true else decide (kd > 11)) = true := h
    rw [decide_eq_false (show ¬ kd < 1 by omega), decide_eq_false (show ¬ kd > 11 by omega)] at h
    cases h
  refine ⟨⟨(by show (0 : Int) ≤ 0; decide), (by show (0 : Int) < 3; decide)⟩, ?_⟩
  conv => whnf
  refine bcase_intro (fun h9 => ?_) (fun h9 => ?_) <;> conv => whnf
  · have h9 : (kd == 9) = true := h9
    rw [h9] at hX
    refine ⟨carR c0 5, rfl, rfl, ?_⟩
    conv => whnf
    cases hop : c0.op with
    | true =>
      conv => whnf
      rw [hop] at hX
      subst hX
      exact ⟨rfl, rfl⟩
    | false =>
      conv => whnf
      refine ⟨_, rfl, ?_⟩
      conv => whnf
      refine ⟨_, rfl, ?_⟩
      conv => whnf
      refine ⟨_, rfl, ?_⟩
      conv => whnf
      rw [hop] at hX
      subst hX
      exact ⟨rfl, _, _, _, rfl, .inr ⟨rfl, by rw [hop]; rfl⟩⟩
  have h9 : (kd == 9) = false := h9
  rw [h9] at hX
  cases h3 : kd == 3 with
  | true =>
    conv => whnf
    rw [h3] at hX
    refine .obj rfl ?_
    conv => whnf
    refine ⟨_, _, ⟨WkL.refl _, ring50_3_0 q1 q2 q3 q4 c0 c1 c2 fo aw cl ⟨kd, 0, lt, ep, fl, di⟩ hfo⟩, fun res s1 h => ?_⟩
    cases hR : ringX c0 fo ⟨kd, 0, lt, ep, fl, di⟩ with
    | error g =>
      rw [hR] at h hX
      obtain ⟨rfl, rfl⟩ := h
      conv => whnf
      subst hX
      exact ⟨rfl, rfl⟩
    | ok y =>
      rw [hR] at h hX
      obtain ⟨c9, f9⟩ := y
      obtain ⟨rfl, rfl⟩ := h
      conv => whnf
      subst hX
      exact ⟨rfl, _, _, _, rfl, .inr ⟨ringX_cm hR, rfl⟩⟩
  | false =>
  conv => whnf
  rw [h3] at hX
  cases h4 : kd == 4 with
  | true =>
    conv => whnf
    rw [h4] at hX
    refine .obj rfl ?_
    conv => whnf
    refine ⟨_, _, ⟨WkL.refl _, ring50_3_0 q1 q2 q3 q4 c0 c1 c2 fo aw cl ⟨kd, 0, lt, ep, fl, di⟩ hfo⟩, fun res s1 h => ?_⟩
    cases hR : ringX c0 fo ⟨kd, 0, lt, ep, fl, di⟩ with
    | error g =>
      rw [hR] at h hX
      obtain ⟨rfl, rfl⟩ := h
      conv => whnf
      subst hX
      exact ⟨rfl, rfl⟩
    | ok y =>
      rw [hR] at h hX
      obtain ⟨c9, f9⟩ := y
      obtain ⟨rfl, rfl⟩ := h
      conv => whnf
      subst hX
      exact ⟨rfl, _, _, _, rfl, .inr ⟨ringX_cm hR, rfl⟩⟩
  | false =>
  conv => whnf
  rw [h4] at hX
  refine bcase_intro (fun h2 => ?_) (fun h2 => ?_) <;> conv => whnf
  · have h2 : (kd == 2) = true := h2
    rw [h2] at hX
    cases hf : aget kA aw (lt, ep) with
    | none =>
      rw [hf] at hg hX
      refine ⟨heldA, .none, ⟨dxA_good (lt, ep), good_enc dxA_good aw, hg⟩, ?_⟩
      conv => whnf
      refine ⟨heldA, encA (aput kA aw (lt, ep)), ⟨dxA_good (lt, ep), good_enc dxA_good aw, dput_enc (ev := one1) dxA_inj haw (lt, ep)⟩, ?_⟩
      conv => whnf
      subst hX
      exact ⟨rfl, _, _, _, rfl, .inl rfl⟩
    | some y =>
      rw [hf] at hg hX
      refine ⟨heldA, .some (.one (.int .i64 1)), ⟨dxA_good (lt, ep), good_enc dxA_good aw, hg⟩, ?_⟩
      conv => whnf
      subst hX
      exact ⟨rfl, rfl⟩
  have h2 : (kd == 2) = false := h2
  rw [h2] at hX
  refine bcase_intro (fun h1 => ?_) (fun h1 => ?_) <;> conv => whnf
  · have h1 : (kd == 1) = true := h1
    rw [h1] at hX
    refine .obj rfl ?_
    conv => whnf
    refine ⟨_, _, ⟨WkL.refl _, claim51_3_0 q1 q2 q3 q4 c0 c1 c2 fo aw cl ⟨kd, 0, lt, ep, fl, di⟩ hcl (hcm)⟩, fun res s1 h => ?_⟩
    cases hR : claimX c0 cl ⟨kd, 0, lt, ep, fl, di⟩ with
    | error g =>
      rw [hR] at h hX
      obtain ⟨rfl, rfl⟩ := h
      conv => whnf
      subst hX
      exact ⟨rfl, rfl⟩
    | ok y =>
      rw [hR] at h hX
      obtain ⟨c9, f9⟩ := y
      obtain ⟨rfl, rfl⟩ := h
      conv => whnf
      subst hX
      exact ⟨rfl, _, _, _, rfl, .inl rfl⟩
  have h1 : (kd == 1) = false := h1
  rw [h1] at hX
  refine bcase_intro (fun h8 => ?_) (fun h8 => ?_) <;> conv => whnf
  · have h8 : (kd == 8) = true := h8
    rw [h8] at hX
    refine .obj rfl ?_
    conv => whnf
    refine ⟨_, _, ⟨WkL.refl _, clears52_3_0 c0 c1 c2 ⟨kd, 0, lt, ep, fl, di⟩ hcm⟩, fun res s1 h => ?_⟩
    cases hR : clearX c0 ⟨kd, 0, lt, ep, fl, di⟩ with
    | error g =>
      rw [hR] at h hX
      obtain ⟨rfl, rfl⟩ := h
      conv => whnf
      subst hX
      exact ⟨rfl, rfl⟩
    | ok y =>
      rw [hR] at h hX
      obtain c9 := y
      obtain ⟨rfl, rfl⟩ := h
      conv => whnf
      subst hX
      exact ⟨rfl, _, _, _, rfl, .inl rfl⟩
  have h8 : (kd == 8) = false := h8
  rw [h8] at hX
  refine bcase_intro (fun h10 => ?_) (fun h10 => ?_) <;> conv => whnf
  · have h10 : (kd == 10) = true := h10
    rw [h10] at hX
    refine ⟨_, rfl, ?_⟩
    conv => whnf
    subst hX
    exact ⟨rfl, _, _, _, rfl, .inr ⟨rfl, rfl⟩⟩
  have h10 : (kd == 10) = false := h10
  rw [h10] at hX
  cases h5 : kd == 5 with
  | true =>
    conv => whnf
    rw [h5] at hX
    refine .obj rfl ?_
    conv => whnf
    refine ⟨_, _, ⟨WkL.refl _, moves53_3_0 q1 q2 q3 q4 c0 c1 c2 fo aw cl ⟨kd, 0, lt, ep, fl, di⟩⟩, fun res s1 h => ?_⟩
    cases hR : moveX q2 c0 ⟨kd, 0, lt, ep, fl, di⟩ with
    | error g =>
      rw [hR] at h hX
      obtain ⟨rfl, rfl⟩ := h
      conv => whnf
      subst hX
      exact ⟨rfl, rfl⟩
    | ok y =>
      rw [hR] at h hX
      obtain c9 := y
      obtain ⟨rfl, rfl⟩ := h
      conv => whnf
      subst hX
      exact ⟨rfl, _, _, _, rfl, .inl rfl⟩
  | false =>
  conv => whnf
  rw [h5] at hX
  cases h6 : kd == 6 with
  | true =>
    conv => whnf
    rw [h6] at hX
    refine .obj rfl ?_
    conv => whnf
    refine ⟨_, _, ⟨WkL.refl _, moves53_3_0 q1 q2 q3 q4 c0 c1 c2 fo aw cl ⟨kd, 0, lt, ep, fl, di⟩⟩, fun res s1 h => ?_⟩
    cases hR : moveX q2 c0 ⟨kd, 0, lt, ep, fl, di⟩ with
    | error g =>
      rw [hR] at h hX
      obtain ⟨rfl, rfl⟩ := h
      conv => whnf
      subst hX
      exact ⟨rfl, rfl⟩
    | ok y =>
      rw [hR] at h hX
      obtain c9 := y
      obtain ⟨rfl, rfl⟩ := h
      conv => whnf
      subst hX
      exact ⟨rfl, _, _, _, rfl, .inl rfl⟩
  | false =>
  conv => whnf
  rw [h6] at hX
  refine bcase_intro (fun h7 => ?_) (fun h7 => ?_) <;> conv => whnf
  · have h7 : (kd == 7) = true := h7
    rw [h7] at hX
    refine .obj rfl ?_
    conv => whnf
    refine ⟨_, _, ⟨WkL.refl _, moves53_3_0 q1 q2 q3 q4 c0 c1 c2 fo aw cl ⟨kd, 0, lt, ep, fl, di⟩⟩, fun res s1 h => ?_⟩
    cases hR : moveX q2 c0 ⟨kd, 0, lt, ep, fl, di⟩ with
    | error g =>
      rw [hR] at h hX
      obtain ⟨rfl, rfl⟩ := h
      conv => whnf
      subst hX
      exact ⟨rfl, rfl⟩
    | ok y =>
      rw [hR] at h hX
      obtain c9 := y
      obtain ⟨rfl, rfl⟩ := h
      conv => whnf
      subst hX
      exact ⟨rfl, _, _, _, rfl, .inl rfl⟩
  have h7 : (kd == 7) = false := h7
  rw [h7] at hX
  subst hX
  exact ⟨rfl, _, _, _, rfl, .inl rfl⟩
set_option maxHeartbeats 1000000 in
set_option maxRecDepth 100000 in
theorem ring50_3_1 {bs : Nat → Addr} (q1 q2 q3 q4 : Int) (c0 c1 c2 : Cr) (fo : List Ep) (aw : List At) (cl : List (At × Int)) (e : Ev) (hfo : (fo.map kE).Nodup) : Contract Tryd.prog (G0 bs) 27 [.ref (.g 0) 0, .el (.g 1) 9 1 0, evV e] [(0, chk q1 q2 q3 q4 3), (1, .arow 9 [carR c0 5, carR c1 6, carR c2 7]), (2, .dmap (encE fo)), (3, .dmap (encA aw)), (4, .dmap (encW cl)), (5, .dmap (encK c0.cm)), (6, .dmap (encK c1.cm)), (7, .dmap (encK c2.cm))] (fun r t => match ringX c1 fo e with
    | .error g => r = .d (errD bs g) ∧ t = [(0, chk q1 q2 q3 q4 3), (1, .arow 9 [carR c0 5, carR c1 6, carR c2 7]), (2, .dmap (encE fo)), (3, .dmap (encA aw)), (4, .dmap (encW cl)), (5, .dmap (encK c0.cm)), (6, .dmap (encK c1.cm)), (7, .dmap (encK c2.cm))]
    | .ok (c', fo') => r = .d (.raw .nilIface) ∧ t = [(0, chk q1 q2 q3 q4 3), (1, .arow 9 [carR c0 5, carR c' 8, carR c2 7]), (2, .dmap (encE fo')), (3, .dmap (encA aw)), (4, .dmap (encW cl)), (5, .dmap (encK c0.cm)), (6, .dmap (encK c1.cm)), (7, .dmap (encK c2.cm)), (8, .dmap (encK []))]) := by
  obtain ⟨X, hX⟩ : ∃ X, ringX c1 fo e = X := ⟨_, rfl⟩
  rw [hX]
  unfold ringX at hX
  have hg := dget_enc (ev := one1) dxE_inj hfo e.ep
  refine run27 8 [] rfl rfl ?_
  conv => whnf
  refine ⟨carR c1 6, rfl, rfl, ?_⟩
  conv => whnf
  refine .scal [epV c1.le, epV e.ep] _ ⟨.refl _, rfl, less69 _ _⟩ ?_
  conv => whnf
  refine ⟨carR c1 6, fun _ => rfl, rfl, ?_⟩
  conv => whnf
  refine ⟨carR c1 6, fun _ => rfl, rfl, ?_⟩
  conv => whnf
  refine bcase_intro (fun h1 => ?_) (fun h1 => ?_) <;> conv => whnf
  · have h1 : (bif !lessE c1.le e.ep then true else bif c1.an then decide (e.ep.1 ≤ c1.le.1) else false) = true := h1
    rw [h1] at hX
    subst hX
    exact ⟨rfl, rfl⟩
  have h1 : (bif !lessE c1.le e.ep then true else bif c1.an then decide (e.ep.1 ≤ c1.le.1) else false) = false := h1
  rw [h1] at hX
  cases hf : aget kE fo e.ep with
  | none =>
    rw [hf] at hg hX
    refine ⟨heldE, .none, fun _ => ⟨dxE_good _, good_enc dxE_good fo, hg⟩, ?_⟩
    conv => whnf
    refine bcase_intro (fun h2 => ?_) (fun h2 => ?_) <;> conv => whnf
    · exfalso
      have h2 : (bif e.kd == 3 then decide ((0 : Int) > 0) else false) = true := h2
      cases e.kd == 3 <;> simp at h2 
    refine bcase_intro (fun h3 => ?_) (fun h3 => ?_) <;> conv => whnf
    · have h3 : (e.kd == 3) = true := h3
      rw [h3] at hX
      refine ⟨heldE, encE (aput kE fo e.ep), ⟨dxE_good _, good_enc dxE_good fo, dput_enc dxE_inj hfo e.ep⟩, ?_⟩
      conv => whnf
      refine ⟨carR c1 6, rfl, ?_⟩
      conv => whnf
      refine ⟨_, rfl, ?_⟩
      conv => whnf
      refine ⟨_, rfl, ?_⟩
      conv => whnf
      subst hX
      exact ⟨rfl, rfl⟩
    · have h3 : (e.kd == 3) = false := h3
      rw [h3] at hX
      refine ⟨carR c1 6, rfl, ?_⟩
      conv => whnf
      refine ⟨_, rfl, ?_⟩
      conv => whnf
      refine ⟨_, rfl, ?_⟩
      conv => whnf
      subst hX
      exact ⟨rfl, rfl⟩
  | some y =>
    rw [hf] at hg hX
    refine ⟨heldE, .some (.one (.int .i64 1)), fun _ => ⟨dxE_good _, good_enc dxE_good fo, hg⟩, ?_⟩
    conv => whnf
    refine bcase_intro (fun h2 => ?_) (fun h2 => ?_) <;> conv => whnf
    · have h2 : (bif e.kd == 3 then decide ((1 : Int) > 0) else false) = true := h2
      have hX : (bif (bif e.kd == 3 then decide ((1 : Int) > 0) else false) then _ else _) = X := hX
      rw [h2] at hX
      subst hX
      exact ⟨rfl, rfl⟩
    have h2 : (bif e.kd == 3 then decide ((1 : Int) > 0) else false) = false := h2
    have hX : (bif (bif e.kd == 3 then decide ((1 : Int) > 0) else false) then _ else _) = X := hX
    rw [h2] at hX
    refine bcase_intro (fun h3 => ?_) (fun h3 => ?_) <;> conv => whnf
    · exfalso
      have h3 : (e.kd == 3) = true := h3
      rw [h3] at h2
      cases h2
    · have h3 : (e.kd == 3) = false := h3
      rw [h3] at hX
      refine ⟨carR c1 6, rfl, ?_⟩
      conv => whnf
      refine ⟨_, rfl, ?_⟩
      conv => whnf
      refine ⟨_, rfl, ?_⟩
      conv => whnf
      subst hX
      exact ⟨rfl, rfl⟩
set_option maxHeartbeats 1000000 in
set_option maxRecDepth 100000 in
theorem claim51_3_1 {bs : Nat → Addr} (q1 q2 q3 q4 : Int) (c0 c1 c2 : Cr) (fo : List Ep) (aw : List At) (cl : List (At × Int)) (e : Ev) (hcl : (cl.map kW).Nodup) (hcm : (c1.cm.map kK).Nodup) : Contract Tryd.prog (G0 bs) 28 [.ref (.g 0) 0, .el (.g 1) 9 1 0, evV e] [(0, chk q1 q2 q3 q4 3), (1, .arow 9 [carR c0 5, carR c1 6, carR c2 7]), (2, .dmap (encE fo)), (3, .dmap (encA aw)), (4, .dmap (encW cl)), (5, .dmap (encK c0.cm)), (6, .dmap (encK c1.cm)), (7, .dmap (encK c2.cm))] (fun r t => match claimX c1 cl e with
    | .error g => r = .d (errD bs g) ∧ t = [(0, chk q1 q2 q3 q4 3), (1, .arow 9 [carR c0 5, carR c1 6, carR c2 7]), (2, .dmap (encE fo)), (3, .dmap (encA aw)), (4, .dmap (encW cl)), (5, .dmap (encK c0.cm)), (6, .dmap (encK c1.cm)), (7, .dmap (encK c2.cm))]
    | .ok (c', cl') => r = .d (.raw .nilIface) ∧ t = [(0, chk q1 q2 q3 q4 3), (1, .arow 9 [carR c0 5, carR c' 6, carR c2 7]), (2, .dmap (encE fo)), (3, .dmap (encA aw)), (4, .dmap (encW cl')), (5, .dmap (encK c0.cm)), (6, .dmap (encK c'.cm)), (7, .dmap (encK c2.cm))]) := by
  obtain ⟨X, hX⟩ : ∃ X, claimX c1 cl e = X := ⟨_, rfl⟩
  rw [hX]
  unfold claimX at hX
  have hg := dget_enc (ev := whoW) dxA_inj hcl (e.lt, e.ep)
  have hk := dget_enc (ev := one1) dxK_inj hcm e.lt
  refine run28 8 [] rfl rfl ?_
  conv => whnf
  cases hf : aget kW cl (e.lt, e.ep) with
  | none =>
    rw [hf] at hg hX
    refine ⟨heldA, .none, ⟨dxA_good (e.lt, e.ep), good_enc dxA_good cl, hg⟩, ?_⟩
    conv => whnf
    refine ⟨carR c1 6, rfl, rfl, ?_⟩
    conv => whnf
    refine ⟨⟨by kernel_rfl, by kernel_rfl⟩, ?_⟩
    conv => whnf
    refine bcase_intro (fun h1 => ?_) (fun h1 => ?_) <;> conv => whnf
    · have h1 : (!sameE e.ep c1.le) = true := h1
      rw [h1] at hX
      subst hX
      exact ⟨rfl, rfl⟩
    have h1 : (!sameE e.ep c1.le) = false := h1
    rw [h1] at hX
    refine ⟨carR c1 6, fun _ => rfl, rfl, ?_⟩
    conv => whnf
    cases hm : aget kK c1.cm e.lt with
    | none =>
      rw [hm] at hk hX
      refine ⟨heldK, .none, fun _ => ⟨dxK_good _, good_enc dxK_good c1.cm, hk⟩, ?_⟩
      conv => whnf
      refine ⟨heldA, encW (aput kW cl ((e.lt, e.ep), IntKind.wrap .i64 (e.ca + 1))), ⟨dxA_good (e.lt, e.ep), good_enc dxA_good cl, dput_enc (ev := whoW) dxA_inj hcl ((e.lt, e.ep), IntKind.wrap .i64 (e.ca + 1))⟩, ?_⟩
      conv => whnf
      refine ⟨carR c1 6, rfl, rfl, ?_⟩
      conv => whnf
      refine ⟨heldK, encK (aput kK c1.cm e.lt), ⟨dxK_good _, good_enc dxK_good c1.cm, dput_enc (ev := one1) dxK_inj hcm e.lt⟩, ?_⟩
      conv => whnf
      subst hX
      exact ⟨rfl, rfl⟩
    | some z =>
      rw [hm] at hk hX
      refine ⟨heldK, .some (.one (.int .i64 1)), fun _ => ⟨dxK_good _, good_enc dxK_good c1.cm, hk⟩, ?_⟩
      conv => whnf
      subst hX
      exact ⟨rfl, rfl⟩
  | some y =>
    rw [hf] at hg hX
    refine ⟨heldA, .some (.one (.int .i64 y.2)), ⟨dxA_good (e.lt, e.ep), good_enc dxA_good cl, hg⟩, ?_⟩
    conv => whnf
    refine ⟨carR c1 6, rfl, rfl, ?_⟩
    conv => whnf
    refine ⟨⟨by kernel_rfl, by kernel_rfl⟩, ?_⟩
    conv => whnf
    refine bcase_intro (fun h1 => ?_) (fun h1 => ?_) <;> conv => whnf
    · have h1 : (!sameE e.ep c1.le) = true := h1
      rw [h1] at hX
      subst hX
      exact ⟨rfl, rfl⟩
    have h1 : (!sameE e.ep c1.le) = false := h1
    rw [h1] at hX
    refine ⟨carR c1 6, fun _ => rfl, rfl, ?_⟩
    conv => whnf
    cases hm : aget kK c1.cm e.lt with
    | none =>
      rw [hm] at hk hX
      refine ⟨heldK, .none, fun _ => ⟨dxK_good _, good_enc dxK_good c1.cm, hk⟩, ?_⟩
      conv => whnf
      refine bcase_intro (fun h2 => ?_) (fun h2 => ?_) <;> conv => whnf
      · have h2 : (bif (bif decide (y.2 > 0) then y.2 != IntKind.wrap .i64 (e.ca + 1) else false) then true else decide ((0 : Int) > 0)) = true := h2
        have hX : (bif (bif (bif decide (y.2 > 0) then y.2 != IntKind.wrap .i64 (e.ca + 1) else false) then true else decide ((0 : Int) > 0)) then _ else _) = X := hX
        rw [h2] at hX
        subst hX
        exact ⟨rfl, rfl⟩
      have h2 : (bif (bif decide (y.2 > 0) then y.2 != IntKind.wrap .i64 (e.ca + 1) else false) then true else decide ((0 : Int) > 0)) = false := h2
      have hX : (bif (bif (bif decide (y.2 > 0) then y.2 != IntKind.wrap .i64 (e.ca + 1) else false) then true else decide ((0 : Int) > 0)) then _ else _) = X := hX
      rw [h2] at hX
      refine ⟨heldA, encW (aput kW cl ((e.lt, e.ep), IntKind.wrap .i64 (e.ca + 1))), ⟨dxA_good (e.lt, e.ep), good_enc dxA_good cl, dput_enc (ev := whoW) dxA_inj hcl ((e.lt, e.ep), IntKind.wrap .i64 (e.ca + 1))⟩, ?_⟩
      conv => whnf
      refine ⟨carR c1 6, rfl, rfl, ?_⟩
      conv => whnf
      refine ⟨heldK, encK (aput kK c1.cm e.lt), ⟨dxK_good _, good_enc dxK_good c1.cm, dput_enc (ev := one1) dxK_inj hcm e.lt⟩, ?_⟩
      conv => whnf
      subst hX
      exact ⟨rfl, rfl⟩
    | some z =>
      rw [hm] at hk hX
      refine ⟨heldK, .some (.one (.int .i64 1)), fun _ => ⟨dxK_good _, good_enc dxK_good c1.cm, hk⟩, ?_⟩
      conv => whnf
      refine bcase_intro (fun h2 => ?_) (fun h2 => ?_) <;> conv => whnf
      · have h2 : (bif (bif decide (y.2 > 0) then y.2 != IntKind.wrap .i64 (e.ca + 1) else false) then true else decide ((1 : Int) > 0)) = true := h2
        have hX : (bif (bif (bif decide (y.2 > 0) then y.2 != IntKind.wrap .i64 (e.ca + 1) else false) then true else decide ((1 : Int) > 0)) then _ else _) = X := hX
        rw [h2] at hX
        subst hX
        exact ⟨rfl, rfl⟩
      exfalso
      have h2 : (bif (bif decide (y.2 > 0) then y.2 != IntKind.wrap .i64 (e.ca + 1) else false) then true else decide ((1 : Int) > 0)) = false := h2
      cases hb : (bif decide (y.2 > 0) then y.2 != IntKind.wrap .i64 (e.ca + 1) else false) <;> rw [hb] at h2 <;> cases h2
set_option maxHeartbeats 1000000 in
set_option maxRecDepth 100000 in
theorem clears52_3_1 {bs : Nat → Addr} (c0 c1 c2 : Cr) (e : Ev) (hcm : (c1.cm.map kK).Nodup) : Contract Tryd.prog (G0 bs) 29 [.el (.g 0) 9 1 0, evV e] [(0, .arow 9 [carR c0 1, carR c1 2, carR c2 3]), (1, .dmap (encK c0.cm)), (2, .dmap (encK c1.cm)), (3, .dmap (encK c2.cm))] (fun r t => match clearX c1 e with
    | .error g => r = .d (errD bs g) ∧ t = [(0, .arow 9 [carR c0 1, carR c1 2, carR c2 3]), (1, .dmap (encK c0.cm)), (2, .dmap (encK c1.cm)), (3, .dmap (encK c2.cm))]
    | .ok c' => r = .d (.raw .nilIface) ∧ t = [(0, .arow 9 [carR c0 1, carR c' 2, carR c2 3]), (1, .dmap (encK c0.cm)), (2, .dmap (encK c'.cm)), (3, .dmap (encK c2.cm))]) := by
  obtain ⟨X, hX⟩ : ∃ X, clearX c1 e = X := ⟨_, rfl⟩
  rw [hX]
  unfold clearX at hX
  have hk := dget_enc (ev := one1) dxK_inj hcm e.lt
  refine run29 4 [] rfl rfl ?_
  conv => whnf
  refine ⟨carR c1 2, rfl, rfl, ?_⟩
  conv => whnf
  refine bcase_intro (fun h1 => ?_) (fun h1 => ?_) <;> conv => whnf
  · have h1 : (!c1.op) = true := h1
    rw [h1] at hX
    subst hX
    exact ⟨rfl, rfl⟩
  have h1 : (!c1.op) = false := h1
  rw [h1] at hX
  refine ⟨carR c1 2, rfl, rfl, ?_⟩
  conv => whnf
  refine ⟨carR c1 2, fun _ => rfl, rfl, ?_⟩
  conv => whnf
  refine bcase_intro (fun h2 => ?_) (fun h2 => ?_) <;> conv => whnf
  · have h2 : (bif e.fl != c1.wh then true else e.lt.1 != c1.wh) = true := h2
    rw [h2] at hX
    subst hX
    exact ⟨rfl, rfl⟩
  have h2 : (bif e.fl != c1.wh then true else e.lt.1 != c1.wh) = false := h2
  rw [h2] at hX
  refine ⟨carR c1 2, rfl, rfl, ?_⟩
  conv => whnf
  refine bcase_intro (fun h3 => ?_) (fun h3 => ?_) <;> conv => whnf
  · have h3 : (e.lt.2.1 != c1.la) = true := h3
    rw [h3] at hX
    subst hX
    exact ⟨rfl, rfl⟩
  have h3 : (e.lt.2.1 != c1.la) = false := h3
  rw [h3] at hX
  refine ⟨carR c1 2, rfl, rfl, ?_⟩
  conv => whnf
  cases hm : aget kK c1.cm e.lt with
  | none =>
    rw [hm] at hk hX
    refine ⟨heldK, .none, ⟨dxK_good _, good_enc dxK_good c1.cm, hk⟩, ?_⟩
    conv => whnf
    subst hX
    exact ⟨rfl, rfl⟩
  | some z =>
    rw [hm] at hk hX
    refine ⟨heldK, .some (.one (.int .i64 1)), ⟨dxK_good _, good_enc dxK_good c1.cm, hk⟩, ?_⟩
    conv => whnf
    refine ⟨carR c1 2, rfl, rfl, ?_⟩
    conv => whnf
    refine ⟨heldK, encK (adel kK c1.cm e.lt), ⟨dxK_good _, good_enc dxK_good c1.cm, ddel_enc (ev := one1) dxK_inj hcm e.lt⟩, ?_⟩
    conv => whnf
    subst hX
    exact ⟨rfl, rfl⟩
set_option maxHeartbeats 1000000 in
set_option maxRecDepth 100000 in
theorem moves53_3_1 {bs : Nat → Addr} (q1 q2 q3 q4 : Int) (c0 c1 c2 : Cr) (fo : List Ep) (aw : List At) (cl : List (At × Int)) (e : Ev) : Contract Tryd.prog (G0 bs) 30 [.ref (.g 0) 0, .el (.g 1) 9 1 0, evV e] [(0, chk q1 q2 q3 q4 3), (1, .arow 9 [carR c0 5, carR c1 6, carR c2 7]), (2, .dmap (encE fo)), (3, .dmap (encA aw)), (4, .dmap (encW cl)), (5, .dmap (encK c0.cm)), (6, .dmap (encK c1.cm)), (7, .dmap (encK c2.cm))] (fun r t => match moveX q2 c1 e with
    | .error g => r = .d (errD bs g) ∧ t = [(0, chk q1 q2 q3 q4 3), (1, .arow 9 [carR c0 5, carR c1 6, carR c2 7]), (2, .dmap (encE fo)), (3, .dmap (encA aw)), (4, .dmap (encW cl)), (5, .dmap (encK c0.cm)), (6, .dmap (encK c1.cm)), (7, .dmap (encK c2.cm))]
    | .ok c' => r = .d (.raw .nilIface) ∧ t = [(0, chk q1 q2 q3 q4 3), (1, .arow 9 [carR c0 5, carR c' 6, carR c2 7]), (2, .dmap (encE fo)), (3, .dmap (encA aw)), (4, .dmap (encW cl)), (5, .dmap (encK c0.cm)), (6, .dmap (encK c'.cm)), (7, .dmap (encK c2.cm))]) := by
  obtain ⟨X, hX⟩ : ∃ X, moveX q2 c1 e = X := ⟨_, rfl⟩
  rw [hX]
  unfold moveX at hX
  refine run30 8 [13] rfl rfl ?_
  conv => whnf
  refine ⟨carR c1 6, rfl, rfl, ?_⟩
  conv => whnf
  have hne : (c1.op != (e.kd == 6)) = !(c1.op == (e.kd == 6)) := rfl
  rw [hne] at hX
  cases h1 : c1.op == (e.kd == 6) with
  | false =>
    conv => whnf
    rw [h1] at hX
    subst hX
    exact ⟨rfl, rfl⟩
  | true =>
  conv => whnf
  rw [h1] at hX
  refine ⟨carR c1 6, fun _ => rfl, rfl, ?_⟩
  conv => whnf
  refine bcase_intro (fun h2 => ?_) (fun h2 => ?_) <;> conv => whnf
  · refine bcase_intro (fun h3 => ?_) (fun h3 => ?_) <;> conv => whnf
    · have h2 : (bif e.kd == 6 then e.fl != c1.wh else false) = true := h2
      rw [h2] at hX
      subst hX
      exact ⟨rfl, rfl⟩
    · exact absurd (h2.symm.trans h3) (by decide)
  have h2 : (bif e.kd == 6 then e.fl != c1.wh else false) = false := h2
  rw [h2] at hX
  refine bcase_intro (fun h3 => ?_) (fun h3 => ?_) <;> conv => whnf
  · have h3 : (bif e.kd != 6 then (bif decide (e.fl < 0) then true else decide (e.fl ≥ q2)) else false) = true := h3
    rw [h3] at hX
    subst hX
    exact ⟨rfl, rfl⟩
  have h3 : (bif e.kd != 6 then (bif decide (e.fl < 0) then true else decide (e.fl ≥ q2)) else false) = false := h3
  rw [h3] at hX
  refine bcase_intro (fun h4 => ?_) (fun h4 => ?_) <;> conv => whnf
  · refine bcase_intro (fun h5 => ?_) (fun h5 => ?_) <;> conv => whnf
    · have h4 : (bif e.kd == 5 then (bif decide (e.di < -1) then true else decide (e.di > 1)) else false) = true := h4
      rw [h4] at hX
      subst hX
      exact ⟨rfl, rfl⟩
    · exact absurd (h4.symm.trans h5) (by decide)
  have h4 : (bif e.kd == 5 then (bif decide (e.di < -1) then true else decide (e.di > 1)) else false) = false := h4
  rw [h4] at hX
  refine bcase_intro (fun h5 => ?_) (fun h5 => ?_) <;> conv => whnf
  · have h5 : (bif (bif e.kd == 7 then e.di != 1 else false) then e.di != -1 else false) = true := h5
    rw [h5] at hX
    subst hX
    exact ⟨rfl, rfl⟩
  have h5 : (bif (bif e.kd == 7 then e.di != 1 else false) then e.di != -1 else false) = false := h5
  rw [h5] at hX
  cases h6 : e.kd == 5 with
  | true =>
    rw [h6] at hX
    refine ⟨carR c1 6, rfl, ?_⟩
    conv => whnf
    refine ⟨_, rfl, ?_⟩
    conv => whnf
    refine ⟨_, rfl, rfl, ?_⟩
    conv => whnf
    refine StopG.draw wk30 [] sp30_13 [6] (fun env s => env = [(6, .d (.raw .nilIface))] ∧ s = [(0, chk q1 q2 q3 q4 3), (1, .arow 9 [carR c0 5, carR { c1 with op := true, fl := e.fl, wh := e.fl, la := e.di } 6, carR c2 7]), (2, .dmap (encE fo)), (3, .dmap (encA aw)), (4, .dmap (encW cl)), (5, .dmap (encK c0.cm)), (6, .dmap (encK c1.cm)), (7, .dmap (encK c2.cm))]) rfl rfl (by kernel_rfl) ?_ ?_
    · conv => whnf
      repeat' (first
        | (refine Both.mk ?_ ?_ <;> conv => whnf)
        | (refine ⟨_, rfl, ?_⟩; conv => whnf)
        | exact ⟨rfl, rfl⟩)
    rintro env s ⟨rfl, rfl⟩
    conv => whnf
    subst hX
    exact ⟨rfl, rfl⟩
  | false =>
    rw [h6] at hX
    refine ⟨carR c1 6, rfl, ?_⟩
    conv => whnf
    refine ⟨_, rfl, ?_⟩
    conv => whnf
    refine ⟨_, rfl, rfl, ?_⟩
    conv => whnf
    subst hX
    exact ⟨rfl, rfl⟩
set_option maxHeartbeats 2000000 in
set_option maxRecDepth 100000 in
theorem event32_3_1 {bs : Nat → Addr} (q1 q2 q3 q4 : Int) (c0 c1 c2 : Cr) (fo : List Ep) (aw : List At) (cl : List (At × Int)) (e : Ev) (hkd : ¬ (e.kd < 1 ∨ e.kd > 11)) (hca : e.ca = 1) (hfo : (fo.map kE).Nodup) (haw : (aw.map kA).Nodup) (hcl : (cl.map kW).Nodup) (hcm : (c1.cm.map kK).Nodup) : Contract Tryd.prog (G0 bs) 19 [.ref (.g 0) 0, evV e] [(0, chk q1 q2 q3 q4 3), (1, .arow 9 [carR c0 5, carR c1 6, carR c2 7]), (2, .dmap (encE fo)), (3, .dmap (encA aw)), (4, .dmap (encW cl)), (5, .dmap (encK c0.cm)), (6, .dmap (encK c1.cm)), (7, .dmap (encK c2.cm))] (fun r t => match carX q2 ⟨[c0, c1, c2], fo, aw, cl⟩ 1 c1 e with
    | .error g => r = .d (errD bs g) ∧ t = [(0, chk q1 q2 q3 q4 3), (1, .arow 9 [carR c0 5, carR c1 6, carR c2 7]), (2, .dmap (encE fo)), (3, .dmap (encA aw)), (4, .dmap (encW cl)), (5, .dmap (encK c0.cm)), (6, .dmap (encK c1.cm)), (7, .dmap (encK c2.cm))]
    | .ok k' => r = .d (.raw .nilIface) ∧ ∃ d0 d1 d2 : Cr, k'.cars = [d0, d1, d2] ∧ (t = [(0, chk q1 q2 q3 q4 3), (1, .arow 9 [carR d0 5, carR d1 6, carR d2 7]), (2, .dmap (encE k'.fo)), (3, .dmap (encA k'.aw)), (4, .dmap (encW k'.cl)), (5, .dmap (encK d0.cm)), (6, .dmap (encK d1.cm)), (7, .dmap (encK d2.cm))] ∨ (d1.cm = [] ∧ t = [(0, chk q1 q2 q3 q4 3), (1, .arow 9 [carR d0 5, carR d1 8, carR d2 7]), (2, .dmap (encE k'.fo)), (3, .dmap (encA k'.aw)), (4, .dmap (encW k'.cl)), (5, .dmap (encK d0.cm)), (6, .dmap (encK c1.cm)), (7, .dmap (encK d2.cm)), (8, .dmap (encK []))]))) := by
  obtain ⟨kd, ca, lt, ep, fl, di⟩ := e
  have hca : ca = 1 := hca
  subst hca
  obtain ⟨X, hX⟩ : ∃ X, carX q2 ⟨[c0, c1, c2], fo, aw, cl⟩ 1 c1 ⟨kd, 1, lt, ep, fl, di⟩ = X := ⟨_, rfl⟩
  rw [hX]
  unfold carX at hX
  dsimp only at hX hkd
  have hg := dget_enc (ev := one1) dxA_inj haw (lt, ep)
  refine run19 8 [] rfl rfl ?_
  conv => whnf
  refine bcase_intro (fun h => ?_) (fun h => ?_) <;> conv => whnf
  · exfalso
    have h : (bif decide (kd < 1) then true else decide (kd > 11)) = true := h
    rw [decide_eq_false (show ¬ kd < 1 by omega), decide_eq_false (show ¬ kd > 11 by omega)] at h
    cases h
  refine ⟨⟨(by show (0 : Int) ≤ 1; decide), (by show (1 : Int) < 3; decide)⟩, ?_⟩
  conv => whnf
  refine bcase_intro (fun h9 => ?_) (fun h9 => ?_) <;> conv => whnf
  · have h9 : (kd == 9) = true := h9
    rw [h9] at hX
    refine ⟨carR c1 6, rfl, rfl, ?_⟩
    conv => whnf
    cases hop : c1.op with
    | true =>
      conv => whnf
      rw [hop] at hX
      subst hX
      exact ⟨rfl, rfl⟩
    | false =>
      conv => whnf
      refine ⟨_, rfl, ?_⟩
      conv => whnf
      refine ⟨_, rfl, ?_⟩
      conv => whnf
      refine ⟨_, rfl, ?_⟩
      conv => whnf
      rw [hop] at hX
      subst hX
      exact ⟨rfl, _, _, _, rfl, .inr ⟨rfl, by rw [hop]; rfl⟩⟩
  have h9 : (kd == 9) = false := h9
  rw [h9] at hX
  cases h3 : kd == 3 with
  | true =>
    conv => whnf
    rw [h3] at hX
    refine .obj rfl ?_
    conv => whnf
    refine ⟨_, _, ⟨WkL.refl _, ring50_3_1 q1 q2 q3 q4 c0 c1 c2 fo aw cl ⟨kd, 1, lt, ep, fl, di⟩ hfo⟩, fun res s1 h => ?_⟩
    cases hR : ringX c1 fo ⟨kd, 1, lt, ep, fl, di⟩ with
    | error g =>
      rw [hR] at h hX
      obtain ⟨rfl, rfl⟩ := h
      conv => whnf
      subst hX
      exact ⟨rfl, rfl⟩
    | ok y =>
      rw [hR] at h hX
      obtain ⟨c9, f9⟩ := y
      obtain ⟨rfl, rfl⟩ := h
      conv => whnf
      subst hX
      exact ⟨rfl, _, _, _, rfl, .inr ⟨ringX_cm hR, rfl⟩⟩
  | false =>
  conv => whnf
  rw [h3] at hX
  cases h4 : kd == 4 with
  | true =>
    conv => whnf
    rw [h4] at hX
    refine .obj rfl ?_
    conv => whnf
    refine ⟨_, _, ⟨WkL.refl _, ring50_3_1 q1 q2 q3 q4 c0 c1 c2 fo aw cl ⟨kd, 1, lt, ep, fl, di⟩ hfo⟩, fun res s1 h => ?_⟩
    cases hR : ringX c1 fo ⟨kd, 1, lt, ep, fl, di⟩ with
    | error g =>
      rw [hR] at h hX
      obtain ⟨rfl, rfl⟩ := h
      conv => whnf
      subst hX
      exact ⟨rfl, rfl⟩
    | ok y =>
      rw [hR] at h hX
      obtain ⟨c9, f9⟩ := y
      obtain ⟨rfl, rfl⟩ := h
      conv => whnf
      subst hX
      exact ⟨rfl, _, _, _, rfl, .inr ⟨ringX_cm hR, rfl⟩⟩
  | false =>
  conv => whnf
  rw [h4] at hX
  refine bcase_intro (fun h2 => ?_) (fun h2 => ?_) <;> conv => whnf
  · have h2 : (kd == 2) = true := h2
    rw [h2] at hX
    cases hf : aget kA aw (lt, ep) with
    | none =>
      rw [hf] at hg hX
      refine ⟨heldA, .none, ⟨dxA_good (lt, ep), good_enc dxA_good aw, hg⟩, ?_⟩
      conv => whnf
      refine ⟨heldA, encA (aput kA aw (lt, ep)), ⟨dxA_good (lt, ep), good_enc dxA_good aw, dput_enc (ev := one1) dxA_inj haw (lt, ep)⟩, ?_⟩
      conv => whnf
      subst hX
      exact ⟨rfl, _, _, _, rfl, .inl rfl⟩
    | some y =>
      rw [hf] at hg hX
      refine ⟨heldA, .some (.one (.int .i64 1)), ⟨dxA_good (lt, ep), good_enc dxA_good aw, hg⟩, ?_⟩
      conv => whnf
      subst hX
      exact ⟨rfl, rfl⟩
  have h2 : (kd == 2) = false := h2
  rw [h2] at hX
  refine bcase_intro (fun h1 => ?_) (fun h1 => ?_) <;> conv => whnf
  · have h1 : (kd == 1) = true := h1
    rw [h1] at hX
    refine .obj rfl ?_
    conv => whnf
    refine ⟨_, _, ⟨WkL.refl _, claim51_3_1 q1 q2 q3 q4 c0 c1 c2 fo aw cl ⟨kd, 1, lt, ep, fl, di⟩ hcl (hcm)⟩, fun res s1 h => ?_⟩
    cases hR : claimX c1 cl ⟨kd, 1, lt, ep, fl, di⟩ with
    | error g =>
      rw [hR] at h hX
      obtain ⟨rfl, rfl⟩ := h
      conv => whnf
      subst hX
      exact ⟨rfl, rfl⟩
    | ok y =>
      rw [hR] at h hX
      obtain ⟨c9, f9⟩ := y
      obtain ⟨rfl, rfl⟩ := h
      conv => whnf
      subst hX
      exact ⟨rfl, _, _, _, rfl, .inl rfl⟩
  have h1 : (kd == 1) = false := h1
  rw [h1] at hX
  refine bcase_intro (fun h8 => ?_) (fun h8 => ?_) <;> conv => whnf
  · have h8 : (kd == 8) = true := h8
    rw [h8] at hX
    refine .obj rfl ?_
    conv => whnf
    refine ⟨_, _, ⟨WkL.refl _, clears52_3_1 c0 c1 c2 ⟨kd, 1, lt, ep, fl, di⟩ hcm⟩, fun res s1 h => ?_⟩
    cases hR : clearX c1 ⟨kd, 1, lt, ep, fl, di⟩ with
    | error g =>
      rw [hR] at h hX
      obtain ⟨rfl, rfl⟩ := h
      conv => whnf
      subst hX
      exact ⟨rfl, rfl⟩
    | ok y =>
      rw [hR] at h hX
      obtain c9 := y
      obtain ⟨rfl, rfl⟩ := h
      conv => whnf
      subst hX
      exact ⟨rfl, _, _, _, rfl, .inl rfl⟩
  have h8 : (kd == 8) = false := h8
  rw [h8] at hX
  refine bcase_intro (fun h10 => ?_) (fun h10 => ?_) <;> conv => whnf
  · have h10 : (kd == 10) = true := h10
    rw [h10] at hX
    refine ⟨_, rfl, ?_⟩
    conv => whnf
    subst hX
    exact ⟨rfl, _, _, _, rfl, .inr ⟨rfl, rfl⟩⟩
  have h10 : (kd == 10) = false := h10
  rw [h10] at hX
  cases h5 : kd == 5 with
  | true =>
    conv => whnf
    rw [h5] at hX
    refine .obj rfl ?_
    conv => whnf
    refine ⟨_, _, ⟨WkL.refl _, moves53_3_1 q1 q2 q3 q4 c0 c1 c2 fo aw cl ⟨kd, 1, lt, ep, fl, di⟩⟩, fun res s1 h => ?_⟩
    cases hR : moveX q2 c1 ⟨kd, 1, lt, ep, fl, di⟩ with
    | error g =>
      rw [hR] at h hX
      obtain ⟨rfl, rfl⟩ := h
      conv => whnf
      subst hX
      exact ⟨rfl, rfl⟩
    | ok y =>
      rw [hR] at h hX
      obtain c9 := y
      obtain ⟨rfl, rfl⟩ := h
      conv => whnf
      subst hX
      exact ⟨rfl, _, _, _, rfl, .inl rfl⟩
  | false =>
  conv => whnf
  rw [h5] at hX
  cases h6 : kd == 6 with
  | true =>
    conv => whnf
    rw [h6] at hX
    refine .obj rfl ?_
    conv => whnf
    refine ⟨_, _, ⟨WkL.refl _, moves53_3_1 q1 q2 q3 q4 c0 c1 c2 fo aw cl ⟨kd, 1, lt, ep, fl, di⟩⟩, fun res s1 h => ?_⟩
    cases hR : moveX q2 c1 ⟨kd, 1, lt, ep, fl, di⟩ with
    | error g =>
      rw [hR] at h hX
      obtain ⟨rfl, rfl⟩ := h
      conv => whnf
      subst hX
      exact ⟨rfl, rfl⟩
    | ok y =>
      rw [hR] at h hX
      obtain c9 := y
      obtain ⟨rfl, rfl⟩ := h
      conv => whnf
      subst hX
      exact ⟨rfl, _, _, _, rfl, .inl rfl⟩
  | false =>
  conv => whnf
  rw [h6] at hX
  refine bcase_intro (fun h7 => ?_) (fun h7 => ?_) <;> conv => whnf
  · have h7 : (kd == 7) = true := h7
    rw [h7] at hX
    refine .obj rfl ?_
    conv => whnf
    refine ⟨_, _, ⟨WkL.refl _, moves53_3_1 q1 q2 q3 q4 c0 c1 c2 fo aw cl ⟨kd, 1, lt, ep, fl, di⟩⟩, fun res s1 h => ?_⟩
    cases hR : moveX q2 c1 ⟨kd, 1, lt, ep, fl, di⟩ with
    | error g =>
      rw [hR] at h hX
      obtain ⟨rfl, rfl⟩ := h
      conv => whnf
      subst hX
      exact ⟨rfl, rfl⟩
    | ok y =>
      rw [hR] at h hX
      obtain c9 := y
      obtain ⟨rfl, rfl⟩ := h
      conv => whnf
      subst hX
      exact ⟨rfl, _, _, _, rfl, .inl rfl⟩
  have h7 : (kd == 7) = false := h7
  rw [h7] at hX
  subst hX
  exact ⟨rfl, _, _, _, rfl, .inl rfl⟩
set_option maxHeartbeats 1000000 in
set_option maxRecDepth 100000 in
theorem ring50_3_2 {bs : Nat → Addr} (q1 q2 q3 q4 : Int) (c0 c1 c2 : Cr) (fo : List Ep) (aw : List At) (cl : List (At × Int)) (e : Ev) (hfo : (fo.map kE).Nodup) : Contract Tryd.prog (G0 bs) 27 [.ref (.g 0) 0, .el (.g 1) 9 2 0, evV e] [(0, chk q1 q2 q3 q4 3), (1, .arow 9 [carR c0 5, carR c1 6, carR c2 7]), (2, .dmap (encE fo)), (3, .dmap (encA aw)), (4, .dmap (encW cl)), (5, .dmap (encK c0.cm)), (6, .dmap (encK c1.cm)), (7, .dmap (encK c2.cm))] (fun r t => match ringX c2 fo e with
    | .error g => r = .d (errD bs g) ∧ t = [(0, chk q1 q2 q3 q4 3), (1, .arow 9 [carR c0 5, carR c1 6, carR c2 7]), (2, .dmap (encE fo)), (3, .dmap (encA aw)), (4, .dmap (encW cl)), (5, .dmap (encK c0.cm)), (6, .dmap (encK c1.cm)), (7, .dmap (encK c2.cm))]
    | .ok (c', fo') => r = .d (.raw .nilIface) ∧ t = [(0, chk q1 q2 q3 q4 3), (1, .arow 9 [carR c0 5, carR c1 6, carR c' 8]), (2, .dmap (encE fo')), (3, .dmap (encA aw)), (4, .dmap (encW cl)), (5, .dmap (encK c0.cm)), (6, .dmap (encK c1.cm)), (7, .dmap (encK c2.cm)), (8, .dmap (encK []))]) := by
  obtain ⟨X, hX⟩ : ∃ X, ringX c2 fo e = X := ⟨_, rfl⟩
  rw [hX]
  unfold ringX at hX
  have hg := dget_enc (ev := one1) dxE_inj hfo e.ep
  refine run27 8 [] rfl rfl ?_
  conv => whnf
  refine ⟨carR c2 7, rfl, rfl, ?_⟩
  conv => whnf
  refine .scal [epV c2.le, epV e.ep] _ ⟨.refl _, rfl, less69 _ _⟩ ?_
  conv => whnf
  refine ⟨carR c2 7, fun _ => rfl, rfl, ?_⟩
  conv => whnf
  refine ⟨carR c2 7, fun _ => rfl, rfl, ?_⟩
  conv => whnf
  refine bcase_intro (fun h1 => ?_) (fun h1 => ?_) <;> conv => whnf
  · have h1 : (bif !lessE c2.le e.ep then true else bif c2.an then decide (e.ep.1 ≤ c2.le.1) else false) = true := h1
    rw [h1] at hX
    subst hX
    exact ⟨rfl, rfl⟩
  have h1 : (bif !lessE c2.le e.ep then true else bif c2.an then decide (e.ep.1 ≤ c2.le.1) else false) = false := h1
  rw [h1] at hX
  cases hf : aget kE fo e.ep with
  | none =>
    rw [hf] at hg hX
    refine ⟨heldE, .none, fun _ => ⟨dxE_good _, good_enc dxE_good fo, hg⟩, ?_⟩
    conv => whnf
    refine bcase_intro (fun h2 => ?_) (fun h2 => ?_) <;> conv => whnf
    · exfalso
      have h2 : (bif e.kd == 3 then decide ((0 : Int) > 0) else false) = true := h2
      cases e.kd == 3 <;> simp at h2 
    refine bcase_intro (fun h3 => ?_) (fun h3 => ?_) <;> conv => whnf
    · have h3 : (e.kd == 3) = true := h3
      rw [h3] at hX
      refine ⟨heldE, encE (aput kE fo e.ep), ⟨dxE_good _, good_enc dxE_good fo, dput_enc dxE_inj hfo e.ep⟩, ?_⟩
      conv => whnf
      refine ⟨carR c2 7, rfl, ?_⟩
      conv => whnf
      refine ⟨_, rfl, ?_⟩
      conv => whnf
      refine ⟨_, rfl, ?_⟩
      conv => whnf
      subst hX
      exact ⟨rfl, rfl⟩
    · have h3 : (e.kd == 3) = false := h3
      rw [h3] at hX
      refine ⟨carR c2 7, rfl, ?_⟩
      conv => whnf
      refine ⟨_, rfl, ?_⟩
      conv => whnf
      refine ⟨_, rfl, ?_⟩
      conv => whnf
      subst hX
      exact ⟨rfl, rfl⟩
  | some y =>
    rw [hf] at hg hX
    refine ⟨heldE, .some (.one (.int .i64 1)), fun _ => ⟨dxE_good _, good_enc dxE_good fo, hg⟩, ?_⟩
    conv => whnf
    refine bcase_intro (fun h2 => ?_) (fun h2 => ?_) <;> conv => whnf
    · have h2 : (bif e.kd == 3 then decide ((1 : Int) > 0) else false) = true := h2
      have hX : (bif (bif e.kd == 3 then decide ((1 : Int) > 0) else false) then _ else _) = X := hX
      rw [h2] at hX
      subst hX
      exact ⟨rfl, rfl⟩
    have h2 : (bif e.kd == 3 then decide ((1 : Int) > 0) else false) = false := h2
    have hX : (bif (bif e.kd == 3 then decide ((1 : Int) > 0) else false) then _ else _) = X := hX
    rw [h2] at hX
    refine bcase_intro (fun h3 => ?_) (fun h3 => ?_) <;> conv => whnf
    · exfalso
      have h3 : (e.kd == 3) = true := h3
      rw [h3] at h2
      cases h2
    · have h3 : (e.kd == 3) = false := h3
      rw [h3] at hX
      refine ⟨carR c2 7, rfl, ?_⟩
      conv => whnf
      refine ⟨_, rfl, ?_⟩
      conv => whnf
      refine ⟨_, rfl, ?_⟩
      conv => whnf
      subst hX
      exact ⟨rfl, rfl⟩
set_option maxHeartbeats 1000000 in
set_option maxRecDepth 100000 in
theorem claim51_3_2 {bs : Nat → Addr} (q1 q2 q3 q4 : Int) (c0 c1 c2 : Cr) (fo : List Ep) (aw : List At) (cl : List (At × Int)) (e : Ev) (hcl : (cl.map kW).Nodup) (hcm : (c2.cm.map kK).Nodup) : Contract Tryd.prog (G0 bs) 28 [.ref (.g 0) 0, .el (.g 1) 9 2 0, evV e] [(0, chk q1 q2 q3 q4 3), (1, .arow 9 [carR c0 5, carR c1 6, carR c2 7]), (2, .dmap (encE fo)), (3, .dmap (encA aw)), (4, .dmap (encW cl)), (5, .dmap (encK c0.cm)), (6, .dmap (encK c1.cm)), (7, .dmap (encK c2.cm))] (fun r t => match claimX c2 cl e with
    | .error g => r = .d (errD bs g) ∧ t = [(0, chk q1 q2 q3 q4 3), (1, .arow 9 [carR c0 5, carR c1 6, carR c2 7]), (2, .dmap (encE fo)), (3, .dmap (encA aw)), (4, .dmap (encW cl)), (5, .dmap (encK c0.cm)), (6, .dmap (encK c1.cm)), (7, .dmap (encK c2.cm))]
    | .ok (c', cl') => r = .d (.raw .nilIface) ∧ t = [(0, chk q1 q2 q3 q4 3), (1, .arow 9 [carR c0 5, carR c1 6, carR c' 7]), (2, .dmap (encE fo)), (3, .dmap (encA aw)), (4, .dmap (encW cl')), (5, .dmap (encK c0.cm)), (6, .dmap (encK c1.cm)), (7, .dmap (encK c'.cm))]) := by
  obtain ⟨X, hX⟩ : ∃ X, claimX c2 cl e = X := ⟨_, rfl⟩
  rw [hX]
  unfold claimX at hX
  have hg := dget_enc (ev := whoW) dxA_inj hcl (e.lt, e.ep)
  have hk := dget_enc (ev := one1) dxK_inj hcm e.lt
  refine run28 8 [] rfl rfl ?_
  conv => whnf
  cases hf : aget kW cl (e.lt, e.ep) with
  | none =>
    rw [hf] at hg hX
    refine ⟨heldA, .none, ⟨dxA_good (e.lt, e.ep), good_enc dxA_good cl, hg⟩, ?_⟩
    conv => whnf
    refine ⟨carR c2 7, rfl, rfl, ?_⟩
    conv => whnf
    refine ⟨⟨by kernel_rfl, by kernel_rfl⟩, ?_⟩
    conv => whnf
    refine bcase_intro (fun h1 => ?_) (fun h1 => ?_) <;> conv => whnf
    · have h1 : (!sameE e.ep c2.le) = true := h1
      rw [h1] at hX
      subst hX
      exact ⟨rfl, rfl⟩
    have h1 : (!sameE e.ep c2.le) = false := h1
    rw [h1] at hX
    refine ⟨carR c2 7, fun _ => rfl, rfl, ?_⟩
    conv => whnf
    cases hm : aget kK c2.cm e.lt with
    | none =>
      rw [hm] at hk hX
      refine ⟨heldK, .none, fun _ => ⟨dxK_good _, good_enc dxK_good c2.cm, hk⟩, ?_⟩
      conv => whnf
      refine ⟨heldA, encW (aput kW cl ((e.lt, e.ep), IntKind.wrap .i64 (e.ca + 1))), ⟨dxA_good (e.lt, e.ep), good_enc dxA_good cl, dput_enc (ev := whoW) dxA_inj hcl ((e.lt, e.ep), IntKind.wrap .i64 (e.ca + 1))⟩, ?_⟩
      conv => whnf
      refine ⟨carR c2 7, rfl, rfl, ?_⟩
      conv => whnf
      refine ⟨heldK, encK (aput kK c2.cm e.lt), ⟨dxK_good _, good_enc dxK_good c2.cm, dput_enc (ev := one1) dxK_inj hcm e.lt⟩, ?_⟩
      conv => whnf
      subst hX
      exact ⟨rfl, rfl⟩
    | some z =>
      rw [hm] at hk hX
      refine ⟨heldK, .some (.one (.int .i64 1)), fun _ => ⟨dxK_good _, good_enc dxK_good c2.cm, hk⟩, ?_⟩
      conv => whnf
      subst hX
      exact ⟨rfl, rfl⟩
  | some y =>
    rw [hf] at hg hX
    refine ⟨heldA, .some (.one (.int .i64 y.2)), ⟨dxA_good (e.lt, e.ep), good_enc dxA_good cl, hg⟩, ?_⟩
    conv => whnf
    refine ⟨carR c2 7, rfl, rfl, ?_⟩
    conv => whnf
    refine ⟨⟨by kernel_rfl, by kernel_rfl⟩, ?_⟩
    conv => whnf
    refine bcase_intro (fun h1 => ?_) (fun h1 => ?_) <;> conv => whnf
    · have h1 : (!sameE e.ep c2.le) = true := h1
      rw [h1] at hX
      subst hX
      exact ⟨rfl, rfl⟩
    have h1 : (!sameE e.ep c2.le) = false := h1
    rw [h1] at hX
    refine ⟨carR c2 7, fun _ => rfl, rfl, ?_⟩
    conv => whnf
    cases hm : aget kK c2.cm e.lt with
    | none =>
      rw [hm] at hk hX
      refine ⟨heldK, .none, fun _ => ⟨dxK_good _, good_enc dxK_good c2.cm, hk⟩, ?_⟩
      conv => whnf
      refine bcase_intro (fun h2 => ?_) (fun h2 => ?_) <;> conv => whnf
      · have h2 : (bif (bif decide (y.2 > 0) then y.2 != IntKind.wrap .i64 (e.ca + 1) else false) then true else decide ((0 : Int) > 0)) = true := h2
        have hX : (bif (bif (bif decide (y.2 > 0) then y.2 != IntKind.wrap .i64 (e.ca + 1) else false) then true else decide ((0 : Int) > 0)) then _ else _) = X := hX
        rw [h2] at hX
        subst hX
        exact ⟨rfl, rfl⟩
      have h2 : (bif (bif decide (y.2 > 0) then y.2 != IntKind.wrap .i64 (e.ca + 1) else false) then true else decide ((0 : Int) > 0)) = false := h2
      have hX : (bif (bif (bif decide (y.2 > 0) then y.2 != IntKind.wrap .i64 (e.ca + 1) else false) then true else decide ((0 : Int) > 0)) then _ else _) = X := hX
      rw [h2] at hX
      refine ⟨heldA, encW (aput kW cl ((e.lt, e.ep), IntKind.wrap .i64 (e.ca + 1))), ⟨dxA_good (e.lt, e.ep), good_enc dxA_good cl, dput_enc (ev := whoW) dxA_inj hcl ((e.lt, e.ep), IntKind.wrap .i64 (e.ca + 1))⟩, ?_⟩
      conv => whnf
      refine ⟨carR c2 7, rfl, rfl, ?_⟩
      conv => whnf
      refine ⟨heldK, encK (aput kK c2.cm e.lt), ⟨dxK_good _, good_enc dxK_good c2.cm, dput_enc (ev := one1) dxK_inj hcm e.lt⟩, ?_⟩
      conv => whnf
      subst hX
      exact ⟨rfl, rfl⟩
    | some z =>
      rw [hm] at hk hX
      refine ⟨heldK, .some (.one (.int .i64 1)), fun _ => ⟨dxK_good _, good_enc dxK_good c2.cm, hk⟩, ?_⟩
      conv => whnf
      refine bcase_intro (fun h2 => ?_) (fun h2 => ?_) <;> conv => whnf
      · have h2 : (bif (bif decide (y.2 > 0) then y.2 != IntKind.wrap .i64 (e.ca + 1) else false) then true else decide ((1 : Int) > 0)) = true := h2
        have hX : (bif (bif (bif decide (y.2 > 0) then y.2 != IntKind.wrap .i64 (e.ca + 1) else false) then true else decide ((1 : Int) > 0)) then _ else _) = X := hX
        rw [h2] at hX
        subst hX
        exact ⟨rfl, rfl⟩
      exfalso
      have h2 : (bif (bif decide (y.2 > 0) then y.2 != IntKind.wrap .i64 (e.ca + 1) else false) then true else decide ((1 : Int) > 0)) = false := h2
      cases hb : (bif decide (y.2 > 0) then y.2 != IntKind.wrap .i64 (e.ca + 1) else false) <;> rw [hb] at h2 <;> cases h2
set_option maxHeartbeats 1000000 in
set_option maxRecDepth 100000 in
theorem clears52_3_2 {bs : Nat → Addr} (c0 c1 c2 : Cr) (e : Ev) (hcm : (c2.cm.map kK).Nodup) : Contract Tryd.prog (G0 bs) 29 [.el (.g 0) 9 2 0, evV e] [(0, .arow 9 [carR c0 1, carR c1 2, carR c2 3]), (1, .dmap (encK c0.cm)), (2, .dmap (encK c1.cm)), (3, .dmap (encK c2.cm))] (fun r t => match clearX c2 e with
    | .error g => r = .d (errD bs g) ∧ t = [(0, .arow 9 [carR c0 1, carR c1 2, carR c2 3]), (1, .dmap (encK c0.cm)), (2, .dmap (encK c1.cm)), (3, .dmap (encK c2.cm))]
    | .ok c' => r = .d (.raw .nilIface) ∧ t = [(0, .arow 9 [carR c0 1, carR c1 2, carR c' 3]), (1, .dmap (encK c0.cm)), (2, .dmap (encK c1.cm)), (3, .dmap (encK c'.cm))]) := by
  obtain ⟨X, hX⟩ : ∃ X, clearX c2 e = X := ⟨_, rfl⟩
  rw [hX]
  unfold clearX at hX
  have hk := dget_enc (ev := one1) dxK_inj hcm e.lt
  refine run29 4 [] rfl rfl ?_
  conv => whnf
  refine ⟨carR c2 3, rfl, rfl, ?_⟩
  conv => whnf
  refine bcase_intro (fun h1 => ?_) (fun h1 => ?_) <;> conv => whnf
  · have h1 : (!c2.op) = true := h1
    rw [h1] at hX
    subst hX
    exact ⟨rfl, rfl⟩
  have h1 : (!c2.op) = false := h1
  rw [h1] at hX
  refine ⟨carR c2 3, rfl, rfl, ?_⟩
  conv => whnf
  refine ⟨carR c2 3, fun _ => rfl, rfl, ?_⟩
  conv => whnf
  refine bcase_intro (fun h2 => ?_) (fun h2 => ?_) <;> conv => whnf
  · have h2 : (bif e.fl != c2.wh then true else e.lt.1 != c2.wh) = true := h2
    rw [h2] at hX
    subst hX
    exact ⟨rfl, rfl⟩
  have h2 : (bif e.fl != c2.wh then true else e.lt.1 != c2.wh) = false := h2
  rw [h2] at hX
  refine ⟨carR c2 3, rfl, rfl, ?_⟩
  conv => whnf
  refine bcase_intro (fun h3 => ?_) (fun h3 => ?_) <;> conv => whnf
  · have h3 : (e.lt.2.1 != c2.la) = true := h3
    rw [h3] at hX
    subst hX
    exact ⟨rfl, rfl⟩
  have h3 : (e.lt.2.1 != c2.la) = false := h3
  rw [h3] at hX
  refine ⟨carR c2 3, rfl, rfl, ?_⟩
  conv => whnf
  cases hm : aget kK c2.cm e.lt with
  | none =>
    rw [hm] at hk hX
    refine ⟨heldK, .none, ⟨dxK_good _, good_enc dxK_good c2.cm, hk⟩, ?_⟩
    conv => whnf
    subst hX
    exact ⟨rfl, rfl⟩
  | some z =>
    rw [hm] at hk hX
    refine ⟨heldK, .some (.one (.int .i64 1)), ⟨dxK_good _, good_enc dxK_good c2.cm, hk⟩, ?_⟩
    conv => whnf
    refine ⟨carR c2 3, rfl, rfl, ?_⟩
    conv => whnf
    refine ⟨heldK, encK (adel kK c2.cm e.lt), ⟨dxK_good _, good_enc dxK_good c2.cm, ddel_enc (ev := one1) dxK_inj hcm e.lt⟩, ?_⟩
    conv => whnf
    subst hX
    exact ⟨rfl, rfl⟩
set_option maxHeartbeats 1000000 in
set_option maxRecDepth 100000 in
theorem moves53_3_2 {bs : Nat → Addr} (q1 q2 q3 q4 : Int) (c0 c1 c2 : Cr) (fo : List Ep) (aw : List At) (cl : List (At × Int)) (e : Ev) : Contract Tryd.prog (G0 bs) 30 [.ref (.g 0) 0, .el (.g 1) 9 2 0, evV e] [(0, chk q1 q2 q3 q4 3), (1, .arow 9 [carR c0 5, carR c1 6, carR c2 7]), (2, .dmap (encE fo)), (3, .dmap (encA aw)), (4, .dmap (encW cl)), (5, .dmap (encK c0.cm)), (6, .dmap (encK c1.cm)), (7, .dmap (encK c2.cm))] (fun r t => match moveX q2 c2 e with
    | .error g => r = .d (errD bs g) ∧ t = [(0, chk q1 q2 q3 q4 3), (1, .arow 9 [carR c0 5, carR c1 6, carR c2 7]), (2, .dmap (encE fo)), (3, .dmap (encA aw)), (4, .dmap (encW cl)), (5, .dmap (encK c0.cm)), (6, .dmap (encK c1.cm)), (7, .dmap (encK c2.cm))]
    | .ok c' => r = .d (.raw .nilIface) ∧ t = [(0, chk q1 q2 q3 q4 3), (1, .arow 9 [carR c0 5, carR c1 6, carR c' 7]), (2, .dmap (encE fo)), (3, .dmap (encA aw)), (4, .dmap (encW cl)), (5, .dmap (encK c0.cm)), (6, .dmap (encK c1.cm)), (7, .dmap (encK c'.cm))]) := by
  obtain ⟨X, hX⟩ : ∃ X, moveX q2 c2 e = X := ⟨_, rfl⟩
  rw [hX]
  unfold moveX at hX
  refine run30 8 [13] rfl rfl ?_
  conv => whnf
  refine ⟨carR c2 7, rfl, rfl, ?_⟩
  conv => whnf
  have hne : (c2.op != (e.kd == 6)) = !(c2.op == (e.kd == 6)) := rfl
  rw [hne] at hX
  cases h1 : c2.op == (e.kd == 6) with
  | false =>
    conv => whnf
    rw [h1] at hX
    subst hX
    exact ⟨rfl, rfl⟩
  | true =>
  conv => whnf
  rw [h1] at hX
  refine ⟨carR c2 7, fun _ => rfl, rfl, ?_⟩
  conv => whnf
  refine bcase_intro (fun h2 => ?_) (fun h2 => ?_) <;> conv => whnf
  · refine bcase_intro (fun h3 => ?_) (fun h3 => ?_) <;> conv => whnf
    · have h2 : (bif e.kd == 6 then e.fl != c2.wh else false) = true := h2
      rw [h2] at hX
      subst hX
      exact ⟨rfl, rfl⟩
    · exact absurd (h2.symm.trans h3) (by decide)
  have h2 : (bif e.kd == 6 then e.fl != c2.wh else false) = false := h2
  rw [h2] at hX
  refine bcase_intro (fun h3 => ?_) (fun h3 => ?_) <;> conv => whnf
  · have h3 : (bif e.kd != 6 then (bif decide (e.fl < 0) then true else decide (e.fl ≥ q2)) else false) = true := h3
    rw [h3] at hX
    subst hX
    exact ⟨rfl, rfl⟩
  have h3 : (bif e.kd != 6 then (bif decide (e.fl < 0) then true else decide (e.fl ≥ q2)) else false) = false := h3
  rw [h3] at hX
  refine bcase_intro (fun h4 => ?_) (fun h4 => ?_) <;> conv => whnf
  · refine bcase_intro (fun h5 => ?_) (fun h5 => ?_) <;> conv => whnf
    · have h4 : (bif e.kd == 5 then (bif decide (e.di < -1) then true else decide (e.di > 1)) else false) = true := h4
      rw [h4] at hX
      subst hX
      exact ⟨rfl, rfl⟩
    · exact absurd (h4.symm.trans h5) (by decide)
  have h4 : (bif e.kd == 5 then (bif decide (e.di < -1) then true else decide (e.di > 1)) else false) = false := h4
  rw [h4] at hX
  refine bcase_intro (fun h5 => ?_) (fun h5 => ?_) <;> conv => whnf
  · have h5 : (bif (bif e.kd == 7 then e.di != 1 else false) then e.di != -1 else false) = true := h5
    rw [h5] at hX
    subst hX
    exact ⟨rfl, rfl⟩
  have h5 : (bif (bif e.kd == 7 then e.di != 1 else false) then e.di != -1 else false) = false := h5
  rw [h5] at hX
  cases h6 : e.kd == 5 with
  | true =>
    rw [h6] at hX
    refine ⟨carR c2 7, rfl, ?_⟩
    conv => whnf
    refine ⟨_, rfl, ?_⟩
    conv => whnf
    refine ⟨_, rfl, rfl, ?_⟩
    conv => whnf
    refine StopG.draw wk30 [] sp30_13 [6] (fun env s => env = [(6, .d (.raw .nilIface))] ∧ s = [(0, chk q1 q2 q3 q4 3), (1, .arow 9 [carR c0 5, carR c1 6, carR { c2 with op := true, fl := e.fl, wh := e.fl, la := e.di } 7]), (2, .dmap (encE fo)), (3, .dmap (encA aw)), (4, .dmap (encW cl)), (5, .dmap (encK c0.cm)), (6, .dmap (encK c1.cm)), (7, .dmap (encK c2.cm))]) rfl rfl (by kernel_rfl) ?_ ?_
    · conv => whnf
      repeat' (first
        | (refine Both.mk ?_ ?_ <;> conv => whnf)
        | (refine ⟨_, rfl, ?_⟩; conv => whnf)
        | exact ⟨rfl, rfl⟩)
    rintro env s ⟨rfl, rfl⟩
    conv => whnf
    subst hX
    exact ⟨rfl, rfl⟩
  | false =>
    rw [h6] at hX
    refine ⟨carR c2 7, rfl, ?_⟩
    conv => whnf
    refine ⟨_, rfl, ?_⟩
    conv => whnf
    refine ⟨_, rfl, rfl, ?_⟩
    conv => whnf
    subst hX
    exact ⟨rfl, rfl⟩
set_option maxHeartbeats 2000000 in
set_option maxRecDepth 100000 in
theorem event32_3_2 {bs : Nat → Addr} (q1 q2 q3 q4 : Int) (c0 c1 c2 : Cr) (fo : List Ep) (aw : List At) (cl : List (At × Int)) (e : Ev) (hkd : ¬ (e.kd < 1 ∨ e.kd > 11)) (hca : e.ca = 2) (hfo : (fo.map kE).Nodup) (haw : (aw.map kA).Nodup) (hcl : (cl.map kW).Nodup) (hcm : (c2.cm.map kK).Nodup) : Contract Tryd.prog (G0 bs) 19 [.ref (.g 0) 0, evV e] [(0, chk q1 q2 q3 q4 3), (1, .arow 9 [carR c0 5, carR c1 6, carR c2 7]), (2, .dmap (encE fo)), (3, .dmap (encA aw)), (4, .dmap (encW cl)), (5, .dmap (encK c0.cm)), (6, .dmap (encK c1.cm)), (7, .dmap (encK c2.cm))] (fun r t => match carX q2 ⟨[c0, c1, c2], fo, aw, cl⟩ 2 c2 e with
    | .error g => r = .d (errD bs g) ∧ t = [(0, chk q1 q2 q3 q4 3), (1, .arow 9 [carR c0 5, carR c1 6, carR c2 7]), (2, .dmap (encE fo)), (3, .dmap (encA aw)), (4, .dmap (encW cl)), (5, .dmap (encK c0.cm)), (6, .dmap (encK c1.cm)), (7, .dmap (encK c2.cm))]
    | .ok k' => r = .d (.raw .nilIface) ∧ ∃ d0 d1 d2 : Cr, k'.cars = [d0, d1, d2] ∧ (t = [(0, chk q1 q2 q3 q4 3), (1, .arow 9 [carR d0 5, carR d1 6, carR d2 7]), (2, .dmap (encE k'.fo)), (3, .dmap (encA k'.aw)), (4, .dmap (encW k'.cl)), (5, .dmap (encK d0.cm)), (6, .dmap (encK d1.cm)), (7, .dmap (encK d2.cm))] ∨ (d2.cm = [] ∧ t = [(0, chk q1 q2 q3 q4 3), (1, .arow 9 [carR d0 5, carR d1 6, carR d2 8]), (2, .dmap (encE k'.fo)), (3, .dmap (encA k'.aw)), (4, .dmap (encW k'.cl)), (5, .dmap (encK d0.cm)), (6, .dmap (encK d1.cm)), (7, .dmap (encK c2.cm)), (8, .dmap (encK []))]))) := by
  obtain ⟨kd, ca, lt, ep, fl, di⟩ := e
  have hca : ca = 2 := hca
  subst hca
  obtain ⟨X, hX⟩ : ∃ X, carX q2 ⟨[c0, c1, c2], fo, aw, cl⟩ 2 c2 ⟨kd, 2, lt, ep, fl, di⟩ = X := ⟨_, rfl⟩
  rw [hX]
  unfold carX at hX
  dsimp only at hX hkd
  have hg := dget_enc (ev := one1) dxA_inj haw (lt, ep)
  refine run19 8 [] rfl rfl ?_
  conv => whnf
  refine bcase_intro (fun h => ?_) (fun h => ?_) <;> conv => whnf
  · exfalso
    have h : (bif decide (kd < 1) then true else decide (kd > 11)) = true := h
    rw [decide_eq_false (show ¬ kd < 1 by omega), decide_eq_false (show ¬ kd > 11 by omega)] at h
    cases h
  refine ⟨⟨(by show (0 : Int) ≤ 2; decide), (by show (2 : Int) < 3; decide)⟩, ?_⟩
  conv => whnf
  refine bcase_intro (fun h9 => ?_) (fun h9 => ?_) <;> conv => whnf
  · have h9 : (kd == 9) = true := h9
    rw [h9] at hX
    refine ⟨carR c2 7, rfl, rfl, ?_⟩
    conv => whnf
    cases hop : c2.op with
    | true =>
      conv => whnf
      rw [hop] at hX
      subst hX
      exact ⟨rfl, rfl⟩
    | false =>
      conv => whnf
      refine ⟨_, rfl, ?_⟩
      conv => whnf
      refine ⟨_, rfl, ?_⟩
      conv => whnf
      refine ⟨_, rfl, ?_⟩
      conv => whnf
      rw [hop] at hX
      subst hX
      exact ⟨rfl, _, _, _, rfl, .inr ⟨rfl, by rw [hop]; rfl⟩⟩
  have h9 : (kd == 9) = false := h9
  rw [h9] at hX
  cases h3 : kd == 3 with
  | true =>
    conv => whnf
    rw [h3] at hX
    refine .obj rfl ?_
    conv => whnf
    refine ⟨_, _, ⟨WkL.refl _, ring50_3_2 q1 q2 q3 q4 c0 c1 c2 fo aw cl ⟨kd, 2, lt, ep, fl, di⟩ hfo⟩, fun res s1 h => ?_⟩
    cases hR : ringX c2 fo ⟨kd, 2, lt, ep, fl, di⟩ with
    | error g =>
      rw [hR] at h hX
      obtain ⟨rfl, rfl⟩ := h
      conv => whnf
      subst hX
      exact ⟨rfl, rfl⟩
    | ok y =>
      rw [hR] at h hX
      obtain ⟨c9, f9⟩ := y
      obtain ⟨rfl, rfl⟩ := h
      conv => whnf
      subst hX
      exact ⟨rfl, _, _, _, rfl, .inr ⟨ringX_cm hR, rfl⟩⟩
  | false =>
  conv => whnf
  rw [h3] at hX
  cases h4 : kd == 4 with
  | true =>
    conv => whnf
    rw [h4] at hX
    refine .obj rfl ?_
    conv => whnf
    refine ⟨_, _, ⟨WkL.refl _, ring50_3_2 q1 q2 q3 q4 c0 c1 c2 fo aw cl ⟨kd, 2, lt, ep, fl, di⟩ hfo⟩, fun res s1 h => ?_⟩
    cases hR : ringX c2 fo ⟨kd, 2, lt, ep, fl, di⟩ with
    | error g =>
      rw [hR] at h hX
      obtain ⟨rfl, rfl⟩ := h
      conv => whnf
      subst hX
      exact ⟨rfl, rfl⟩
    | ok y =>
      rw [hR] at h hX
      obtain ⟨c9, f9⟩ := y
      obtain ⟨rfl, rfl⟩ := h
      conv => whnf
      subst hX
      exact ⟨rfl, _, _, _, rfl, .inr ⟨ringX_cm hR, rfl⟩⟩
  | false =>
  conv => whnf
  rw [h4] at hX
  refine bcase_intro (fun h2 => ?_) (fun h2 => ?_) <;> conv => whnf
  · have h2 : (kd == 2) = true := h2
    rw [h2] at hX
    cases hf : aget kA aw (lt, ep) with
    | none =>
      rw [hf] at hg hX
      refine ⟨heldA, .none, ⟨dxA_good (lt, ep), good_enc dxA_good aw, hg⟩, ?_⟩
      conv => whnf
      refine ⟨heldA, encA (aput kA aw (lt, ep)), ⟨dxA_good (lt, ep), good_enc dxA_good aw, dput_enc (ev := one1) dxA_inj haw (lt, ep)⟩, ?_⟩
      conv => whnf
      subst hX
      exact ⟨rfl, _, _, _, rfl, .inl rfl⟩
    | some y =>
      rw [hf] at hg hX
      refine ⟨heldA, .some (.one (.int .i64 1)), ⟨dxA_good (lt, ep), good_enc dxA_good aw, hg⟩, ?_⟩
      conv => whnf
      subst hX
      exact ⟨rfl, rfl⟩
  have h2 : (kd == 2) = false := h2
  rw [h2] at hX
  refine bcase_intro (fun h1 => ?_) (fun h1 => ?_) <;> conv => whnf
  · have h1 : (kd == 1) = true := h1
    rw [h1] at hX
    refine .obj rfl ?_
    conv => whnf
    refine ⟨_, _, ⟨WkL.refl _, claim51_3_2 q1 q2 q3 q4 c0 c1 c2 fo aw cl ⟨kd, 2, lt, ep, fl, di⟩ hcl (hcm)⟩, fun res s1 h => ?_⟩
    cases hR : claimX c2 cl ⟨kd, 2, lt, ep, fl, di⟩ with
    | error g =>
      rw [hR] at h hX
      obtain ⟨rfl, rfl⟩ := h
      conv => whnf
      subst hX
      exact ⟨rfl, rfl⟩
    | ok y =>
      rw [hR] at h hX
      obtain ⟨c9, f9⟩ := y
      obtain ⟨rfl, rfl⟩ := h
      conv => whnf
      subst hX
      exact ⟨rfl, _, _, _, rfl, .inl rfl⟩
  have h1 : (kd == 1) = false := h1
  rw [h1] at hX
  refine bcase_intro (fun h8 => ?_) (fun h8 => ?_) <;> conv => whnf
  · have h8 : (kd == 8) = true := h8
    rw [h8] at hX
    refine .obj rfl ?_
    conv => whnf
    refine ⟨_, _, ⟨WkL.refl _, clears52_3_2 c0 c1 c2 ⟨kd, 2, lt, ep, fl, di⟩ hcm⟩, fun res s1 h => ?_⟩
    cases hR : clearX c2 ⟨kd, 2, lt, ep, fl, di⟩ with
    | error g =>
      rw [hR] at h hX
      obtain ⟨rfl, rfl⟩ := h
      conv => whnf
      subst hX
      exact ⟨rfl, rfl⟩
    | ok y =>
      rw [hR] at h hX
      obtain c9 := y
      obtain ⟨rfl, rfl⟩ := h
      conv => whnf
      subst hX
      exact ⟨rfl, _, _, _, rfl, .inl rfl⟩
  have h8 : (kd == 8) = false := h8
  rw [h8] at hX
  refine bcase_intro (fun h10 => ?_) (fun h10 => ?_) <;> conv => whnf
  · have h10 : (kd == 10) = true := h10
    rw [h10] at hX
    refine ⟨_, rfl, ?_⟩
    conv => whnf
    subst hX
    exact ⟨rfl, _, _, _, rfl, .inr ⟨rfl, rfl⟩⟩
  have h10 : (kd == 10) = false := h10
  rw [h10] at hX
  cases h5 : kd == 5 with
  | true =>
    conv => whnf
    rw [h5] at hX
    refine .obj rfl ?_
    conv => whnf
    refine ⟨_, _, ⟨WkL.refl _, moves53_3_2 q1 q2 q3 q4 c0 c1 c2 fo aw cl ⟨kd, 2, lt, ep, fl, di⟩⟩, fun res s1 h => ?_⟩
    cases hR : moveX q2 c2 ⟨kd, 2, lt, ep, fl, di⟩ with
    | error g =>
      rw [hR] at h hX
      obtain ⟨rfl, rfl⟩ := h
      conv => whnf
      subst hX
      exact ⟨rfl, rfl⟩
    | ok y =>
      rw [hR] at h hX
      obtain c9 := y
      obtain ⟨rfl, rfl⟩ := h
      conv => whnf
      subst hX
      exact ⟨rfl, _, _, _, rfl, .inl rfl⟩
  | false =>
  conv => whnf
  rw [h5] at hX
  cases h6 : kd == 6 with
  | true =>
    conv => whnf
    rw [h6] at hX
    refine .obj rfl ?_
    conv => whnf
    refine ⟨_, _, ⟨WkL.refl _, moves53_3_2 q1 q2 q3 q4 c0 c1 c2 fo aw cl ⟨kd, 2, lt, ep, fl, di⟩⟩, fun res s1 h => ?_⟩
    cases hR : moveX q2 c2 ⟨kd, 2, lt, ep, fl, di⟩ with
    | error g =>
      rw [hR] at h hX
      obtain ⟨rfl, rfl⟩ := h
      conv => whnf
      subst hX
      exact ⟨rfl, rfl⟩
    | ok y =>
      rw [hR] at h hX
      obtain c9 := y
      obtain ⟨rfl, rfl⟩ := h
      conv => whnf
      subst hX
      exact ⟨rfl, _, _, _, rfl, .inl rfl⟩
  | false =>
  conv => whnf
  rw [h6] at hX
  refine bcase_intro (fun h7 => ?_) (fun h7 => ?_) <;> conv => whnf
  · have h7 : (kd == 7) = true := h7
    rw [h7] at hX
    refine .obj rfl ?_
    conv => whnf
    refine ⟨_, _, ⟨WkL.refl _, moves53_3_2 q1 q2 q3 q4 c0 c1 c2 fo aw cl ⟨kd, 2, lt, ep, fl, di⟩⟩, fun res s1 h => ?_⟩
    cases hR : moveX q2 c2 ⟨kd, 2, lt, ep, fl, di⟩ with
    | error g =>
      rw [hR] at h hX
      obtain ⟨rfl, rfl⟩ := h
      conv => whnf
      subst hX
      exact ⟨rfl, rfl⟩
    | ok y =>
      rw [hR] at h hX
      obtain c9 := y
      obtain ⟨rfl, rfl⟩ := h
      conv => whnf
      subst hX
      exact ⟨rfl, _, _, _, rfl, .inl rfl⟩
  have h7 : (kd == 7) = false := h7
  rw [h7] at hX
  subst hX
  exact ⟨rfl, _, _, _, rfl, .inl rfl⟩
end Go.Proofs.YtgadgajhahfabaaDoor
/- Seat of TraceLooks: all that is done: plain laws. -/
namespace Go.Proofs.YtgadgajhahfabaaDoor
open Go.Pv
def zC : Cr := ⟨false, false, false, 0, 0, 0, (0, 0), []⟩
theorem nds_set {k : Ck} (hk : Nds k) (i : Nat) (d : Cr) (hd : (d.cm.map kK).Nodup) : ∀ c ∈ k.cars.set i d, (c.cm.map kK).Nodup := fun c hc => by
  rcases List.mem_or_eq_of_mem_set hc with h | h
  · exact hk.cm c h
  · rw [h]; exact hd
theorem ringX_nds {c c' : Cr} {fo fo' : List Ep} {e : Ev} (hfo : (fo.map kE).Nodup) (h : ringX c fo e = .ok (c', fo')) : (fo'.map kE).Nodup := by
  unfold ringX at h
  cases h1 : (bif !lessE c.le e.ep then true else bif c.an then decide (e.ep.1 ≤ c.le.1) else false) <;> rw [h1] at h
  · cases h2 : (bif e.kd == 3 then decide (isIn (aget kE fo e.ep) > 0) else false) <;> rw [h2] at h
    · have h : (Except.ok _ : Except Nat (Cr × List Ep)) = .ok (c', fo') := h
      injection h with h
      injection h with ha hb
      rw [← hb]
      show ((bif e.kd == 3 then aput kE fo e.ep else fo).map kE).Nodup
      cases e.kd == 3
      · exact hfo
      · exact aput_nodup hfo e.ep
    · cases h
  · cases h
theorem claimX_nds {c c' : Cr} {cl cl' : List (At × Int)} {e : Ev} (hcl : (cl.map kW).Nodup) (hcm : (c.cm.map kK).Nodup) (h : claimX c cl e = .ok (c', cl')) : (cl'.map kW).Nodup ∧ (c'.cm.map kK).Nodup := by
  unfold claimX at h
  cases h1 : (!sameE e.ep c.le) <;> rw [h1] at h
  · cases h2 : (bif (bif decide (whoOf (aget kW cl (e.lt, e.ep)) > 0) then whoOf (aget kW cl (e.lt, e.ep)) != IntKind.wrap .i64 (e.ca + 1) else false) then true else decide (isIn (aget kK c.cm e.lt) > 0)) <;> rw [h2] at h
    · have h : (Except.ok _ : Except Nat (Cr × List (At × Int))) = .ok (c', cl') := h
      injection h with h
      injection h with ha hb
      rw [← hb, ← ha]
      exact ⟨aput_nodup hcl _, aput_nodup hcm _⟩
    · cases h
  · cases h
theorem clearX_nds {c c' : Cr} {e : Ev} (hcm : (c.cm.map kK).Nodup) (h : clearX c e = .ok c') : (c'.cm.map kK).Nodup := by
  unfold clearX at h
  cases h1 : (!c.op) <;> rw [h1] at h
  · cases h2 : (bif e.fl != c.wh then true else e.lt.1 != c.wh) <;> rw [h2] at h
    · cases h3 : (e.lt.2.1 != c.la) <;> rw [h3] at h
      · cases h4 : (isIn (aget kK c.cm e.lt) == 0) <;> rw [h4] at h
        · have h : (Except.ok _ : Except Nat Cr) = .ok c' := h
          injection h with h
          rw [← h]
          exact adel_nodup hcm _
        · cases h
      · cases h
    · cases h
  · cases h
theorem moveX_nds {f : Int} {c c' : Cr} {e : Ev} (hcm : (c.cm.map kK).Nodup) (h : moveX f c e = .ok c') : (c'.cm.map kK).Nodup := by
  unfold moveX at h
  cases h1 : (c.op != (e.kd == 6)) <;> rw [h1] at h
  · cases h2 : (bif (bif e.kd == 6 then e.fl != c.wh else false) then true else bif e.kd != 6 then (bif decide (e.fl < 0) then true else decide (e.fl ≥ f)) else false) <;> rw [h2] at h
    · cases h3 : (bif (bif e.kd == 5 then (bif decide (e.di < -1) then true else decide (e.di > 1)) else false) then true else bif (bif e.kd == 7 then e.di != 1 else false) then e.di != -1 else false) <;> rw [h3] at h
      · have h : (Except.ok _ : Except Nat Cr) = .ok c' := h
        injection h with h
        rw [← h]
        cases e.kd == 5 <;> exact hcm
      · cases h
    · cases h
  · cases h
theorem carX_nds {f : Int} {k k' : Ck} {i : Nat} {c : Cr} {e : Ev} (hk : Nds k) (hc : c ∈ k.cars) (h : carX f k i c e = .ok k') : Nds k' := by
  have hcm := hk.cm c hc
  unfold carX at h
  cases h9 : (e.kd == 9) <;> rw [h9] at h
  · cases h3 : (bif e.kd == 3 then true else e.kd == 4) <;> rw [h3] at h
    · cases h2 : (e.kd == 2) <;> rw [h2] at h
      · cases h1 : (e.kd == 1) <;> rw [h1] at h
        · cases h8 : (e.kd == 8) <;> rw [h8] at h
          · cases h10 : (e.kd == 10) <;> rw [h10] at h
            · cases h5 : (bif (bif e.kd == 5 then true else e.kd == 6) then true else e.kd == 7) <;> rw [h5] at h
              · have h : (Except.ok k : Except Nat Ck) = .ok k' := h
                injection h with h
                exact h ▸ hk
              · simp only [cond_true, cond_false] at h
                cases hR : moveX f c e with
                | error g => rw [hR] at h; cases h
                | ok d =>
                  rw [hR] at h
                  injection h with h
                  rw [← h]
                  exact ⟨hk.fo, hk.aw, hk.cl, nds_set hk i d (moveX_nds hcm hR)⟩
            · have h : (Except.ok _ : Except Nat Ck) = .ok k' := h
              injection h with h
              rw [← h]
              exact ⟨hk.fo, hk.aw, hk.cl, nds_set hk i _ .nil⟩
          · simp only [cond_true, cond_false] at h
            cases hR : clearX c e with
            | error g => rw [hR] at h; cases h
            | ok d =>
              rw [hR] at h
              injection h with h
              rw [← h]
              exact ⟨hk.fo, hk.aw, hk.cl, nds_set hk i d (clearX_nds hcm hR)⟩
        · simp only [cond_true, cond_false] at h
          cases hR : claimX c k.cl e with
          | error g => rw [hR] at h; cases h
          | ok d =>
            obtain ⟨d, cl'⟩ := d
            rw [hR] at h
            injection h with h
            rw [← h]
            have := claimX_nds hk.cl hcm hR
            exact ⟨hk.fo, hk.aw, this.1, nds_set hk i d this.2⟩
      · simp only [cond_true, cond_false] at h
        cases h7 : decide (isIn (aget kA k.aw (e.lt, e.ep)) > 0) <;> rw [h7] at h
        · have h : (Except.ok _ : Except Nat Ck) = .ok k' := h
          injection h with h
          rw [← h]
          exact ⟨hk.fo, aput_nodup hk.aw _, hk.cl, hk.cm⟩
        · cases h
    · simp only [cond_true, cond_false] at h
      cases hR : ringX c k.fo e with
      | error g => rw [hR] at h; cases h
      | ok d =>
        obtain ⟨d, fo'⟩ := d
        rw [hR] at h
        injection h with h
        rw [← h]
        exact ⟨ringX_nds hk.fo hR, hk.aw, hk.cl, nds_set hk i d (by rw [ringX_cm hR]; exact .nil)⟩
  · simp only [cond_true] at h
    cases hop : c.op <;> rw [hop] at h
    · have h : (Except.ok _ : Except Nat Ck) = .ok k' := h
      injection h with h
      rw [← h]
      exact ⟨hk.fo, hk.aw, hk.cl, nds_set hk i _ .nil⟩
    · cases h
/-- Each error is one of the program's. -/
theorem g13 {α : Type} {b : Bool} {g n : Nat} {x : Except Nat α} (hn : n < 13) (hx : x = .error g → g < 13) (h : (bif b then .error n else x) = .error g) : g < 13 := by
  cases b with
  | true => have h : (Except.error n : Except Nat α) = .error g := h; injection h with h; omega
  | false => exact hx h
theorem ringX_13 {c : Cr} {fo : List Ep} {e : Ev} {g : Nat} (h : ringX c fo e = .error g) : g < 13 :=
  g13 (by omega) (g13 (by omega) (fun h => by cases h)) h
theorem claimX_13 {c : Cr} {cl : List (At × Int)} {e : Ev} {g : Nat} (h : claimX c cl e = .error g) : g < 13 :=
  g13 (by omega) (g13 (by omega) (fun h => by cases h)) h
theorem clearX_13 {c : Cr} {e : Ev} {g : Nat} (h : clearX c e = .error g) : g < 13 :=
  g13 (by omega) (g13 (by omega) (g13 (by omega) (g13 (by omega) (fun h => by cases h)))) h
theorem moveX_13 {f : Int} {c : Cr} {e : Ev} {g : Nat} (h : moveX f c e = .error g) : g < 13 :=
  g13 (by omega) (g13 (by omega) (g13 (by omega) (fun h => by cases h))) h
theorem carX_13 {f : Int} {k : Ck} {i : Nat} {c : Cr} {e : Ev} {g : Nat} (h : carX f k i c e = .error g) : g < 13 := by
  unfold carX at h
  cases h9 : (e.kd == 9) <;> rw [h9] at h
  · cases h3 : (bif e.kd == 3 then true else e.kd == 4) <;> rw [h3] at h
    · cases h2 : (e.kd == 2) <;> rw [h2] at h
      · cases h1 : (e.kd == 1) <;> rw [h1] at h
        · cases h8 : (e.kd == 8) <;> rw [h8] at h
          · cases h10 : (e.kd == 10) <;> rw [h10] at h
            · cases h5 : (bif (bif e.kd == 5 then true else e.kd == 6) then true else e.kd == 7) <;> rw [h5] at h
              · cases h
              · simp only [cond_true, cond_false] at h
                cases hR : moveX f c e with
                | error g => rw [hR] at h; injection h with h; exact h ▸ moveX_13 hR
                | ok d => rw [hR] at h; cases h
            · cases h
          · simp only [cond_true, cond_false] at h
            cases hR : clearX c e with
            | error g => rw [hR] at h; injection h with h; exact h ▸ clearX_13 hR
            | ok d => rw [hR] at h; cases h
        · simp only [cond_true, cond_false] at h
          cases hR : claimX c k.cl e with
          | error g => rw [hR] at h; injection h with h; exact h ▸ claimX_13 hR
          | ok d => rw [hR] at h; cases h
      · exact g13 (by omega) (fun h => by cases h) h
    · simp only [cond_true, cond_false] at h
      cases hR : ringX c k.fo e with
      | error g => rw [hR] at h; injection h with h; exact h ▸ ringX_13 hR
      | ok d => rw [hR] at h; cases h
  · exact g13 (by omega) (fun h => by cases h) h
def errOf : Except (Nat × Nat) Ck → Option (Int × Nat)
  | .error (i, g) => some ((i : Int), g)
  | .ok _ => none
theorem eventX_13 {f : Int} {k : Ck} {e : Ev} {g : Nat} (h : eventX f k e = .error g) : g < 13 := by
  unfold eventX at h
  split at h
  · cases h; omega
  · split at h
    · cases h; omega
    · split at h
      · exact carX_13 h
      · cases h; omega
theorem allX_13 {f : Int} : ∀ {l : List Ev} {k : Ck} {i : Nat} {p : Nat × Nat}, allX f k l i = .error p → p.2 < 13
  | [], _, _, _, h => by cases h
  | e :: r, k, i, p, h => by
    unfold allX at h
    split at h
    · rename_i g hg
      cases h
      exact eventX_13 hg
    · exact allX_13 h
theorem errOf_13 {f : Int} {l : List Ev} {k : Ck} {i : Nat} : ∀ p g, errOf (allX f k l i) = some (p, g) → g < 13 := fun p g h => by
  cases hA : allX f k l i with
  | ok k' => rw [hA] at h; cases h
  | error q =>
    obtain ⟨j, g'⟩ := q
    rw [hA] at h
    cases h
    exact allX_13 hA
def rowV (e : Ev) : List DV := [.int .i64 e.kd, .int .i64 e.ca, .int .i64 e.lt.1, .int .i64 e.lt.2.1, .int .i64 e.lt.2.2, .int .i64 e.ep.1, .int .i64 e.ep.2, .int .i64 e.fl, .int .i64 e.di]
def rowsV (l : List Ev) : List (List DV) := l.map rowV
theorem rowsV_len (l : List Ev) : (rowsV l).length = l.length := by simp [rowsV]
end Go.Proofs.YtgadgajhahfabaaDoor
/- Seat of TraceLooks: all that is done, looked through, of 3 cars: printed by mk_s4e.py. -/
namespace Go.Proofs.YtgadgajhahfabaaDoor
open Go.Pv Go.RowKit
set_option maxHeartbeats 1000000 in
set_option maxRecDepth 100000 in
theorem eventK_3 {bs : Nat → Addr} (q1 q2 q3 q4 : Int) (c0 c1 c2 : Cr) (fo : List Ep) (aw : List At) (cl : List (At × Int)) (e : Ev) (hkd : e.kd < 1 ∨ e.kd > 11) : Contract Tryd.prog (G0 bs) 19 [.ref (.g 0) 0, evV e] [(0, chk q1 q2 q3 q4 3), (1, .arow 9 [carR c0 5, carR c1 6, carR c2 7]), (2, .dmap (encE fo)), (3, .dmap (encA aw)), (4, .dmap (encW cl)), (5, .dmap (encK c0.cm)), (6, .dmap (encK c1.cm)), (7, .dmap (encK c2.cm))] (fun r t => r = .d (errD bs 1) ∧ t = [(0, chk q1 q2 q3 q4 3), (1, .arow 9 [carR c0 5, carR c1 6, carR c2 7]), (2, .dmap (encE fo)), (3, .dmap (encA aw)), (4, .dmap (encW cl)), (5, .dmap (encK c0.cm)), (6, .dmap (encK c1.cm)), (7, .dmap (encK c2.cm))]) := by
  refine run19 8 [] rfl rfl ?_
  conv => whnf
  refine bcase_intro (fun h => ?_) (fun h => ?_) <;> conv => whnf
  · exact ⟨rfl, rfl⟩
  · exfalso
    have h : (bif decide (e.kd < 1) then true else decide (e.kd > 11)) = false := h
    rcases hkd with hk | hk
    · rw [decide_eq_true hk] at h; cases h
    · rw [decide_eq_true hk] at h
      cases h1 : decide (e.kd < 1) <;> rw [h1] at h <;> cases h
set_option maxHeartbeats 1000000 in
set_option maxRecDepth 100000 in
theorem eventR_3 {bs : Nat → Addr} (q1 q2 q3 q4 : Int) (c0 c1 c2 : Cr) (fo : List Ep) (aw : List At) (cl : List (At × Int)) (e : Ev) (hkd : ¬ (e.kd < 1 ∨ e.kd > 11)) (hca : e.ca < 0 ∨ e.ca ≥ 3) : Contract Tryd.prog (G0 bs) 19 [.ref (.g 0) 0, evV e] [(0, chk q1 q2 q3 q4 3), (1, .arow 9 [carR c0 5, carR c1 6, carR c2 7]), (2, .dmap (encE fo)), (3, .dmap (encA aw)), (4, .dmap (encW cl)), (5, .dmap (encK c0.cm)), (6, .dmap (encK c1.cm)), (7, .dmap (encK c2.cm))] (fun r t => r = .d (errD bs 0) ∧ t = [(0, chk q1 q2 q3 q4 3), (1, .arow 9 [carR c0 5, carR c1 6, carR c2 7]), (2, .dmap (encE fo)), (3, .dmap (encA aw)), (4, .dmap (encW cl)), (5, .dmap (encK c0.cm)), (6, .dmap (encK c1.cm)), (7, .dmap (encK c2.cm))]) := by
  refine run19 8 [] rfl rfl ?_
  conv => whnf
  refine bcase_intro (fun h => ?_) (fun h => ?_) <;> conv => whnf
  · exfalso
    have h : (bif decide (e.kd < 1) then true else decide (e.kd > 11)) = true := h
    rw [decide_eq_false (show ¬ e.kd < 1 by omega), decide_eq_false (show ¬ e.kd > 11 by omega)] at h
    cases h
  refine bcase_intro (fun h => ?_) (fun h => ?_) <;> conv => whnf
  · exact ⟨rfl, rfl⟩
  · exfalso
    have h : (bif decide (e.ca < 0) then true else decide (e.ca ≥ 3)) = false := h
    rcases hca with hk | hk
    · rw [decide_eq_true hk] at h; cases h
    · rw [decide_eq_true hk] at h
      cases h1 : decide (e.ca < 0) <;> rw [h1] at h <;> cases h
set_option maxHeartbeats 1000000 in
set_option maxRecDepth 100000 in
theorem start31_3 {bs : Nat → Addr} (q2 q3 q4 : Int) : Contract Tryd.prog (G0 bs) 18 [.agg [iV 3, iV q2, iV q3, iV q4]] [] (fun r t => r = .ref (.g 0) 0 ∧ t = [(0, chk 3 q2 q3 q4 3), (1, .arow 9 [carR zC 5, carR zC 6, carR zC 7]), (2, .dmap (encE [])), (3, .dmap (encA [])), (4, .dmap (encW [])), (5, .dmap (encK zC.cm)), (6, .dmap (encK zC.cm)), (7, .dmap (encK zC.cm))]) := by
  refine run18 0 [] rfl rfl ?_
  conv => whnf
  refine ⟨3, 3, ⟨rfl, rfl, Nat.le_refl _, by decide, by decide⟩, ?_⟩
  conv => whnf
  refine StopG.rounds wk18 [] [3, 19, 20] (fun m env s => (m = 3 ∧ env = [(3, .ref (.g 0) 0), (19, iV 3), (20, iV 0)] ∧ s = [(0, chk 3 q2 q3 q4 3), (1, .row 9 [[.bool false, .bool false, .bool false, .int .i64 0, .int .i64 0, .int .i64 0, .int .i64 0, .int .i64 0, .raw (.map .none)], [.bool false, .bool false, .bool false, .int .i64 0, .int .i64 0, .int .i64 0, .int .i64 0, .int .i64 0, .raw (.map .none)], [.bool false, .bool false, .bool false, .int .i64 0, .int .i64 0, .int .i64 0, .int .i64 0, .int .i64 0, .raw (.map .none)]]), (2, .dmap []), (3, .dmap []), (4, .dmap [])]) ∨ (m = 2 ∧ env = [(3, .ref (.g 0) 0), (19, iV 3), (20, iV 1)] ∧ s = [(0, chk 3 q2 q3 q4 3), (1, .arow 9 [carR zC 5, [bV false, bV false, bV false, iV 0, iV 0, iV 0, iV 0, iV 0, .d (.raw (.map .none))], [bV false, bV false, bV false, iV 0, iV 0, iV 0, iV 0, iV 0, .d (.raw (.map .none))]]), (2, .dmap []), (3, .dmap []), (4, .dmap []), (5, .dmap [])]) ∨ (m = 1 ∧ env = [(3, .ref (.g 0) 0), (19, iV 3), (20, iV 2)] ∧ s = [(0, chk 3 q2 q3 q4 3), (1, .arow 9 [carR zC 5, carR zC 6, [bV false, bV false, bV false, iV 0, iV 0, iV 0, iV 0, iV 0, .d (.raw (.map .none))]]), (2, .dmap []), (3, .dmap []), (4, .dmap []), (5, .dmap []), (6, .dmap [])]) ∨ (m = 0 ∧ env = [(3, .ref (.g 0) 0), (19, iV 3), (20, iV 3)] ∧ s = [(0, chk 3 q2 q3 q4 3), (1, .arow 9 [carR zC 5, carR zC 6, carR zC 7]), (2, .dmap []), (3, .dmap []), (4, .dmap []), (5, .dmap []), (6, .dmap []), (7, .dmap [])])) rfl ?_ ?_
  · conv => whnf
    exact ⟨_, .inl ⟨rfl, rfl, rfl⟩⟩
  rintro m env s (⟨rfl, rfl, rfl⟩ | ⟨rfl, rfl, rfl⟩ | ⟨rfl, rfl, rfl⟩ | ⟨rfl, rfl, rfl⟩)
  · conv => whnf
    refine ⟨⟨by decide, by decide⟩, ?_⟩
    conv => whnf
    refine ⟨_, rfl, ?_⟩
    conv => whnf
    exact ⟨_, (by decide : 2 < 3), .inr (.inl ⟨rfl, rfl, rfl⟩)⟩
  · conv => whnf
    refine ⟨⟨by decide, by decide⟩, ?_⟩
    conv => whnf
    refine ⟨_, rfl, ?_⟩
    conv => whnf
    exact ⟨_, (by decide : 1 < 2), .inr (.inr (.inl ⟨rfl, rfl, rfl⟩))⟩
  · conv => whnf
    refine ⟨⟨by decide, by decide⟩, ?_⟩
    conv => whnf
    refine ⟨_, rfl, ?_⟩
    conv => whnf
    exact ⟨_, (by decide : 0 < 1), .inr (.inr (.inr (⟨rfl, rfl, rfl⟩)))⟩
  · conv => whnf
    exact ⟨rfl, rfl⟩
set_option maxHeartbeats 1000000 in
theorem event_3 {bs : Nat → Addr} (q1 q2 q3 q4 : Int) (c0 c1 c2 : Cr) (fo : List Ep) (aw : List At) (cl : List (At × Int)) (e : Ev) (hnd : Nds ⟨[c0, c1, c2], fo, aw, cl⟩) : Contract Tryd.prog (G0 bs) 19 [.ref (.g 0) 0, evV e] [(0, chk q1 q2 q3 q4 3), (1, .arow 9 [carR c0 5, carR c1 6, carR c2 7]), (2, .dmap (encE fo)), (3, .dmap (encA aw)), (4, .dmap (encW cl)), (5, .dmap (encK c0.cm)), (6, .dmap (encK c1.cm)), (7, .dmap (encK c2.cm))] (fun r t => match eventX q2 ⟨[c0, c1, c2], fo, aw, cl⟩ e with
    | .error g => r = .d (errD bs g) ∧ t = [(0, chk q1 q2 q3 q4 3), (1, .arow 9 [carR c0 5, carR c1 6, carR c2 7]), (2, .dmap (encE fo)), (3, .dmap (encA aw)), (4, .dmap (encW cl)), (5, .dmap (encK c0.cm)), (6, .dmap (encK c1.cm)), (7, .dmap (encK c2.cm))]
    | .ok k' => r = .d (.raw .nilIface) ∧ ∃ d0 d1 d2 : Cr, k'.cars = [d0, d1, d2] ∧ Nds k' ∧ (t = [(0, chk q1 q2 q3 q4 3), (1, .arow 9 [carR d0 5, carR d1 6, carR d2 7]), (2, .dmap (encE k'.fo)), (3, .dmap (encA k'.aw)), (4, .dmap (encW k'.cl)), (5, .dmap (encK d0.cm)), (6, .dmap (encK d1.cm)), (7, .dmap (encK d2.cm))] ∨ (d0.cm = [] ∧ t = [(0, chk q1 q2 q3 q4 3), (1, .arow 9 [carR d0 8, carR d1 6, carR d2 7]), (2, .dmap (encE k'.fo)), (3, .dmap (encA k'.aw)), (4, .dmap (encW k'.cl)), (5, .dmap (encK c0.cm)), (6, .dmap (encK d1.cm)), (7, .dmap (encK d2.cm)), (8, .dmap (encK []))]) ∨ (d1.cm = [] ∧ t = [(0, chk q1 q2 q3 q4 3), (1, .arow 9 [carR d0 5, carR d1 8, carR d2 7]), (2, .dmap (encE k'.fo)), (3, .dmap (encA k'.aw)), (4, .dmap (encW k'.cl)), (5, .dmap (encK d0.cm)), (6, .dmap (encK c1.cm)), (7, .dmap (encK d2.cm)), (8, .dmap (encK []))]) ∨ (d2.cm = [] ∧ t = [(0, chk q1 q2 q3 q4 3), (1, .arow 9 [carR d0 5, carR d1 6, carR d2 8]), (2, .dmap (encE k'.fo)), (3, .dmap (encA k'.aw)), (4, .dmap (encW k'.cl)), (5, .dmap (encK d0.cm)), (6, .dmap (encK d1.cm)), (7, .dmap (encK c2.cm)), (8, .dmap (encK []))]))) := by
  by_cases hkd : e.kd < 1 ∨ e.kd > 11
  · have he : eventX q2 ⟨[c0, c1, c2], fo, aw, cl⟩ e = .error 1 := by unfold eventX; rw [if_pos hkd]
    rw [he]
    exact eventK_3 q1 q2 q3 q4 c0 c1 c2 fo aw cl e hkd
  by_cases hca : e.ca < 0 ∨ e.ca ≥ 3
  · have he : eventX q2 ⟨[c0, c1, c2], fo, aw, cl⟩ e = .error 0 := by unfold eventX; rw [if_neg hkd]; exact if_pos hca
    rw [he]
    exact eventR_3 q1 q2 q3 q4 c0 c1 c2 fo aw cl e hkd hca
  have hcs : e.ca = 0 ∨ e.ca = 1 ∨ e.ca = 2 := by omega
  rcases hcs with h0 | h1 | h2
  · refine (event32_3_0 q1 q2 q3 q4 c0 c1 c2 fo aw cl e hkd h0 hnd.fo hnd.aw hnd.cl (hnd.cm c0 (by simp))).mono fun r t h => ?_
    have he : eventX q2 ⟨[c0, c1, c2], fo, aw, cl⟩ e = carX q2 ⟨[c0, c1, c2], fo, aw, cl⟩ 0 c0 e := by
      unfold eventX
      rw [if_neg hkd, h0]
      rfl
    rw [he]
    cases hX : carX q2 ⟨[c0, c1, c2], fo, aw, cl⟩ 0 c0 e with
    | error g => rw [hX] at h; exact h
    | ok k' =>
      rw [hX] at h
      obtain ⟨h1, d0, d1, d2, h2, h3⟩ := h
      refine ⟨h1, d0, d1, d2, h2, carX_nds hnd (by simp) hX, ?_⟩
      rcases h3 with h3 | ⟨e1, e2⟩
      · exact .inl h3
      · exact .inr (.inl ⟨e1, e2⟩)
  · refine (event32_3_1 q1 q2 q3 q4 c0 c1 c2 fo aw cl e hkd h1 hnd.fo hnd.aw hnd.cl (hnd.cm c1 (by simp))).mono fun r t h => ?_
    have he : eventX q2 ⟨[c0, c1, c2], fo, aw, cl⟩ e = carX q2 ⟨[c0, c1, c2], fo, aw, cl⟩ 1 c1 e := by
      unfold eventX
      rw [if_neg hkd, h1]
      rfl
    rw [he]
    cases hX : carX q2 ⟨[c0, c1, c2], fo, aw, cl⟩ 1 c1 e with
    | error g => rw [hX] at h; exact h
    | ok k' =>
      rw [hX] at h
      obtain ⟨h1, d0, d1, d2, h2, h3⟩ := h
      refine ⟨h1, d0, d1, d2, h2, carX_nds hnd (by simp) hX, ?_⟩
      rcases h3 with h3 | ⟨e1, e2⟩
      · exact .inl h3
      · exact .inr (.inr (.inl ⟨e1, e2⟩))
  · refine (event32_3_2 q1 q2 q3 q4 c0 c1 c2 fo aw cl e hkd h2 hnd.fo hnd.aw hnd.cl (hnd.cm c2 (by simp))).mono fun r t h => ?_
    have he : eventX q2 ⟨[c0, c1, c2], fo, aw, cl⟩ e = carX q2 ⟨[c0, c1, c2], fo, aw, cl⟩ 2 c2 e := by
      unfold eventX
      rw [if_neg hkd, h2]
      rfl
    rw [he]
    cases hX : carX q2 ⟨[c0, c1, c2], fo, aw, cl⟩ 2 c2 e with
    | error g => rw [hX] at h; exact h
    | ok k' =>
      rw [hX] at h
      obtain ⟨h1, d0, d1, d2, h2, h3⟩ := h
      refine ⟨h1, d0, d1, d2, h2, carX_nds hnd (by simp) hX, ?_⟩
      rcases h3 with h3 | ⟨e1, e2⟩
      · exact .inl h3
      · exact .inr (.inr (.inr (⟨e1, e2⟩)))
set_option maxHeartbeats 4000000 in
set_option maxRecDepth 100000 in
theorem all24_3 {bs : Nat → Addr} (q2 q3 q4 : Int) (l : List Ev) (hl : l.length ≤ 100000) : Contract Tryd.prog (G0 bs) 11 [.agg [iV 3, iV q2, iV q3, iV q4], .d (.list 9 (rowsV l))] [] (fun r t => match allX q2 ⟨[zC, zC, zC], [], [], []⟩ l 0 with
    | .error (i, g) => r = .tup [.d (.raw (.pointer .none)), errA bs (some ((i : Int), g))] ∧ t = []
    | .ok k => ∃ c0 c1 c2 : Cr, k.cars = [c0, c1, c2] ∧ r = .tup [.ref (.g 0) 0, .d (.raw .nilIface)] ∧ t = [(0, chk 3 q2 q3 q4 3), (1, .arow 9 [carR c0 5, carR c1 6, carR c2 7]), (2, .dmap (encE k.fo)), (3, .dmap (encA k.aw)), (4, .dmap (encW k.cl)), (5, .dmap (encK c0.cm)), (6, .dmap (encK c1.cm)), (7, .dmap (encK c2.cm))]) := by
  have hlen := rowsV_len l
  obtain ⟨Y, hY0⟩ : ∃ Y, allX q2 ⟨[zC, zC, zC], [], [], []⟩ l 0 = Y := ⟨_, rfl⟩
  rw [hY0]
  refine rung11 0 [] rfl rfl ?_
  conv => whnf
  refine .obj rfl ?_
  conv => whnf
  refine ⟨_, _, ⟨WkL.refl _, start31_3 q2 q3 q4⟩, fun res s1 h => ?_⟩
  obtain ⟨rfl, rfl⟩ := h
  conv => whnf
  refine StopG.rounds wk11 [] [6, 12, 13, 14] (fun m env s => ∃ (i : Nat) (c0 c1 c2 : Cr) (fo : List Ep) (aw : List At) (cl : List (At × Int)), i ≤ l.length ∧ Nds ⟨[c0, c1, c2], fo, aw, cl⟩ ∧ allX q2 ⟨[c0, c1, c2], fo, aw, cl⟩ (l.drop i) i = Y ∧ m = l.length - i ∧ env = [(6, .ref (.g 0) 0), (12, .d (.list 9 (rowsV l))), (13, iV (l.length : Int)), (14, iV (i : Int))] ∧ s = [(0, chk 3 q2 q3 q4 3), (1, .arow 9 [carR c0 5, carR c1 6, carR c2 7]), (2, .dmap (encE fo)), (3, .dmap (encA aw)), (4, .dmap (encW cl)), (5, .dmap (encK c0.cm)), (6, .dmap (encK c1.cm)), (7, .dmap (encK c2.cm))]) rfl ?_ ?_
  · conv => whnf
    rw [hlen]
    exact ⟨_, 0, zC, zC, zC, [], [], [], Nat.zero_le _, ⟨.nil, .nil, .nil, fun c hc => by simp [zC] at hc; (try rcases hc with rfl); first | (rw [hc]; exact .nil) | exact .nil⟩, hY0, rfl, rfl, rfl⟩
  rintro m env s ⟨i, c0, c1, c2, fo, aw, cl, hi, hnd, hY, rfl, rfl, rfl⟩
  conv => whnf
  cases hlt : decide ((i : Int) < (l.length : Int)) with
  | false =>
    conv => whnf
    have hil := of_decide_eq_false hlt
    rw [show l.drop i = [] from List.drop_eq_nil_of_le (by omega)] at hY
    refine ⟨_, _, .refl, ?_⟩
    conv => whnf
    subst hY
    exact ⟨c0, c1, c2, rfl, rfl, rfl⟩
  | true =>
    have hil : i < l.length := by have := of_decide_eq_true hlt; omega
    obtain ⟨e, he, hd⟩ := at_i hil
    rw [hd] at hY
    unfold allX at hY
    conv => whnf
    refine ⟨rowV e, ⟨by omega, row_i he⟩, ?_⟩
    conv => whnf
    refine .obj rfl ?_
    conv => whnf
    refine ⟨_, _, ⟨WkL.refl _, event_3 3 q2 q3 q4 c0 c1 c2 fo aw cl e hnd⟩, fun res s1 h => ?_⟩
    cases hE : eventX q2 ⟨[c0, c1, c2], fo, aw, cl⟩ e with
    | error g =>
      rw [hE] at h hY
      obtain ⟨rfl, rfl⟩ := h
      conv => whnf
      refine ⟨_, _, GV.trans (GV.tidied [4, 5] (E := [(4, .d (.raw (.pointer .none))), (5, .ifc 70 (.ref (.g 0) 0))]) (S := [(0, .cells [iV (i : Int), .d (errD bs g)])]) ?_) (GV.freeze 0 rfl (by simp) (by repeat' first | exact trivial | apply And.intro | decide | (simp; done) | omega) (by repeat' first | exact trivial | apply And.intro | decide | (simp; done))), ?_⟩
      · conv => whnf
        exact ⟨rfl, rfl⟩
      conv => whnf
      subst hY
      exact ⟨rfl, rfl⟩
    | ok k9 =>
      rw [hE] at h hY
      obtain ⟨rfl, d0, d1, d2, hk9, hnd9, h3⟩ := h
      obtain ⟨cars9, fo9, aw9, cl9⟩ := k9
      have hk9 : cars9 = [d0, d1, d2] := hk9
      subst hk9
      rcases h3 with rfl | ⟨hc, rfl⟩ | ⟨hc, rfl⟩ | ⟨hc, rfl⟩
      · conv => whnf
        rw [succ_i hil (by omega)]
        exact ⟨_, by omega, i + 1, d0, d1, d2, fo9, aw9, cl9, hil, hnd9, hY, rfl, rfl, rfl⟩
      · conv => whnf
        rw [succ_i hil (by omega)]
        exact ⟨_, by omega, i + 1, d0, d1, d2, fo9, aw9, cl9, hil, hnd9, hY, rfl, rfl, by rw [hc]⟩
      · conv => whnf
        rw [succ_i hil (by omega)]
        exact ⟨_, by omega, i + 1, d0, d1, d2, fo9, aw9, cl9, hil, hnd9, hY, rfl, rfl, by rw [hc]⟩
      · conv => whnf
        rw [succ_i hil (by omega)]
        exact ⟨_, by omega, i + 1, d0, d1, d2, fo9, aw9, cl9, hil, hnd9, hY, rfl, rfl, by rw [hc]⟩
set_option maxHeartbeats 1000000 in
set_option maxRecDepth 100000 in
theorem check13_3 {bs : Nat → Addr} (q2 q3 q4 : Int) (l : List Ev) (hl : l.length ≤ 100000) : Contract Tryd.prog (G0 bs) 8 [.agg [iV 3, iV q2, iV q3, iV q4], .d (.list 9 (rowsV l))] [] (fun r t => r = errA bs (errOf (allX q2 ⟨[zC, zC, zC], [], [], []⟩ l 0)) ∧ t = []) := by
  have hall := all24_3 (bs := bs) q2 q3 q4 l hl
  cases hA : allX q2 ⟨[zC, zC, zC], [], [], []⟩ l 0 with
  | error p =>
    obtain ⟨i, g⟩ := p
    rw [hA] at hall
    refine run8 0 [] rfl rfl ?_
    conv => whnf
    refine .obj rfl ?_
    conv => whnf
    refine ⟨_, _, ⟨WkL.refl _, hall⟩, fun res s1 h => ?_⟩
    obtain ⟨rfl, rfl⟩ := h
    conv => whnf
    exact ⟨rfl, rfl⟩
  | ok k =>
    rw [hA] at hall
    refine run8 0 [] rfl rfl ?_
    conv => whnf
    refine .obj rfl ?_
    conv => whnf
    refine ⟨_, _, ⟨WkL.refl _, hall⟩, fun res s1 h => ?_⟩
    obtain ⟨c0, c1, c2, _, rfl, rfl⟩ := h
    conv => whnf
    exact ⟨rfl, rfl⟩
end Go.Proofs.YtgadgajhahfabaaDoor
