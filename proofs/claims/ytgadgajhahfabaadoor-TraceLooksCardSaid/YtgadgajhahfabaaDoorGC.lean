/- The seat's texts, part 3: what single functions of the program compute; no statement of its own. -/
import Derived.Test.YtgadgajhahfabaaDoorGA
import Derived.Test.YtgadgajhahfabaaDoorSp
import Derived.Test.YtgadgajhahfabaaDoorGB
/- Seat of TraceLooks: a checker's methods, of 1 car: printed by mk_s4d.py. -/
namespace Go.Proofs.YtgadgajhahfabaaDoor
open Go.Pv Go.RowKit
set_option maxHeartbeats 1000000 in
set_option maxRecDepth 100000 in
theorem ring50_1_0 {bs : Nat → Addr} (q1 q2 q3 q4 : Int) (c0 : Cr) (fo : List Ep) (aw : List At) (cl : List (At × Int)) (e : Ev) (hfo : (fo.map kE).Nodup) : Contract Tryd.prog (G0 bs) 27 [.ref (.g 0) 0, .el (.g 1) 9 0 0, evV e] [(0, chk q1 q2 q3 q4 1), (1, .arow 9 [carR c0 5]), (2, .dmap (encE fo)), (3, .dmap (encA aw)), (4, .dmap (encW cl)), (5, .dmap (encK c0.cm))] (fun r t => match ringX c0 fo e with
    | .error g => r = .d (errD bs g) ∧ t = [(0, chk q1 q2 q3 q4 1), (1, .arow 9 [carR c0 5]), (2, .dmap (encE fo)), (3, .dmap (encA aw)), (4, .dmap (encW cl)), (5, .dmap (encK c0.cm))]
    | .ok (c', fo') => r = .d (.raw .nilIface) ∧ t = [(0, chk q1 q2 q3 q4 1), (1, .arow 9 [carR c' 6]), (2, .dmap (encE fo')), (3, .dmap (encA aw)), (4, .dmap (encW cl)), (5, .dmap (encK c0.cm)), (6, .dmap (encK []))]) := by
  obtain ⟨X, hX⟩ : ∃ X, ringX c0 fo e = X := ⟨_, rfl⟩
  rw [hX]
  unfold ringX at hX
  have hg := dget_enc (ev := one1) dxE_inj hfo e.ep
  refine run27 6 [] rfl rfl ?_
  conv => whnf
  refine ⟨carR c0 5, rfl, rfl, ?_⟩
  conv => whnf
  refine .scal [epV c0.le, epV e.ep] _ ⟨.refl _, rfl, less69 _ _⟩ ?_
  conv => whnf
  refine ⟨carR c0 5, fun _ => rfl, rfl, ?_⟩
  conv => whnf
  refine ⟨carR c0 5, fun _ => rfl, rfl, ?_⟩
  conv => whnf
  refine bcase_intro (fun h1 => ?_) (fun h1 => ?_) <;> conv => whnf
  · have h1 : (bif !lessE c0.le e.ep then true else bif c0.an then decide (e.ep.1 ≤ c0.le.1) else false) = true := h1
    rw [h1] at hX
    subst hX
    exact ⟨rfl, rfl⟩
  have h1 : (bif !lessE c0.le e.ep then true else bif c0.an then decide (e.ep.1 ≤ c0.le.1) else false) = false := h1
  rw [h1] at hX
  cases hf : aget kE fo e.ep with
  | none =>
    rw [hf] at hg hX
    refine ⟨heldE, .none, fun _ => ⟨dxE_good _, good_enc dxE_good fo, hg⟩, ?_⟩
    conv => whnf
    refine bcase_intro (fun h2 => ?_) (fun h2 => ?_) <;> conv => whnf
    · exfalso
      have h2 : (bif e.kd == 3 then decide ((0 : Int) > 0) else false) = true := h2
      cases e.kd == 3 <;> simp at h2 
    refine bcase_intro (fun h3 => ?_) (fun h3 => ?_) <;> conv => whnf
    · have h3 : (e.kd == 3) = true := h3
      rw [h3] at hX
      refine ⟨heldE, encE (aput kE fo e.ep), ⟨dxE_good _, good_enc dxE_good fo, dput_enc dxE_inj hfo e.ep⟩, ?_⟩
      conv => whnf
      refine ⟨carR c0 5, rfl, ?_⟩
      conv => whnf
      refine ⟨_, rfl, ?_⟩
      conv => whnf
      refine ⟨_, rfl, ?_⟩
      conv => whnf
      subst hX
      exact ⟨rfl, rfl⟩
    · have h3 : (e.kd == 3) = false := h3
      rw [h3] at hX
      refine ⟨carR c0 5, rfl, ?_⟩
      conv => whnf
      refine ⟨_, rfl, ?_⟩
      conv => whnf
      refine ⟨_, rfl, ?_⟩
      conv => whnf
      subst hX
      exact ⟨rfl, rfl⟩
  | some y =>
    rw [hf] at hg hX
    refine ⟨heldE, .some (.one (.int .i64 1)), fun _ => ⟨dxE_good _, good_enc dxE_good fo, hg⟩, ?_⟩
    conv => whnf
    refine bcase_intro (fun h2 => ?_) (fun h2 => ?_) <;> conv => whnf
    · have h2 : (bif e.kd == 3 then decide ((1 : Int) > 0) else false) = true := h2
      have hX : (bif (bif e.kd == 3 then decide ((1 : Int) > 0) else false) then _ else _) = X := hX
      rw [h2] at hX
      subst hX
      exact ⟨rfl, rfl⟩
    have h2 : (bif e.kd == 3 then decide ((1 : Int) > 0) else false) = false := h2
    have hX : (bif (bif e.kd == 3 then decide ((1 : Int) > 0) else false) then _ else _) = X := hX
    rw [h2] at hX
    refine bcase_intro (fun h3 => ?_) (fun h3 => ?_) <;> conv => whnf
    · exfalso
      have h3 : (e.kd == 3) = true := h3
      rw [h3] at h2
      cases h2
    · have h3 : (e.kd == 3) = false := h3
      rw [h3] at hX
      refine ⟨carR c0 5, rfl, ?_⟩
      conv => whnf
      refine ⟨_, rfl, ?_⟩
      conv => whnf
      refine ⟨_, rfl, ?_⟩
      conv => whnf
      subst hX
      exact ⟨rfl, rfl⟩
set_option maxHeartbeats 1000000 in
set_option maxRecDepth 100000 in
theorem claim51_1_0 {bs : Nat → Addr} (q1 q2 q3 q4 : Int) (c0 : Cr) (fo : List Ep) (aw : List At) (cl : List (At × Int)) (e : Ev) (hcl : (cl.map kW).Nodup) (hcm : (c0.cm.map kK).Nodup) : Contract Tryd.prog (G0 bs) 28 [.ref (.g 0) 0, .el (.g 1) 9 0 0, evV e] [(0, chk q1 q2 q3 q4 1), (1, .arow 9 [carR c0 5]), (2, .dmap (encE fo)), (3, .dmap (encA aw)), (4, .dmap (encW cl)), (5, .dmap (encK c0.cm))] (fun r t => match claimX c0 cl e with
    | .error g => r = .d (errD bs g) ∧ t = [(0, chk q1 q2 q3 q4 1), (1, .arow 9 [carR c0 5]), (2, .dmap (encE fo)), (3, .dmap (encA aw)), (4, .dmap (encW cl)), (5, .dmap (encK c0.cm))]
    | .ok (c', cl') => r = .d (.raw .nilIface) ∧ t = [(0, chk q1 q2 q3 q4 1), (1, .arow 9 [carR c' 5]), (2, .dmap (encE fo)), (3, .dmap (encA aw)), (4, .dmap (encW cl')), (5, .dmap (encK c'.cm))]) := by
  obtain ⟨X, hX⟩ : ∃ X, claimX c0 cl e = X := ⟨_, rfl⟩
  rw [hX]
  unfold claimX at hX
  have hg := dget_enc (ev := whoW) dxA_inj hcl (e.lt, e.ep)
  have hk := dget_enc (ev := one1) dxK_inj hcm e.lt
  refine run28 6 [] rfl rfl ?_
  conv => whnf
  cases hf : aget kW cl (e.lt, e.ep) with
  | none =>
    rw [hf] at hg hX
    refine ⟨heldA, .none, ⟨dxA_good (e.lt, e.ep), good_enc dxA_good cl, hg⟩, ?_⟩
    conv => whnf
    refine ⟨carR c0 5, rfl, rfl, ?_⟩
    conv => whnf
    refine ⟨⟨by kernel_rfl, by kernel_rfl⟩, ?_⟩
    conv => whnf
    refine bcase_intro (fun h1 => ?_) (fun h1 => ?_) <;> conv => whnf
    · have h1 : (!sameE e.ep c0.le) = true := h1
      rw [h1] at hX
      subst hX
      exact ⟨rfl, rfl⟩
    have h1 : (!sameE e.ep c0.le) = false := h1
    rw [h1] at hX
    refine ⟨carR c0 5, fun _ => rfl, rfl, ?_⟩
    conv => whnf
    cases hm : aget kK c0.cm e.lt with
    | none =>
      rw [hm] at hk hX
      refine ⟨heldK, .none, fun _ => ⟨dxK_good _, good_enc dxK_good c0.cm, hk⟩, ?_⟩
      conv => whnf
      refine ⟨heldA, encW (aput kW cl ((e.lt, e.ep), IntKind.wrap .i64 (e.ca + 1))), ⟨dxA_good (e.lt, e.ep), good_enc dxA_good cl, dput_enc (ev := whoW) dxA_inj hcl ((e.lt, e.ep), IntKind.wrap .i64 (e.ca + 1))⟩, ?_⟩
      conv => whnf
      refine ⟨carR c0 5, rfl, rfl, ?_⟩
      conv => whnf
      refine ⟨heldK, encK (aput kK c0.cm e.lt), ⟨dxK_good _, good_enc dxK_good c0.cm, dput_enc (ev := one1) dxK_inj hcm e.lt⟩, ?_⟩
      conv => whnf
      subst hX
      exact ⟨rfl, rfl⟩
    | some z =>
      rw [hm] at hk hX
      refine ⟨heldK, .some (.one (.int .i64 1)), fun _ => ⟨dxK_good _, good_enc dxK_good c0.cm, hk⟩, ?_⟩
      conv => whnf
      subst hX
      exact ⟨rfl, rfl⟩
  | some y =>
    rw [hf] at hg hX
    refine ⟨heldA, .some (.one (.int .i64 y.2)), ⟨dxA_good (e.lt, e.ep), good_enc dxA_good cl, hg⟩, ?_⟩
    conv => whnf
    refine ⟨carR c0 5, rfl, rfl, ?_⟩
    conv => whnf
    refine ⟨⟨by kernel_rfl, by kernel_rfl⟩, ?_⟩
    conv => whnf
    refine bcase_intro (fun h1 => ?_) (fun h1 => ?_) <;> conv => whnf
    · have h1 : (!sameE e.ep c0.le) = true := h1
      rw [h1] at hX
      subst hX
      exact ⟨rfl, rfl⟩
    have h1 : (!sameE e.ep c0.le) = false := h1
    rw [h1] at hX
    refine ⟨carR c0 5, fun _ => rfl, rfl, ?_⟩
    conv => whnf
    cases hm : aget kK c0.cm e.lt with
    | none =>
      rw [hm] at hk hX
      refine ⟨heldK, .none, fun _ => ⟨dxK_good _, good_enc dxK_good c0.cm, hk⟩, ?_⟩
      conv => whnf
      refine bcase_intro (fun h2 => ?_) (fun h2 => ?_) <;> conv => whnf
      · have h2 : (bif (bif decide (y.2 > 0) then y.2 != IntKind.wrap .i64 (e.ca + 1) else false) then true else decide ((0 : Int) > 0)) = true := h2
        have hX : (bif (bif (bif decide (y.2 > 0) then y.2 != IntKind.wrap .i64 (e.ca + 1) else false) then true else decide ((0 : Int) > 0)) then _ else _) = X := hX
        rw [h2] at hX
        subst hX
        exact ⟨rfl, rfl⟩
      have h2 : (bif (bif decide (y.2 > 0) then y.2 != IntKind.wrap .i64 (e.ca + 1) else false) then true else decide ((0 : Int) > 0)) = false := h2
      have hX : (bif (bif (bif decide (y.2 > 0) then y.2 != IntKind.wrap .i64 (e.ca + 1) else false) then true else decide ((0 : Int) > 0)) then _ else _) = X := hX
      rw [h2] at hX
      refine ⟨heldA, encW (aput kW cl ((e.lt, e.ep), IntKind.wrap .i64 (e.ca + 1))), ⟨dxA_good (e.lt, e.ep), good_enc dxA_good cl, dput_enc (ev := whoW) dxA_inj hcl ((e.lt, e.ep), IntKind.wrap .i64 (e.ca + 1))⟩, ?_⟩
      conv => whnf
      refine ⟨carR c0 5, rfl, rfl, ?_⟩
      conv => whnf
      refine ⟨heldK, encK (aput kK c0.cm e.lt), ⟨dxK_good _, good_enc dxK_good c0.cm, dput_enc (ev := one1) dxK_inj hcm e.lt⟩, ?_⟩
      conv => whnf
      subst hX
      exact ⟨rfl, rfl⟩
    | some z =>
      rw [hm] at hk hX
      refine ⟨heldK, .some (.one (.int .i64 1)), fun _ => ⟨dxK_good _, good_enc dxK_good c0.cm, hk⟩, ?_⟩
      conv => whnf
      refine bcase_intro (fun h2 => ?_) (fun h2 => ?_) <;> conv => whnf
      · have h2 : (bif (bif decide (y.2 > 0) then y.2 != IntKind.wrap .i64 (e.ca + 1) else false) then true else decide ((1 : Int) > 0)) = true := h2
        have hX : (bif (bif (bif decide (y.2 > 0) then y.2 != IntKind.wrap .i64 (e.ca + 1) else false) then true else decide ((1 : Int) > 0)) then _ else _) = X := hX
        rw [h2] at hX
        subst hX
        exact ⟨rfl, rfl⟩
      exfalso
      have h2 : (bif (bif decide (y.2 > 0) then y.2 != IntKind.wrap .i64 (e.ca + 1) else false) then true else decide ((1 : Int) > 0)) = false := h2
      cases hb : (bif decide (y.2 > 0) then y.2 != IntKind.wrap .i64 (e.ca + 1) else false) <;> rw [hb] at h2 <;> cases h2
set_option maxHeartbeats 1000000 in
set_option maxRecDepth 100000 in
theorem clears52_1_0 {bs : Nat → Addr} (c0 : Cr) (e : Ev) (hcm : (c0.cm.map kK).Nodup) : Contract Tryd.prog (G0 bs) 29 [.el (.g 0) 9 0 0, evV e] [(0, .arow 9 [carR c0 1]), (1, .dmap (encK c0.cm))] (fun r t => match clearX c0 e with
    | .error g => r = .d (errD bs g) ∧ t = [(0, .arow 9 [carR c0 1]), (1, .dmap (encK c0.cm))]
    | .ok c' => r = .d (.raw .nilIface) ∧ t = [(0, .arow 9 [carR c' 1]), (1, .dmap (encK c'.cm))]) := by
  obtain ⟨X, hX⟩ : ∃ X, clearX c0 e = X := ⟨_, rfl⟩
  rw [hX]
  unfold clearX at hX
  have hk := dget_enc (ev := one1) dxK_inj hcm e.lt
  refine run29 2 [] rfl rfl ?_
  conv => whnf
  refine ⟨carR c0 1, rfl, rfl, ?_⟩
  conv => whnf
  refine bcase_intro (fun h1 => ?_) (fun h1 => ?_) <;> conv => whnf
  · have h1 : (!c0.op) = true := h1
    rw [h1] at hX
    subst hX
    exact ⟨rfl, rfl⟩
  have h1 : (!c0.op) = false := h1
  rw [h1] at hX
  refine ⟨carR c0 1, rfl, rfl, ?_⟩
  conv => whnf
  refine ⟨carR c0 1, fun _ => rfl, rfl, ?_⟩
  conv => whnf
  refine bcase_intro (fun h2 => ?_) (fun h2 => ?_) <;> conv => whnf
  · have h2 : (bif e.fl != c0.wh then true else e.lt.1 != c0.wh) = true := h2
    rw [h2] at hX
    subst hX
    exact ⟨rfl, rfl⟩
  have h2 : (bif e.fl != c0.wh then true else e.lt.1 != c0.wh) = false := h2
  rw [h2] at hX
  refine ⟨carR c0 1, rfl, rfl, ?_⟩
  conv => whnf
  refine bcase_intro (fun h3 => ?_) (fun h3 => ?_) <;> conv => whnf
  · have h3 : (e.lt.2.1 != c0.la) = true := h3
    rw [h3] at hX
    subst hX
    exact ⟨rfl, rfl⟩
  have h3 : (e.lt.2.1 != c0.la) = false := h3
  rw [h3] at hX
  refine ⟨carR c0 1, rfl, rfl, ?_⟩
  conv => whnf
  cases hm : aget kK c0.cm e.lt with
  | none =>
    rw [hm] at hk hX
    refine ⟨heldK, .none, ⟨dxK_good _, good_enc dxK_good c0.cm, hk⟩, ?_⟩
    conv => whnf
    subst hX
    exact ⟨rfl, rfl⟩
  | some z =>
    rw [hm] at hk hX
    refine ⟨heldK, .some (.one (.int .i64 1)), ⟨dxK_good _, good_enc dxK_good c0.cm, hk⟩, ?_⟩
    conv => whnf
    refine ⟨carR c0 1, rfl, rfl, ?_⟩
    conv => whnf
    refine ⟨heldK, encK (adel kK c0.cm e.lt), ⟨dxK_good _, good_enc dxK_good c0.cm, ddel_enc (ev := one1) dxK_inj hcm e.lt⟩, ?_⟩
    conv => whnf
    subst hX
    exact ⟨rfl, rfl⟩
set_option maxHeartbeats 1000000 in
set_option maxRecDepth 100000 in
theorem moves53_1_0 {bs : Nat → Addr} (q1 q2 q3 q4 : Int) (c0 : Cr) (fo : List Ep) (aw : List At) (cl : List (At × Int)) (e : Ev) : Contract Tryd.prog (G0 bs) 30 [.ref (.g 0) 0, .el (.g 1) 9 0 0, evV e] [(0, chk q1 q2 q3 q4 1), (1, .arow 9 [carR c0 5]), (2, .dmap (encE fo)), (3, .dmap (encA aw)), (4, .dmap (encW cl)), (5, .dmap (encK c0.cm))] (fun r t => match moveX q2 c0 e with
    | .error g => r = .d (errD bs g) ∧ t = [(0, chk q1 q2 q3 q4 1), (1, .arow 9 [carR c0 5]), (2, .dmap (encE fo)), (3, .dmap (encA aw)), (4, .dmap (encW cl)), (5, .dmap (encK c0.cm))]
    | .ok c' => r = .d (.raw .nilIface) ∧ t = [(0, chk q1 q2 q3 q4 1), (1, .arow 9 [carR c' 5]), (2, .dmap (encE fo)), (3, .dmap (encA aw)), (4, .dmap (encW cl)), (5, .dmap (encK c'.cm))]) := by
  obtain ⟨X, hX⟩ : ∃ X, moveX q2 c0 e = X := ⟨_, rfl⟩
  rw [hX]
  unfold moveX at hX
  refine run30 6 [13] rfl rfl ?_
  conv => whnf
  refine ⟨carR c0 5, rfl, rfl, ?_⟩
  conv => whnf
  have hne : (c0.op != (e.kd == 6)) = !(c0.op == (e.kd == 6)) := rfl
  rw [hne] at hX
  cases h1 : c0.op == (e.kd == 6) with
  | false =>
    conv => whnf
    rw [h1] at hX
    subst hX
    exact ⟨rfl, rfl⟩
  | true =>
  conv => whnf
  rw [h1] at hX
  refine ⟨carR c0 5, fun _ => rfl, rfl, ?_⟩
  conv => whnf
  refine bcase_intro (fun h2 => ?_) (fun h2 => ?_) <;> conv => whnf
  · refine bcase_intro (fun h3 => ?_) (fun h3 => ?_) <;> conv => whnf
    · have h2 : (bif e.kd == 6 then e.fl != c0.wh else false) = true := h2
      rw [h2] at hX
      subst hX
      exact ⟨rfl, rfl⟩
    · exact absurd (h2.symm.trans h3) (by decide)
  have h2 : (bif e.kd == 6 then e.fl != c0.wh else false) = false := h2
  rw [h2] at hX
  refine bcase_intro (fun h3 => ?_) (fun h3 => ?_) <;> conv => whnf
  · have h3 : (bif e.kd != 6 then (bif decide (e.fl < 0) then true else decide (e.fl ≥ q2)) else false) = true := h3
    rw [h3] at hX
    subst hX
    exact ⟨rfl, rfl⟩
  have h3 : (bif e.kd != 6 then (bif decide (e.fl < 0) then true else decide (e.fl ≥ q2)) else false) = false := h3
  rw [h3] at hX
  refine bcase_intro (fun h4 => ?_) (fun h4 => ?_) <;> conv => whnf
  · refine bcase_intro (fun h5 => ?_) (fun h5 => ?_) <;> conv => whnf
    · have h4 : (bif e.kd == 5 then (bif decide (e.di < -1) then true else decide (e.di > 1)) else false) = true := h4
      rw [h4] at hX
      subst hX
      exact ⟨rfl, rfl⟩
    · exact absurd (h4.symm.trans h5) (by decide)
  have h4 : (bif e.kd == 5 then (bif decide (e.di < -1) then true else decide (e.di > 1)) else false) = false := h4
  rw [h4] at hX
  refine bcase_intro (fun h5 => ?_) (fun h5 => ?_) <;> conv => whnf
  · have h5 : (bif (bif e.kd == 7 then e.di != 1 else false) then e.di != -1 else false) = true := h5
    rw [h5] at hX
    subst hX
    exact ⟨rfl, rfl⟩
  have h5 : (bif (bif e.kd == 7 then e.di != 1 else false) then e.di != -1 else false) = false := h5
  rw [h5] at hX
  cases h6 : e.kd == 5 with
  | true =>
    rw [h6] at hX
    refine ⟨carR c0 5, rfl, ?_⟩
    conv => whnf
    refine ⟨_, rfl, ?_⟩
    conv => whnf
    refine ⟨_, rfl, rfl, ?_⟩
    conv => whnf
    refine StopG.draw wk30 [] sp30_13 [6] (fun env s => env = [(6, .d (.raw .nilIface))] ∧ s = [(0, chk q1 q2 q3 q4 1), (1, .arow 9 [carR { c0 with op := true, fl := e.fl, wh := e.fl, la := e.di } 5]), (2, .dmap (encE fo)), (3, .dmap (encA aw)), (4, .dmap (encW cl)), (5, .dmap (encK c0.cm))]) rfl rfl (by kernel_rfl) ?_ ?_
    · conv => whnf
      repeat' (first
        | (refine Both.mk ?_ ?_ <;> conv => whnf)
        | (refine ⟨_, rfl, ?_⟩; conv => whnf)
        | exact ⟨rfl, rfl⟩)
    rintro env s ⟨rfl, rfl⟩
    conv => whnf
    subst hX
    exact ⟨rfl, rfl⟩
  | false =>
    rw [h6] at hX
    refine ⟨carR c0 5, rfl, ?_⟩
    conv => whnf
    refine ⟨_, rfl, ?_⟩
    conv => whnf
    refine ⟨_, rfl, rfl, ?_⟩
    conv => whnf
    subst hX
    exact ⟨rfl, rfl⟩
set_option maxHeartbeats 2000000 in
set_option maxRecDepth 100000 in
theorem event32_1_0 {bs : Nat → Addr} (q1 q2 q3 q4 : Int) (c0 : Cr) (fo : List Ep) (aw : List At) (cl : List (At × Int)) (e : Ev) (hkd : ¬ (e.kd < 1 ∨ e.kd > 11)) (hca : e.ca = 0) (hfo : (fo.map kE).Nodup) (haw : (aw.map kA).Nodup) (hcl : (cl.map kW).Nodup) (hcm : (c0.cm.map kK).Nodup) : Contract Tryd.prog (G0 bs) 19 [.ref (.g 0) 0, evV e] [(0, chk q1 q2 q3 q4 1), (1, .arow 9 [carR c0 5]), (2, .dmap (encE fo)), (3, .dmap (encA aw)), (4, .dmap (encW cl)), (5, .dmap (encK c0.cm))] (fun r t => match carX q2 ⟨[c0], fo, aw, cl⟩ 0 c0 e with
    | .error g => r = .d (errD bs g) ∧ t = [(0, chk q1 q2 q3 q4 1), (1, .arow 9 [carR c0 5]), (2, .dmap (encE fo)), (3, .dmap (encA aw)), (4, .dmap (encW cl)), (5, .dmap (encK c0.cm))]
    | .ok k' => r = .d (.raw .nilIface) ∧ ∃ d0 : Cr, k'.cars = [d0] ∧ (t = [(0, chk q1 q2 q3 q4 1), (1, .arow 9 [carR d0 5]), (2, .dmap (encE k'.fo)), (3, .dmap (encA k'.aw)), (4, .dmap (encW k'.cl)), (5, .dmap (encK d0.cm))] ∨ (d0.cm = [] ∧ t = [(0, chk q1 q2 q3 q4 1), (1, .arow 9 [carR d0 6]), (2, .dmap (encE k'.fo)), (3, .dmap (encA k'.aw)), (4, .dmap (encW k'.cl)), (5, .dmap (encK c0.cm)), (6, .dmap (encK []))]))) := by
  obtain ⟨kd, ca, lt, ep, fl, di⟩ := e
  have hca : ca = 0 := hca
  subst hca
  obtain ⟨X, hX⟩ : ∃ X, carX q2 ⟨[c0], fo, aw, cl⟩ 0 c0 ⟨kd, 0, lt, ep, fl, di⟩ = X := ⟨_, rfl⟩
  rw [hX]
  unfold carX at hX
  dsimp only at hX hkd
  have hg := dget_enc (ev := one1) dxA_inj haw (lt, ep)
  refine run19 6 [] rfl rfl ?_
  conv => whnf
  refine bcase_intro (fun h => ?_) (fun h => ?_) <;> conv => whnf
  · exfalso
    have h : (bif decide (kd < 1) then true else decide (kd > 11)) = true := h
    rw [decide_eq_false (show ¬ kd < 1 by omega), decide_eq_false (show ¬ kd > 11 by omega)] at h
    cases h
  refine ⟨⟨(by show (0 : Int) ≤ 0; decide), (by show (0 : Int) < 1; decide)⟩, ?_⟩
  conv => whnf
  refine bcase_intro (fun h9 => ?_) (fun h9 => ?_) <;> conv => whnf
  · have h9 : (kd == 9) = true := h9
    rw [h9] at hX
    refine ⟨carR c0 5, rfl, rfl, ?_⟩
    conv => whnf
    cases hop : c0.op with
    | true =>
      conv => whnf
      rw [hop] at hX
      subst hX
      exact ⟨rfl, rfl⟩
    | false =>
      conv => whnf
      refine ⟨_, rfl, ?_⟩
      conv => whnf
      refine ⟨_, rfl, ?_⟩
      conv => whnf
      refine ⟨_, rfl, ?_⟩
      conv => whnf
      rw [hop] at hX
      subst hX
      exact ⟨rfl, _, rfl, .inr ⟨rfl, by rw [hop]; rfl⟩⟩
  have h9 : (kd == 9) = false := h9
  rw [h9] at hX
  cases h3 : kd == 3 with
  | true =>
    conv => whnf
    rw [h3] at hX
    refine .obj rfl ?_
    conv => whnf
    refine ⟨_, _, ⟨WkL.refl _, ring50_1_0 q1 q2 q3 q4 c0 fo aw cl ⟨kd, 0, lt, ep, fl, di⟩ hfo⟩, fun res s1 h => ?_⟩
    cases hR : ringX c0 fo ⟨kd, 0, lt, ep, fl, di⟩ with
    | error g =>
      rw [hR] at h hX
      obtain ⟨rfl, rfl⟩ := h
      conv => whnf
      subst hX
      exact ⟨rfl, rfl⟩
    | ok y =>
      rw [hR] at h hX
      obtain ⟨c9, f9⟩ := y
      obtain ⟨rfl, rfl⟩ := h
      conv => whnf
      subst hX
      exact ⟨rfl, _, rfl, .inr ⟨ringX_cm hR, rfl⟩⟩
  | false =>
  conv => whnf
  rw [h3] at hX
  cases h4 : kd == 4 with
  | true =>
    conv => whnf
    rw [h4] at hX
    refine .obj rfl ?_
    conv => whnf
    refine ⟨_, _, ⟨WkL.refl _, ring50_1_0 q1 q2 q3 q4 c0 fo aw cl ⟨kd, 0, lt, ep, fl, di⟩ hfo⟩, fun res s1 h => ?_⟩
    cases hR : ringX c0 fo ⟨kd, 0, lt, ep, fl, di⟩ with
    | error g =>
      rw [hR] at h hX
      obtain ⟨rfl, rfl⟩ := h
      conv => whnf
      subst hX
      exact ⟨rfl, rfl⟩
    | ok y =>
      rw [hR] at h hX
      obtain ⟨c9, f9⟩ := y
      obtain ⟨rfl, rfl⟩ := h
      conv => whnf
      subst hX
      exact ⟨rfl, _, rfl, .inr ⟨ringX_cm hR, rfl⟩⟩
  | false =>
  conv => whnf
  rw [h4] at hX
  refine bcase_intro (fun h2 => ?_) (fun h2 => ?_) <;> conv => whnf
  · have h2 : (kd == 2) = true := h2
    rw [h2] at hX
    cases hf : aget kA aw (lt, ep) with
    | none =>
      rw [hf] at hg hX
      refine ⟨heldA, .none, ⟨dxA_good (lt, ep), good_enc dxA_good aw, hg⟩, ?_⟩
      conv => whnf
      refine ⟨heldA, encA (aput kA aw (lt, ep)), ⟨dxA_good (lt, ep), good_enc dxA_good aw, dput_enc (ev := one1) dxA_inj haw (lt, ep)⟩, ?_⟩
      conv => whnf
      subst hX
      exact ⟨rfl, _, rfl, .inl rfl⟩
    | some y =>
      rw [hf] at hg hX
      refine ⟨heldA, .some (.one (.int .i64 1)), ⟨dxA_good (lt, ep), good_enc dxA_good aw, hg⟩, ?_⟩
      conv => whnf
      subst hX
      exact ⟨rfl, rfl⟩
  have h2 : (kd == 2) = false := h2
  rw [h2] at hX
  refine bcase_intro (fun h1 => ?_) (fun h1 => ?_) <;> conv => whnf
  · have h1 : (kd == 1) = true := h1
    rw [h1] at hX
    refine .obj rfl ?_
    conv => whnf
    refine ⟨_, _, ⟨WkL.refl _, claim51_1_0 q1 q2 q3 q4 c0 fo aw cl ⟨kd, 0, lt, ep, fl, di⟩ hcl (hcm)⟩, fun res s1 h => ?_⟩
    cases hR : claimX c0 cl ⟨kd, 0, lt, ep, fl, di⟩ with
    | error g =>
      rw [hR] at h hX
      obtain ⟨rfl, rfl⟩ := h
      conv => whnf
      subst hX
      exact ⟨rfl, rfl⟩
    | ok y =>
      rw [hR] at h hX
      obtain ⟨c9, f9⟩ := y
      obtain ⟨rfl, rfl⟩ := h
      conv => whnf
      subst hX
      exact ⟨rfl, _, rfl, .inl rfl⟩
  have h1 : (kd == 1) = false := h1
  rw [h1] at hX
  refine bcase_intro (fun h8 => ?_) (fun h8 => ?_) <;> conv => whnf
  · have h8 : (kd == 8) = true := h8
    rw [h8] at hX
    refine .obj rfl ?_
    conv => whnf
    refine ⟨_, _, ⟨WkL.refl _, clears52_1_0 c0 ⟨kd, 0, lt, ep, fl, di⟩ hcm⟩, fun res s1 h => ?_⟩
    cases hR : clearX c0 ⟨kd, 0, lt, ep, fl, di⟩ with
    | error g =>
      rw [hR] at h hX
      obtain ⟨rfl, rfl⟩ := h
      conv => whnf
      subst hX
      exact ⟨rfl, rfl⟩
    | ok y =>
      rw [hR] at h hX
      obtain c9 := y
      obtain ⟨rfl, rfl⟩ := h
      conv => whnf
      subst hX
      exact ⟨rfl, _, rfl, .inl rfl⟩
  have h8 : (kd == 8) = false := h8
  rw [h8] at hX
  refine bcase_intro (fun h10 => ?_) (fun h10 => ?_) <;> conv => whnf
  · have h10 : (kd == 10) = true := h10
    rw [h10] at hX
    refine ⟨_, rfl, ?_⟩
    conv => whnf
    subst hX
    exact ⟨rfl, _, rfl, .inr ⟨rfl, rfl⟩⟩
  have h10 : (kd == 10) = false := h10
  rw [h10] at hX
  cases h5 : kd == 5 with
  | true =>
    conv => whnf
    rw [h5] at hX
    refine .obj rfl ?_
    conv => whnf
    refine ⟨_, _, ⟨WkL.refl _, moves53_1_0 q1 q2 q3 q4 c0 fo aw cl ⟨kd, 0, lt, ep, fl, di⟩⟩, fun res s1 h => ?_⟩
    cases hR : moveX q2 c0 ⟨kd, 0, lt, ep, fl, di⟩ with
    | error g =>
      rw [hR] at h hX
      obtain ⟨rfl, rfl⟩ := h
      conv => whnf
      subst hX
      exact ⟨rfl, rfl⟩
    | ok y =>
      rw [hR] at h hX
      obtain c9 := y
      obtain ⟨rfl, rfl⟩ := h
      conv => whnf
      subst hX
      exact ⟨rfl, _, rfl, .inl rfl⟩
  | false =>
  conv => whnf
  rw [h5] at hX
  cases h6 : kd == 6 with
  | true =>
    conv => whnf
    rw [h6] at hX
    refine .obj rfl ?_
    conv => whnf
    refine ⟨_, _, ⟨WkL.refl _, moves53_1_0 q1 q2 q3 q4 c0 fo aw cl ⟨kd, 0, lt, ep, fl, di⟩⟩, fun res s1 h => ?_⟩
    cases hR : moveX q2 c0 ⟨kd, 0, lt, ep, fl, di⟩ with
    | error g =>
      rw [hR] at h hX
      obtain ⟨rfl, rfl⟩ := h
      conv => whnf
      subst hX
      exact ⟨rfl, rfl⟩
    | ok y =>
      rw [hR] at h hX
      obtain c9 := y
      obtain ⟨rfl, rfl⟩ := h
      conv => whnf
      subst hX
      exact ⟨rfl, _, rfl, .inl rfl⟩
  | false =>
  conv => whnf
  rw [h6] at hX
  refine bcase_intro (fun h7 => ?_) (fun h7 => ?_) <;> conv => whnf
  · have h7 : (kd == 7) = true := h7
    rw [h7] at hX
    refine .obj rfl ?_
    conv => whnf
    refine ⟨_, _, ⟨WkL.refl _, moves53_1_0 q1 q2 q3 q4 c0 fo aw cl ⟨kd, 0, lt, ep, fl, di⟩⟩, fun res s1 h => ?_⟩
    cases hR : moveX q2 c0 ⟨kd, 0, lt, ep, fl, di⟩ with
    | error g =>
      rw [hR] at h hX
      obtain ⟨rfl, rfl⟩ := h
      conv => whnf
      subst hX
      exact ⟨rfl, rfl⟩
    | ok y =>
      rw [hR] at h hX
      obtain c9 := y
      obtain ⟨rfl, rfl⟩ := h
      conv => whnf
      subst hX
      exact ⟨rfl, _, rfl, .inl rfl⟩
  have h7 : (kd == 7) = false := h7
  rw [h7] at hX
  subst hX
  exact ⟨rfl, _, rfl, .inl rfl⟩
end Go.Proofs.YtgadgajhahfabaaDoor
/- Seat of TraceLooks: all that is done, looked through, of 1 car: printed by mk_s4e.py. -/
namespace Go.Proofs.YtgadgajhahfabaaDoor
open Go.Pv Go.RowKit
set_option maxHeartbeats 1000000 in
set_option maxRecDepth 100000 in
theorem eventK_1 {bs : Nat → Addr} (q1 q2 q3 q4 : Int) (c0 : Cr) (fo : List Ep) (aw : List At) (cl : List (At × Int)) (e : Ev) (hkd : e.kd < 1 ∨ e.kd > 11) : Contract Tryd.prog (G0 bs) 19 [.ref (.g 0) 0, evV e] [(0, chk q1 q2 q3 q4 1), (1, .arow 9 [carR c0 5]), (2, .dmap (encE fo)), (3, .dmap (encA aw)), (4, .dmap (encW cl)), (5, .dmap (encK c0.cm))] (fun r t => r = .d (errD bs 1) ∧ t = [(0, chk q1 q2 q3 q4 1), (1, .arow 9 [carR c0 5]), (2, .dmap (encE fo)), (3, .dmap (encA aw)), (4, .dmap (encW cl)), (5, .dmap (encK c0.cm))]) := by
  refine run19 6 [] rfl rfl ?_
  conv => whnf
  refine bcase_intro (fun h => ?_) (fun h => ?_) <;> conv => whnf
  · exact ⟨rfl, rfl⟩
  · exfalso
    have h : (bif decide (e.kd < 1) then true else decide (e.kd > 11)) = false := h
    rcases hkd with hk | hk
    · rw [decide_eq_true hk] at h; cases h
    · rw [decide_eq_true hk] at h
      cases h1 : decide (e.kd < 1) <;> rw [h1] at h <;> cases h
set_option maxHeartbeats 1000000 in
set_option maxRecDepth 100000 in
theorem eventR_1 {bs : Nat → Addr} (q1 q2 q3 q4 : Int) (c0 : Cr) (fo : List Ep) (aw : List At) (cl : List (At × Int)) (e : Ev) (hkd : ¬ (e.kd < 1 ∨ e.kd > 11)) (hca : e.ca < 0 ∨ e.ca ≥ 1) : Contract Tryd.prog (G0 bs) 19 [.ref (.g 0) 0, evV e] [(0, chk q1 q2 q3 q4 1), (1, .arow 9 [carR c0 5]), (2, .dmap (encE fo)), (3, .dmap (encA aw)), (4, .dmap (encW cl)), (5, .dmap (encK c0.cm))] (fun r t => r = .d (errD bs 0) ∧ t = [(0, chk q1 q2 q3 q4 1), (1, .arow 9 [carR c0 5]), (2, .dmap (encE fo)), (3, .dmap (encA aw)), (4, .dmap (encW cl)), (5, .dmap (encK c0.cm))]) := by
  refine run19 6 [] rfl rfl ?_
  conv => whnf
  refine bcase_intro (fun h => ?_) (fun h => ?_) <;> conv => whnf
  · exfalso
    have h : (bif decide (e.kd < 1) then true else decide (e.kd > 11)) = true := h
    rw [decide_eq_false (show ¬ e.kd < 1 by omega), decide_eq_false (show ¬ e.kd > 11 by omega)] at h
    cases h
  refine bcase_intro (fun h => ?_) (fun h => ?_) <;> conv => whnf
  · exact ⟨rfl, rfl⟩
  · exfalso
    have h : (bif decide (e.ca < 0) then true else decide (e.ca ≥ 1)) = false := h
    rcases hca with hk | hk
    · rw [decide_eq_true hk] at h; cases h
    · rw [decide_eq_true hk] at h
      cases h1 : decide (e.ca < 0) <;> rw [h1] at h <;> cases h
set_option maxHeartbeats 1000000 in
set_option maxRecDepth 100000 in
theorem start31_1 {bs : Nat → Addr} (q2 q3 q4 : Int) : Contract Tryd.prog (G0 bs) 18 [.agg [iV 1, iV q2, iV q3, iV q4]] [] (fun r t => r = .ref (.g 0) 0 ∧ t = [(0, chk 1 q2 q3 q4 1), (1, .arow 9 [carR zC 5]), (2, .dmap (encE [])), (3, .dmap (encA [])), (4, .dmap (encW [])), (5, .dmap (encK zC.cm))]) := by
  refine run18 0 [] rfl rfl ?_
  conv => whnf
  refine ⟨1, 1, ⟨rfl, rfl, Nat.le_refl _, by decide, by decide⟩, ?_⟩
  conv => whnf
  refine StopG.rounds wk18 [] [3, 19, 20] (fun m env s => (m = 1 ∧ env = [(3, .ref (.g 0) 0), (19, iV 1), (20, iV 0)] ∧ s = [(0, chk 1 q2 q3 q4 1), (1, .row 9 [[.bool false, .bool false, .bool false, .int .i64 0, .int .i64 0, .int .i64 0, .int .i64 0, .int .i64 0, .raw (.map .none)]]), (2, .dmap []), (3, .dmap []), (4, .dmap [])]) ∨ (m = 0 ∧ env = [(3, .ref (.g 0) 0), (19, iV 1), (20, iV 1)] ∧ s = [(0, chk 1 q2 q3 q4 1), (1, .arow 9 [carR zC 5]), (2, .dmap []), (3, .dmap []), (4, .dmap []), (5, .dmap [])])) rfl ?_ ?_
  · conv => whnf
    exact ⟨_, .inl ⟨rfl, rfl, rfl⟩⟩
  rintro m env s (⟨rfl, rfl, rfl⟩ | ⟨rfl, rfl, rfl⟩)
  · conv => whnf
    refine ⟨⟨by decide, by decide⟩, ?_⟩
    conv => whnf
    refine ⟨_, rfl, ?_⟩
    conv => whnf
    exact ⟨_, (by decide : 0 < 1), .inr (⟨rfl, rfl, rfl⟩)⟩
  · conv => whnf
    exact ⟨rfl, rfl⟩
set_option maxHeartbeats 1000000 in
theorem event_1 {bs : Nat → Addr} (q1 q2 q3 q4 : Int) (c0 : Cr) (fo : List Ep) (aw : List At) (cl : List (At × Int)) (e : Ev) (hnd : Nds ⟨[c0], fo, aw, cl⟩) : Contract Tryd.prog (G0 bs) 19 [.ref (.g 0) 0, evV e] [(0, chk q1 q2 q3 q4 1), (1, .arow 9 [carR c0 5]), (2, .dmap (encE fo)), (3, .dmap (encA aw)), (4, .dmap (encW cl)), (5, .dmap (encK c0.cm))] (fun r t => match eventX q2 ⟨[c0], fo, aw, cl⟩ e with
    | .error g => r = .d (errD bs g) ∧ t = [(0, chk q1 q2 q3 q4 1), (1, .arow 9 [carR c0 5]), (2, .dmap (encE fo)), (3, .dmap (encA aw)), (4, .dmap (encW cl)), (5, .dmap (encK c0.cm))]
    | .ok k' => r = .d (.raw .nilIface) ∧ ∃ d0 : Cr, k'.cars = [d0] ∧ Nds k' ∧ (t = [(0, chk q1 q2 q3 q4 1), (1, .arow 9 [carR d0 5]), (2, .dmap (encE k'.fo)), (3, .dmap (encA k'.aw)), (4, .dmap (encW k'.cl)), (5, .dmap (encK d0.cm))] ∨ (d0.cm = [] ∧ t = [(0, chk q1 q2 q3 q4 1), (1, .arow 9 [carR d0 6]), (2, .dmap (encE k'.fo)), (3, .dmap (encA k'.aw)), (4, .dmap (encW k'.cl)), (5, .dmap (encK c0.cm)), (6, .dmap (encK []))]))) := by
  by_cases hkd : e.kd < 1 ∨ e.kd > 11
  · have he : eventX q2 ⟨[c0], fo, aw, cl⟩ e = .error 1 := by unfold eventX; rw [if_pos hkd]
    rw [he]
    exact eventK_1 q1 q2 q3 q4 c0 fo aw cl e hkd
  by_cases hca : e.ca < 0 ∨ e.ca ≥ 1
  · have he : eventX q2 ⟨[c0], fo, aw, cl⟩ e = .error 0 := by unfold eventX; rw [if_neg hkd]; exact if_pos hca
    rw [he]
    exact eventR_1 q1 q2 q3 q4 c0 fo aw cl e hkd hca
  have hcs : e.ca = 0 := by omega
  have h0 := hcs
  · refine (event32_1_0 q1 q2 q3 q4 c0 fo aw cl e hkd h0 hnd.fo hnd.aw hnd.cl (hnd.cm c0 (by simp))).mono fun r t h => ?_
    have he : eventX q2 ⟨[c0], fo, aw, cl⟩ e = carX q2 ⟨[c0], fo, aw, cl⟩ 0 c0 e := by
      unfold eventX
      rw [if_neg hkd, h0]
      rfl
    rw [he]
    cases hX : carX q2 ⟨[c0], fo, aw, cl⟩ 0 c0 e with
    | error g => rw [hX] at h; exact h
    | ok k' =>
      rw [hX] at h
      obtain ⟨h1, d0, h2, h3⟩ := h
      refine ⟨h1, d0, h2, carX_nds hnd (by simp) hX, ?_⟩
      rcases h3 with h3 | ⟨e1, e2⟩
      · exact .inl h3
      · exact .inr (⟨e1, e2⟩)
set_option maxHeartbeats 4000000 in
set_option maxRecDepth 100000 in
theorem all24_1 {bs : Nat → Addr} (q2 q3 q4 : Int) (l : List Ev) (hl : l.length ≤ 100000) : Contract Tryd.prog (G0 bs) 11 [.agg [iV 1, iV q2, iV q3, iV q4], .d (.list 9 (rowsV l))] [] (fun r t => match allX q2 ⟨[zC], [], [], []⟩ l 0 with
    | .error (i, g) => r = .tup [.d (.raw (.pointer .none)), errA bs (some ((i : Int), g))] ∧ t = []
    | .ok k => ∃ c0 : Cr, k.cars = [c0] ∧ r = .tup [.ref (.g 0) 0, .d (.raw .nilIface)] ∧ t = [(0, chk 1 q2 q3 q4 1), (1, .arow 9 [carR c0 5]), (2, .dmap (encE k.fo)), (3, .dmap (encA k.aw)), (4, .dmap (encW k.cl)), (5, .dmap (encK c0.cm))]) := by
  have hlen := rowsV_len l
  obtain ⟨Y, hY0⟩ : ∃ Y, allX q2 ⟨[zC], [], [], []⟩ l 0 = Y := ⟨_, rfl⟩
  rw [hY0]
  refine rung11 0 [] rfl rfl ?_
  conv => whnf
  refine .obj rfl ?_
  conv => whnf
  refine ⟨_, _, ⟨WkL.refl _, start31_1 q2 q3 q4⟩, fun res s1 h => ?_⟩
  obtain ⟨rfl, rfl⟩ := h
  conv => whnf
  refine StopG.rounds wk11 [] [6, 12, 13, 14] (fun m env s => ∃ (i : Nat) (c0 : Cr) (fo : List Ep) (aw : List At) (cl : List (At × Int)), i ≤ l.length ∧ Nds ⟨[c0], fo, aw, cl⟩ ∧ allX q2 ⟨[c0], fo, aw, cl⟩ (l.drop i) i = Y ∧ m = l.length - i ∧ env = [(6, .ref (.g 0) 0), (12, .d (.list 9 (rowsV l))), (13, iV (l.length : Int)), (14, iV (i : Int))] ∧ s = [(0, chk 1 q2 q3 q4 1), (1, .arow 9 [carR c0 5]), (2, .dmap (encE fo)), (3, .dmap (encA aw)), (4, .dmap (encW cl)), (5, .dmap (encK c0.cm))]) rfl ?_ ?_
  · conv => whnf
    rw [hlen]
    exact ⟨_, 0, zC, [], [], [], Nat.zero_le _, ⟨.nil, .nil, .nil, fun c hc => by simp [zC] at hc; (try rcases hc with rfl); first | (rw [hc]; exact .nil) | exact .nil⟩, hY0, rfl, rfl, rfl⟩
  rintro m env s ⟨i, c0, fo, aw, cl, hi, hnd, hY, rfl, rfl, rfl⟩
  conv => whnf
  cases hlt : decide ((i : Int) < (l.length : Int)) with
  | false =>
    conv => whnf
    have hil := of_decide_eq_false hlt
    rw [show l.drop i = [] from List.drop_eq_nil_of_le (by omega)] at hY
    refine ⟨_, _, .refl, ?_⟩
    conv => whnf
    subst hY
    exact ⟨c0, rfl, rfl, rfl⟩
  | true =>
    have hil : i < l.length := by have := of_decide_eq_true hlt; omega
    obtain ⟨e, he, hd⟩ := at_i hil
    rw [hd] at hY
    unfold allX at hY
    conv => whnf
    refine ⟨rowV e, ⟨by omega, row_i he⟩, ?_⟩
    conv => whnf
    refine .obj rfl ?_
    conv => whnf
    refine ⟨_, _, ⟨WkL.refl _, event_1 1 q2 q3 q4 c0 fo aw cl e hnd⟩, fun res s1 h => ?_⟩
    cases hE : eventX q2 ⟨[c0], fo, aw, cl⟩ e with
    | error g =>
      rw [hE] at h hY
      obtain ⟨rfl, rfl⟩ := h
      conv => whnf
      refine ⟨_, _, GV.trans (GV.tidied [4, 5] (E := [(4, .d (.raw (.pointer .none))), (5, .ifc 70 (.ref (.g 0) 0))]) (S := [(0, .cells [iV (i : Int), .d (errD bs g)])]) ?_) (GV.freeze 0 rfl (by simp) (by repeat' first | exact trivial | apply And.intro | decide | (simp; done) | omega) (by repeat' first | exact trivial | apply And.intro | decide | (simp; done))), ?_⟩
      · conv => whnf
        exact ⟨rfl, rfl⟩
      conv => whnf
      subst hY
      exact ⟨rfl, rfl⟩
    | ok k9 =>
      rw [hE] at h hY
      obtain ⟨rfl, d0, hk9, hnd9, h3⟩ := h
      obtain ⟨cars9, fo9, aw9, cl9⟩ := k9
      have hk9 : cars9 = [d0] := hk9
      subst hk9
      rcases h3 with rfl | ⟨hc, rfl⟩
      · conv => whnf
        rw [succ_i hil (by omega)]
        exact ⟨_, by omega, i + 1, d0, fo9, aw9, cl9, hil, hnd9, hY, rfl, rfl, rfl⟩
      · conv => whnf
        rw [succ_i hil (by omega)]
        exact ⟨_, by omega, i + 1, d0, fo9, aw9, cl9, hil, hnd9, hY, rfl, rfl, by rw [hc]⟩
set_option maxHeartbeats 1000000 in
set_option maxRecDepth 100000 in
theorem check13_1 {bs : Nat → Addr} (q2 q3 q4 : Int) (l : List Ev) (hl : l.length ≤ 100000) : Contract Tryd.prog (G0 bs) 8 [.agg [iV 1, iV q2, iV q3, iV q4], .d (.list 9 (rowsV l))] [] (fun r t => r = errA bs (errOf (allX q2 ⟨[zC], [], [], []⟩ l 0)) ∧ t = []) := by
  have hall := all24_1 (bs := bs) q2 q3 q4 l hl
  cases hA : allX q2 ⟨[zC], [], [], []⟩ l 0 with
  | error p =>
    obtain ⟨i, g⟩ := p
    rw [hA] at hall
    refine run8 0 [] rfl rfl ?_
    conv => whnf
    refine .obj rfl ?_
    conv => whnf
    refine ⟨_, _, ⟨WkL.refl _, hall⟩, fun res s1 h => ?_⟩
    obtain ⟨rfl, rfl⟩ := h
    conv => whnf
    exact ⟨rfl, rfl⟩
  | ok k =>
    rw [hA] at hall
    refine run8 0 [] rfl rfl ?_
    conv => whnf
    refine .obj rfl ?_
    conv => whnf
    refine ⟨_, _, ⟨WkL.refl _, hall⟩, fun res s1 h => ?_⟩
    obtain ⟨c0, _, rfl, rfl⟩ := h
    conv => whnf
    exact ⟨rfl, rfl⟩
end Go.Proofs.YtgadgajhahfabaaDoor
/- Seat of TraceLooks: a checker's methods, of 2 cars: printed by mk_s4d.py. -/
namespace Go.Proofs.YtgadgajhahfabaaDoor
open Go.Pv Go.RowKit
set_option maxHeartbeats 1000000 in
set_option maxRecDepth 100000 in
theorem ring50_2_0 {bs : Nat → Addr} (q1 q2 q3 q4 : Int) (c0 c1 : Cr) (fo : List Ep) (aw : List At) (cl : List (At × Int)) (e : Ev) (hfo : (fo.map kE).Nodup) : Contract Tryd.prog (G0 bs) 27 [.ref (.g 0) 0, .el (.g 1) 9 0 0, evV e] [(0, chk q1 q2 q3 q4 2), (1, .arow 9 [carR c0 5, carR c1 6]), (2, .dmap (encE fo)), (3, .dmap (encA aw)), (4, .dmap (encW cl)), (5, .dmap (encK c0.cm)), (6, .dmap (encK c1.cm))] (fun r t => match ringX c0 fo e with
    | .error g => r = .d (errD bs g) ∧ t = [(0, chk q1 q2 q3 q4 2), (1, .arow 9 [carR c0 5, carR c1 6]), (2, .dmap (encE fo)), (3, .dmap (encA aw)), (4, .dmap (encW cl)), (5, .dmap (encK c0.cm)), (6, .dmap (encK c1.cm))]
    | .ok (c', fo') => r = .d (.raw .nilIface) ∧ t = [(0, chk q1 q2 q3 q4 2), (1, .arow 9 [carR c' 7, carR c1 6]), (2, .dmap (encE fo')), (3, .dmap (encA aw)), (4, .dmap (encW cl)), (5, .dmap (encK c0.cm)), (6, .dmap (encK c1.cm)), (7, .dmap (encK []))]) := by
  obtain ⟨X, hX⟩ : ∃ X, ringX c0 fo e = X := ⟨_, rfl⟩
  rw [hX]
  unfold ringX at hX
  have hg := dget_enc (ev := one1) dxE_inj hfo e.ep
  refine run27 7 [] rfl rfl ?_
  conv => whnf
  refine ⟨carR c0 5, rfl, rfl, ?_⟩
  conv => whnf
  refine .scal [epV c0.le, epV e.ep] _ ⟨.refl _, rfl, less69 _ _⟩ ?_
  conv => whnf
  refine ⟨carR c0 5, fun _ => rfl, rfl, ?_⟩
  conv => whnf
  refine ⟨carR c0 5, fun _ => rfl, rfl, ?_⟩
  conv => whnf
  refine bcase_intro (fun h1 => ?_) (fun h1 => ?_) <;> conv => whnf
  · have h1 : (bif !lessE c0.le e.ep then true else bif c0.an then decide (e.ep.1 ≤ c0.le.1) else false) = true := h1
    rw [h1] at hX
    subst hX
    exact ⟨rfl, rfl⟩
  have h1 : (bif !lessE c0.le e.ep then true else bif c0.an then decide (e.ep.1 ≤ c0.le.1) else false) = false := h1
  rw [h1] at hX
  cases hf : aget kE fo e.ep with
  | none =>
    rw [hf] at hg hX
    refine ⟨heldE, .none, fun _ => ⟨dxE_good _, good_enc dxE_good fo, hg⟩, ?_⟩
    conv => whnf
    refine bcase_intro (fun h2 => ?_) (fun h2 => ?_) <;> conv => whnf
    · exfalso
      have h2 : (bif e.kd == 3 then decide ((0 : Int) > 0) else false) = true := h2
      cases e.kd == 3 <;> simp at h2 
    refine bcase_intro (fun h3 => ?_) (fun h3 => ?_) <;> conv => whnf
    · have h3 : (e.kd == 3) = true := h3
      rw [h3] at hX
      refine ⟨heldE, encE (aput kE fo e.ep), ⟨dxE_good _, good_enc dxE_good fo, dput_enc dxE_inj hfo e.ep⟩, ?_⟩
      conv => whnf
      refine ⟨carR c0 5, rfl, ?_⟩
      conv => whnf
      refine ⟨_, rfl, ?_⟩
      conv => whnf
      refine ⟨_, rfl, ?_⟩
      conv => whnf
      subst hX
      exact ⟨rfl, rfl⟩
    · have h3 : (e.kd == 3) = false := h3
      rw [h3] at hX
      refine ⟨carR c0 5, rfl, ?_⟩
      conv => whnf
      refine ⟨_, rfl, ?_⟩
      conv => whnf
      refine ⟨_, rfl, ?_⟩
      conv => whnf
      subst hX
      exact ⟨rfl, rfl⟩
  | some y =>
    rw [hf] at hg hX
    refine ⟨heldE, .some (.one (.int .i64 1)), fun _ => ⟨dxE_good _, good_enc dxE_good fo, hg⟩, ?_⟩
    conv => whnf
    refine bcase_intro (fun h2 => ?_) (fun h2 => ?_) <;> conv => whnf
    · have h2 : (bif e.kd == 3 then decide ((1 : Int) > 0) else false) = true := h2
      have hX : (bif (bif e.kd == 3 then decide ((1 : Int) > 0) else false) then _ else _) = X := hX
      rw [h2] at hX
      subst hX
      exact ⟨rfl, rfl⟩
    have h2 : (bif e.kd == 3 then decide ((1 : Int) > 0) else false) = false := h2
    have hX : (bif (bif e.kd == 3 then decide ((1 : Int) > 0) else false) then _ else _) = X := hX
    rw [h2] at hX
    refine bcase_intro (fun h3 => ?_) (fun h3 => ?_) <;> conv => whnf
    · exfalso
      have h3 : (e.kd == 3) = true := h3
      rw [h3] at h2
      cases h2
    · have h3 : (e.kd == 3) = false := h3
      rw [h3] at hX
      refine ⟨carR c0 5, rfl, ?_⟩
      conv => whnf
      refine ⟨_, rfl, ?_⟩
      conv => whnf
      refine ⟨_, rfl, ?_⟩
      conv => whnf
      subst hX
      exact ⟨rfl, rfl⟩
set_option maxHeartbeats 1000000 in
set_option maxRecDepth 100000 in
theorem claim51_2_0 {bs : Nat → Addr} (q1 q2 q3 q4 : Int) (c0 c1 : Cr) (fo : List Ep) (aw : List At) (cl : List (At × Int)) (e : Ev) (hcl : (cl.map kW).Nodup) (hcm : (c0.cm.map kK).Nodup) : Contract Tryd.prog (G0 bs) 28 [.ref (.g 0) 0, .el (.g 1) 9 0 0, evV e] [(0, chk q1 q2 q3 q4 2), (1, .arow 9 [carR c0 5, carR c1 6]), (2, .dmap (encE fo)), (3, .dmap (encA aw)), (4, .dmap (encW cl)), (5, .dmap (encK c0.cm)), (6, .dmap (encK c1.cm))] (fun r t => match claimX c0 cl e with
    | .error g => r = .d (errD bs g) ∧ t = [(0, chk q1 q2 q3 q4 2), (1, .arow 9 [carR c0 5, carR c1 6]), (2, .dmap (encE fo)), (3, .dmap (encA aw)), (4, .dmap (encW cl)), (5, .dmap (encK c0.cm)), (6, .dmap (encK c1.cm))]
    | .ok (c', cl') => r = .d (.raw .nilIface) ∧ t = [(0, chk q1 q2 q3 q4 2), (1, .arow 9 [carR c' 5, carR c1 6]), (2, .dmap (encE fo)), (3, .dmap (encA aw)), (4, .dmap (encW cl')), (5, .dmap (encK c'.cm)), (6, .dmap (encK c1.cm))]) := by
  obtain ⟨X, hX⟩ : ∃ X, claimX c0 cl e = X := ⟨_, rfl⟩
  rw [hX]
  unfold claimX at hX
  have hg := dget_enc (ev := whoW) dxA_inj hcl (e.lt, e.ep)
  have hk := dget_enc (ev := one1) dxK_inj hcm e.lt
  refine run28 7 [] rfl rfl ?_
  conv => whnf
  cases hf : aget kW cl (e.lt, e.ep) with
  | none =>
    rw [hf] at hg hX
    refine ⟨heldA, .none, ⟨dxA_good (e.lt, e.ep), good_enc dxA_good cl, hg⟩, ?_⟩
    conv => whnf
    refine ⟨carR c0 5, rfl, rfl, ?_⟩
    conv => whnf
    refine ⟨⟨by kernel_rfl, by kernel_rfl⟩, ?_⟩
    conv => whnf
    refine bcase_intro (fun h1 => ?_) (fun h1 => ?_) <;> conv => whnf
    · have h1 : (!sameE e.ep c0.le) = true := h1
      rw [h1] at hX
      subst hX
      exact ⟨rfl, rfl⟩
    have h1 : (!sameE e.ep c0.le) = false := h1
    rw [h1] at hX
    refine ⟨carR c0 5, fun _ => rfl, rfl, ?_⟩
    conv => whnf
    cases hm : aget kK c0.cm e.lt with
    | none =>
      rw [hm] at hk hX
      refine ⟨heldK, .none, fun _ => ⟨dxK_good _, good_enc dxK_good c0.cm, hk⟩, ?_⟩
      conv => whnf
      refine ⟨heldA, encW (aput kW cl ((e.lt, e.ep), IntKind.wrap .i64 (e.ca + 1))), ⟨dxA_good (e.lt, e.ep), good_enc dxA_good cl, dput_enc (ev := whoW) dxA_inj hcl ((e.lt, e.ep), IntKind.wrap .i64 (e.ca + 1))⟩, ?_⟩
      conv => whnf
      refine ⟨carR c0 5, rfl, rfl, ?_⟩
      conv => whnf
      refine ⟨heldK, encK (aput kK c0.cm e.lt), ⟨dxK_good _, good_enc dxK_good c0.cm, dput_enc (ev := one1) dxK_inj hcm e.lt⟩, ?_⟩
      conv => whnf
      subst hX
      exact ⟨rfl, rfl⟩
    | some z =>
      rw [hm] at hk hX
      refine ⟨heldK, .some (.one (.int .i64 1)), fun _ => ⟨dxK_good _, good_enc dxK_good c0.cm, hk⟩, ?_⟩
      conv => whnf
      subst hX
      exact ⟨rfl, rfl⟩
  | some y =>
    rw [hf] at hg hX
    refine ⟨heldA, .some (.one (.int .i64 y.2)), ⟨dxA_good (e.lt, e.ep), good_enc dxA_good cl, hg⟩, ?_⟩
    conv => whnf
    refine ⟨carR c0 5, rfl, rfl, ?_⟩
    conv => whnf
    refine ⟨⟨by kernel_rfl, by kernel_rfl⟩, ?_⟩
    conv => whnf
    refine bcase_intro (fun h1 => ?_) (fun h1 => ?_) <;> conv => whnf
    · have h1 : (!sameE e.ep c0.le) = true := h1
      rw [h1] at hX
      subst hX
      exact ⟨rfl, rfl⟩
    have h1 : (!sameE e.ep c0.le) = false := h1
    rw [h1] at hX
    refine ⟨carR c0 5, fun _ => rfl, rfl, ?_⟩
    conv => whnf
    cases hm : aget kK c0.cm e.lt with
    | none =>
      rw [hm] at hk hX
      refine ⟨heldK, .none, fun _ => ⟨dxK_good _, good_enc dxK_good c0.cm, hk⟩, ?_⟩
      conv => whnf
      refine bcase_intro (fun h2 => ?_) (fun h2 => ?_) <;> conv => whnf
      · have h2 : (bif (bif decide (y.2 > 0) then y.2 != IntKind.wrap .i64 (e.ca + 1) else false) then true else decide ((0 : Int) > 0)) = true := h2
        have hX : (bif (bif (bif decide (y.2 > 0) then y.2 != IntKind.wrap .i64 (e.ca + 1) else false) then true else decide ((0 : Int) > 0)) then _ else _) = X := hX
        rw [h2] at hX
        subst hX
        exact ⟨rfl, rfl⟩
      have h2 : (bif (bif decide (y.2 > 0) then y.2 != IntKind.wrap .i64 (e.ca + 1) else false) then true else decide ((0 : Int) > 0)) = false := h2
      have hX : (bif (bif (bif decide (y.2 > 0) then y.2 != IntKind.wrap .i64 (e.ca + 1) else false) then true else decide ((0 : Int) > 0)) then _ else _) = X := hX
      rw [h2] at hX
      refine ⟨heldA, encW (aput kW cl ((e.lt, e.ep), IntKind.wrap .i64 (e.ca + 1))), ⟨dxA_good (e.lt, e.ep), good_enc dxA_good cl, dput_enc (ev := whoW) dxA_inj hcl ((e.lt, e.ep), IntKind.wrap .i64 (e.ca + 1))⟩, ?_⟩
      conv => whnf
      refine ⟨carR c0 5, rfl, rfl, ?_⟩
      conv => whnf
      refine ⟨heldK, encK (aput kK c0.cm e.lt), ⟨dxK_good _, good_enc dxK_good c0.cm, dput_enc (ev := one1) dxK_inj hcm e.lt⟩, ?_⟩
      conv => whnf
      subst hX
      exact ⟨rfl, rfl⟩
    | some z =>
      rw [hm] at hk hX
      refine ⟨heldK, .some (.one (.int .i64 1)), fun _ => ⟨dxK_good _, good_enc dxK_good c0.cm, hk⟩, ?_⟩
      conv => whnf
      refine bcase_intro (fun h2 => ?_) (fun h2 => ?_) <;> conv => whnf
      · have h2 : (bif (bif decide (y.2 > 0) then y.2 != IntKind.wrap .i64 (e.ca + 1) else false) then true else decide ((1 : Int) > 0)) = true := h2
        have hX : (bif (bif (bif decide (y.2 > 0) then y.2 != IntKind.wrap .i64 (e.ca + 1) else false) then true else decide ((1 : Int) > 0)) then _ else _) = X := hX
        rw [h2] at hX
        subst hX
        exact ⟨rfl, rfl⟩
      exfalso
      have h2 : (bif (bif decide (y.2 > 0) then y.2 != IntKind.wrap .i64 (e.ca + 1) else false) then true else decide ((1 : Int) > 0)) = false := h2
      cases hb : (bif decide (y.2 > 0) then y.2 != IntKind.wrap .i64 (e.ca + 1) else false) <;> rw [hb] at h2 <;> cases h2
set_option maxHeartbeats 1000000 in
set_option maxRecDepth 100000 in
theorem clears52_2_0 {bs : Nat → Addr} (c0 c1 : Cr) (e : Ev) (hcm : (c0.cm.map kK).Nodup) : Contract Tryd.prog (G0 bs) 29 [.el (.g 0) 9 0 0, evV e] [(0, .arow 9 [carR c0 1, carR c1 2]), (1, .dmap (encK c0.cm)), (2, .dmap (encK c1.cm))] (fun r t => match clearX c0 e with
    | .error g => r = .d (errD bs g) ∧ t = [(0, .arow 9 [carR c0 1, carR c1 2]), (1, .dmap (encK c0.cm)), (2, .dmap (encK c1.cm))]
    | .ok c' => r = .d (.raw .nilIface) ∧ t = [(0, .arow 9 [carR c' 1, carR c1 2]), (1, .dmap (encK c'.cm)), (2, .dmap (encK c1.cm))]) := by
  obtain ⟨X, hX⟩ : ∃ X, clearX c0 e = X := ⟨_, rfl⟩
  rw [hX]
  unfold clearX at hX
  have hk := dget_enc (ev := one1) dxK_inj hcm e.lt
  refine run29 3 [] rfl rfl ?_
  conv => whnf
  refine ⟨carR c0 1, rfl, rfl, ?_⟩
  conv => whnf
  refine bcase_intro (fun h1 => ?_) (fun h1 => ?_) <;> conv => whnf
  · have h1 : (!c0.op) = true := h1
    rw [h1] at hX
    subst hX
    exact ⟨rfl, rfl⟩
  have h1 : (!c0.op) = false := h1
  rw [h1] at hX
  refine ⟨carR c0 1, rfl, rfl, ?_⟩
  conv => whnf
  refine ⟨carR c0 1, fun _ => rfl, rfl, ?_⟩
  conv => whnf
  refine bcase_intro (fun h2 => ?_) (fun h2 => ?_) <;> conv => whnf
  · have h2 : (bif e.fl != c0.wh then true else e.lt.1 != c0.wh) = true := h2
    rw [h2] at hX
    subst hX
    exact ⟨rfl, rfl⟩
  have h2 : (bif e.fl != c0.wh then true else e.lt.1 != c0.wh) = false := h2
  rw [h2] at hX
  refine ⟨carR c0 1, rfl, rfl, ?_⟩
  conv => whnf
  refine bcase_intro (fun h3 => ?_) (fun h3 => ?_) <;> conv => whnf
  · have h3 : (e.lt.2.1 != c0.la) = true := h3
    rw [h3] at hX
    subst hX
    exact ⟨rfl, rfl⟩
  have h3 : (e.lt.2.1 != c0.la) = false := h3
  rw [h3] at hX
  refine ⟨carR c0 1, rfl, rfl, ?_⟩
  conv => whnf
  cases hm : aget kK c0.cm e.lt with
  | none =>
    rw [hm] at hk hX
    refine ⟨heldK, .none, ⟨dxK_good _, good_enc dxK_good c0.cm, hk⟩, ?_⟩
    conv => whnf
    subst hX
    exact ⟨rfl, rfl⟩
  | some z =>
    rw [hm] at hk hX
    refine ⟨heldK, .some (.one (.int .i64 1)), ⟨dxK_good _, good_enc dxK_good c0.cm, hk⟩, ?_⟩
    conv => whnf
    refine ⟨carR c0 1, rfl, rfl, ?_⟩
    conv => whnf
    refine ⟨heldK, encK (adel kK c0.cm e.lt), ⟨dxK_good _, good_enc dxK_good c0.cm, ddel_enc (ev := one1) dxK_inj hcm e.lt⟩, ?_⟩
    conv => whnf
    subst hX
    exact ⟨rfl, rfl⟩
set_option maxHeartbeats 1000000 in
set_option maxRecDepth 100000 in
theorem moves53_2_0 {bs : Nat → Addr} (q1 q2 q3 q4 : Int) (c0 c1 : Cr) (fo : List Ep) (aw : List At) (cl : List (At × Int)) (e : Ev) : Contract Tryd.prog (G0 bs) 30 [.ref (.g 0) 0, .el (.g 1) 9 0 0, evV e] [(0, chk q1 q2 q3 q4 2), (1, .arow 9 [carR c0 5, carR c1 6]), (2, .dmap (encE fo)), (3, .dmap (encA aw)), (4, .dmap (encW cl)), (5, .dmap (encK c0.cm)), (6, .dmap (encK c1.cm))] (fun r t => match moveX q2 c0 e with
    | .error g => r = .d (errD bs g) ∧ t = [(0, chk q1 q2 q3 q4 2), (1, .arow 9 [carR c0 5, carR c1 6]), (2, .dmap (encE fo)), (3, .dmap (encA aw)), (4, .dmap (encW cl)), (5, .dmap (encK c0.cm)), (6, .dmap (encK c1.cm))]
    | .ok c' => r = .d (.raw .nilIface) ∧ t = [(0, chk q1 q2 q3 q4 2), (1, .arow 9 [carR c' 5, carR c1 6]), (2, .dmap (encE fo)), (3, .dmap (encA aw)), (4, .dmap (encW cl)), (5, .dmap (encK c'.cm)), (6, .dmap (encK c1.cm))]) := by
  obtain ⟨X, hX⟩ : ∃ X, moveX q2 c0 e = X := ⟨_, rfl⟩
  rw [hX]
  unfold moveX at hX
  refine run30 7 [13] rfl rfl ?_
  conv => whnf
  refine ⟨carR c0 5, rfl, rfl, ?_⟩
  conv => whnf
  have hne : (c0.op != (e.kd == 6)) = !(c0.op == (e.kd == 6)) := rfl
  rw [hne] at hX
  cases h1 : c0.op == (e.kd == 6) with
  | false =>
    conv => whnf
    rw [h1] at hX
    subst hX
    exact ⟨rfl, rfl⟩
  | true =>
  conv => whnf
  rw [h1] at hX
  refine ⟨carR c0 5, fun _ => rfl, rfl, ?_⟩
  conv => whnf
  refine bcase_intro (fun h2 => ?_) (fun h2 => ?_) <;> conv => whnf
  · refine bcase_intro (fun h3 => ?_) (fun h3 => ?_) <;> conv => whnf
    · have h2 : (bif e.kd == 6 then e.fl != c0.wh else false) = true := h2
      rw [h2] at hX
      subst hX
      exact ⟨rfl, rfl⟩
    · exact absurd (h2.symm.trans h3) (by decide)
  have h2 : (bif e.kd == 6 then e.fl != c0.wh else false) = false := h2
  rw [h2] at hX
  refine bcase_intro (fun h3 => ?_) (fun h3 => ?_) <;> conv => whnf
  · have h3 : (bif e.kd != 6 then (bif decide (e.fl < 0) then true else decide (e.fl ≥ q2)) else false) = true := h3
    rw [h3] at hX
    subst hX
    exact ⟨rfl, rfl⟩
  have h3 : (bif e.kd != 6 then (bif decide (e.fl < 0) then true else decide (e.fl ≥ q2)) else false) = false := h3
  rw [h3] at hX
  refine bcase_intro (fun h4 => ?_) (fun h4 => ?_) <;> conv => whnf
  · refine bcase_intro (fun h5 => ?_) (fun h5 => ?_) <;> conv => whnf
    · have h4 : (bif e.kd == 5 then (bif decide (e.di < -1) then true else decide (e.di > 1)) else false) = true := h4
      rw [h4] at hX
      subst hX
      exact ⟨rfl, rfl⟩
    · exact absurd (h4.symm.trans h5) (by decide)
  have h4 : (bif e.kd == 5 then (bif decide (e.di < -1) then true else decide (e.di > 1)) else false) = false := h4
  rw [h4] at hX
  refine bcase_intro (fun h5 => ?_) (fun h5 => ?_) <;> conv => whnf
  · have h5 : (bif (bif e.kd == 7 then e.di != 1 else false) then e.di != -1 else false) = true := h5
    rw [h5] at hX
    subst hX
    exact ⟨rfl, rfl⟩
  have h5 : (bif (bif e.kd == 7 then e.di != 1 else false) then e.di != -1 else false) = false := h5
  rw [h5] at hX
  cases h6 : e.kd == 5 with
  | true =>
    rw [h6] at hX
    refine ⟨carR c0 5, rfl, ?_⟩
    conv => whnf
    refine ⟨_, rfl, ?_⟩
    conv => whnf
    refine ⟨_, rfl, rfl, ?_⟩
    conv => whnf
    refine StopG.draw wk30 [] sp30_13 [6] (fun env s => env = [(6, .d (.raw .nilIface))] ∧ s = [(0, chk q1 q2 q3 q4 2), (1, .arow 9 [carR { c0 with op := true, fl := e.fl, wh := e.fl, la := e.di } 5, carR c1 6]), (2, .dmap (encE fo)), (3, .dmap (encA aw)), (4, .dmap (encW cl)), (5, .dmap (encK c0.cm)), (6, .dmap (encK c1.cm))]) rfl rfl (by kernel_rfl) ?_ ?_
    · conv => whnf
      repeat' (first
        | (refine Both.mk ?_ ?_ <;> conv => whnf)
        | (refine ⟨_, rfl, ?_⟩; conv => whnf)
        | exact ⟨rfl, rfl⟩)
    rintro env s ⟨rfl, rfl⟩
    conv => whnf
    subst hX
    exact ⟨rfl, rfl⟩
  | false =>
    rw [h6] at hX
    refine ⟨carR c0 5, rfl, ?_⟩
    conv => whnf
    refine ⟨_, rfl, ?_⟩
    conv => whnf
    refine ⟨_, rfl, rfl, ?_⟩
    conv => whnf
    subst hX
    exact ⟨rfl, rfl⟩
set_option maxHeartbeats 2000000 in
set_option maxRecDepth 100000 in
theorem event32_2_0 {bs : Nat → Addr} (q1 q2 q3 q4 : Int) (c0 c1 : Cr) (fo : List Ep) (aw : List At) (cl : List (At × Int)) (e : Ev) (hkd : ¬ (e.kd < 1 ∨ e.kd > 11)) (hca : e.ca = 0) (hfo : (fo.map kE).Nodup) (haw : (aw.map kA).Nodup) (hcl : (cl.map kW).Nodup) (hcm : (c0.cm.map kK).Nodup) : Contract Tryd.prog (G0 bs) 19 [.ref (.g 0) 0, evV e] [(0, chk q1 q2 q3 q4 2), (1, .arow 9 [carR c0 5, carR c1 6]), (2, .dmap (encE fo)), (3, .dmap (encA aw)), (4, .dmap (encW cl)), (5, .dmap (encK c0.cm)), (6, .dmap (encK c1.cm))] (fun r t => match carX q2 ⟨[c0, c1], fo, aw, cl⟩ 0 c0 e with
    | .error g => r = .d (errD bs g) ∧ t = [(0, chk q1 q2 q3 q4 2), (1, .arow 9 [carR c0 5, carR c1 6]), (2, .dmap (encE fo)), (3, .dmap (encA aw)), (4, .dmap (encW cl)), (5, .dmap (encK c0.cm)), (6, .dmap (encK c1.cm))]
    | .ok k' => r = .d (.raw .nilIface) ∧ ∃ d0 d1 : Cr, k'.cars = [d0, d1] ∧ (t = [(0, chk q1 q2 q3 q4 2), (1, .arow 9 [carR d0 5, carR d1 6]), (2, .dmap (encE k'.fo)), (3, .dmap (encA k'.aw)), (4, .dmap (encW k'.cl)), (5, .dmap (encK d0.cm)), (6, .dmap (encK d1.cm))] ∨ (d0.cm = [] ∧ t = [(0, chk q1 q2 q3 q4 2), (1, .arow 9 [carR d0 7, carR d1 6]), (2, .dmap (encE k'.fo)), (3, .dmap (encA k'.aw)), (4, .dmap (encW k'.cl)), (5, .dmap (encK c0.cm)), (6, .dmap (encK d1.cm)), (7, .dmap (encK []))]))) := by
  obtain ⟨kd, ca, lt, ep, fl, di⟩ := e
  have hca : ca = 0 := hca
  subst hca
  obtain ⟨X, hX⟩ : ∃ X, carX q2 ⟨[c0, c1], fo, aw, cl⟩ 0 c0 ⟨kd, 0, lt, ep, fl, di⟩ = X := ⟨_, rfl⟩
  rw [hX]
  unfold carX at hX
  dsimp only at hX hkd
  have hg := dget_enc (ev := one1) dxA_inj haw (lt, ep)
  refine run19 7 [] rfl rfl ?_
  conv => whnf
  refine bcase_intro (fun h => ?_) (fun h => ?_) <;> conv => whnf
  · exfalso
    have h : (bif decide (kd < 1) then true else decide (kd > 11)) = true := h
    rw [decide_eq_false (show ¬ kd < 1 by omega), decide_eq_false (show ¬ kd > 11 by omega)] at h
    cases h
  refine ⟨⟨(by show (0 : Int) ≤ 0; decide), (by show (0 : Int) < 2; decide)⟩, ?_⟩
  conv => whnf
  refine bcase_intro (fun h9 => ?_) (fun h9 => ?_) <;> conv => whnf
  · have h9 : (kd == 9) = true := h9
    rw [h9] at hX
    refine ⟨carR c0 5, rfl, rfl, ?_⟩
    conv => whnf
    cases hop : c0.op with
    | true =>
      conv => whnf
      rw [hop] at hX
      subst hX
      exact ⟨rfl, rfl⟩
    | false =>
      conv => whnf
      refine ⟨_, rfl, ?_⟩
      conv => whnf
      refine ⟨_, rfl, ?_⟩
      conv => whnf
      refine ⟨_, rfl, ?_⟩
      conv => whnf
      rw [hop] at hX
      subst hX
      exact ⟨rfl, _, _, rfl, .inr ⟨rfl, by rw [hop]; rfl⟩⟩
  have h9 : (kd == 9) = false := h9
  rw [h9] at hX
  cases h3 : kd == 3 with
  | true =>
    conv => whnf
    rw [h3] at hX
    refine .obj rfl ?_
    conv => whnf
    refine ⟨_, _, ⟨WkL.refl _, ring50_2_0 q1 q2 q3 q4 c0 c1 fo aw cl ⟨kd, 0, lt, ep, fl, di⟩ hfo⟩, fun res s1 h => ?_⟩
    cases hR : ringX c0 fo ⟨kd, 0, lt, ep, fl, di⟩ with
    | error g =>
      rw [hR] at h hX
      obtain ⟨rfl, rfl⟩ := h
      conv => whnf
      subst hX
      exact ⟨rfl, rfl⟩
    | ok y =>
      rw [hR] at h hX
      obtain ⟨c9, f9⟩ := y
      obtain ⟨rfl, rfl⟩ := h
      conv => whnf
      subst hX
      exact ⟨rfl, _, _, rfl, .inr ⟨ringX_cm hR, rfl⟩⟩
  | false =>
  conv => whnf
  rw [h3] at hX
  cases h4 : kd == 4 with
  | true =>
    conv => whnf
    rw [h4] at hX
    refine .obj rfl ?_
    conv => whnf
    refine ⟨_, _, ⟨WkL.refl _, ring50_2_0 q1 q2 q3 q4 c0 c1 fo aw cl ⟨kd, 0, lt, ep, fl, di⟩ hfo⟩, fun res s1 h => ?_⟩
    cases hR : ringX c0 fo ⟨kd, 0, lt, ep, fl, di⟩ with
    | error g =>
      rw [hR] at h hX
      obtain ⟨rfl, rfl⟩ := h
      conv => whnf
      subst hX
      exact ⟨rfl, rfl⟩
    | ok y =>
      rw [hR] at h hX
      obtain ⟨c9, f9⟩ := y
      obtain ⟨rfl, rfl⟩ := h
      conv => whnf
      subst hX
      exact ⟨rfl, _, _, rfl, .inr ⟨ringX_cm hR, rfl⟩⟩
  | false =>
  conv => whnf
  rw [h4] at hX
  refine bcase_intro (fun h2 => ?_) (fun h2 => ?_) <;> conv => whnf
  · have h2 : (kd == 2) = true := h2
    rw [h2] at hX
    cases hf : aget kA aw (lt, ep) with
    | none =>
      rw [hf] at hg hX
      refine ⟨heldA, .none, ⟨dxA_good (lt, ep), good_enc dxA_good aw, hg⟩, ?_⟩
      conv => whnf
      refine ⟨heldA, encA (aput kA aw (lt, ep)), ⟨dxA_good (lt, ep), good_enc dxA_good aw, dput_enc (ev := one1) dxA_inj haw (lt, ep)⟩, ?_⟩
      conv => whnf
      subst hX
      exact ⟨rfl, _, _, rfl, .inl rfl⟩
    | some y =>
      rw [hf] at hg hX
      refine ⟨heldA, .some (.one (.int .i64 1)), ⟨dxA_good (lt, ep), good_enc dxA_good aw, hg⟩, ?_⟩
      conv => whnf
      subst hX
      exact ⟨rfl, rfl⟩
  have h2 : (kd == 2) = false := h2
  rw [h2] at hX
  refine bcase_intro (fun h1 => ?_) (fun h1 => ?_) <;> conv => whnf
  · have h1 : (kd == 1) = true := h1
    rw [h1] at hX
    refine .obj rfl ?_
    conv => whnf
    refine ⟨_, _, ⟨WkL.refl _, claim51_2_0 q1 q2 q3 q4 c0 c1 fo aw cl ⟨kd, 0, lt, ep, fl, di⟩ hcl (hcm)⟩, fun res s1 h => ?_⟩
    cases hR : claimX c0 cl ⟨kd, 0, lt, ep, fl, di⟩ with
    | error g =>
      rw [hR] at h hX
      obtain ⟨rfl, rfl⟩ := h
      conv => whnf
      subst hX
      exact ⟨rfl, rfl⟩
    | ok y =>
      rw [hR] at h hX
      obtain ⟨c9, f9⟩ := y
      obtain ⟨rfl, rfl⟩ := h
      conv => whnf
      subst hX
      exact ⟨rfl, _, _, rfl, .inl rfl⟩
  have h1 : (kd == 1) = false := h1
  rw [h1] at hX
  refine bcase_intro (fun h8 => ?_) (fun h8 => ?_) <;> conv => whnf
  · have h8 : (kd == 8) = true := h8
    rw [h8] at hX
    refine .obj rfl ?_
    conv => whnf
    refine ⟨_, _, ⟨WkL.refl _, clears52_2_0 c0 c1 ⟨kd, 0, lt, ep, fl, di⟩ hcm⟩, fun res s1 h => ?_⟩
    cases hR : clearX c0 ⟨kd, 0, lt, ep, fl, di⟩ with
    | error g =>
      rw [hR] at h hX
      obtain ⟨rfl, rfl⟩ := h
      conv => whnf
      subst hX
      exact ⟨rfl, rfl⟩
    | ok y =>
      rw [hR] at h hX
      obtain c9 := y
      obtain ⟨rfl, rfl⟩ := h
      conv => whnf
      subst hX
      exact ⟨rfl, _, _, rfl, .inl rfl⟩
  have h8 : (kd == 8) = false := h8
  rw [h8] at hX
  refine bcase_intro (fun h10 => ?_) (fun h10 => ?_) <;> conv => whnf
  · have h10 : (kd == 10) = true := h10
    rw [h10] at hX
    refine ⟨_, rfl, ?_⟩
    conv => whnf
    subst hX
    exact ⟨rfl, _, _, rfl, .inr ⟨rfl, rfl⟩⟩
  have h10 : (kd == 10) = false := h10
  rw [h10] at hX
  cases h5 : kd == 5 with
  | true =>
    conv => whnf
    rw [h5] at hX
    refine .obj rfl ?_
    conv => whnf
    refine ⟨_, _, ⟨WkL.refl _, moves53_2_0 q1 q2 q3 q4 c0 c1 fo aw cl ⟨kd, 0, lt, ep, fl, di⟩⟩, fun res s1 h => ?_⟩
    cases hR : moveX q2 c0 ⟨kd, 0, lt, ep, fl, di⟩ with
    | error g =>
      rw [hR] at h hX
      obtain ⟨rfl, rfl⟩ := h
      conv => whnf
      subst hX
      exact ⟨rfl, rfl⟩
    | ok y =>
      rw [hR] at h hX
      obtain c9 := y
      obtain ⟨rfl, rfl⟩ := h
      conv => whnf
      subst hX
      exact ⟨rfl, _, _, rfl, .inl rfl⟩
  | false =>
  conv => whnf
  rw [h5] at hX
  cases h6 : kd == 6 with
  | true =>
    conv => whnf
    rw [h6] at hX
    refine .obj rfl ?_
    conv => whnf
    refine ⟨_, _, ⟨WkL.refl _, moves53_2_0 q1 q2 q3 q4 c0 c1 fo aw cl ⟨kd, 0, lt, ep, fl, di⟩⟩, fun res s1 h => ?_⟩
    cases hR : moveX q2 c0 ⟨kd, 0, lt, ep, fl, di⟩ with
    | error g =>
      rw [hR] at h hX
      obtain ⟨rfl, rfl⟩ := h
      conv => whnf
      subst hX
      exact ⟨rfl, rfl⟩
    | ok y =>
      rw [hR] at h hX
      obtain c9 := y
      obtain ⟨rfl, rfl⟩ := h
      conv => whnf
      subst hX
      exact ⟨rfl, _, _, rfl, .inl rfl⟩
  | false =>
  conv => whnf
  rw [h6] at hX
  refine bcase_intro (fun h7 => ?_) (fun h7 => ?_) <;> conv => whnf
  · have h7 : (kd == 7) = true := h7
    rw [h7] at hX
    refine .obj rfl ?_
    conv => whnf
    refine ⟨_, _, ⟨WkL.refl _, moves53_2_0 q1 q2 q3 q4 c0 c1 fo aw cl ⟨kd, 0, lt, ep, fl, di⟩⟩, fun res s1 h => ?_⟩
    cases hR : moveX q2 c0 ⟨kd, 0, lt, ep, fl, di⟩ with
    | error g =>
      rw [hR] at h hX
      obtain ⟨rfl, rfl⟩ := h
      conv => whnf
      subst hX
      exact ⟨rfl, rfl⟩
    | ok y =>
      rw [hR] at h hX
      obtain c9 := y
      obtain ⟨rfl, rfl⟩ := h
      conv => whnf
      subst hX
      exact ⟨rfl, _, _, rfl, .inl rfl⟩
  have h7 : (kd == 7) = false := h7
  rw [h7] at hX
  subst hX
  exact ⟨rfl, _, _, rfl, .inl rfl⟩
set_option maxHeartbeats 1000000 in
set_option maxRecDepth 100000 in
theorem ring50_2_1 {bs : Nat → Addr} (q1 q2 q3 q4 : Int) (c0 c1 : Cr) (fo : List Ep) (aw : List At) (cl : List (At × Int)) (e : Ev) (hfo : (fo.map kE).Nodup) : Contract Tryd.prog (G0 bs) 27 [.ref (.g 0) 0, .el (.g 1) 9 1 0, evV e] [(0, chk q1 q2 q3 q4 2), (1, .arow 9 [carR c0 5, carR c1 6]), (2, .dmap (encE fo)), (3, .dmap (encA aw)), (4, .dmap (encW cl)), (5, .dmap (encK c0.cm)), (6, .dmap (encK c1.cm))] (fun r t => match ringX c1 fo e with
    | .error g => r = .d (errD bs g) ∧ t = [(0, chk q1 q2 q3 q4 2), (1, .arow 9 [carR c0 5, carR c1 6]), (2, .dmap (encE fo)), (3, .dmap (encA aw)), (4, .dmap (encW cl)), (5, .dmap (encK c0.cm)), (6, .dmap (encK c1.cm))]
    | .ok (c', fo') => r = .d (.raw .nilIface) ∧ t = [(0, chk q1 q2 q3 q4 2), (1, .arow 9 [carR c0 5, carR c' 7]), (2, .dmap (encE fo')), (3, .dmap (encA aw)), (4, .dmap (encW cl)), (5, .dmap (encK c0.cm)), (6, .dmap (encK c1.cm)), (7, .dmap (encK []))]) := by
  obtain ⟨X, hX⟩ : ∃ X, ringX c1 fo e = X := ⟨_, rfl⟩
  rw [hX]
  unfold ringX at hX
  have hg := dget_enc (ev := one1) dxE_inj hfo e.ep
  refine run27 7 [] rfl rfl ?_
  conv => whnf
  refine ⟨carR c1 6, rfl, rfl, ?_⟩
  conv => whnf
  refine .scal [epV c1.le, epV e.ep] _ ⟨.refl _, rfl, less69 _ _⟩ ?_
  conv => whnf
  refine ⟨carR c1 6, fun _ => rfl, rfl, ?_⟩
  conv => whnf
  refine ⟨carR c1 6, fun _ => rfl, rfl, ?_⟩
  conv => whnf
  refine bcase_intro (fun h1 => ?_) (fun h1 => ?_) <;> conv => whnf
  · have h1 : (bif !lessE c1.le e.ep then true else bif c1.an then decide (e.ep.1 ≤ c1.le.1) else false) = true := h1
    rw [h1] at hX
    subst hX
    exact ⟨rfl, rfl⟩
  have h1 : (bif !lessE c1.le e.ep then true else bif c1.an then decide (e.ep.1 ≤ c1.le.1) else false) = false := h1
  rw [h1] at hX
  cases hf : aget kE fo e.ep with
  | none =>
    rw [hf] at hg hX
    refine ⟨heldE, .none, fun _ => ⟨dxE_good _, good_enc dxE_good fo, hg⟩, ?_⟩
    conv => whnf
    refine bcase_intro (fun h2 => ?_) (fun h2 => ?_) <;> conv => whnf
    · exfalso
      have h2 : (bif e.kd == 3 then decide ((0 : Int) > 0) else false) = true := h2
      cases e.kd == 3 <;> simp at h2 
    refine bcase_intro (fun h3 => ?_) (fun h3 => ?_) <;> conv => whnf
    · have h3 : (e.kd == 3) = true := h3
      rw [h3] at hX
      refine ⟨heldE, encE (aput kE fo e.ep), ⟨dxE_good _, good_enc dxE_good fo, dput_enc dxE_inj hfo e.ep⟩, ?_⟩
      conv => whnf
      refine ⟨carR c1 6, rfl, ?_⟩
      conv => whnf
      refine ⟨_, rfl, ?_⟩
      conv => whnf
      refine ⟨_, rfl, ?_⟩
      conv => whnf
      subst hX
      exact ⟨rfl, rfl⟩
    · have h3 : (e.kd == 3) = false := h3
      rw [h3] at hX
      refine ⟨carR c1 6, rfl, ?_⟩
      conv => whnf
      refine ⟨_, rfl, ?_⟩
      conv => whnf
      refine ⟨_, rfl, ?_⟩
      conv => whnf
      subst hX
      exact ⟨rfl, rfl⟩
  | some y =>
    rw [hf] at hg hX
    refine ⟨heldE, .some (.one (.int .i64 1)), fun _ => ⟨dxE_good _, good_enc dxE_good fo, hg⟩, ?_⟩
    conv => whnf
    refine bcase_intro (fun h2 => ?_) (fun h2 => ?_) <;> conv => whnf
    · have h2 : (bif e.kd == 3 then decide ((1 : Int) > 0) else false) = true := h2
      have hX : (bif (bif e.kd == 3 then decide ((1 : Int) > 0) else false) then _ else _) = X := hX
      rw [h2] at hX
      subst hX
      exact ⟨rfl, rfl⟩
    have h2 : (bif e.kd == 3 then decide ((1 : Int) > 0) else false) = false := h2
    have hX : (bif (bif e.kd == 3 then decide ((1 : Int) > 0) else false) then _ else _) = X := hX
    rw [h2] at hX
    refine bcase_intro (fun h3 => ?_) (fun h3 => ?_) <;> conv => whnf
    · exfalso
      have h3 : (e.kd == 3) = true := h3
      rw [h3] at h2
      cases h2
    · have h3 : (e.kd == 3) = false := h3
      rw [h3] at hX
      refine ⟨carR c1 6, rfl, ?_⟩
      conv => whnf
      refine ⟨_, rfl, ?_⟩
      conv => whnf
      refine ⟨_, rfl, ?_⟩
      conv => whnf
      subst hX
      exact ⟨rfl, rfl⟩
set_option maxHeartbeats 1000000 in
set_option maxRecDepth 100000 in
theorem claim51_2_1 {bs : Nat → Addr} (q1 q2 q3 q4 : Int) (c0 c1 : Cr) (fo : List Ep) (aw : List At) (cl : List (At × Int)) (e : Ev) (hcl : (cl.map kW).Nodup) (hcm : (c1.cm.map kK).Nodup) : Contract Tryd.prog (G0 bs) 28 [.ref (.g 0) 0, .el (.g 1) 9 1 0, evV e] [(0, chk q1 q2 q3 q4 2), (1, .arow 9 [carR c0 5, carR c1 6]), (2, .dmap (encE fo)), (3, .dmap (encA aw)), (4, .dmap (encW cl)), (5, .dmap (encK c0.cm)), (6, .dmap (encK c1.cm))] (fun r t => match claimX c1 cl e with
    | .error g => r = .d (errD bs g) ∧ t = [(0, chk q1 q2 q3 q4 2), (1, .arow 9 [carR c0 5, carR c1 6]), (2, .dmap (encE fo)), (3, .dmap (encA aw)), (4, .dmap (encW cl)), (5, .dmap (encK c0.cm)), (6, .dmap (encK c1.cm))]
    | .ok (c', cl') => r = .d (.raw .nilIface) ∧ t = [(0, chk q1 q2 q3 q4 2), (1, .arow 9 [carR c0 5, carR c' 6]), (2, .dmap (encE fo)), (3, .dmap (encA aw)), (4, .dmap (encW cl')), (5, .dmap (encK c0.cm)), (6, .dmap (encK c'.cm))]) := by
  obtain ⟨X, hX⟩ : ∃ X, claimX c1 cl e = X := ⟨_, rfl⟩
  rw [hX]
  unfold claimX at hX
  have hg := dget_enc (ev := whoW) dxA_inj hcl (e.lt, e.ep)
  have hk := dget_enc (ev := one1) dxK_inj hcm e.lt
  refine run28 7 [] rfl rfl ?_
  conv => whnf
  cases hf : aget kW cl (e.lt, e.ep) with
  | none =>
    rw [hf] at hg hX
    refine ⟨heldA, .none, ⟨dxA_good (e.lt, e.ep), good_enc dxA_good cl, hg⟩, ?_⟩
    conv => whnf
    refine ⟨carR c1 6, rfl, rfl, ?_⟩
    conv => whnf
    refine ⟨⟨by kernel_rfl, by kernel_rfl⟩, ?_⟩
    conv => whnf
    refine bcase_intro (fun h1 => ?_) (fun h1 => ?_) <;> conv => whnf
    · have h1 : (!sameE e.ep c1.le) = true := h1
      rw [h1] at hX
      subst hX
      exact ⟨rfl, rfl⟩
    have h1 : (!sameE e.ep c1.le) = false := h1
    rw [h1] at hX
    refine ⟨carR c1 6, fun _ => rfl, rfl, ?_⟩
    conv => whnf
    cases hm : aget kK c1.cm e.lt with
    | none =>
      rw [hm] at hk hX
      refine ⟨heldK, .none, fun _ => ⟨dxK_good _, good_enc dxK_good c1.cm, hk⟩, ?_⟩
      conv => whnf
      refine ⟨heldA, encW (aput kW cl ((e.lt, e.ep), IntKind.wrap .i64 (e.ca + 1))), ⟨dxA_good (e.lt, e.ep), good_enc dxA_good cl, dput_enc (ev := whoW) dxA_inj hcl ((e.lt, e.ep), IntKind.wrap .i64 (e.ca + 1))⟩, ?_⟩
      conv => whnf
      refine ⟨carR c1 6, rfl, rfl, ?_⟩
      conv => whnf
      refine ⟨heldK, encK (aput kK c1.cm e.lt), ⟨dxK_good _, good_enc dxK_good c1.cm, dput_enc (ev := one1) dxK_inj hcm e.lt⟩, ?_⟩
      conv => whnf
      subst hX
      exact ⟨rfl, rfl⟩
    | some z =>
      rw [hm] at hk hX
      refine ⟨heldK, .some (.one (.int .i64 1)), fun _ => ⟨dxK_good _, good_enc dxK_good c1.cm, hk⟩, ?_⟩
      conv => whnf
      subst hX
      exact ⟨rfl, rfl⟩
  | some y =>
    rw [hf] at hg hX
    refine ⟨heldA, .some (.one (.int .i64 y.2)), ⟨dxA_good (e.lt, e.ep), good_enc dxA_good cl, hg⟩, ?_⟩
    conv => whnf
    refine ⟨carR c1 6, rfl, rfl, ?_⟩
    conv => whnf
    refine ⟨⟨by kernel_rfl, by kernel_rfl⟩, ?_⟩
    conv => whnf
    refine bcase_intro (fun h1 => ?_) (fun h1 => ?_) <;> conv => whnf
    · have h1 : (!sameE e.ep c1.le) = true := h1
      rw [h1] at hX
      subst hX
      exact ⟨rfl, rfl⟩
    have h1 : (!sameE e.ep c1.le) = false := h1
    rw [h1] at hX
    refine ⟨carR c1 6, fun _ => rfl, rfl, ?_⟩
    conv => whnf
    cases hm : aget kK c1.cm e.lt with
    | none =>
      rw [hm] at hk hX
      refine ⟨heldK, .none, fun _ => ⟨dxK_good _, good_enc dxK_good c1.cm, hk⟩, ?_⟩
      conv => whnf
      refine bcase_intro (fun h2 => ?_) (fun h2 => ?_) <;> conv => whnf
      · have h2 : (bif (bif decide (y.2 > 0) then y.2 != IntKind.wrap .i64 (e.ca + 1) else false) then true else decide ((0 : Int) > 0)) = true := h2
        have hX : (bif (bif (bif decide (y.2 > 0) then y.2 != IntKind.wrap .i64 (e.ca + 1) else false) then true else decide ((0 : Int) > 0)) then _ else _) = X := hX
        rw [h2] at hX
        subst hX
        exact ⟨rfl, rfl⟩
      have h2 : (bif (bif decide (y.2 > 0) then y.2 != IntKind.wrap .i64 (e.ca + 1) else false) then true else decide ((0 : Int) > 0)) = false := h2
      have hX : (bif (bif (bif decide (y.2 > 0) then y.2 != IntKind.wrap .i64 (e.ca + 1) else false) then true else decide ((0 : Int) > 0)) then _ else _) = X := hX
      rw [h2] at hX
      refine ⟨heldA, encW (aput kW cl ((e.lt, e.ep), IntKind.wrap .i64 (e.ca + 1))), ⟨dxA_good (e.lt, e.ep), good_enc dxA_good cl, dput_enc (ev := whoW) dxA_inj hcl ((e.lt, e.ep), IntKind.wrap .i64 (e.ca + 1))⟩, ?_⟩
      conv => whnf
      refine ⟨carR c1 6, rfl, rfl, ?_⟩
      conv => whnf
      refine ⟨heldK, encK (aput kK c1.cm e.lt), ⟨dxK_good _, good_enc dxK_good c1.cm, dput_enc (ev := one1) dxK_inj hcm e.lt⟩, ?_⟩
      conv => whnf
      subst hX
      exact ⟨rfl, rfl⟩
    | some z =>
      rw [hm] at hk hX
      refine ⟨heldK, .some (.one (.int .i64 1)), fun _ => ⟨dxK_good _, good_enc dxK_good c1.cm, hk⟩, ?_⟩
      conv => whnf
      refine bcase_intro (fun h2 => ?_) (fun h2 => ?_) <;> conv => whnf
      · have h2 : (bif (bif decide (y.2 > 0) then y.2 != IntKind.wrap .i64 (e.ca + 1) else false) then true else decide ((1 : Int) > 0)) = true := h2
        have hX : (bif (bif (bif decide (y.2 > 0) then y.2 != IntKind.wrap .i64 (e.ca + 1) else false) then true else decide ((1 : Int) > 0)) then _ else _) = X := hX
        rw [h2] at hX
        subst hX
        exact ⟨rfl, rfl⟩
      exfalso
      have h2 : (bif (bif decide (y.2 > 0) then y.2 != IntKind.wrap .i64 (e.ca + 1) else false) then true else decide ((1 : Int) > 0)) = false := h2
      cases hb : (bif decide (y.2 > 0) then y.2 != IntKind.wrap .i64 (e.ca + 1) else false) <;> rw [hb] at h2 <;> cases h2
set_option maxHeartbeats 1000000 in
set_option maxRecDepth 100000 in
theorem clears52_2_1 {bs : Nat → Addr} (c0 c1 : Cr) (e : Ev) (hcm : (c1.cm.map kK).Nodup) : Contract Tryd.prog (G0 bs) 29 [.el (.g 0) 9 1 0, evV e] [(0, .arow 9 [carR c0 1, carR c1 2]), (1, .dmap (encK c0.cm)), (2, .dmap (encK c1.cm))] (fun r t => match clearX c1 e with
    | .error g => r = .d (errD bs g) ∧ t = [(0, .arow 9 [carR c0 1, carR c1 2]), (1, .dmap (encK c0.cm)), (2, .dmap (encK c1.cm))]
    | .ok c' => r = .d (.raw .nilIface) ∧ t = [(0, .arow 9 [carR c0 1, carR c' 2]), (1, .dmap (encK c0.cm)), (2, .dmap (encK c'.cm))]) := by
  obtain ⟨X, hX⟩ : ∃ X, clearX c1 e = X := ⟨_, rfl⟩
  rw [hX]
  unfold clearX at hX
  have hk := dget_enc (ev := one1) dxK_inj hcm e.lt
  refine run29 3 [] rfl rfl ?_
  conv => whnf
  refine ⟨carR c1 2, rfl, rfl, ?_⟩
  conv => whnf
  refine bcase_intro (fun h1 => ?_) (fun h1 => ?_) <;> conv => whnf
  · have h1 : (!c1.op) = true := h1
    rw [h1] at hX
    subst hX
    exact ⟨rfl, rfl⟩
  have h1 : (!c1.op) = false := h1
  rw [h1] at hX
  refine ⟨carR c1 2, rfl, rfl, ?_⟩
  conv => whnf
  refine ⟨carR c1 2, fun _ => rfl, rfl, ?_⟩
  conv => whnf
  refine bcase_intro (fun h2 => ?_) (fun h2 => ?_) <;> conv => whnf
  · have h2 : (bif e.fl != c1.wh then true else e.lt.1 != c1.wh) = true := h2
    rw [h2] at hX
    subst hX
    exact ⟨rfl, rfl⟩
  have h2 : (bif e.fl != c1.wh then true else e.lt.1 != c1.wh) = false := h2
  rw [h2] at hX
  refine ⟨carR c1 2, rfl, rfl, ?_⟩
  conv => whnf
  refine bcase_intro (fun h3 => ?_) (fun h3 => ?_) <;> conv => whnf
  · have h3 : (e.lt.2.1 != c1.la) = true := h3
    rw [h3] at hX
    subst hX
    exact ⟨rfl, rfl⟩
  have h3 : (e.lt.2.1 != c1.la) = false := h3
  rw [h3] at hX
  refine ⟨carR c1 2, rfl, rfl, ?_⟩
  conv => whnf
  cases hm : aget kK c1.cm e.lt with
  | none =>
    rw [hm] at hk hX
    refine ⟨heldK, .none, ⟨dxK_good _, good_enc dxK_good c1.cm, hk⟩, ?_⟩
    conv => whnf
    subst hX
    exact ⟨rfl, rfl⟩
  | some z =>
    rw [hm] at hk hX
    refine ⟨heldK, .some (.one (.int .i64 1)), ⟨dxK_good _, good_enc dxK_good c1.cm, hk⟩, ?_⟩
    conv => whnf
    refine ⟨carR c1 2, rfl, rfl, ?_⟩
    conv => whnf
    refine ⟨heldK, encK (adel kK c1.cm e.lt), ⟨dxK_good _, good_enc dxK_good c1.cm, ddel_enc (ev := one1) dxK_inj hcm e.lt⟩, ?_⟩
    conv => whnf
    subst hX
    exact ⟨rfl, rfl⟩
set_option maxHeartbeats 1000000 in
set_option maxRecDepth 100000 in
theorem moves53_2_1 {bs : Nat → Addr} (q1 q2 q3 q4 : Int) (c0 c1 : Cr) (fo : List Ep) (aw : List At) (cl : List (At × Int)) (e : Ev) : Contract Tryd.prog (G0 bs) 30 [.ref (.g 0) 0, .el (.g 1) 9 1 0, evV e] [(0, chk q1 q2 q3 q4 2), (1, .arow 9 [carR c0 5, carR c1 6]), (2, .dmap (encE fo)), (3, .dmap (encA aw)), (4, .dmap (encW cl)), (5, .dmap (encK c0.cm)), (6, .dmap (encK c1.cm))] (fun r t => match moveX q2 c1 e with
    | .error g => r = .d (errD bs g) ∧ t = [(0, chk q1 q2 q3 q4 2), (1, .arow 9 [carR c0 5, carR c1 6]), (2, .dmap (encE fo)), (3, .dmap (encA aw)), (4, .dmap (encW cl)), (5, .dmap (encK c0.cm)), (6, .dmap (encK c1.cm))]
    | .ok c' => r = .d (.raw .nilIface) ∧ t = [(0, chk q1 q2 q3 q4 2), (1, .arow 9 [carR c0 5, carR c' 6]), (2, .dmap (encE fo)), (3, .dmap (encA aw)), (4, .dmap (encW cl)), (5, .dmap (encK c0.cm)), (6, .dmap (encK c'.cm))]) := by
  obtain ⟨X, hX⟩ : ∃ X, moveX q2 c1 e = X := ⟨_, rfl⟩
  rw [hX]
  unfold moveX at hX
  refine run30 7 [13] rfl rfl ?_
  conv => whnf
  refine ⟨carR c1 6, rfl, rfl, ?_⟩
  conv => whnf
  have hne : (c1.op != (e.kd == 6)) = !(c1.op == (e.kd == 6)) := rfl
  rw [hne] at hX
  cases h1 : c1.op == (e.kd == 6) with
  | false =>
    conv => whnf
    rw [h1] at hX
    subst hX
    exact ⟨rfl, rfl⟩
  | true =>
  conv => whnf
  rw [h1] at hX
  refine ⟨carR c1 6, fun _ => rfl, rfl, ?_⟩
  conv => whnf
  refine bcase_intro (fun h2 => ?_) (fun h2 => ?_) <;> conv => whnf
  · refine bcase_intro (fun h3 => ?_) (fun h3 => ?_) <;> conv => whnf
    · have h2 : (bif e.kd == 6 then e.fl != c1.wh else false) = true := h2
      rw [h2] at hX
      subst hX
      exact ⟨rfl, rfl⟩
    · exact absurd (h2.symm.trans h3) (by decide)
  have h2 : (bif e.kd == 6 then e.fl != c1.wh else false) = false := h2
  rw [h2] at hX
  refine bcase_intro (fun h3 => ?_) (fun h3 => ?_) <;> conv => whnf
  · have h3 : (bif e.kd != 6 then (bif decide (e.fl < 0) then true else decide (e.fl ≥ q2)) else false) = true := h3
    rw [h3] at hX
    subst hX
    exact ⟨rfl, rfl⟩
  have h3 : (bif e.kd != 6 then (bif decide (e.fl < 0) then true else decide (e.fl ≥ q2)) else false) = false := h3
  rw [h3] at hX
  refine bcase_intro (fun h4 => ?_) (fun h4 => ?_) <;> conv => whnf
  · refine bcase_intro (fun h5 => ?_) (fun h5 => ?_) <;> conv => whnf
    · have h4 : (bif e.kd == 5 then (bif decide (e.di < -1) then true else decide (e.di > 1)) else false) = true := h4
      rw [h4] at hX
      subst hX
      exact ⟨rfl, rfl⟩
    · exact absurd (h4.symm.trans h5) (by decide)
  have h4 : (bif e.kd == 5 then (bif decide (e.di < -1) then true else decide (e.di > 1)) else false) = false := h4
  rw [h4] at hX
  refine bcase_intro (fun h5 => ?_) (fun h5 => ?_) <;> conv => whnf
  · have h5 : (bif (bif e.kd == 7 then e.di != 1 else false) then e.di != -1 else false) = true := h5
    rw [h5] at hX
    subst hX
    exact ⟨rfl, rfl⟩
  have h5 : (bif (bif e.kd == 7 then e.di != 1 else false) then e.di != -1 else false) = false := h5
  rw [h5] at hX
  cases h6 : e.kd == 5 with
  | true =>
    rw [h6] at hX
    refine ⟨carR c1 6, rfl, ?_⟩
    conv => whnf
    refine ⟨_, rfl, ?_⟩
    conv => whnf
    refine ⟨_, rfl, rfl, ?_⟩
    conv => whnf
    refine StopG.draw wk30 [] sp30_13 [6] (fun env s => env = [(6, .d (.raw .nilIface))] ∧ s = [(0, chk q1 q2 q3 q4 2), (1, .arow 9 [carR c0 5, carR { c1 with op := true, fl := e.fl, wh := e.fl, la := e.di } 6]), (2, .dmap (encE fo)), (3, .dmap (encA aw)), (4, .dmap (encW cl)), (5, .dmap (encK c0.cm)), (6, .dmap (encK c1.cm))]) rfl rfl (by kernel_rfl) ?_ ?_
    · conv => whnf
      repeat' (first
        | (refine Both.mk ?_ ?_ <;> conv => whnf)
        | (refine ⟨_, rfl, ?_⟩; conv => whnf)
        | exact ⟨rfl, rfl⟩)
    rintro env s ⟨rfl, rfl⟩
    conv => whnf
    subst hX
    exact ⟨rfl, rfl⟩
  | false =>
    rw [h6] at hX
    refine ⟨carR c1 6, rfl, ?_⟩
    conv => whnf
    refine ⟨_, rfl, ?_⟩
    conv => whnf
    refine ⟨_, rfl, rfl, ?_⟩
    conv => whnf
    subst hX
    exact ⟨rfl, rfl⟩
set_option maxHeartbeats 2000000 in
set_option maxRecDepth 100000 in
theorem event32_2_1 {bs : Nat → Addr} (q1 q2 q3 q4 : Int) (c0 c1 : Cr) (fo : List Ep) (aw : List At) (cl : List (At × Int)) (e : Ev) (hkd : ¬ (e.kd < 1 ∨ e.kd > 11)) (hca : e.ca = 1) (hfo : (fo.map kE).Nodup) (haw : (aw.map kA).Nodup) (hcl : (cl.map kW).Nodup) (hcm : (c1.cm.map kK).Nodup) : Contract Tryd.prog (G0 bs) 19 [.ref (.g 0) 0, evV e] [(0, chk q1 q2 q3 q4 2), (1, .arow 9 [carR c0 5, carR c1 6]), (2, .dmap (encE fo)), (3, .dmap (encA aw)), (4, .dmap (encW cl)), (5, .dmap (encK c0.cm)), (6, .dmap (encK c1.cm))] (fun r t => match carX q2 ⟨[c0, c1], fo, aw, cl⟩ 1 c1 e with
    | .error g => r = .d (errD bs g) ∧ t = [(0, chk q1 q2 q3 q4 2), (1, .arow 9 [carR c0 5, carR c1 6]), (2, .dmap (encE fo)), (3, .dmap (encA aw)), (4, .dmap (encW cl)), (5, .dmap (encK c0.cm)), (6, .dmap (encK c1.cm))]
    | .ok k' => r = .d (.raw .nilIface) ∧ ∃ d0 d1 : Cr, k'.cars = [d0, d1] ∧ (t = [(0, chk q1 q2 q3 q4 2), (1, .arow 9 [carR d0 5, carR d1 6]), (2, .dmap (encE k'.fo)), (3, .dmap (encA k'.aw)), (4, .dmap (encW k'.cl)), (5, .dmap (encK d0.cm)), (6, .dmap (encK d1.cm))] ∨ (d1.cm = [] ∧ t = [(0, chk q1 q2 q3 q4 2), (1, .arow 9 [carR d0 5, carR d1 7]), (2, .dmap (encE k'.fo)), (3, .dmap (encA k'.aw)), (4, .dmap (encW k'.cl)), (5, .dmap (encK d0.cm)), (6, .dmap (encK c1.cm)), (7, .dmap (encK []))]))) := by
  obtain ⟨kd, ca, lt, ep, fl, di⟩ := e
  have hca : ca = 1 := hca
  subst hca
  obtain ⟨X, hX⟩ : ∃ X, carX q2 ⟨[c0, c1], fo, aw, cl⟩ 1 c1 ⟨kd, 1, lt, ep, fl, di⟩ = X := ⟨_, rfl⟩
  rw [hX]
  unfold carX at hX
  dsimp only at hX hkd
  have hg := dget_enc (ev := one1) dxA_inj haw (lt, ep)
  refine run19 7 [] rfl rfl ?_
  conv => whnf
  refine bcase_intro (fun h => ?_) (fun h => ?_) <;> conv => whnf
  · exfalso
    have h : (bif decide (kd < 1) then true else decide (kd > 11)) = true := h
    rw [decide_eq_false (show ¬ kd < 1 by omega), decide_eq_false (show ¬ kd > 11 by omega)] at h
    cases h
  refine ⟨⟨(by show (0 : Int) ≤ 1; decide), (by show (1 : Int) < 2; decide)⟩, ?_⟩
  conv => whnf
  refine bcase_intro (fun h9 => ?_) (fun h9 => ?_) <;> conv => whnf
  · have h9 : (kd == 9) = true := h9
    rw [h9] at hX
    refine ⟨carR c1 6, rfl, rfl, ?_⟩
    conv => whnf
    cases hop : c1.op with
    | true =>
      conv => whnf
      rw [hop] at hX
      subst hX
      exact ⟨rfl, rfl⟩
    | false =>
      conv => whnf
      refine ⟨_, rfl, ?_⟩
      conv => whnf
      refine ⟨_, rfl, ?_⟩
      conv => whnf
      refine ⟨_, rfl, ?_⟩
      conv => whnf
      rw [hop] at hX
      subst hX
      exact ⟨rfl, _, _, rfl, .inr ⟨rfl, by rw [hop]; rfl⟩⟩
  have h9 : (kd == 9) = false := h9
  rw [h9] at hX
  cases h3 : kd == 3 with
  | true =>
    conv => whnf
    rw [h3] at hX
    refine .obj rfl ?_
    conv => whnf
    refine ⟨_, _, ⟨WkL.refl _, ring50_2_1 q1 q2 q3 q4 c0 c1 fo aw cl ⟨kd, 1, lt, ep, fl, di⟩ hfo⟩, fun res s1 h => ?_⟩
    cases hR : ringX c1 fo ⟨kd, 1, lt, ep, fl, di⟩ with
    | error g =>
      rw [hR] at h hX
      obtain ⟨rfl, rfl⟩ := h
      conv => whnf
      subst hX
      exact ⟨rfl, rfl⟩
    | ok y =>
      rw [hR] at h hX
      obtain ⟨c9, f9⟩ := y
      obtain ⟨rfl, rfl⟩ := h
      conv => whnf
      subst hX
      exact ⟨rfl, _, _, rfl, .inr ⟨ringX_cm hR, rfl⟩⟩
  | false =>
  conv => whnf
  rw [h3] at hX
  cases h4 : kd == 4 with
  | true =>
    conv => whnf
    rw [h4] at hX
    refine .obj rfl ?_
    conv => whnf
    refine ⟨_, _, ⟨WkL.refl _, ring50_2_1 q1 q2 q3 q4 c0 c1 fo aw cl ⟨kd, 1, lt, ep, fl, di⟩ hfo⟩, fun res s1 h => ?_⟩
    cases hR : ringX c1 fo ⟨kd, 1, lt, ep, fl, di⟩ with
    | error g =>
      rw [hR] at h hX
      obtain ⟨rfl, rfl⟩ := h
      conv => whnf
      subst hX
      exact ⟨rfl, rfl⟩
    | ok y =>
      rw [hR] at h hX
      obtain ⟨c9, f9⟩ := y
      obtain ⟨rfl, rfl⟩ := h
      conv => whnf
      subst hX
      exact ⟨rfl, _, _, rfl, .inr ⟨ringX_cm hR, rfl⟩⟩
  | false =>
  conv => whnf
  rw [h4] at hX
  refine bcase_intro (fun h2 => ?_) (fun h2 => ?_) <;> conv => whnf
  · have h2 : (kd == 2) = true := h2
    rw [h2] at hX
    cases hf : aget kA aw (lt, ep) with
    | none =>
      rw [hf] at hg hX
      refine ⟨heldA, .none, ⟨dxA_good (lt, ep), good_enc dxA_good aw, hg⟩, ?_⟩
      conv => whnf
      refine ⟨heldA, encA (aput kA aw (lt, ep)), ⟨dxA_good (lt, ep), good_enc dxA_good aw, dput_enc (ev := one1) dxA_inj haw (lt, ep)⟩, ?_⟩
      conv => whnf
      subst hX
      exact ⟨rfl, _, _, rfl, .inl rfl⟩
    | some y =>
      rw [hf] at hg hX
      refine ⟨heldA, .some (.one (.int .i64 1)), ⟨dxA_good (lt, ep), good_enc dxA_good aw, hg⟩, ?_⟩
      conv => whnf
      subst hX
      exact ⟨rfl, rfl⟩
  have h2 : (kd == 2) = false := h2
  rw [h2] at hX
  refine bcase_intro (fun h1 => ?_) (fun h1 => ?_) <;> conv => whnf
  · have h1 : (kd == 1) = true := h1
    rw [h1] at hX
    refine .obj rfl ?_
    conv => whnf
    refine ⟨_, _, ⟨WkL.refl _, claim51_2_1 q1 q2 q3 q4 c0 c1 fo aw cl ⟨kd, 1, lt, ep, fl, di⟩ hcl (hcm)⟩, fun res s1 h => ?_⟩
    cases hR : claimX c1 cl ⟨kd, 1, lt, ep, fl, di⟩ with
    | error g =>
      rw [hR] at h hX
      obtain ⟨rfl, rfl⟩ := h
      conv => whnf
      subst hX
      exact ⟨rfl, rfl⟩
    | ok y =>
      rw [hR] at h hX
      obtain ⟨c9, f9⟩ := y
      obtain ⟨rfl, rfl⟩ := h
      conv => whnf
      subst hX
      exact ⟨rfl, _, _, rfl, .inl rfl⟩
  have h1 : (kd == 1) = false := h1
  rw [h1] at hX
  refine bcase_intro (fun h8 => ?_) (fun h8 => ?_) <;> conv => whnf
  · have h8 : (kd == 8) = true := h8
    rw [h8] at hX
    refine .obj rfl ?_
    conv => whnf
    refine ⟨_, _, ⟨WkL.refl _, clears52_2_1 c0 c1 ⟨kd, 1, lt, ep, fl, di⟩ hcm⟩, fun res s1 h => ?_⟩
    cases hR : clearX c1 ⟨kd, 1, lt, ep, fl, di⟩ with
    | error g =>
      rw [hR] at h hX
      obtain ⟨rfl, rfl⟩ := h
      conv => whnf
      subst hX
      exact ⟨rfl, rfl⟩
    | ok y =>
      rw [hR] at h hX
      obtain c9 := y
      obtain ⟨rfl, rfl⟩ := h
      conv => whnf
      subst hX
      exact ⟨rfl, _, _, rfl, .inl rfl⟩
  have h8 : (kd == 8) = false := h8
  rw [h8] at hX
  refine bcase_intro (fun h10 => ?_) (fun h10 => ?_) <;> conv => whnf
  · have h10 : (kd == 10) = true := h10
    rw [h10] at hX
    refine ⟨_, rfl, ?_⟩
    conv => whnf
    subst hX
    exact ⟨rfl, _, _, rfl, .inr ⟨rfl, rfl⟩⟩
  have h10 : (kd == 10) = false := h10
  rw [h10] at hX
  cases h5 : kd == 5 with
  | true =>
    conv => whnf
    rw [h5] at hX
    refine .obj rfl ?_
    conv => whnf
    refine ⟨_, _, ⟨WkL.refl _, moves53_2_1 q1 q2 q3 q4 c0 c1 fo aw cl ⟨kd, 1, lt, ep, fl, di⟩⟩, fun res s1 h => ?_⟩
    cases hR : moveX q2 c1 ⟨kd, 1, lt, ep, fl, di⟩ with
    | error g =>
      rw [hR] at h hX
      obtain ⟨rfl, rfl⟩ := h
      conv => whnf
      subst hX
      exact ⟨rfl, rfl⟩
    | ok y =>
      rw [hR] at h hX
      obtain c9 := y
      obtain ⟨rfl, rfl⟩ := h
      conv => whnf
      subst hX
      exact ⟨rfl, _, _, rfl, .inl rfl⟩
  | false =>
  conv => whnf
  rw [h5] at hX
  cases h6 : kd == 6 with
  | true =>
    conv => whnf
    rw [h6] at hX
    refine .obj rfl ?_
    conv => whnf
    refine ⟨_, _, ⟨WkL.refl _, moves53_2_1 q1 q2 q3 q4 c0 c1 fo aw cl ⟨kd, 1, lt, ep, fl, di⟩⟩, fun res s1 h => ?_⟩
    cases hR : moveX q2 c1 ⟨kd, 1, lt, ep, fl, di⟩ with
    | error g =>
      rw [hR] at h hX
      obtain ⟨rfl, rfl⟩ := h
      conv => whnf
      subst hX
      exact ⟨rfl, rfl⟩
    | ok y =>
      rw [hR] at h hX
      obtain c9 := y
      obtain ⟨rfl, rfl⟩ := h
      conv => whnf
      subst hX
      exact ⟨rfl, _, _, rfl, .inl rfl⟩
  | false =>
  conv => whnf
  rw [h6] at hX
  refine bcase_intro (fun h7 => ?_) (fun h7 => ?_) <;> conv => whnf
  · have h7 : (kd == 7) = true := h7
    rw [h7] at hX
    refine .obj rfl ?_
    conv => whnf
    refine ⟨_, _, ⟨WkL.refl _, moves53_2_1 q1 q2 q3 q4 c0 c1 fo aw cl ⟨kd, 1, lt, ep, fl, di⟩⟩, fun res s1 h => ?_⟩
    cases hR : moveX q2 c1 ⟨kd, 1, lt, ep, fl, di⟩ with
    | error g =>
      rw [hR] at h hX
      obtain ⟨rfl, rfl⟩ := h
      conv => whnf
      subst hX
      exact ⟨rfl, rfl⟩
    | ok y =>
      rw [hR] at h hX
      obtain c9 := y
      obtain ⟨rfl, rfl⟩ := h
      conv => whnf
      subst hX
      exact ⟨rfl, _, _, rfl, .inl rfl⟩
  have h7 : (kd == 7) = false := h7
  rw [h7] at hX
  subst hX
  exact ⟨rfl, _, _, rfl, .inl rfl⟩
end Go.Proofs.YtgadgajhahfabaaDoor
/- Seat of TraceLooks: all that is done, looked through, of 2 cars: printed by mk_s4e.py. -/
namespace Go.Proofs.YtgadgajhahfabaaDoor
open Go.Pv Go.RowKit
set_option maxHeartbeats 1000000 in
set_option maxRecDepth 100000 in
theorem eventK_2 {bs : Nat → Addr} (q1 q2 q3 q4 : Int) (c0 c1 : Cr) (fo : List Ep) (aw : List At) (cl : List (At × Int)) (e : Ev) (hkd : e.kd < 1 ∨ e.kd > 11) : Contract Tryd.prog (G0 bs) 19 [.ref (.g 0) 0, evV e] [(0, chk q1 q2 q3 q4 2), (1, .arow 9 [carR c0 5, carR c1 6]), (2, .dmap (encE fo)), (3, .dmap (encA aw)), (4, .dmap (encW cl)), (5, .dmap (encK c0.cm)), (6, .dmap (encK c1.cm))] (fun r t => r = .d (errD bs 1) ∧ t = [(0, chk q1 q2 q3 q4 2), (1, .arow 9 [carR c0 5, carR c1 6]), (2, .dmap (encE fo)), (3, .dmap (encA aw)), (4, .dmap (encW cl)), (5, .dmap (encK c0.cm)), (6, .dmap (encK c1.cm))]) := by
  refine run19 7 [] rfl rfl ?_
  conv => whnf
  refine bcase_intro (fun h => ?_) (fun h => ?_) <;> conv => whnf
  · exact ⟨rfl, rfl⟩
  · exfalso
    have h : (bif decide (e.kd < 1) then true else decide (e.kd > 11)) = false := h
    rcases hkd with hk | hk
    · rw [decide_eq_true hk] at h; cases h
    · rw [decide_eq_true hk] at h
      cases h1 : decide (e.kd < 1) <;> rw [h1] at h <;> cases h
set_option maxHeartbeats 1000000 in
set_option maxRecDepth 100000 in
theorem eventR_2 {bs : Nat → Addr} (q1 q2 q3 q4 : Int) (c0 c1 : Cr) (fo : List Ep) (aw : List At) (cl : List (At × Int)) (e : Ev) (hkd : ¬ (e.kd < 1 ∨ e.kd > 11)) (hca : e.ca < 0 ∨ e.ca ≥ 2) : Contract Tryd.prog (G0 bs) 19 [.ref (.g 0) 0, evV e] [(0, chk q1 q2 q3 q4 2), (1, .arow 9 [carR c0 5, carR c1 6]), (2, .dmap (encE fo)), (3, .dmap (encA aw)), (4, .dmap (encW cl)), (5, .dmap (encK c0.cm)), (6, .dmap (encK c1.cm))] (fun r t => r = .d (errD bs 0) ∧ t = [(0, chk q1 q2 q3 q4 2), (1, .arow 9 [carR c0 5, carR c1 6]), (2, .dmap (encE fo)), (3, .dmap (encA aw)), (4, .dmap (encW cl)), (5, .dmap (encK c0.cm)), (6, .dmap (encK c1.cm))]) := by
  refine run19 7 [] rfl rfl ?_
  conv => whnf
  refine bcase_intro (fun h => ?_) (fun h => ?_) <;> conv => whnf
  · exfalso
    have h : (bif decide (e.kd < 1) then true else decide (e.kd > 11)) = true := h
    rw [decide_eq_false (show ¬ e.kd < 1 by omega), decide_eq_false (show ¬ e.kd > 11 by omega)] at h
    cases h
  refine bcase_intro (fun h => ?_) (fun h => ?_) <;> conv => whnf
  · exact ⟨rfl, rfl⟩
  · exfalso
    have h : (bif decide (e.ca < 0) then true else decide (e.ca ≥ 2)) = false := h
    rcases hca with hk | hk
    · rw [decide_eq_true hk] at h; cases h
    · rw [decide_eq_true hk] at h
      cases h1 : decide (e.ca < 0) <;> rw [h1] at h <;> cases h
set_option maxHeartbeats 1000000 in
set_option maxRecDepth 100000 in
theorem start31_2 {bs : Nat → Addr} (q2 q3 q4 : Int) : Contract Tryd.prog (G0 bs) 18 [.agg [iV 2, iV q2, iV q3, iV q4]] [] (fun r t => r = .ref (.g 0) 0 ∧ t = [(0, chk 2 q2 q3 q4 2), (1, .arow 9 [carR zC 5, carR zC 6]), (2, .dmap (encE [])), (3, .dmap (encA [])), (4, .dmap (encW [])), (5, .dmap (encK zC.cm)), (6, .dmap (encK zC.cm))]) := by
  refine run18 0 [] rfl rfl ?_
  conv => whnf
  refine ⟨2, 2, ⟨rfl, rfl, Nat.le_refl _, by decide, by decide⟩, ?_⟩
  conv => whnf
  refine StopG.rounds wk18 [] [3, 19, 20] (fun m env s => (m = 2 ∧ env = [(3, .ref (.g 0) 0), (19, iV 2), (20, iV 0)] ∧ s = [(0, chk 2 q2 q3 q4 2), (1, .row 9 [[.bool false, .bool false, .bool false, .int .i64 0, .int .i64 0, .int .i64 0, .int .i64 0, .int .i64 0, .raw (.map .none)], [.bool false, .bool false, .bool false, .int .i64 0, .int .i64 0, .int .i64 0, .int .i64 0, .int .i64 0, .raw (.map .none)]]), (2, .dmap []), (3, .dmap []), (4, .dmap [])]) ∨ (m = 1 ∧ env = [(3, .ref (.g 0) 0), (19, iV 2), (20, iV 1)] ∧ s = [(0, chk 2 q2 q3 q4 2), (1, .arow 9 [carR zC 5, [bV false, bV false, bV false, iV 0, iV 0, iV 0, iV 0, iV 0, .d (.raw (.map .none))]]), (2, .dmap []), (3, .dmap []), (4, .dmap []), (5, .dmap [])]) ∨ (m = 0 ∧ env = [(3, .ref (.g 0) 0), (19, iV 2), (20, iV 2)] ∧ s = [(0, chk 2 q2 q3 q4 2), (1, .arow 9 [carR zC 5, carR zC 6]), (2, .dmap []), (3, .dmap []), (4, .dmap []), (5, .dmap []), (6, .dmap [])])) rfl ?_ ?_
  · conv => whnf
    exact ⟨_, .inl ⟨rfl, rfl, rfl⟩⟩
  rintro m env s (⟨rfl, rfl, rfl⟩ | ⟨rfl, rfl, rfl⟩ | ⟨rfl, rfl, rfl⟩)
  · conv => whnf
    refine ⟨⟨by decide, by decide⟩, ?_⟩
    conv => whnf
    refine ⟨_, rfl, ?_⟩
    conv => whnf
    exact ⟨_, (by decide : 1 < 2), .inr (.inl ⟨rfl, rfl, rfl⟩)⟩
  · conv => whnf
    refine ⟨⟨by decide, by decide⟩, ?_⟩
    conv => whnf
    refine ⟨_, rfl, ?_⟩
    conv => whnf
    exact ⟨_, (by decide : 0 < 1), .inr (.inr (⟨rfl, rfl, rfl⟩))⟩
  · conv => whnf
    exact ⟨rfl, rfl⟩
set_option maxHeartbeats 1000000 in
theorem event_2 {bs : Nat → Addr} (q1 q2 q3 q4 : Int) (c0 c1 : Cr) (fo : List Ep) (aw : List At) (cl : List (At × Int)) (e : Ev) (hnd : Nds ⟨[c0, c1], fo, aw, cl⟩) : Contract Tryd.prog (G0 bs) 19 [.ref (.g 0) 0, evV e] [(0, chk q1 q2 q3 q4 2), (1, .arow 9 [carR c0 5, carR c1 6]), (2, .dmap (encE fo)), (3, .dmap (encA aw)), (4, .dmap (encW cl)), (5, .dmap (encK c0.cm)), (6, .dmap (encK c1.cm))] (fun r t => match eventX q2 ⟨[c0, c1], fo, aw, cl⟩ e with
    | .error g => r = .d (errD bs g) ∧ t = [(0, chk q1 q2 q3 q4 2), (1, .arow 9 [carR c0 5, carR c1 6]), (2, .dmap (encE fo)), (3, .dmap (encA aw)), (4, .dmap (encW cl)), (5, .dmap (encK c0.cm)), (6, .dmap (encK c1.cm))]
    | .ok k' => r = .d (.raw .nilIface) ∧ ∃ d0 d1 : Cr, k'.cars = [d0, d1] ∧ Nds k' ∧ (t = [(0, chk q1 q2 q3 q4 2), (1, .arow 9 [carR d0 5, carR d1 6]), (2, .dmap (encE k'.fo)), (3, .dmap (encA k'.aw)), (4, .dmap (encW k'.cl)), (5, .dmap (encK d0.cm)), (6, .dmap (encK d1.cm))] ∨ (d0.cm = [] ∧ t = [(0, chk q1 q2 q3 q4 2), (1, .arow 9 [carR d0 7, carR d1 6]), (2, .dmap (encE k'.fo)), (3, .dmap (encA k'.aw)), (4, .dmap (encW k'.cl)), (5, .dmap (encK c0.cm)), (6, .dmap (encK d1.cm)), (7, .dmap (encK []))]) ∨ (d1.cm = [] ∧ t = [(0, chk q1 q2 q3 q4 2), (1, .arow 9 [carR d0 5, carR d1 7]), (2, .dmap (encE k'.fo)), (3, .dmap (encA k'.aw)), (4, .dmap (encW k'.cl)), (5, .dmap (encK d0.cm)), (6, .dmap (encK c1.cm)), (7, .dmap (encK []))]))) := by
  by_cases hkd : e.kd < 1 ∨ e.kd > 11
  · have he : eventX q2 ⟨[c0, c1], fo, aw, cl⟩ e = .error 1 := by unfold eventX; rw [if_pos hkd]
    rw [he]
    exact eventK_2 q1 q2 q3 q4 c0 c1 fo aw cl e hkd
  by_cases hca : e.ca < 0 ∨ e.ca ≥ 2
  · have he : eventX q2 ⟨[c0, c1], fo, aw, cl⟩ e = .error 0 := by unfold eventX; rw [if_neg hkd]; exact if_pos hca
    rw [he]
    exact eventR_2 q1 q2 q3 q4 c0 c1 fo aw cl e hkd hca
  have hcs : e.ca = 0 ∨ e.ca = 1 := by omega
  rcases hcs with h0 | h1
  · refine (event32_2_0 q1 q2 q3 q4 c0 c1 fo aw cl e hkd h0 hnd.fo hnd.aw hnd.cl (hnd.cm c0 (by simp))).mono fun r t h => ?_
    have he : eventX q2 ⟨[c0, c1], fo, aw, cl⟩ e = carX q2 ⟨[c0, c1], fo, aw, cl⟩ 0 c0 e := by
      unfold eventX
      rw [if_neg hkd, h0]
      rfl
    rw [he]
    cases hX : carX q2 ⟨[c0, c1], fo, aw, cl⟩ 0 c0 e with
    | error g => rw [hX] at h; exact h
    | ok k' =>
      rw [hX] at h
      obtain ⟨h1, d0, d1, h2, h3⟩ := h
      refine ⟨h1, d0, d1, h2, carX_nds hnd (by simp) hX, ?_⟩
      rcases h3 with h3 | ⟨e1, e2⟩
      · exact .inl h3
      · exact .inr (.inl ⟨e1, e2⟩)
  · refine (event32_2_1 q1 q2 q3 q4 c0 c1 fo aw cl e hkd h1 hnd.fo hnd.aw hnd.cl (hnd.cm c1 (by simp))).mono fun r t h => ?_
    have he : eventX q2 ⟨[c0, c1], fo, aw, cl⟩ e = carX q2 ⟨[c0, c1], fo, aw, cl⟩ 1 c1 e := by
      unfold eventX
      rw [if_neg hkd, h1]
      rfl
    rw [he]
    cases hX : carX q2 ⟨[c0, c1], fo, aw, cl⟩ 1 c1 e with
    | error g => rw [hX] at h; exact h
    | ok k' =>
      rw [hX] at h
      obtain ⟨h1, d0, d1, h2, h3⟩ := h
      refine ⟨h1, d0, d1, h2, carX_nds hnd (by simp) hX, ?_⟩
      rcases h3 with h3 | ⟨e1, e2⟩
      · exact .inl h3
      · exact .inr (.inr (⟨e1, e2⟩))
set_option maxHeartbeats 4000000 in
set_option maxRecDepth 100000 in
theorem all24_2 {bs : Nat → Addr} (q2 q3 q4 : Int) (l : List Ev) (hl : l.length ≤ 100000) : Contract Tryd.prog (G0 bs) 11 [.agg [iV 2, iV q2, iV q3, iV q4], .d (.list 9 (rowsV l))] [] (fun r t => match allX q2 ⟨[zC, zC], [], [], []⟩ l 0 with
    | .error (i, g) => r = .tup [.d (.raw (.pointer .none)), errA bs (some ((i : Int), g))] ∧ t = []
    | .ok k => ∃ c0 c1 : Cr, k.cars = [c0, c1] ∧ r = .tup [.ref (.g 0) 0, .d (.raw .nilIface)] ∧ t = [(0, chk 2 q2 q3 q4 2), (1, .arow 9 [carR c0 5, carR c1 6]), (2, .dmap (encE k.fo)), (3, .dmap (encA k.aw)), (4, .dmap (encW k.cl)), (5, .dmap (encK c0.cm)), (6, .dmap (encK c1.cm))]) := by
  have hlen := rowsV_len l
  obtain ⟨Y, hY0⟩ : ∃ Y, allX q2 ⟨[zC, zC], [], [], []⟩ l 0 = Y := ⟨_, rfl⟩
  rw [hY0]
  refine rung11 0 [] rfl rfl ?_
  conv => whnf
  refine .obj rfl ?_
  conv => whnf
  refine ⟨_, _, ⟨WkL.refl _, start31_2 q2 q3 q4⟩, fun res s1 h => ?_⟩
  obtain ⟨rfl, rfl⟩ := h
  conv => whnf
  refine StopG.rounds wk11 [] [6, 12, 13, 14] (fun m env s => ∃ (i : Nat) (c0 c1 : Cr) (fo : List Ep) (aw : List At) (cl : List (At × Int)), i ≤ l.length ∧ Nds ⟨[c0, c1], fo, aw, cl⟩ ∧ allX q2 ⟨[c0, c1], fo, aw, cl⟩ (l.drop i) i = Y ∧ m = l.length - i ∧ env = [(6, .ref (.g 0) 0), (12, .d (.list 9 (rowsV l))), (13, iV (l.length : Int)), (14, iV (i : Int))] ∧ s = [(0, chk 2 q2 q3 q4 2), (1, .arow 9 [carR c0 5, carR c1 6]), (2, .dmap (encE fo)), (3, .dmap (encA aw)), (4, .dmap (encW cl)), (5, .dmap (encK c0.cm)), (6, .dmap (encK c1.cm))]) rfl ?_ ?_
  · conv => whnf
    rw [hlen]
    exact ⟨_, 0, zC, zC, [], [], [], Nat.zero_le _, ⟨.nil, .nil, .nil, fun c hc => by simp [zC] at hc; (try rcases hc with rfl); first | (rw [hc]; exact .nil) | exact .nil⟩, hY0, rfl, rfl, rfl⟩
  rintro m env s ⟨i, c0, c1, fo, aw, cl, hi, hnd, hY, rfl, rfl, rfl⟩
  conv => whnf
  cases hlt : decide ((i : Int) < (l.length : Int)) with
  | false =>
    conv => whnf
    have hil := of_decide_eq_false hlt
    rw [show l.drop i = [] from List.drop_eq_nil_of_le (by omega)] at hY
    refine ⟨_, _, .refl, ?_⟩
    conv => whnf
    subst hY
    exact ⟨c0, c1, rfl, rfl, rfl⟩
  | true =>
    have hil : i < l.length := by have := of_decide_eq_true hlt; omega
    obtain ⟨e, he, hd⟩ := at_i hil
    rw [hd] at hY
    unfold allX at hY
    conv => whnf
    refine ⟨rowV e, ⟨by omega, row_i he⟩, ?_⟩
    conv => whnf
    refine .obj rfl ?_
    conv => whnf
    refine ⟨_, _, ⟨WkL.refl _, event_2 2 q2 q3 q4 c0 c1 fo aw cl e hnd⟩, fun res s1 h => ?_⟩
    cases hE : eventX q2 ⟨[c0, c1], fo, aw, cl⟩ e with
    | error g =>
      rw [hE] at h hY
      obtain ⟨rfl, rfl⟩ := h
      conv => whnf
      refine ⟨_, _, GV.trans (GV.tidied [4, 5] (E := [(4, .d (.raw (.pointer .none))), (5, .ifc 70 (.ref (.g 0) 0))]) (S := [(0, .cells [iV (i : Int), .d (errD bs g)])]) ?_) (GV.freeze 0 rfl (by simp) (by repeat' first | exact trivial | apply And.intro | decide | (simp; done) | omega) (by repeat' first | exact trivial | apply And.intro | decide | (simp; done))), ?_⟩
      · conv => whnf
        exact ⟨rfl, rfl⟩
      conv => whnf
      subst hY
      exact ⟨rfl, rfl⟩
    | ok k9 =>
      rw [hE] at h hY
      obtain ⟨rfl, d0, d1, hk9, hnd9, h3⟩ := h
      obtain ⟨cars9, fo9, aw9, cl9⟩ := k9
      have hk9 : cars9 = [d0, d1] := hk9
      subst hk9
      rcases h3 with rfl | ⟨hc, rfl⟩ | ⟨hc, rfl⟩
      · conv => whnf
        rw [succ_i hil (by omega)]
        exact ⟨_, by omega, i + 1, d0, d1, fo9, aw9, cl9, hil, hnd9, hY, rfl, rfl, rfl⟩
      · conv => whnf
        rw [succ_i hil (by omega)]
        exact ⟨_, by omega, i + 1, d0, d1, fo9, aw9, cl9, hil, hnd9, hY, rfl, rfl, by rw [hc]⟩
      · conv => whnf
        rw [succ_i hil (by omega)]
        exact ⟨_, by omega, i + 1, d0, d1, fo9, aw9, cl9, hil, hnd9, hY, rfl, rfl, by rw [hc]⟩
set_option maxHeartbeats 1000000 in
set_option maxRecDepth 100000 in
theorem check13_2 {bs : Nat → Addr} (q2 q3 q4 : Int) (l : List Ev) (hl : l.length ≤ 100000) : Contract Tryd.prog (G0 bs) 8 [.agg [iV 2, iV q2, iV q3, iV q4], .d (.list 9 (rowsV l))] [] (fun r t => r = errA bs (errOf (allX q2 ⟨[zC, zC], [], [], []⟩ l 0)) ∧ t = []) := by
  have hall := all24_2 (bs := bs) q2 q3 q4 l hl
  cases hA : allX q2 ⟨[zC, zC], [], [], []⟩ l 0 with
  | error p =>
    obtain ⟨i, g⟩ := p
    rw [hA] at hall
    refine run8 0 [] rfl rfl ?_
    conv => whnf
    refine .obj rfl ?_
    conv => whnf
    refine ⟨_, _, ⟨WkL.refl _, hall⟩, fun res s1 h => ?_⟩
    obtain ⟨rfl, rfl⟩ := h
    conv => whnf
    exact ⟨rfl, rfl⟩
  | ok k =>
    rw [hA] at hall
    refine run8 0 [] rfl rfl ?_
    conv => whnf
    refine .obj rfl ?_
    conv => whnf
    refine ⟨_, _, ⟨WkL.refl _, hall⟩, fun res s1 h => ?_⟩
    obtain ⟨c0, c1, _, rfl, rfl⟩ := h
    conv => whnf
    exact ⟨rfl, rfl⟩
end Go.Proofs.YtgadgajhahfabaaDoor
/- Seat of TraceLooks: events done one by one. -/
namespace Go.Proofs.YtgadgajhahfabaaDoor
open Go.Pv Go.RowKit
abbrev ev0 (kd ca : Int) : Ev := ⟨kd, ca, (0, 0, 0), (0, 0), 0, 0⟩
set_option maxRecDepth 100000 in
set_option maxHeartbeats 1000000 in
theorem first9 {bs : Nat → Addr} (ha : Apart bs) : Contract Tryd.prog (G0 bs) 4 [] [] (fun r t => r = .d (.bool true) ∧ t = []) := by
  have h1 := check13_1 (bs := bs) 3 1 1 [ev0 9 0, ev0 8 0] (by decide)
  have h2 := check13_1 (bs := bs) 3 1 1 [] (by decide)
  have e1 : errOf (allX 3 ⟨[zC], [], [], []⟩ [ev0 9 0, ev0 8 0] 0) = some (1, 2) := rfl
  have e2 : errOf (allX 3 ⟨[zC], [], [], []⟩ [] 0) = none := rfl
  rw [e1] at h1
  rw [e2] at h2
  have h3 := same12 ha (some (1, 2)) (fun p g h => by cases h; omega) 109 true 1
  have e3 : sameR (some (1, 2)) 109 true 1 = true := by decide
  rw [e3] at h3
  refine run4 0 [] rfl rfl ?_
  conv => whnf
  refine .data [.agg [iV 1, iV 3, iV 1, iV 1], .d (.list 9 (rowsV [ev0 9 0, ev0 8 0]))] _ ⟨WkL.refl _, rfl, h1⟩ ?_
  conv => whnf
  refine .data [iV 109, iV 1] _ ⟨WkL.refl _, rfl, placed11 109 1 (by decide)⟩ ?_
  conv => whnf
  refine .scal [errA bs (some (1, 2)), faultV 109 true 1] _ ⟨.refl _, rfl, h3⟩ ?_
  conv => whnf
  refine .data [.agg [iV 1, iV 3, iV 1, iV 1], .d (.list 9 (rowsV []))] _ (fun _ => ⟨.s _ (.n 9 .nil), rfl, h2⟩) ?_
  conv => whnf
  exact ⟨rfl, rfl⟩
theorem allX_pre {f : Int} : ∀ (l : List Ev) (k : Ck) (j : Nat),
    (∀ p g, allX f k l j = .error (p, g) → j ≤ p ∧ p < j + l.length ∧ ∀ i, (i ≤ p - j → ∃ k', allX f k (l.take i) j = .ok k') ∧ (p - j < i → allX f k (l.take i) j = .error (p, g))) ∧
    (∀ k', allX f k l j = .ok k' → ∀ i, ∃ k'', allX f k (l.take i) j = .ok k'')
  | [], k, j => by
    refine ⟨fun p g h => (by cases h), fun k' h i => ⟨k, by simp [allX]⟩⟩
  | e :: r, k, j => by
    cases hE : eventX f k e with
    | error g0 =>
      refine ⟨fun p g h => ?_, fun k' h => by simp [allX, hE] at h⟩
      simp only [allX, hE, Except.error.injEq, Prod.mk.injEq] at h
      obtain ⟨rfl, rfl⟩ := h
      refine ⟨Nat.le_refl _, by simp, fun i => ⟨fun hi => ?_, fun hi => ?_⟩⟩
      · have : i = 0 := by omega
        subst this
        exact ⟨k, rfl⟩
      · obtain ⟨i', rfl⟩ : ∃ i', i = i' + 1 := ⟨i - 1, by omega⟩
        simp [allX, hE]
    | ok k1 =>
      obtain ⟨ih1, ih2⟩ := allX_pre r k1 (j + 1)
      refine ⟨fun p g h => ?_, fun k' h i => ?_⟩
      · simp only [allX, hE] at h
        obtain ⟨q1, q2, q3⟩ := ih1 p g h
        refine ⟨by omega, by simp; omega, fun i => ?_⟩
        cases i with
        | zero => exact ⟨fun _ => ⟨k, rfl⟩, fun hi => by omega⟩
        | succ i =>
          obtain ⟨q4, q5⟩ := q3 i
          refine ⟨fun hi => ?_, fun hi => ?_⟩
          · obtain ⟨k', hk'⟩ := q4 (by omega)
            exact ⟨k', by simp [allX, hE, hk']⟩
          · simp [allX, hE, q5 (by omega)]
      · simp only [allX, hE] at h
        cases i with
        | zero => exact ⟨k, rfl⟩
        | succ i =>
          obtain ⟨k'', hk''⟩ := ih2 k' h i
          exact ⟨k'', by simp [allX, hE, hk'']⟩
abbrev k2 : Ck := ⟨[zC, zC], [], [], []⟩
/-- Where they end, and which of the beginnings are fine. -/
theorem goes {l : List Ev} : ∃ (R : Option (Int × Nat)) (p : Nat), errOf (allX 4 k2 l 0) = R ∧ (∀ q g, R = some (q, g) → g < 13) ∧ ((R = none ∧ p = l.length) ∨ ∃ g, R = some ((p : Int), g) ∧ p < l.length) ∧
    ∀ i, i ≤ l.length → errOf (allX 4 k2 (l.take i) 0) = if i ≤ p then none else R := by
  obtain ⟨h1, h2⟩ := allX_pre (f := 4) l k2 0
  cases hA : allX 4 k2 l 0 with
  | ok k' =>
    refine ⟨none, l.length, rfl, fun q g h => (by cases h), .inl ⟨rfl, rfl⟩, fun i hi => ?_⟩
    obtain ⟨k'', hk⟩ := h2 k' hA i
    rw [hk, if_pos hi]
    rfl
  | error y =>
    obtain ⟨p, g⟩ := y
    obtain ⟨_, q2, q3⟩ := h1 p g hA
    refine ⟨some ((p : Int), g), p, rfl, fun q g' h => ?_, .inr ⟨g, rfl, by omega⟩, fun i hi => ?_⟩
    · cases h
      exact allX_13 hA
    · by_cases hip : i ≤ p
      · obtain ⟨k', hk⟩ := (q3 i).1 (by omega)
        rw [hk, if_pos hip]
        rfl
      · rw [(q3 i).2 (by omega), if_neg hip]
        rfl
theorem sameR_refl (p : Int) (g : Nat) : sameR (some (p, g)) (codeE g) true p = true := by simp [sameR, sameF]
end Go.Proofs.YtgadgajhahfabaaDoor
/- Seat of TraceLooks: a boot, and epochs behind it. -/
namespace Go.Proofs.YtgadgajhahfabaaDoor
open Go.Pv Go.RowKit
/-- A number from 0 up to below m. -/
def numX (n m : Int) : Int := bif decide (Int.tmod n m < 0) then Int.tmod n m + m else Int.tmod n m
theorem numX_ge {n m : Int} (hm : 0 < m) : 0 ≤ numX n m := by
  unfold numX
  cases h : decide (Int.tmod n m < 0)
  · have := of_decide_eq_false h
    simp only [cond_false]; omega
  · have := Int.lt_tmod_of_pos n hm
    simp only [cond_true]; omega
theorem numX_lt {n m : Int} (hm : 0 < m) : numX n m < m := by
  unfold numX
  cases h : decide (Int.tmod n m < 0)
  · simp only [cond_false]; exact Int.tmod_lt_of_pos n hm
  · have := of_decide_eq_true h
    simp only [cond_true]; omega
set_option maxRecDepth 100000 in
theorem number10 {bs : Nat → Addr} (n m : Int) (hm : 0 < m) (hm2 : m < 1000000) : Contract Tryd.prog (G0 bs) 5 [iV n, iV m] [] (fun r t => r = iV (numX n m) ∧ t = []) := by
  have h1 := Int.lt_tmod_of_pos n hm
  have h2 := Int.tmod_lt_of_pos n hm
  refine run5 0 [] rfl rfl ?_
  conv => whnf
  refine ⟨⟨rfl, by omega⟩, ?_⟩
  conv => whnf
  refine bcase_intro (fun h => ?_) (fun h => ?_) <;> conv => whnf
  · have h : decide (Int.tmod n m < 0) = true := h
    have hv := of_decide_eq_true h
    rw [wrap_id (by omega) (by omega)]
    exact ⟨by rw [numX, h]; rfl, rfl⟩
  · have h : decide (Int.tmod n m < 0) = false := h
    exact ⟨by rw [numX, h]; rfl, rfl⟩
end Go.Proofs.YtgadgajhahfabaaDoor
/- Seat of TraceLooks: how a car is. -/
namespace Go.Proofs.YtgadgajhahfabaaDoor
open Go.Pv Go.RowKit
variable {bs : Nat → Addr}
abbrev nilE : AV := .d (.raw .nilIface)
abbrev sightV (c : Cr) : AV := .agg [bV c.op, iV c.fl, iV c.le.1, iV c.le.2, .d (.list 3 (rowsK c.cm)), bV c.bo]
set_option maxRecDepth 100000 in
set_option maxHeartbeats 4000000 in
theorem look6_0 (l : List Ev) (hl : l.length ≤ 100000) (k : Ck) (c0 c1 c2 : Cr) (hk : allX 6 ⟨[zC, zC, zC], [], [], []⟩ l 0 = .ok k) (hc : k.cars = [c0, c1, c2]) (hcm : c0.cm.length ≤ 1) : Contract Tryd.prog (G0 bs) 6 [.agg [iV 3, iV 6, iV 1, iV 1], iV 0, .d (.list 9 (rowsV l))] [] (fun r t => r = .tup [sightV c0, nilE] ∧ t = []) := by
  have hall := all24_3 (bs := bs) 6 1 1 l hl
  rw [hk] at hall
  refine run6 0 [] rfl rfl ?_
  conv => whnf
  refine .obj rfl ?_
  conv => whnf
  refine ⟨_, _, ⟨WkL.refl _, hall⟩, fun res s1 h => ?_⟩
  obtain ⟨d0, d1, d2, hd, rfl, rfl⟩ := h
  rw [hc] at hd
  cases hd
  conv => whnf
  refine ⟨⟨by decide, by decide⟩, ?_⟩
  conv => whnf
  refine ⟨_, rfl, rfl, ?_⟩
  conv => whnf
  refine .grow _ _ (keys13N 7) ?_
  conv => whnf
  refine .grow _ _ (sorted12N 0 7 c0.cm hcm rfl (by simp)) ?_
  conv => whnf
  exact ⟨rfl, rfl⟩
set_option maxRecDepth 100000 in
set_option maxHeartbeats 4000000 in
theorem look6_1 (l : List Ev) (hl : l.length ≤ 100000) (k : Ck) (c0 c1 c2 : Cr) (hk : allX 6 ⟨[zC, zC, zC], [], [], []⟩ l 0 = .ok k) (hc : k.cars = [c0, c1, c2]) (hcm : c1.cm.length ≤ 1) : Contract Tryd.prog (G0 bs) 6 [.agg [iV 3, iV 6, iV 1, iV 1], iV 1, .d (.list 9 (rowsV l))] [] (fun r t => r = .tup [sightV c1, nilE] ∧ t = []) := by
  have hall := all24_3 (bs := bs) 6 1 1 l hl
  rw [hk] at hall
  refine run6 0 [] rfl rfl ?_
  conv => whnf
  refine .obj rfl ?_
  conv => whnf
  refine ⟨_, _, ⟨WkL.refl _, hall⟩, fun res s1 h => ?_⟩
  obtain ⟨d0, d1, d2, hd, rfl, rfl⟩ := h
  rw [hc] at hd
  cases hd
  conv => whnf
  refine ⟨⟨by decide, by decide⟩, ?_⟩
  conv => whnf
  refine ⟨_, rfl, rfl, ?_⟩
  conv => whnf
  refine .grow _ _ (keys13N 8) ?_
  conv => whnf
  refine .grow _ _ (sorted12N 0 8 c1.cm hcm rfl (by simp)) ?_
  conv => whnf
  exact ⟨rfl, rfl⟩
set_option maxRecDepth 100000 in
set_option maxHeartbeats 4000000 in
theorem look6_2 (l : List Ev) (hl : l.length ≤ 100000) (k : Ck) (c0 c1 c2 : Cr) (hk : allX 6 ⟨[zC, zC, zC], [], [], []⟩ l 0 = .ok k) (hc : k.cars = [c0, c1, c2]) (hcm : c2.cm.length ≤ 1) : Contract Tryd.prog (G0 bs) 6 [.agg [iV 3, iV 6, iV 1, iV 1], iV 2, .d (.list 9 (rowsV l))] [] (fun r t => r = .tup [sightV c2, nilE] ∧ t = []) := by
  have hall := all24_3 (bs := bs) 6 1 1 l hl
  rw [hk] at hall
  refine run6 0 [] rfl rfl ?_
  conv => whnf
  refine .obj rfl ?_
  conv => whnf
  refine ⟨_, _, ⟨WkL.refl _, hall⟩, fun res s1 h => ?_⟩
  obtain ⟨d0, d1, d2, hd, rfl, rfl⟩ := h
  rw [hc] at hd
  cases hd
  conv => whnf
  refine ⟨⟨by decide, by decide⟩, ?_⟩
  conv => whnf
  refine ⟨_, rfl, rfl, ?_⟩
  conv => whnf
  refine .grow _ _ (keys13N 9) ?_
  conv => whnf
  refine .grow _ _ (sorted12N 0 9 c2.cm hcm rfl (by simp)) ?_
  conv => whnf
  exact ⟨rfl, rfl⟩
end Go.Proofs.YtgadgajhahfabaaDoor
