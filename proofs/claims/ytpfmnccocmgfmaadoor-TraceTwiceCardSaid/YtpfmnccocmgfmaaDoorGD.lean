/- The seat's texts, part 4: what single functions of the program compute; no statement of its own. -/
import Derived.Test.YtpfmnccocmgfmaaDoorGB
import Derived.Test.YtpfmnccocmgfmaaDoorGC
import Derived.Test.YtpfmnccocmgfmaaDoorFrD
import Derived.Test.YtpfmnccocmgfmaaDoorSq
import Derived.Test.YtpfmnccocmgfmaaDoorGA
import Derived.LaidLaws
import Derived.ChangeSame
import Derived.ChangeVars
import Derived.Test.YtpfmnccocmgfmaaDoorRows
/- Seat D: kinds of events. -/
namespace Go.Proofs.YtpfmnccocmgfmaaDoor
open Go.Pv Go.RowKit
/-- A check of a row of one's own that is wanted no more. -/
theorem check13_O {bs : Nat → Addr} (q2 q3 q4 : Int) (l : List Ev) (hl : l.length ≤ 100000) (cap : Nat) : Contract Tryd.prog (G0 bs) 13 [.agg [iV 3, iV q2, iV q3, iV q4], .slc (.g 0) 9 0 l.length cap] [(0, .row 9 (rowsV l))] (fun r t => r = errA bs (errOf (allX q2 ⟨[zC, zC, zC], [], [], []⟩ l 0)) ∧ t = [(0, .dead)]) := by
  have h0 := check13_3 (bs := bs) q2 q3 q4 l hl
  have e : fzL 0 (AB.row 9 (rowsV l)) [.agg [iV 3, iV q2, iV q3, iV q4], .slc (.g 0) 9 0 l.length cap] = [.agg [iV 3, iV q2, iV q3, iV q4], .d (.list 9 ((List.drop 0 (rowsV l)).take l.length))] := rfl
  refine Contract.frz (by simp) ?_ rfl ?_
  · repeat' first | exact trivial | apply And.intro | decide | (rw [rowsV_len]; omega)
  rw [e, List.drop_zero, List.take_of_length_le (by rw [rowsV_len]; exact Nat.le_refl _)]
  exact h0
abbrev evk (i : Nat) : Ev := ⟨11, (i % 3 : Nat), (0, 0, 0), (0, 0), 0, 0⟩
abbrev evx (kd ca : Int) : Ev := ⟨kd, ca, (0, 0, 0), (0, 0), 0, 0⟩
def ahead (n : Nat) : List Ev := (List.range n).map evk
theorem ahead_len (n : Nat) : (ahead n).length = n := by simp [ahead]
theorem ahead_succ (n : Nat) : ahead (n + 1) = ahead n ++ [evk n] := by simp [ahead, List.range_succ]
abbrev k3 : Ck := ⟨[zC, zC, zC], [], [], []⟩
theorem allX_app {f : Int} : ∀ (l r : List Ev) (k : Ck) (i : Nat), allX f k (l ++ r) i = (match allX f k l i with
    | .error p => .error p
    | .ok k' => allX f k' r (i + l.length))
  | [], r, k, i => rfl
  | e :: l, r, k, i => by
    simp only [List.cons_append, allX]
    cases eventX f k e with
    | error g => rfl
    | ok k' =>
      simp only [allX_app l r k' (i + 1), List.length_cons]
      rw [show i + (l.length + 1) = i + 1 + l.length by omega]
theorem ahead_ok {f : Int} (n : Nat) : allX f k3 (ahead n) 0 = .ok k3 := by
  induction n with
  | zero => rfl
  | succ n ih =>
    rw [ahead_succ, allX_app, ih]
    have h : n % 3 = 0 ∨ n % 3 = 1 ∨ n % 3 = 2 := by omega
    rcases h with h | h | h <;> simp [allX, eventX, carX, evk, h]
/-- What comes of an event of kind k and car c. -/
def wantK (n : Nat) (k c : Int) : Int × Nat :=
  if k < 1 ∨ k > 11 then ((n : Int), 1)
  else if c < 0 ∨ c ≥ 3 then ((n : Int), 0)
  else if k = 3 ∨ k = 4 ∨ k = 7 then ((n : Int), 9)
  else if k = 6 ∨ k = 8 then ((n : Int), 2)
  else ((n : Int) + 1, 1)
theorem kinds (n : Nat) (k c : Int) : errOf (allX 3 k3 (ahead n ++ [evx k c, evx 99 0]) 0) = some (wantK n k c) := by
  rw [allX_app, ahead_ok, ahead_len]
  show errOf (allX 3 k3 [evx k c, evx 99 0] (0 + n)) = _
  unfold wantK
  by_cases h1 : k < 1 ∨ k > 11
  · rw [if_pos h1]
    simp [allX, eventX, evx, h1, errOf]
  rw [if_neg h1]
  by_cases h2 : c < 0 ∨ c ≥ 3
  · rw [if_pos h2]
    have : c < 0 ∨ 3 ≤ c := h2
    simp [allX, eventX, evx, h1, this, errOf]
  rw [if_neg h2]
  have hc : c = 0 ∨ c = 1 ∨ c = 2 := by omega
  have hk : k = 1 ∨ k = 2 ∨ k = 3 ∨ k = 4 ∨ k = 5 ∨ k = 6 ∨ k = 7 ∨ k = 8 ∨ k = 9 ∨ k = 10 ∨ k = 11 := by omega
  clear h1 h2
  have he : ∀ i : Nat, errOf (allX 3 k3 [evx k c, evx 99 0] i) = some (if k = 3 ∨ k = 4 ∨ k = 7 then ((i : Int), 9) else if k = 6 ∨ k = 8 then ((i : Int), 2) else (((i + 1 : Nat) : Int), 1)) := fun i => by
    rcases hc with rfl | rfl | rfl <;> rcases hk with rfl | rfl | rfl | rfl | rfl | rfl | rfl | rfl | rfl | rfl | rfl <;> rfl
  rw [he, Nat.zero_add]
  simp
abbrev house (a b c d : Int) : AB := .cells [iV a, iV b, iV c, iV d]
set_option maxRecDepth 100000 in
set_option maxHeartbeats 4000000 in
theorem traceKinds {bs : Nat → Addr} (ha : Apart bs) (kd ca z : Int) : Contract Tryd.prog (G0 bs) 3 [iV kd, iV ca, iV z] [] (fun r t => r = .d (.bool true) ∧ t = []) := by
  have gn := numX_ge (n := z) (m := 20) (by omega)
  have ln := numX_lt (n := z) (m := 20) (by omega)
  have nn := number10 (bs := bs) z 20 (by omega) (by omega)
  obtain ⟨n, hn⟩ : ∃ n : Nat, numX z 20 = (n : Int) := ⟨(numX z 20).toNat, by omega⟩
  rw [hn] at gn ln nn
  have c1 := check13_3 (bs := bs) 3 1 1 (ahead n ++ [evx kd ca, evx 99 0]) (by simp [ahead_len]; omega)
  have hk := kinds n kd ca
  unfold k3 at hk
  rw [hk] at c1
  let EK : Nat → List (Nat × AV) := fun n => [(0, iV kd), (1, iV ca), (2, iV n), (7, bV true), (8, .ref (.g 0) 0), (9, .d (.list 9 (rowsV (ahead n ++ [evx kd ca, evx 99 0]))))]
  let EO : Nat → Nat → List (Nat × AV) := fun n c => [(0, iV kd), (1, iV ca), (2, iV n), (7, bV true), (8, .ref (.g 0) 0), (9, .slc (.g 1) 9 0 (n + 2) c)]
  let SO : Nat → List (Nat × AB) := fun n => [(0, house 3 3 1 1), (1, .row 9 (rowsV (ahead n ++ [evx kd ca, evx 99 0])))]
  have tail : StopG Tryd.prog (cx3 bs) 0 R3 (KV T Tryd.f3.results.toList 0 fun r t => r = AV.d (DV.bool true) ∧ t = []) [0, 1, 1, 1, 1, 1, 1, 1, 1] [Fr.sq [1, 1, 1, 1, 1, 1, 1, 1, 1]] (EK n) [(0, house 3 3 1 1)] := by
    have hlt : n < 20 := by omega
    clear_value EO SO
    refine .go wk3 [] ?_
    conv => whnf
    refine .data [iV 107, iV n] _ ⟨WkL.refl _, rfl, placed11 107 n (by decide)⟩ ?_
    conv => whnf
    refine bcase_intro (fun h1 => ?_) (fun h1 => ?_) <;> conv => whnf
    · refine .data [iV 103, iV n] _ ⟨WkL.refl _, rfl, placed11 103 n (by decide)⟩ ?_
      conv => whnf
      have hca : ca = 0 ∨ ca = 1 ∨ ca = 2 ∨ ¬ (ca = 0 ∨ ca = 1 ∨ ca = 2) := by omega
      have hkd : 1 ≤ kd ∧ kd ≤ 11 := by simpa using h1
      refine bcase_intro (fun h2 => ?_) (fun h2 => ?_)
      · have hca2 : 0 ≤ ca ∧ ca < 3 := by simpa using h2
        have hk : kd = 1 ∨ kd = 2 ∨ kd = 3 ∨ kd = 4 ∨ kd = 5 ∨ kd = 6 ∨ kd = 7 ∨ kd = 8 ∨ kd = 9 ∨ kd = 10 ∨ kd = 11 := by omega
        have hn3 : ¬ (ca < 0 ∨ ca ≥ 3) := by omega
        clear hkd h1 h2
        rcases hk with rfl | rfl | rfl | rfl | rfl | rfl | rfl | rfl | rfl | rfl | rfl <;> conv => whnf
        · rw [wrap_id (show -9223372036854775808 ≤ (n : Int) + 1 by omega) (by omega)]
          refine .data [iV 107, iV ((n : Int) + 1)] _ ⟨WkL.refl _, rfl, placed11 107 ((n : Int) + 1) (by decide)⟩ ?_
          conv => whnf
          have hw : wantK n 1 ca = ((n : Int) + 1, 1) := by simp [wantK, hn3]
          rw [hw] at c1
          refine .data [.agg [iV 3, iV 3, iV 1, iV 1], .d (.list 9 (rowsV (ahead n ++ [evx 1 ca, evx 99 0])))] _ (fun _ => ⟨WkL.refl _, rfl, c1⟩) ?_
          conv => whnf
          refine .scal [errA bs (some ((n : Int) + 1, 1)), faultV 107 true ((n : Int) + 1)] _ (fun _ => ⟨.refl _, rfl, same12 ha (some ((n : Int) + 1, 1)) (fun p g h => by cases h; omega) 107 true ((n : Int) + 1)⟩) ?_
          conv => whnf
          exact ⟨by simp [sameR, sameF, codeE, posE, ordE, List.findIdx, List.findIdx.go], rfl⟩
        · rw [wrap_id (show -9223372036854775808 ≤ (n : Int) + 1 by omega) (by omega)]
          refine .data [iV 107, iV ((n : Int) + 1)] _ ⟨WkL.refl _, rfl, placed11 107 ((n : Int) + 1) (by decide)⟩ ?_
          conv => whnf
          have hw : wantK n 2 ca = ((n : Int) + 1, 1) := by simp [wantK, hn3]
          rw [hw] at c1
          refine .data [.agg [iV 3, iV 3, iV 1, iV 1], .d (.list 9 (rowsV (ahead n ++ [evx 2 ca, evx 99 0])))] _ (fun _ => ⟨WkL.refl _, rfl, c1⟩) ?_
          conv => whnf
          refine .scal [errA bs (some ((n : Int) + 1, 1)), faultV 107 true ((n : Int) + 1)] _ (fun _ => ⟨.refl _, rfl, same12 ha (some ((n : Int) + 1, 1)) (fun p g h => by cases h; omega) 107 true ((n : Int) + 1)⟩) ?_
          conv => whnf
          exact ⟨by simp [sameR, sameF, codeE, posE, ordE, List.findIdx, List.findIdx.go], rfl⟩
        · refine .data [iV 108, iV ((n : Int))] _ ⟨WkL.refl _, rfl, placed11 108 ((n : Int)) (by decide)⟩ ?_
          conv => whnf
          have hw : wantK n 3 ca = ((n : Int), 9) := by simp [wantK, hn3]
          rw [hw] at c1
          refine .data [.agg [iV 3, iV 3, iV 1, iV 1], .d (.list 9 (rowsV (ahead n ++ [evx 3 ca, evx 99 0])))] _ (fun _ => ⟨WkL.refl _, rfl, c1⟩) ?_
          conv => whnf
          refine .scal [errA bs (some ((n : Int), 9)), faultV 108 true ((n : Int))] _ (fun _ => ⟨.refl _, rfl, same12 ha (some ((n : Int), 9)) (fun p g h => by cases h; omega) 108 true ((n : Int))⟩) ?_
          conv => whnf
          exact ⟨by simp [sameR, sameF, codeE, posE, ordE, List.findIdx, List.findIdx.go], rfl⟩
        · refine .data [iV 108, iV ((n : Int))] _ ⟨WkL.refl _, rfl, placed11 108 ((n : Int)) (by decide)⟩ ?_
          conv => whnf
          have hw : wantK n 4 ca = ((n : Int), 9) := by simp [wantK, hn3]
          rw [hw] at c1
          refine .data [.agg [iV 3, iV 3, iV 1, iV 1], .d (.list 9 (rowsV (ahead n ++ [evx 4 ca, evx 99 0])))] _ (fun _ => ⟨WkL.refl _, rfl, c1⟩) ?_
          conv => whnf
          refine .scal [errA bs (some ((n : Int), 9)), faultV 108 true ((n : Int))] _ (fun _ => ⟨.refl _, rfl, same12 ha (some ((n : Int), 9)) (fun p g h => by cases h; omega) 108 true ((n : Int))⟩) ?_
          conv => whnf
          exact ⟨by simp [sameR, sameF, codeE, posE, ordE, List.findIdx, List.findIdx.go], rfl⟩
        · rw [wrap_id (show -9223372036854775808 ≤ (n : Int) + 1 by omega) (by omega)]
          refine .data [iV 107, iV ((n : Int) + 1)] _ ⟨WkL.refl _, rfl, placed11 107 ((n : Int) + 1) (by decide)⟩ ?_
          conv => whnf
          have hw : wantK n 5 ca = ((n : Int) + 1, 1) := by simp [wantK, hn3]
          rw [hw] at c1
          refine .data [.agg [iV 3, iV 3, iV 1, iV 1], .d (.list 9 (rowsV (ahead n ++ [evx 5 ca, evx 99 0])))] _ (fun _ => ⟨WkL.refl _, rfl, c1⟩) ?_
          conv => whnf
          refine .scal [errA bs (some ((n : Int) + 1, 1)), faultV 107 true ((n : Int) + 1)] _ (fun _ => ⟨.refl _, rfl, same12 ha (some ((n : Int) + 1, 1)) (fun p g h => by cases h; omega) 107 true ((n : Int) + 1)⟩) ?_
          conv => whnf
          exact ⟨by simp [sameR, sameF, codeE, posE, ordE, List.findIdx, List.findIdx.go], rfl⟩
        · refine .data [iV 109, iV ((n : Int))] _ ⟨WkL.refl _, rfl, placed11 109 ((n : Int)) (by decide)⟩ ?_
          conv => whnf
          have hw : wantK n 6 ca = ((n : Int), 2) := by simp [wantK, hn3]
          rw [hw] at c1
          refine .data [.agg [iV 3, iV 3, iV 1, iV 1], .d (.list 9 (rowsV (ahead n ++ [evx 6 ca, evx 99 0])))] _ (fun _ => ⟨WkL.refl _, rfl, c1⟩) ?_
          conv => whnf
          refine .scal [errA bs (some ((n : Int), 2)), faultV 109 true ((n : Int))] _ (fun _ => ⟨.refl _, rfl, same12 ha (some ((n : Int), 2)) (fun p g h => by cases h; omega) 109 true ((n : Int))⟩) ?_
          conv => whnf
          exact ⟨by simp [sameR, sameF, codeE, posE, ordE, List.findIdx, List.findIdx.go], rfl⟩
        · refine .data [iV 108, iV ((n : Int))] _ ⟨WkL.refl _, rfl, placed11 108 ((n : Int)) (by decide)⟩ ?_
          conv => whnf
          have hw : wantK n 7 ca = ((n : Int), 9) := by simp [wantK, hn3]
          rw [hw] at c1
          refine .data [.agg [iV 3, iV 3, iV 1, iV 1], .d (.list 9 (rowsV (ahead n ++ [evx 7 ca, evx 99 0])))] _ (fun _ => ⟨WkL.refl _, rfl, c1⟩) ?_
          conv => whnf
          refine .scal [errA bs (some ((n : Int), 9)), faultV 108 true ((n : Int))] _ (fun _ => ⟨.refl _, rfl, same12 ha (some ((n : Int), 9)) (fun p g h => by cases h; omega) 108 true ((n : Int))⟩) ?_
          conv => whnf
          exact ⟨by simp [sameR, sameF, codeE, posE, ordE, List.findIdx, List.findIdx.go], rfl⟩
        · refine .data [iV 109, iV ((n : Int))] _ ⟨WkL.refl _, rfl, placed11 109 ((n : Int)) (by decide)⟩ ?_
          conv => whnf
          have hw : wantK n 8 ca = ((n : Int), 2) := by simp [wantK, hn3]
          rw [hw] at c1
          refine .data [.agg [iV 3, iV 3, iV 1, iV 1], .d (.list 9 (rowsV (ahead n ++ [evx 8 ca, evx 99 0])))] _ (fun _ => ⟨WkL.refl _, rfl, c1⟩) ?_
          conv => whnf
          refine .scal [errA bs (some ((n : Int), 2)), faultV 109 true ((n : Int))] _ (fun _ => ⟨.refl _, rfl, same12 ha (some ((n : Int), 2)) (fun p g h => by cases h; omega) 109 true ((n : Int))⟩) ?_
          conv => whnf
          exact ⟨by simp [sameR, sameF, codeE, posE, ordE, List.findIdx, List.findIdx.go], rfl⟩
        · rw [wrap_id (show -9223372036854775808 ≤ (n : Int) + 1 by omega) (by omega)]
          refine .data [iV 107, iV ((n : Int) + 1)] _ ⟨WkL.refl _, rfl, placed11 107 ((n : Int) + 1) (by decide)⟩ ?_
          conv => whnf
          have hw : wantK n 9 ca = ((n : Int) + 1, 1) := by simp [wantK, hn3]
          rw [hw] at c1
          refine .data [.agg [iV 3, iV 3, iV 1, iV 1], .d (.list 9 (rowsV (ahead n ++ [evx 9 ca, evx 99 0])))] _ (fun _ => ⟨WkL.refl _, rfl, c1⟩) ?_
          conv => whnf
          refine .scal [errA bs (some ((n : Int) + 1, 1)), faultV 107 true ((n : Int) + 1)] _ (fun _ => ⟨.refl _, rfl, same12 ha (some ((n : Int) + 1, 1)) (fun p g h => by cases h; omega) 107 true ((n : Int) + 1)⟩) ?_
          conv => whnf
          exact ⟨by simp [sameR, sameF, codeE, posE, ordE, List.findIdx, List.findIdx.go], rfl⟩
        · rw [wrap_id (show -9223372036854775808 ≤ (n : Int) + 1 by omega) (by omega)]
          refine .data [iV 107, iV ((n : Int) + 1)] _ ⟨WkL.refl _, rfl, placed11 107 ((n : Int) + 1) (by decide)⟩ ?_
          conv => whnf
          have hw : wantK n 10 ca = ((n : Int) + 1, 1) := by simp [wantK, hn3]
          rw [hw] at c1
          refine .data [.agg [iV 3, iV 3, iV 1, iV 1], .d (.list 9 (rowsV (ahead n ++ [evx 10 ca, evx 99 0])))] _ (fun _ => ⟨WkL.refl _, rfl, c1⟩) ?_
          conv => whnf
          refine .scal [errA bs (some ((n : Int) + 1, 1)), faultV 107 true ((n : Int) + 1)] _ (fun _ => ⟨.refl _, rfl, same12 ha (some ((n : Int) + 1, 1)) (fun p g h => by cases h; omega) 107 true ((n : Int) + 1)⟩) ?_
          conv => whnf
          exact ⟨by simp [sameR, sameF, codeE, posE, ordE, List.findIdx, List.findIdx.go], rfl⟩
        · rw [wrap_id (show -9223372036854775808 ≤ (n : Int) + 1 by omega) (by omega)]
          refine .data [iV 107, iV ((n : Int) + 1)] _ ⟨WkL.refl _, rfl, placed11 107 ((n : Int) + 1) (by decide)⟩ ?_
          conv => whnf
          have hw : wantK n 11 ca = ((n : Int) + 1, 1) := by simp [wantK, hn3]
          rw [hw] at c1
          refine .data [.agg [iV 3, iV 3, iV 1, iV 1], .d (.list 9 (rowsV (ahead n ++ [evx 11 ca, evx 99 0])))] _ (fun _ => ⟨WkL.refl _, rfl, c1⟩) ?_
          conv => whnf
          refine .scal [errA bs (some ((n : Int) + 1, 1)), faultV 107 true ((n : Int) + 1)] _ (fun _ => ⟨.refl _, rfl, same12 ha (some ((n : Int) + 1, 1)) (fun p g h => by cases h; omega) 107 true ((n : Int) + 1)⟩) ?_
          conv => whnf
          exact ⟨by simp [sameR, sameF, codeE, posE, ordE, List.findIdx, List.findIdx.go], rfl⟩
      · conv => whnf
        have hca2 : ca < 0 ∨ ca ≥ 3 := by
          cases q : decide (ca ≥ 0) <;> cases q2 : decide (ca < 3) <;> simp_all <;> omega
        have hkn : ¬ (kd < 1 ∨ kd > 11) := by omega
        have hw : wantK n kd ca = ((n : Int), 0) := by rw [wantK, if_neg hkn, if_pos hca2]
        rw [hw] at c1
        refine .data [.agg [iV 3, iV 3, iV 1, iV 1], .d (.list 9 (rowsV (ahead n ++ [evx kd ca, evx 99 0])))] _ (fun _ => ⟨WkL.refl _, rfl, c1⟩) ?_
        conv => whnf
        refine .scal [errA bs (some ((n : Int), 0)), faultV 103 true ((n : Int))] _ (fun _ => ⟨.refl _, rfl, same12 ha (some ((n : Int), 0)) (fun p g h => by cases h; omega) 103 true ((n : Int))⟩) ?_
        conv => whnf
        exact ⟨by simp [sameR, sameF, codeE, posE, ordE, List.findIdx, List.findIdx.go], rfl⟩
    · have hkn : kd < 1 ∨ kd > 11 := by
        cases q : decide (kd ≥ 1) <;> cases q2 : decide (kd ≤ 11) <;> simp_all <;> omega
      have hw : wantK n kd ca = ((n : Int), 1) := by rw [wantK, if_pos hkn]
      rw [hw] at c1
      refine .data [.agg [iV 3, iV 3, iV 1, iV 1], .d (.list 9 (rowsV (ahead n ++ [evx kd ca, evx 99 0])))] _ (fun _ => ⟨WkL.refl _, rfl, c1⟩) ?_
      conv => whnf
      refine .scal [errA bs (some ((n : Int), 1)), faultV 107 true ((n : Int))] _ (fun _ => ⟨.refl _, rfl, same12 ha (some ((n : Int), 1)) (fun p g h => by cases h; omega) 107 true ((n : Int))⟩) ?_
      conv => whnf
      exact ⟨by simp [sameR, sameF, codeE, posE, ordE, List.findIdx, List.findIdx.go], rfl⟩
  have pre : ∀ c : Nat, n + 2 ≤ c → StopG Tryd.prog (cx3 bs) 0 R3 (KV T Tryd.f3.results.toList 0 fun r t => r = AV.d (DV.bool true) ∧ t = []) [0, 1, 1, 1, 1, 1, 1, 1, 1] [Fr.sq [1, 1, 1, 1, 1, 1, 1, 1, 1]] (EO n c) (SO n) := by
    intro c hc
    have hn20 : n < 20 := by omega
    refine .ghost (env' := EK n) (s' := [(0, house 3 3 1 1)]) (GV.trans (GV.freeze 1 rfl (by simp) (by repeat' first | exact trivial | apply And.intro | decide | (simp [rowsV_len, ahead_len]; done) | omega) (by repeat' first | exact trivial | apply And.intro)) (GV.tidied [0, 1, 2, 7, 8, 9] ?_)) tail
    have e : (List.drop 0 (rowsV (ahead n ++ [evx kd ca, evx 99 0]))).take (n + 2) = rowsV (ahead n ++ [evx kd ca, evx 99 0]) := by
      rw [List.drop_zero, List.take_of_length_le (by rw [rowsV_len]; simp [ahead_len])]
    conv => whnf
    refine ⟨?_, rfl⟩
    show [(0, iV kd), (1, iV ca), (2, iV n), (7, bV true), (8, AV.ref (.g 0) 0), (9, AV.d (.list 9 ((List.drop 0 (rowsV (ahead n ++ [evx kd ca, evx 99 0]))).take (n + 2))))] = _
    rw [e]
  refine run3 0 [12] rfl rfl ?_
  conv => whnf
  refine .scal [] _ ⟨.refl _, rfl, first9 ha⟩ ?_
  conv => whnf
  refine .scal [iV z, iV 20] _ ⟨.refl _, rfl, nn⟩ ?_
  conv => whnf
  refine StopG.rounds wk3 [12] [0, 1, 2, 7, 8, 9, 10] (fun m env s => ∃ i : Nat, i ≤ n ∧ m = n - i ∧ ((i = 0 ∧ env = [(0, iV kd), (1, iV ca), (2, iV n), (7, bV true), (8, .ref (.g 0) 0), (9, .d .nil), (10, iV i)] ∧ s = [(0, house 3 3 1 1)]) ∨ ∃ c, i ≤ c ∧ env = [(0, iV kd), (1, iV ca), (2, iV n), (7, bV true), (8, .ref (.g 0) 0), (9, .slc (.g 1) 9 0 i c), (10, iV i)] ∧ s = [(0, house 3 3 1 1), (1, .row 9 (rowsV (ahead i)))])) rfl ?_ ?_
  · conv => whnf
    exact ⟨_, 0, Nat.zero_le _, rfl, .inl ⟨rfl, rfl, rfl⟩⟩
  rintro m env s ⟨i, hi, rfl, ⟨rfl, rfl, rfl⟩ | ⟨c, hc, rfl, rfl⟩⟩
  · conv => whnf
    refine bcase_intro (fun h => ?_) (fun h => ?_) <;> conv => whnf
    · have hil := lt_of h
      refine ⟨⟨rfl, by omega⟩, ?_⟩
      conv => whnf
      refine ⟨⟨?_, ?_⟩, ?_⟩
      · show (2 * 1 + 1024) * 72 ≤ 281474976710656; omega
      · show 1 ≤ _; omega
      conv => whnf
      intro c2 hc2
      conv => whnf
      rw [succ_i hil (by omega)]
      exact ⟨_, by omega, 1, hil, rfl, .inr ⟨c2, hc2, rfl, rfl⟩⟩
    · have hil := ge_of h
      have hn0 : n = 0 := by omega
      subst hn0
      refine ⟨⟨?_, ?_⟩, ?_⟩
      · show (2 * 2 + 1024) * 72 ≤ 281474976710656; omega
      · show 2 ≤ _; omega
      conv => whnf
      intro c2 hc2
      conv => whnf
      refine .ghost (GV.tidied [0, 1, 2, 7, 8, 9] (E := EO 0 c2) (S := SO 0) ?_) (pre c2 (by simpa using hc2))
      conv => whnf
      exact ⟨rfl, rfl⟩
  · conv => whnf
    refine bcase_intro (fun h => ?_) (fun h => ?_) <;> conv => whnf
    · have hil := lt_of h
      refine ⟨⟨rfl, by omega⟩, ?_⟩
      conv => whnf
      refine ⟨by rw [rowsV_len, ahead_len]; omega, ⟨?_, ?_⟩, ?_⟩
      · show (2 * (i + 1) + 1024) * 72 ≤ 281474976710656; omega
      · show i + 1 ≤ _; omega
      conv => whnf
      intro c2 hc2
      conv => whnf
      rw [succ_i hil (by omega), List.take_of_length_le (by rw [rowsV_len, ahead_len]; exact Nat.le_refl _)]
      refine ⟨_, by omega, i + 1, hil, rfl, .inr ⟨c2, by simpa using hc2, rfl, ?_⟩⟩
      rw [ahead_succ, show rowsV (ahead i ++ [evk i]) = rowsV (ahead i) ++ [rowV (evk i)] by simp [rowsV]]
      have e3 : ((i : Int)).tmod 3 = ((i % 3 : Nat) : Int) := (Int.ofNat_tmod i 3).symm
      rw [e3]
      rfl
    · have hil := ge_of h
      have hin : i = n := by omega
      subst hin
      refine ⟨by rw [rowsV_len, ahead_len]; omega, ⟨?_, ?_⟩, ?_⟩
      · show (2 * (i + 2) + 1024) * 72 ≤ 281474976710656; omega
      · show i + 2 ≤ _; omega
      conv => whnf
      intro c2 hc2
      conv => whnf
      rw [List.take_of_length_le (by rw [rowsV_len, ahead_len]; exact Nat.le_refl _)]
      refine .ghost (GV.tidied [0, 1, 2, 7, 8, 9] (E := EO i c2) (S := SO i) ?_) (pre c2 (by simpa using hc2))
      conv => whnf
      exact ⟨by simp only [EO]; rfl, by simp only [SO, rowsV, List.map_append]; rfl⟩
end Go.Proofs.YtpfmnccocmgfmaaDoor
/- Seat D: what is told twice. -/
namespace Go.Proofs.YtpfmnccocmgfmaaDoor
open Go.Pv Go.RowKit
abbrev evm (i : Nat) : Ev := ⟨7, 2, (0, 0, 0), (0, 0), (i % 4 : Nat), 1⟩
def moves (n : Nat) : List Ev := (List.range n).map evm
theorem moves_len (n : Nat) : (moves n).length = n := by simp [moves]
theorem moves_succ (n : Nat) : moves (n + 1) = moves n ++ [evm n] := by simp [moves, List.range_succ]
/-- What each of the six stands for. -/
def five : List Ev := [⟨3, 1, (0, 0, 0), (2, 1), 0, 0⟩, ⟨4, 0, (0, 0, 0), (2, 1), 0, 0⟩, ⟨2, 1, (2, 1, 1), (2, 1), 0, 0⟩, ⟨1, 1, (2, 1, 1), (2, 1), 0, 0⟩, ⟨5, 1, (0, 0, 0), (0, 0), 2, 1⟩]
def sixth (k : Nat) : Ev := match k with
  | 0 => ⟨1, 0, (2, 1, 1), (2, 1), 0, 0⟩
  | 1 => ⟨2, 0, (2, 1, 1), (2, 1), 0, 0⟩
  | 2 => ⟨3, 2, (0, 0, 0), (2, 1), 0, 0⟩
  | 3 => ⟨5, 1, (0, 0, 0), (0, 0), 2, 0⟩
  | 4 => ⟨7, 1, (0, 0, 0), (0, 0), 3, 1⟩
  | _ => ⟨4, 0, (0, 0, 0), (2, 1), 0, 0⟩
def sixE (k : Nat) : Nat := match k with
  | 0 => 3
  | 1 => 3
  | 2 => 3
  | 3 => 2
  | 4 => 2
  | _ => 9
def last : Ev := ⟨8, 1, (2, 1, 1), (2, 1), 2, 0⟩
set_option maxRecDepth 100000 in
theorem twice_all (n : Nat) (hn : n < 9) : errOf (allX 4 k3 (moves n ++ five) 0) = none ∧ errOf (allX 4 k3 (moves n ++ five ++ [last]) 0) = none ∧ ∀ k, k < 6 → errOf (allX 4 k3 (moves n ++ five ++ [sixth k]) 0) = some (((n + 5 : Nat) : Int), sixE k) := by
  have h : ∀ n : Fin 9, errOf (allX 4 k3 (moves n.1 ++ five) 0) = none ∧ errOf (allX 4 k3 (moves n.1 ++ five ++ [last]) 0) = none ∧ ∀ k : Fin 6, errOf (allX 4 k3 (moves n.1 ++ five ++ [sixth k.1]) 0) = some (((n.1 + 5 : Nat) : Int), sixE k.1) := by
    decide +kernel
  obtain ⟨h1, h2, h3⟩ := h ⟨n, hn⟩
  exact ⟨h1, h2, fun k hk => h3 ⟨k, hk⟩⟩
abbrev S5 : List (Nat × AB) := [(0, house 3 4 1 1), (1, .cells [iV 2, iV 1]), (2, .cells [iV 2, iV 1, iV 1])]
abbrev evC (e : Ev) : AB := .cells [iV e.kd, iV e.ca, iV e.lt.1, iV e.lt.2.1, iV e.lt.2.2, iV e.ep.1, iV e.ep.2, iV e.fl, iV e.di]
abbrev E5 (n : Nat) (c : Int) : List (Nat × AV) := [(1, iV n), (5, bV true), (6, .ref (.g 0) 0), (7, .ref (.g 1) 0), (8, .ref (.g 2) 0), (9, .d (.list 9 (rowsV (moves n ++ five)))), (11, iV c)]
abbrev K5 (bs : Nat → Addr) := KV T Tryd.f5.results.toList 0 fun r t => r = AV.d (DV.bool true) ∧ t = []
set_option maxRecDepth 100000 in
set_option maxHeartbeats 4000000 in
theorem twice_tail {bs : Nat → Addr} (ha : Apart bs) (n : Nat) (hn : n < 9) (e : Ev) (g : Nat) (hg : g < 13) (h1 : errOf (allX 4 k3 (moves n ++ five ++ [e]) 0) = some (((n + 5 : Nat) : Int), g)) (h2 : errOf (allX 4 k3 (moves n ++ five ++ [last]) 0) = none) :
    StopG Tryd.prog (cx5 bs) 0 R5 (K5 bs) [0, 1, 1, 1, 1, 1, 1, 1, 1, 1, 1, 1, 1, 1, 1] [Fr.sq [1, 1, 1, 1, 1, 1, 1, 1, 1, 1, 1, 1, 1, 1, 1]] (E5 n (codeE g) ++ [(12, .ref (.g 3) 0)]) (S5 ++ [(3, evC e)]) := by
  have hl : (rowsV (moves n ++ five)).length = n + 5 := by rw [rowsV_len]; simp [moves_len, five]
  obtain ⟨x, xs, hx⟩ : ∃ x xs, rowsV (moves n ++ five) = x :: xs := by
    cases h : rowsV (moves n ++ five) with
    | nil => rw [h] at hl; simp at hl
    | cons x xs => exact ⟨x, xs, rfl⟩
  have hxl : xs.length + 1 = n + 5 := by rw [← hl, hx]; rfl
  have own : ∀ (e : Ev) (r : Option (Int × Nat)), errOf (allX 4 k3 (moves n ++ five ++ [e]) 0) = r → ∀ cap, Contract Tryd.prog (G0 bs) 13 [.agg [iV 3, iV 4, iV 1, iV 1], .slc (.g 0) 9 0 (xs.length + 1 + 1) cap] [(0, .row 9 (List.take (xs.length + 1) (x :: xs) ++ [rowV e]))] (fun q t => q = errA bs r ∧ t = [(0, .dead)]) := fun e r h cap => by
    have := check13_O (bs := bs) 4 1 1 (moves n ++ five ++ [e]) (by simp [moves_len, five]; omega) cap
    unfold k3 at h
    rw [h] at this
    have e1 : List.take (xs.length + 1) (x :: xs) ++ [rowV e] = rowsV (moves n ++ five ++ [e]) := by
      rw [List.take_of_length_le (by simp), ← hx]
      simp [rowsV]
    have e2 : xs.length + 1 + 1 = (moves n ++ five ++ [e]).length := by
      simp [moves_len, five]; omega
    rw [e1, e2]
    exact this
  have c3 := own e _ h1
  have cla := own last _ h2
  unfold E5
  rw [hx]
  refine StopG.draw wk5 [34] sp5_33 [1, 5, 6, 7, 8, 9, 11, 13] (fun env s => env = [(1, iV n), (5, bV true), (6, .ref (.g 0) 0), (7, .ref (.g 1) 0), (8, .ref (.g 2) 0), (9, .d (.list 9 (x :: xs))), (11, iV (codeE g)), (13, errA bs (some (((n + 5 : Nat) : Int), g)))] ∧ s = S5) rfl rfl (by kernel_rfl) ?_ ?_
  · conv => whnf
    repeat' (first
      | (refine Both.mk ?_ ?_ <;> conv => whnf)
      | (refine .obj rfl ?_; (conv => whnf); refine ⟨_, _, ⟨WkL.refl _, c3 _⟩, fun res s1 h => ?_⟩; obtain ⟨rfl, rfl⟩ := h; (conv => whnf); exact ⟨rfl, rfl⟩)
      | (refine ⟨⟨show (2 * (xs.length + 1) + 1024) * 72 ≤ 281474976710656 by omega, show xs.length + 1 ≤ 4611686018427387904 by omega⟩, ?_⟩; (conv => whnf); intro c2 hc2; conv => whnf)
      | (refine ⟨by simp, ⟨?_, ?_⟩, ?_⟩; (show (2 * (xs.length + 1 + 1) + 1024) * 72 ≤ 281474976710656; omega); (show xs.length + 1 + 1 ≤ _; omega); (conv => whnf); intro c2 hc2; conv => whnf))
  rintro env s ⟨rfl, rfl⟩
  conv => whnf
  refine StopG.draw wk5 [] sp5_34 [1, 5, 11, 13, 14] (fun env s => env = [(1, iV n), (5, bV true), (11, iV (codeE g)), (13, errA bs (some (((n + 5 : Nat) : Int), g))), (14, errA bs none)] ∧ s = []) rfl rfl (by kernel_rfl) ?_ ?_
  · conv => whnf
    repeat' (first
      | (refine Both.mk ?_ ?_ <;> conv => whnf)
      | (refine .obj rfl ?_; (conv => whnf); refine ⟨_, _, ⟨WkL.refl _, cla _⟩, fun res s1 h => ?_⟩; obtain ⟨rfl, rfl⟩ := h; (conv => whnf); exact ⟨rfl, rfl⟩)
      | (refine ⟨⟨show (2 * (xs.length + 1) + 1024) * 72 ≤ 281474976710656 by omega, show xs.length + 1 ≤ 4611686018427387904 by omega⟩, ?_⟩; (conv => whnf); intro c2 hc2; conv => whnf)
      | (refine ⟨by simp, ⟨?_, ?_⟩, ?_⟩; (show (2 * (xs.length + 1 + 1) + 1024) * 72 ≤ 281474976710656; omega); (show xs.length + 1 + 1 ≤ _; omega); (conv => whnf); intro c2 hc2; conv => whnf))
  rintro env s ⟨rfl, rfl⟩
  have hs := same12 ha (some (((n + 5 : Nat) : Int), g)) (fun p q h => by cases h; exact hg) (codeE g) true ((n + 5 : Nat) : Int)
  rw [sameR_refl] at hs
  conv => whnf
  rw [wrap_id (show -9223372036854775808 ≤ (n : Int) + 5 by omega) (by omega)]
  refine .data [iV (codeE g), iV ((n + 5 : Nat) : Int)] _ (fun _ => ⟨WkL.refl _, rfl, placed11 _ _ (codeE_ne g)⟩) ?_
  conv => whnf
  refine .scal [errA bs (some (((n + 5 : Nat) : Int), g)), faultV (codeE g) true ((n + 5 : Nat) : Int)] _ (fun _ => ⟨.refl _, rfl, hs⟩) ?_
  conv => whnf
  exact ⟨rfl, rfl⟩
set_option maxRecDepth 100000 in
set_option maxHeartbeats 4000000 in
theorem traceTwice {bs : Nat → Addr} (ha : Apart bs) (wh z : Int) : Contract Tryd.prog (G0 bs) 5 [iV wh, iV z] [] (fun r t => r = .d (.bool true) ∧ t = []) := by
  have gn := numX_ge (n := z) (m := 9) (by omega)
  have ln := numX_lt (n := z) (m := 9) (by omega)
  have nn := number10 (bs := bs) z 9 (by omega) (by omega)
  obtain ⟨n, hn⟩ : ∃ n : Nat, numX z 9 = (n : Int) := ⟨(numX z 9).toNat, by omega⟩
  rw [hn] at gn ln nn
  have gk := numX_ge (n := wh) (m := 6) (by omega)
  have lk := numX_lt (n := wh) (m := 6) (by omega)
  have nk := number10 (bs := bs) wh 6 (by omega) (by omega)
  obtain ⟨k, hk⟩ : ∃ k : Nat, numX wh 6 = (k : Int) := ⟨(numX wh 6).toNat, by omega⟩
  rw [hk] at gk lk nk
  obtain ⟨a1, a2, a3⟩ := twice_all n (by omega)
  have a3 := a3 k (by omega)
  let S0 : List (Nat × AB) := [(0, house 3 4 1 1), (1, .cells [iV 2, iV 1]), (2, .cells [iV 2, iV 1, iV 1])]
  let EK : Nat → List (Nat × AV) := fun n => [(0, iV wh), (1, iV n), (5, bV true), (6, .ref (.g 0) 0), (7, .ref (.g 1) 0), (8, .ref (.g 2) 0), (9, .d (.list 9 (rowsV (moves n ++ five))))]
  let EO : Nat → Nat → List (Nat × AV) := fun n c => [(0, iV wh), (1, iV n), (5, bV true), (6, .ref (.g 0) 0), (7, .ref (.g 1) 0), (8, .ref (.g 2) 0), (9, .slc (.g 3) 9 0 (n + 5) c)]
  let SO : Nat → List (Nat × AB) := fun n => S0 ++ [(3, .row 9 (rowsV (moves n ++ five)))]
  have tail : StopG Tryd.prog (cx5 bs) 0 R5 (KV T Tryd.f5.results.toList 0 fun r t => r = AV.d (DV.bool true) ∧ t = []) [0, 0, 1, 1, 1, 1, 1, 1, 1, 1, 1, 1] [Fr.sq [1, 0, 1, 1, 1, 1, 1, 1, 1, 1, 1, 1], Fr.sq [1, 1, 1, 1, 1, 1, 1, 1, 1, 1, 1]] (EK n) S0 := by
    have c1 := check13_3 (bs := bs) 4 1 1 (moves n ++ five) (by simp [moves_len, five]; omega)
    have b1 := a1
    unfold k3 at b1
    rw [b1] at c1
    refine .go wk5 [33] ?_
    conv => whnf
    refine .data [.agg [iV 3, iV 4, iV 1, iV 1], .d (.list 9 (rowsV (moves n ++ five)))] _ ⟨WkL.refl _, rfl, c1⟩ ?_
    conv => whnf
    refine .scal [iV wh, iV 6] _ ⟨.refl _, rfl, nk⟩ ?_
    have hk6 : k = 0 ∨ k = 1 ∨ k = 2 ∨ k = 3 ∨ k = 4 ∨ k = 5 := by omega
    rcases hk6 with rfl | rfl | rfl | rfl | rfl | rfl <;> conv => whnf
    · exact .ghost (GV.tidied [1, 5, 6, 7, 8, 9, 11, 12] (by (conv => whnf); exact ⟨rfl, rfl⟩)) (twice_tail ha n (by omega) (sixth 0) 3 (by decide) a3 a2)
    · exact .ghost (GV.tidied [1, 5, 6, 7, 8, 9, 11, 12] (by (conv => whnf); exact ⟨rfl, rfl⟩)) (twice_tail ha n (by omega) (sixth 1) 3 (by decide) a3 a2)
    · exact .ghost (GV.tidied [1, 5, 6, 7, 8, 9, 11, 12] (by (conv => whnf); exact ⟨rfl, rfl⟩)) (twice_tail ha n (by omega) (sixth 2) 3 (by decide) a3 a2)
    · exact .ghost (GV.tidied [1, 5, 6, 7, 8, 9, 11, 12] (by (conv => whnf); exact ⟨rfl, rfl⟩)) (twice_tail ha n (by omega) (sixth 3) 2 (by decide) a3 a2)
    · exact .ghost (GV.tidied [1, 5, 6, 7, 8, 9, 11, 12] (by (conv => whnf); exact ⟨rfl, rfl⟩)) (twice_tail ha n (by omega) (sixth 4) 2 (by decide) a3 a2)
    · exact .ghost (GV.tidied [1, 5, 6, 7, 8, 9, 11, 12] (by (conv => whnf); exact ⟨rfl, rfl⟩)) (twice_tail ha n (by omega) (sixth 5) 9 (by decide) a3 a2)
  have pre : ∀ c : Nat, n + 5 ≤ c → StopG Tryd.prog (cx5 bs) 0 R5 (KV T Tryd.f5.results.toList 0 fun r t => r = AV.d (DV.bool true) ∧ t = []) [0, 0, 1, 1, 1, 1, 1, 1, 1, 1, 1, 1] [Fr.sq [1, 0, 1, 1, 1, 1, 1, 1, 1, 1, 1, 1], Fr.sq [1, 1, 1, 1, 1, 1, 1, 1, 1, 1, 1]] (EO n c) (SO n) := by
    intro c hc
    refine .ghost (env' := EK n) (s' := S0) (GV.trans (GV.freeze 3 rfl (by simp) (by repeat' first | exact trivial | apply And.intro | decide | (simp [rowsV_len, moves_len, five]; done) | omega) (by repeat' first | exact trivial | apply And.intro)) (GV.tidied [0, 1, 5, 6, 7, 8, 9] ?_)) tail
    have e : (List.drop 0 (rowsV (moves n ++ five))).take (n + 5) = rowsV (moves n ++ five) := by
      rw [List.drop_zero, List.take_of_length_le (by rw [rowsV_len]; simp [moves_len, five])]
    conv => whnf
    refine ⟨?_, rfl⟩
    show [(0, iV wh), (1, iV n), (5, bV true), (6, AV.ref (.g 0) 0), (7, AV.ref (.g 1) 0), (8, AV.ref (.g 2) 0), (9, AV.d (.list 9 ((List.drop 0 (rowsV (moves n ++ five))).take (n + 5))))] = _
    rw [e]
  refine run5 0 [14] rfl rfl ?_
  conv => whnf
  refine .scal [] _ ⟨.refl _, rfl, first9 ha⟩ ?_
  conv => whnf
  refine .scal [iV z, iV 9] _ ⟨.refl _, rfl, nn⟩ ?_
  conv => whnf
  refine StopG.rounds wk5 [14] [0, 1, 5, 6, 7, 8, 9, 10] (fun m env s => ∃ i : Nat, i ≤ n ∧ m = n - i ∧ ((i = 0 ∧ env = [(0, iV wh), (1, iV n), (5, bV true), (6, .ref (.g 0) 0), (7, .ref (.g 1) 0), (8, .ref (.g 2) 0), (9, .d .nil), (10, iV i)] ∧ s = S0) ∨ ∃ c, i ≤ c ∧ env = [(0, iV wh), (1, iV n), (5, bV true), (6, .ref (.g 0) 0), (7, .ref (.g 1) 0), (8, .ref (.g 2) 0), (9, .slc (.g 3) 9 0 i c), (10, iV i)] ∧ s = S0 ++ [(3, .row 9 (rowsV (moves i)))])) rfl ?_ ?_
  · conv => whnf
    exact ⟨_, 0, Nat.zero_le _, rfl, .inl ⟨rfl, rfl, rfl⟩⟩
  rintro m env s ⟨i, hi, rfl, ⟨rfl, rfl, rfl⟩ | ⟨c, hc, rfl, rfl⟩⟩
  · conv => whnf
    refine bcase_intro (fun h => ?_) (fun h => ?_) <;> conv => whnf
    · have hil := lt_of h
      refine ⟨⟨rfl, by omega⟩, ?_⟩
      conv => whnf
      refine ⟨⟨?_, ?_⟩, ?_⟩
      · show (2 * 1 + 1024) * 72 ≤ 281474976710656; omega
      · show 1 ≤ _; omega
      conv => whnf
      intro c2 hc2
      conv => whnf
      rw [succ_i hil (by omega)]
      exact ⟨_, by omega, 1, hil, rfl, .inr ⟨c2, hc2, rfl, rfl⟩⟩
    · have hil := ge_of h
      have hn0 : n = 0 := by omega
      subst hn0
      refine ⟨⟨?_, ?_⟩, ?_⟩
      · show (2 * 5 + 1024) * 72 ≤ 281474976710656; omega
      · show 5 ≤ _; omega
      conv => whnf
      intro c2 hc2
      conv => whnf
      refine .ghost (GV.tidied [0, 1, 5, 6, 7, 8, 9] (E := EO 0 c2) (S := SO 0) ?_) (pre c2 (by simpa using hc2))
      conv => whnf
      exact ⟨rfl, rfl⟩
  · conv => whnf
    refine bcase_intro (fun h => ?_) (fun h => ?_) <;> conv => whnf
    · have hil := lt_of h
      refine ⟨⟨rfl, by omega⟩, ?_⟩
      conv => whnf
      refine ⟨by rw [rowsV_len, moves_len]; omega, ⟨?_, ?_⟩, ?_⟩
      · show (2 * (i + 1) + 1024) * 72 ≤ 281474976710656; omega
      · show i + 1 ≤ _; omega
      conv => whnf
      intro c2 hc2
      conv => whnf
      rw [succ_i hil (by omega), List.take_of_length_le (by rw [rowsV_len, moves_len]; exact Nat.le_refl _)]
      refine ⟨_, by omega, i + 1, hil, rfl, .inr ⟨c2, by simpa using hc2, rfl, ?_⟩⟩
      rw [moves_succ, show rowsV (moves i ++ [evm i]) = rowsV (moves i) ++ [rowV (evm i)] by simp [rowsV]]
      have e3 : ((i : Int)).tmod 4 = ((i % 4 : Nat) : Int) := (Int.ofNat_tmod i 4).symm
      rw [e3]
      rfl
    · have hil := ge_of h
      have hin : i = n := by omega
      subst hin
      refine ⟨by rw [rowsV_len, moves_len]; omega, ⟨?_, ?_⟩, ?_⟩
      · show (2 * (i + 5) + 1024) * 72 ≤ 281474976710656; omega
      · show i + 5 ≤ _; omega
      conv => whnf
      intro c2 hc2
      conv => whnf
      rw [List.take_of_length_le (by rw [rowsV_len, moves_len]; exact Nat.le_refl _)]
      refine .ghost (GV.tidied [0, 1, 5, 6, 7, 8, 9] (E := EO i c2) (S := SO i) ?_) (pre c2 (by simpa using hc2))
      conv => whnf
      exact ⟨by simp only [EO]; rfl, by simp only [SO, rowsV, List.map_append]; rfl⟩
end Go.Proofs.YtpfmnccocmgfmaaDoor
/- Seat D: what the listed variables hold, told to the calculus. -/
namespace Go.Proofs.YtpfmnccocmgfmaaDoor
open Go.Pv Go.RowKit Go.ChangeShapes Go.WideShapes
abbrev laidE (x : String × Nat × List UInt8) : String × DataW Unit := (x.1, .iface "*errors.errorString" (.ptr (.agg [.lit (.string x.2.2)])))
theorem starE : "*" ++ "errors.errorString" = "*errors.errorString" := by decide
theorem row176 (u : TypeId) (h : Tryd.prog.typeName? 3 u = some "*errors.errorString") : u = 176 :=
  typeName_ptr_named (nm := "errors.errorString") (by rw [starE]; kernel_rfl) (by kernel_rfl) (by decide) u (by rw [starE]; exact h)
theorem Tryd.cells197 : Tryd.prog.cellsOf 197 = 1 := by kernel_rfl
theorem Tryd.cells9 : Tryd.prog.cellsOf 9 = 1 := by kernel_rfl
set_option maxRecDepth 100000 in
theorem laid_open {W : World} : ∀ (ns : List (String × Nat × List UInt8)) (ps : List MemPlace), (∀ x ∈ ns, Tryd.prog.globalNamed x.1 = some x.2.1 ∧ (Tryd.prog.globals[x.2.1]?).map (·.type) = some 40) →
    DataW.LaidVars Tryd.prog W (ns.map laidE) ps → (∀ b off, MemPlace.cell b off ∈ ps → (∃ c t, W.heap[b]? = some (.cells c t (0, 0))) ∧ ∀ u v, W.cell? ⟨b, off, .none⟩ = some (.iface u v) → Value.okWide Tryd.prog W .any 0 u v) →
    ∃ L : List (Nat × Addr), L.map (·.1) = ns.map (fun x => x.2.1) ∧ (L.map fun p => MemPlace.cell p.2.block p.2.off).Sublist ps ∧ ∀ p ∈ L, W.cell? ⟨p.1, 0, .none⟩ = some (.iface 176 (.pointer (some p.2))) ∧ MemPlace.cell p.1 0 ∈ ps
  | [], ps, _, _, _ => ⟨[], rfl, List.nil_sublist _, by simp⟩
  | x :: ns, ps, hn, h, hrows => by
    obtain ⟨g, t, cs, fuel, p, q, hg, ht, hv, hd, hq, e⟩ := h
    obtain ⟨n1, n2⟩ := hn x (List.mem_cons_self ..)
    obtain rfl := Option.some.inj (n1.symm.trans hg)
    obtain rfl := Option.some.inj (n2.symm.trans ht)
    obtain ⟨l0⟩ := cs
    have hmem : ∀ u v, l0 = [.iface u v] → MemPlace.cell x.2.1 0 ∈ ps := fun u v e0 => by
      rw [e, e0]
      simp [MemPlace.row]
    have ok0 : ∀ u v, l0 = [.iface u v] → Value.okWide Tryd.prog W .any 0 u v := fun u v e0 => by
      refine (hrows x.2.1 0 (hmem u v e0)).2 u v ?_
      subst e0
      exact (World.var?_cell hg hv 0).trans rfl
    obtain ⟨a, s, rfl, hc, hs, hz, rfl⟩ := errorString_of_trod Tryd.underlying40 row176 Tryd.underlying176 Tryd.underlying197 rfl rfl Tryd.underlying9 Tryd.cells197 Tryd.cells9 hd ok0
    have hm := hmem _ _ rfl
    subst e
    obtain ⟨L, h1, h2, h3⟩ := laid_open ns q (fun y hy => hn y (List.mem_cons_of_mem _ hy)) hq (fun b off hb => hrows b off (List.mem_append_right _ hb))
    refine ⟨(x.2.1, a) :: L, by simp [h1], ?_, fun y hy => ?_⟩
    · show (MemPlace.cell a.block a.off :: L.map fun p => MemPlace.cell p.2.block p.2.off).Sublist _
      have : (MemPlace.cell a.block a.off :: L.map fun p => MemPlace.cell p.2.block p.2.off).Sublist (MemPlace.row a 1 ++ q) := by
        simpa [MemPlace.row] using h2
      rw [List.append_assoc]
      exact this.trans (List.sublist_append_right ..)
    · rcases List.mem_cons.1 hy with rfl | hy
      · refine ⟨?_, hm⟩
        exact (World.var?_cell hg hv 0).trans rfl
      · obtain ⟨k1, k2⟩ := h3 y hy
        exact ⟨k1, List.mem_append_right _ k2⟩
theorem glob_of_laid {W : World} {ns : List (String × Nat × List UInt8)} (hns : ∀ x ∈ ns, Tryd.prog.globalNamed x.1 = some x.2.1 ∧ (Tryd.prog.globals[x.2.1]?).map (·.type) = some 40) (hall : ∀ g, g < 13 → g ∈ ns.map (fun x => x.2.1))
    (h : laidMet Tryd.prog (ns.map laidE) W) : ∃ bs : Nat → Addr, Apart bs ∧ Glob (G0 bs) (fun b => b < W.heap.size) W := by
  obtain ⟨ps, hv, hnd, hrows⟩ := h
  obtain ⟨L, h1, h2, h3⟩ := laid_open ns ps hns hv hrows
  have hL := hnd.sublist h2
  obtain ⟨bs, hbs⟩ : ∃ bs : Nat → Addr, ∀ g, g < 13 → (g, bs g) ∈ L := by
    have : ∀ g, ∃ a : Addr, g < 13 → (g, a) ∈ L := fun g => by
      by_cases hg : g < 13
      · have := hall g hg
        rw [← h1] at this
        obtain ⟨⟨g', a⟩, hp, rfl⟩ := List.mem_map.1 this
        exact ⟨a, fun _ => hp⟩
      · exact ⟨⟨0, 0, .none⟩, fun h => absurd h hg⟩
    exact ⟨fun g => Classical.choose (this g), fun g hg => Classical.choose_spec (this g) hg⟩
  refine ⟨bs, fun i j hi hj e => ?_, fun g cs hg => ?_⟩
  · have := key_uniq (κ := fun p : Nat × Addr => MemPlace.cell p.2.block p.2.off) hL (hbs i hi) (hbs j hj) (by simp only [e])
    exact congrArg Prod.fst this
  · unfold G0 at hg
    split at hg
    · rename_i hb
      have hlt : g < 13 := Nat.le_of_ble_eq_true hb
      cases hg
      obtain ⟨k1, k2⟩ := h3 _ (hbs g hlt)
      obtain ⟨⟨c, t, hc⟩, _⟩ := hrows g 0 k2
      have hgl := (Array.getElem?_eq_some_iff.1 hc).1
      refine ⟨?_, hgl, c, t, hc⟩
      have hr := RD.ptr (N := fun b => b < W.heap.size) (w := W) [errD bs g] 0 ⟨g, 0, .none⟩ (fun _ => .iface 176 (.pointer (some (bs g)))) hgl (fun j hj => by
        have : j = 0 := by simpa using hj
        subst this
        exact k1) (fun j x hx => by
        cases j with
        | zero => cases hx; exact .iface 176 _ _ (.raw _ rfl)
        | succ j => cases hx)
      exact hr
    · split at hg
      · rename_i hb
        cases hg
        obtain ⟨k, hk, hkb⟩ := List.any_eq_true.1 hb
        have hk13 := List.mem_range.1 hk
        have hkb := Nat.eq_of_beq_eq_true hkb
        subst hkb
        have hpl : MemPlace.cell (bs k).block (bs k).off ∈ ps := h2.subset (List.mem_map.2 ⟨_, hbs k hk13, rfl⟩)
        obtain ⟨⟨c, t, hc⟩, _⟩ := hrows _ _ hpl
        have hgl := (Array.getElem?_eq_some_iff.1 hc).1
        refine ⟨?_, hgl, c, t, hc⟩
        have hr := RD.ptr (N := fun b => b < W.heap.size) (w := W) [] 0 ⟨(bs k).block, 0, .none⟩ (fun _ => .nilIface) hgl (fun j hj => absurd hj (Nat.not_lt_zero j)) (fun j x hx => by cases hx)
        exact hr
      · cases hg
/-- The thirteen variables that the rows list. -/
def errs13L : List (String × Nat × List UInt8) := [("paternoster/api.ErrEnd", 4, [105, 116, 32, 101, 110, 100, 115, 32, 116, 111, 111, 32, 101, 97, 114, 108, 121]), ("paternoster/api.ErrShape", 5, [110, 111, 116, 32, 97, 115, 32, 105, 116, 32, 104, 97, 115, 32, 116, 111, 32, 98, 101]), ("paternoster/api.ErrRange", 0, [97, 32, 110, 117, 109, 98, 101, 114, 32, 111, 117, 116, 32, 111, 102, 32, 105, 116, 115, 32, 114, 97, 110, 103, 101]), ("paternoster/api.ErrMany", 6, [116, 111, 111, 32, 109, 97, 110, 121]), ("paternoster/api.ErrPower", 7, [116, 104, 101, 32, 112, 111, 119, 101, 114, 32, 105, 115, 32, 103, 111, 110, 101]), ("paternoster/api.ErrNone", 8, [116, 104, 101, 114, 101, 32, 105, 115, 32, 110, 111, 110, 101]), ("paternoster/api.ErrKind", 1, [110, 111, 116, 32, 111, 102, 32, 116, 104, 97, 116, 32, 107, 105, 110, 100]), ("paternoster/api.ErrOrder", 9, [110, 111, 116, 32, 105, 110, 32, 116, 104, 97, 116, 32, 111, 114, 100, 101, 114]), ("paternoster/api.ErrDoor", 2, [110, 111, 116, 32, 119, 105, 116, 104, 32, 116, 104, 101, 32, 100, 111, 111, 114, 32, 115, 111]), ("paternoster/api.ErrFloor", 10, [110, 111, 116, 32, 97, 116, 32, 116, 104, 97, 116, 32, 102, 108, 111, 111, 114]), ("paternoster/api.ErrTwice", 3, [116, 104, 101, 114, 101, 32, 105, 115, 32, 111, 110, 101]), ("paternoster/api.ErrWord", 11, [110, 111, 32, 115, 117, 99, 104, 32, 119, 111, 114, 100]), ("paternoster/api.ErrNumber", 12, [110, 111, 116, 32, 97, 32, 110, 117, 109, 98, 101, 114])]
set_option maxRecDepth 100000 in
theorem errs13 {W : World} (h : laidMet Tryd.prog (errs13L.map laidE) W) : ∃ bs : Nat → Addr, Apart bs ∧ Glob (G0 bs) (fun b => b < W.heap.size) W :=
  glob_of_laid (ns := errs13L) (fun x hx => by
    have hall : (errs13L.all fun x => decide (Tryd.prog.globalNamed x.1 = some x.2.1) && decide ((Tryd.prog.globals[x.2.1]?).map (·.type) = some 40)) = true := by kernel_rfl
    have := List.all_eq_true.1 hall x hx
    simp only [Bool.and_eq_true, decide_eq_true_eq] at this
    exact this) (fun g hg => by
    have : ∀ g, g < 13 → g ∈ errs13L.map (fun x => x.2.1) := by decide
    exact this g hg) h
end Go.Proofs.YtpfmnccocmgfmaaDoor
/- Seat D: what comes in. -/
namespace Go.Proofs.YtpfmnccocmgfmaaDoor
open Go.Pv Go.RowKit
theorem dat_ev {n : Nat} {r : List DV} (h : Dat T (n + 4) 34 r) : ∃ e : Ev, r = rowV e := by
  obtain ⟨_, _, rfl, ⟨kd, _, _, rfl⟩, _, _, rfl, ⟨ca, _, _, rfl⟩, _, _, rfl, ⟨_, _, rfl, ⟨_, _, rfl, ⟨fl, _, _, rfl⟩, _, _, rfl, ⟨dr, _, _, rfl⟩, rfl⟩, _, _, rfl, ⟨gn, _, _, rfl⟩, rfl⟩, _, _, rfl, ⟨_, _, rfl, ⟨e1, _, _, rfl⟩, _, _, rfl, ⟨e2, _, _, rfl⟩, rfl⟩, _, _, rfl, ⟨f, _, _, rfl⟩, _, _, rfl, ⟨d, _, _, rfl⟩, rfl⟩ := h
  exact ⟨⟨kd, ca, (fl, dr, gn), (e1, e2), f, d⟩, rfl⟩
theorem dat_evs {n : Nat} {r : List DV} (h : Dat T (n + 5) 26 r) : ∃ (x : DV) (l : List Ev), r = [x] ∧ l.length ≤ maxLen ∧ WkD x (.list 9 (rowsV l)) := by
  rcases h with h | ⟨rows, h1, h2, h⟩
  · exact ⟨.nil, [], h, by simp, WkD.nil 9⟩
  · have : ∃ l : List Ev, rows = rowsV l := by
      clear h1 h
      induction rows with
      | nil => exact ⟨[], rfl⟩
      | cons r rs ih =>
        obtain ⟨l, h3⟩ := ih fun x hx => h2 x (List.mem_cons_of_mem _ hx)
        obtain ⟨b, h4⟩ := dat_ev (h2 r (List.mem_cons_self ..))
        exact ⟨b :: l, by rw [h3, h4]; rfl⟩
    obtain ⟨l, rfl⟩ := this
    exact ⟨_, l, h, by simpa [rowsV] using h1, WkD.refl _⟩
theorem arg_evs {n : Nat} {x : AV} (h : ArgD T (n + 6) 26 x) : ∃ l : List Ev, l.length ≤ maxLen ∧ ∀ {r r' : List AV}, WkL r r' → WkL (x :: r) (.d (.list 9 (rowsV l)) :: r') := by
  obtain ⟨y, h, rfl⟩ := h
  obtain ⟨z, l, hz, hl, hw⟩ := dat_evs h
  cases hz
  exact ⟨l, hl, fun h => .w hw h⟩
theorem arg_i64 {n : Nat} {x : AV} (h : ArgD T (n + 1) 3 x) : ∃ a : Int, IntKind.min .i64 ≤ a ∧ a ≤ IntKind.max .i64 ∧ x = iV a := by
  obtain ⟨_, ⟨a, h1, h2, h⟩, rfl⟩ := h
  cases h
  exact ⟨a, h1, h2, rfl⟩
end Go.Proofs.YtpfmnccocmgfmaaDoor
