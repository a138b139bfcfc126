/- The seat's texts, part 1: what single functions of the program compute; no statement of its own. -/
import Derived.Test.YtpfmnccocmgfmaaDoorRn
import Derived.Test.YtpfmnccocmgfmaaDoorFrD
import Derived.Test.YtpfmnccocmgfmaaDoorSp
import Derived.Tactics
/- Seat D: where a car stands in the smallest house; its cell. -/
namespace Go.Proofs.YtpfmnccocmgfmaaDoor
open Go.Pv Go.RowKit
abbrev iV (n : Int) : AV := .d (.int .i64 n)
abbrev bV (b : Bool) : AV := .d (.bool b)
abbrev iD (n : Int) : DV := .int .i64 n
abbrev zB (n : Int) : DV := .int .u8 n
abbrev hA : AV := .agg [iV 1, iV 2, iV 1, iV 1]
theorem between54 {n a b : Int} (h1 : a ≤ n) (h2 : n ≤ b) : Contract Tryd.prog GN 54 [iV n, iV a, iV b] [] (fun r t => r = bV true ∧ t = []) := by
  refine run54 0 [] rfl rfl ?_
  conv => whnf
  refine ⟨?_, rfl⟩
  show bV (bif decide (n ≥ a) then decide (n ≤ b) else false) = bV true
  rw [decide_eq_true h1, decide_eq_true h2]; rfl
theorem valid35 : Contract Tryd.prog GN 35 [hA] [] (fun r t => r = bV true ∧ t = []) := by
  refine run35 0 [] rfl rfl ?_
  conv => whnf
  refine .scal [iV 1, iV 1, iV 16] _ ⟨.refl _, rfl, between54 (by omega) (by omega)⟩ ?_
  conv => whnf
  refine .scal [iV 2, iV 2, iV 64] _ (fun _ => ⟨.refl _, rfl, between54 (by omega) (by omega)⟩) ?_
  conv => whnf
  refine .scal [iV 1, iV 1, iV 8] _ (fun _ => ⟨.refl _, rfl, between54 (by omega) (by omega)⟩) ?_
  conv => whnf
  refine .scal [iV 1, iV 1, iV 8] _ (fun _ => ⟨.refl _, rfl, between54 (by omega) (by omega)⟩) ?_
  conv => whnf
  exact ⟨rfl, rfl⟩
theorem top70 : Contract Tryd.prog GN 70 [hA] [] (fun r t => r = iV 1 ∧ t = []) := by
  refine run70 0 [] rfl rfl ?_
  conv => whnf
  refine .data [hA] _ ⟨WkL.refl _, rfl, valid35⟩ ?_
  conv => whnf
  exact ⟨rfl, rfl⟩
theorem level71 : Contract Tryd.prog GN 71 [hA, iV 0] [] (fun r t => r = bV true ∧ t = []) := by
  refine run71 0 [] rfl rfl ?_
  conv => whnf
  refine .data [hA] _ ⟨WkL.refl _, rfl, valid35⟩ ?_
  conv => whnf
  refine .data [hA] _ (fun _ => ⟨WkL.refl _, rfl, top70⟩) ?_
  conv => whnf
  refine .scal [iV 0, iV 0, iV 1] _ (fun _ => ⟨.refl _, rfl, between54 (by omega) (by omega)⟩) ?_
  conv => whnf
  refine ⟨fun _ => ⟨rfl, by decide⟩, ?_⟩
  conv => whnf
  exact ⟨rfl, rfl⟩
theorem start55 : Contract Tryd.prog GN 55 [hA, iV 0] [] (fun r t => r = .tup [.agg [iV 0, iV 0, iV 0, bV false, iV 0], bV true] ∧ t = []) := by
  refine run55 0 [] rfl rfl ?_
  conv => whnf
  refine .data [hA] _ ⟨WkL.refl _, rfl, valid35⟩ ?_
  conv => whnf
  refine .data [hA] _ (fun _ => ⟨WkL.refl _, rfl, top70⟩) ?_
  conv => whnf
  refine .data [hA, iV 0] _ ⟨WkL.refl _, rfl, level71⟩ ?_
  conv => whnf
  exact ⟨rfl, rfl⟩
def zeros (n : Nat) : List (List DV) := List.replicate n [zB 0]
abbrev cellC (w : Int) : AB := .cells [.slc (.g 1) 1 0 26 26, iV 0, bV false, iV w]
abbrev nilE : AV := .d (.raw .nilIface)
theorem new37 : Contract Tryd.prog GN 37 [iV 26] [] (fun r t => r = .tup [.ref (.g 0) 0, nilE] ∧ t = [(0, cellC 0), (1, .row 1 (zeros 26))]) := by
  refine run37 0 [] rfl rfl ?_
  conv => whnf
  refine ⟨26, 26, ⟨rfl, rfl, by decide, by decide, by decide⟩, ?_⟩
  conv => whnf
  exact ⟨rfl, rfl⟩
theorem size72 {w : Int} {rows : List (List DV)} : Contract Tryd.prog GN 72 [.ref (.g 0) 0] [(0, cellC w), (1, .row 1 rows)] (fun r t => r = iV 26 ∧ t = [(0, cellC w), (1, .row 1 rows)]) := by
  refine run72 2 [] rfl rfl ?_
  conv => whnf
  exact ⟨rfl, rfl⟩
theorem is82 {w : Int} {rows : List (List DV)} {i : Int} (h0 : 0 ≤ i) (h1 : i < 26) : Contract Tryd.prog GN 82 [.ref (.g 0) 0, iV i] [(0, cellC w), (1, .row 1 rows)] (fun r t => r = bV true ∧ t = [(0, cellC w), (1, .row 1 rows)]) := by
  refine run82 2 [] rfl rfl ?_
  conv => whnf
  refine ⟨?_, rfl⟩
  show bV (bif decide (i ≥ 0) then decide (i < ((26 : Nat) : Int)) else false) = bV true
  rw [decide_eq_true h0, decide_eq_true (show i < ((26 : Nat) : Int) by omega)]; rfl
theorem gone81 {w : Int} {rows : List (List DV)} : Contract Tryd.prog GN 81 [.ref (.g 0) 0] [(0, cellC w), (1, .row 1 rows)] (fun r t => r = bV false ∧ t = [(0, cellC w), (1, .row 1 rows)]) := by
  refine run81 2 [] rfl rfl ?_
  conv => whnf
  exact ⟨rfl, rfl⟩
theorem get79 {w : Int} {rows : List (List DV)} {i : Nat} {b : Int} (h1 : i < 26) (hr : rows[i]? = some [zB b]) : Contract Tryd.prog GN 79 [.ref (.g 0) 0, iV i] [(0, cellC w), (1, .row 1 rows)] (fun r t => r = .tup [.d (zB b), nilE] ∧ t = [(0, cellC w), (1, .row 1 rows)]) := by
  refine run79 2 [] rfl rfl ?_
  conv => whnf
  refine .obj rfl ?_
  conv => whnf
  refine ⟨_, _, ⟨WkL.refl _, is82 (by omega) (by omega)⟩, fun res s1 h => ?_⟩
  obtain ⟨rfl, rfl⟩ := h
  conv => whnf
  refine ⟨⟨by omega, by omega⟩, ?_⟩
  conv => whnf
  refine ⟨[zB b], (by show rows[0 + ((i : Int)).toNat]? = _; simpa using hr), rfl, ?_⟩
  conv => whnf
  exact ⟨rfl, rfl⟩
theorem put76 {w : Int} {rows : List (List DV)} {i : Nat} {b c : Int} (h1 : i < 26) (hr : rows[i]? = some [zB c]) (h2 : 0 ≤ w) (h3 : w < 1000) : Contract Tryd.prog GN 76 [.ref (.g 0) 0, iV i, .d (zB b)] [(0, cellC w), (1, .row 1 rows)] (fun r t => r = nilE ∧ t = [(0, cellC (w + 1)), (1, .row 1 (rows.set i [zB b]))]) := by
  refine run76 2 [] rfl rfl ?_
  conv => whnf
  refine .obj rfl ?_
  conv => whnf
  refine ⟨_, _, ⟨WkL.refl _, gone81⟩, fun res s1 h => ?_⟩
  obtain ⟨rfl, rfl⟩ := h
  conv => whnf
  refine .obj rfl ?_
  conv => whnf
  refine ⟨_, _, ⟨WkL.refl _, is82 (by omega) (by omega)⟩, fun res s1 h => ?_⟩
  obtain ⟨rfl, rfl⟩ := h
  conv => whnf
  refine ⟨⟨by omega, by omega⟩, ?_⟩
  conv => whnf
  refine ⟨[zB c], (by show rows[0 + ((i : Int)).toNat]? = _; simpa using hr), ?_⟩
  conv => whnf
  refine ⟨rfl, ?_⟩
  rw [wrap_id (by omega) (by omega)]
  show [(0, cellC (w + 1)), (1, AB.row 1 (rows.set (0 + ((i : Int)).toNat) [zB b]))] = _
  rw [Nat.zero_add, Int.toNat_natCast]
set_option maxRecDepth 100000 in
theorem read73_0 {w : Int} : Contract Tryd.prog GN 73 [.ref (.g 0) 0, iV 0] [(0, cellC w), (1, .row 1 (zeros 26))] (fun r t => r = .tup [.agg [iV 0, iV 0], bV false, nilE] ∧ t = [(0, cellC w), (1, .row 1 (zeros 26))]) := by
  refine run73 2 [] rfl rfl ?_
  conv => whnf
  refine .obj rfl ?_
  conv => whnf
  refine ⟨_, _, ⟨WkL.refl _, get79 (w := w) (rows := zeros 26) (i := 0) (b := 0) (by omega) rfl⟩, fun res s1 h => ?_⟩
  obtain ⟨rfl, rfl⟩ := h
  conv => whnf
  exact ⟨rfl, rfl⟩
set_option maxRecDepth 100000 in
theorem read73_1 {w : Int} : Contract Tryd.prog GN 73 [.ref (.g 0) 0, iV 1] [(0, cellC w), (1, .row 1 (zeros 26))] (fun r t => r = .tup [.agg [iV 0, iV 0], bV false, nilE] ∧ t = [(0, cellC w), (1, .row 1 (zeros 26))]) := by
  refine run73 2 [] rfl rfl ?_
  conv => whnf
  refine .obj rfl ?_
  conv => whnf
  refine ⟨_, _, ⟨WkL.refl _, get79 (w := w) (rows := zeros 26) (i := 13) (b := 0) (by omega) rfl⟩, fun res s1 h => ?_⟩
  obtain ⟨rfl, rfl⟩ := h
  conv => whnf
  exact ⟨rfl, rfl⟩
abbrev stoC (c : Nat) (n l a : Int) : AB := .cells [.ref (.g c) 0, iV n, iV l, iV a]
set_option maxRecDepth 100000 in
theorem open56 {w : Int} : Contract Tryd.prog GN 56 [.ref (.g 0) 0] [(0, cellC w), (1, .row 1 (zeros 26))] (fun r t => r = .tup [.ref (.g 2) 0, nilE] ∧ t = [(0, cellC w), (1, .row 1 (zeros 26)), (2, stoC 0 0 0 (-1))]) := by
  refine run56 2 [] rfl rfl ?_
  conv => whnf
  refine .obj rfl ?_
  conv => whnf
  refine ⟨_, _, ⟨WkL.refl _, size72⟩, fun res s1 h => ?_⟩
  obtain ⟨rfl, rfl⟩ := h
  conv => whnf
  refine StopG.rounds wk56 [] [0, 4, 16] (fun m env s => ∃ i : Nat, i ≤ 2 ∧ m = 2 - i ∧ env = [(0, .ref (.g 0) 0), (4, .ref (.g 2) 0), (16, iV i)] ∧ s = [(0, cellC w), (1, .row 1 (zeros 26)), (2, stoC 0 0 0 (-1))]) rfl ?_ ?_
  · conv => whnf
    exact ⟨_, 0, by omega, rfl, rfl, rfl⟩
  rintro m env s ⟨i, hi, rfl, rfl, rfl⟩
  have h3 : i = 0 ∨ i = 1 ∨ i = 2 := by omega
  rcases h3 with rfl | rfl | rfl
  · conv => whnf
    refine .obj rfl ?_
    conv => whnf
    refine ⟨_, _, ⟨WkL.refl _, read73_0⟩, fun res s1 h => ?_⟩
    obtain ⟨rfl, rfl⟩ := h
    conv => whnf
    exact ⟨_, by decide, 1, by omega, rfl, rfl, rfl⟩
  · conv => whnf
    refine .obj rfl ?_
    conv => whnf
    refine ⟨_, _, ⟨WkL.refl _, read73_1⟩, fun res s1 h => ?_⟩
    obtain ⟨rfl, rfl⟩ := h
    conv => whnf
    exact ⟨_, by decide, 2, by omega, rfl, rfl, rfl⟩
  · conv => whnf
    exact ⟨rfl, rfl⟩
set_option maxRecDepth 100000 in
theorem record57 {w n l a : Int} {rows : List (List DV)} : Contract Tryd.prog GN 57 [.ref (.g 0) 0] [(0, stoC 1 n l a), (1, .cells [.slc (.g 2) 1 0 26 26, iV 0, bV false, iV w]), (2, .row 1 rows)] (fun r t => r = .agg [iV n, iV l] ∧ t = [(0, stoC 1 n l a), (1, .cells [.slc (.g 2) 1 0 26 26, iV 0, bV false, iV w]), (2, .row 1 rows)]) := by
  refine run57 3 [] rfl rfl ?_
  conv => whnf
  exact ⟨rfl, rfl⟩
set_option maxRecDepth 100000 in
theorem bad74 {w : Int} {rows : List (List DV)} : Contract Tryd.prog GN 74 [.ref (.g 0) 0, .agg [iV 0, iV 1]] [(0, stoC 1 0 0 (-1)), (1, .cells [.slc (.g 2) 1 0 26 26, iV 0, bV false, iV w]), (2, .row 1 rows)] (fun r t => r = nilE ∧ t = [(0, stoC 1 0 0 (-1)), (1, .cells [.slc (.g 2) 1 0 26 26, iV 0, bV false, iV w]), (2, .row 1 rows)]) := by
  refine run74 3 [] rfl rfl ?_
  conv => whnf
  refine ⟨⟨by kernel_rfl, by kernel_rfl⟩, ?_⟩
  conv => whnf
  exact ⟨rfl, rfl⟩
end Go.Proofs.YtpfmnccocmgfmaaDoor
/- Seat D: numbers are laid into bytes. -/
namespace Go.Proofs.YtpfmnccocmgfmaaDoor
open Go.Pv Go.RowKit
abbrev six0 : List (List DV) := [[zB 0], [zB 0], [zB 0], [zB 0], [zB 0], [zB 0]]
abbrev six1 : List (List DV) := [[zB 0], [zB 0], [zB 0], [zB 0], [zB 0], [zB 1]]
set_option maxRecDepth 100000 in
theorem put75_0 {l : List (List DV)} {len cap : Nat} (hl : l.length = len) (hb : len < 100) : Contract Tryd.prog GN 75 [.slc (.g 0) 1 0 len cap, iV 0] [(0, .row 1 l)] (fun r t => ∃ c, len + 6 ≤ c ∧ r = .slc (.g 1) 1 0 (len + 6) c ∧ t = [(0, .dead), (1, .row 1 (l ++ six0))]) := by
  refine run75 1 [] rfl rfl ?_
  conv => whnf
  refine StopG.rounds wk75 [] [0, 1, 6] (fun m env s => ∃ i : Nat, i ≤ 6 ∧ m = 6 - i ∧ ((i = 0 ∧ env = [(0, .slc (.g 0) 1 0 len cap), (1, iV 0), (6, iV i)] ∧ s = [(0, .row 1 l)]) ∨ (∃ c, 0 < i ∧ len + i ≤ c ∧ env = [(0, .slc (.g 1) 1 0 (len + i) c), (1, iV 0), (6, iV i)] ∧ s = [(0, .dead), (1, .row 1 (l ++ six0.take i))]))) rfl ?_ ?_
  · conv => whnf
    exact ⟨_, 0, by omega, rfl, .inl ⟨rfl, rfl, rfl⟩⟩
  rintro m env s ⟨i, hi, rfl, (⟨rfl, rfl, rfl⟩ | ⟨c, h0, hc, rfl, rfl⟩)⟩
  · conv => whnf
    refine ⟨by omega, ⟨by show (2 * (len + 1) + 1024) * 1 ≤ _; omega, by show len + 1 ≤ _; omega⟩, ?_⟩
    conv => whnf
    intro c1 hc1
    have hc1 : len + 1 ≤ c1 := hc1
    conv => whnf
    refine ⟨_, by omega, 1, by omega, rfl, .inr ⟨c1, by omega, hc1, rfl, ?_⟩⟩
    show [(0, AB.dead), (1, AB.row 1 (List.take len l ++ [[zB 0]]))] = _
    rw [List.take_of_length_le (by omega)]
    rfl
  have h3 : i = 1 ∨ i = 2 ∨ i = 3 ∨ i = 4 ∨ i = 5 ∨ i = 6 := by omega
  rcases h3 with rfl | rfl | rfl | rfl | rfl | rfl
  · conv => whnf
    refine ⟨by simp; omega, ⟨by show (2 * (len + 1 + 1) + 1024) * 1 ≤ _; omega, by show len + 1 + 1 ≤ _; omega⟩, ?_⟩
    conv => whnf
    intro c1 hc1
    have hc1 : len + 2 ≤ c1 := hc1
    conv => whnf
    refine ⟨_, by omega, 2, by omega, rfl, .inr ⟨c1, by omega, hc1, rfl, ?_⟩⟩
    show [(0, AB.dead), (1, AB.row 1 (List.take (len + 1) (l ++ List.take 1 six0) ++ [[zB 0]]))] = _
    rw [List.take_of_length_le (by simp; omega), List.append_assoc]
    rfl
  · conv => whnf
    refine ⟨by simp; omega, ⟨by show (2 * (len + 2 + 1) + 1024) * 1 ≤ _; omega, by show len + 2 + 1 ≤ _; omega⟩, ?_⟩
    conv => whnf
    intro c1 hc1
    have hc1 : len + 3 ≤ c1 := hc1
    conv => whnf
    refine ⟨_, by omega, 3, by omega, rfl, .inr ⟨c1, by omega, hc1, rfl, ?_⟩⟩
    show [(0, AB.dead), (1, AB.row 1 (List.take (len + 2) (l ++ List.take 2 six0) ++ [[zB 0]]))] = _
    rw [List.take_of_length_le (by simp; omega), List.append_assoc]
    rfl
  · conv => whnf
    refine ⟨by simp; omega, ⟨by show (2 * (len + 3 + 1) + 1024) * 1 ≤ _; omega, by show len + 3 + 1 ≤ _; omega⟩, ?_⟩
    conv => whnf
    intro c1 hc1
    have hc1 : len + 4 ≤ c1 := hc1
    conv => whnf
    refine ⟨_, by omega, 4, by omega, rfl, .inr ⟨c1, by omega, hc1, rfl, ?_⟩⟩
    show [(0, AB.dead), (1, AB.row 1 (List.take (len + 3) (l ++ List.take 3 six0) ++ [[zB 0]]))] = _
    rw [List.take_of_length_le (by simp; omega), List.append_assoc]
    rfl
  · conv => whnf
    refine ⟨by simp; omega, ⟨by show (2 * (len + 4 + 1) + 1024) * 1 ≤ _; omega, by show len + 4 + 1 ≤ _; omega⟩, ?_⟩
    conv => whnf
    intro c1 hc1
    have hc1 : len + 5 ≤ c1 := hc1
    conv => whnf
    refine ⟨_, by omega, 5, by omega, rfl, .inr ⟨c1, by omega, hc1, rfl, ?_⟩⟩
    show [(0, AB.dead), (1, AB.row 1 (List.take (len + 4) (l ++ List.take 4 six0) ++ [[zB 0]]))] = _
    rw [List.take_of_length_le (by simp; omega), List.append_assoc]
    rfl
  · conv => whnf
    refine ⟨by simp; omega, ⟨by show (2 * (len + 5 + 1) + 1024) * 1 ≤ _; omega, by show len + 5 + 1 ≤ _; omega⟩, ?_⟩
    conv => whnf
    intro c1 hc1
    have hc1 : len + 6 ≤ c1 := hc1
    conv => whnf
    refine ⟨_, by omega, 6, by omega, rfl, .inr ⟨c1, by omega, hc1, rfl, ?_⟩⟩
    show [(0, AB.dead), (1, AB.row 1 (List.take (len + 5) (l ++ List.take 5 six0) ++ [[zB 0]]))] = _
    rw [List.take_of_length_le (by simp; omega), List.append_assoc]
    rfl
  · conv => whnf
    exact ⟨c, hc, rfl, rfl⟩
set_option maxRecDepth 100000 in
theorem put75_1 {l : List (List DV)} {len cap : Nat} (hl : l.length = len) (hb : len < 100) : Contract Tryd.prog GN 75 [.slc (.g 0) 1 0 len cap, iV 1] [(0, .row 1 l)] (fun r t => ∃ c, len + 6 ≤ c ∧ r = .slc (.g 1) 1 0 (len + 6) c ∧ t = [(0, .dead), (1, .row 1 (l ++ six1))]) := by
  refine run75 1 [] rfl rfl ?_
  conv => whnf
  refine StopG.rounds wk75 [] [0, 1, 6] (fun m env s => ∃ i : Nat, i ≤ 6 ∧ m = 6 - i ∧ ((i = 0 ∧ env = [(0, .slc (.g 0) 1 0 len cap), (1, iV 1), (6, iV i)] ∧ s = [(0, .row 1 l)]) ∨ (∃ c, 0 < i ∧ len + i ≤ c ∧ env = [(0, .slc (.g 1) 1 0 (len + i) c), (1, iV 1), (6, iV i)] ∧ s = [(0, .dead), (1, .row 1 (l ++ six1.take i))]))) rfl ?_ ?_
  · conv => whnf
    exact ⟨_, 0, by omega, rfl, .inl ⟨rfl, rfl, rfl⟩⟩
  rintro m env s ⟨i, hi, rfl, (⟨rfl, rfl, rfl⟩ | ⟨c, h0, hc, rfl, rfl⟩)⟩
  · conv => whnf
    refine ⟨by omega, ⟨by show (2 * (len + 1) + 1024) * 1 ≤ _; omega, by show len + 1 ≤ _; omega⟩, ?_⟩
    conv => whnf
    intro c1 hc1
    have hc1 : len + 1 ≤ c1 := hc1
    conv => whnf
    refine ⟨_, by omega, 1, by omega, rfl, .inr ⟨c1, by omega, hc1, rfl, ?_⟩⟩
    show [(0, AB.dead), (1, AB.row 1 (List.take len l ++ [[zB 0]]))] = _
    rw [List.take_of_length_le (by omega)]
    rfl
  have h3 : i = 1 ∨ i = 2 ∨ i = 3 ∨ i = 4 ∨ i = 5 ∨ i = 6 := by omega
  rcases h3 with rfl | rfl | rfl | rfl | rfl | rfl
  · conv => whnf
    refine ⟨by simp; omega, ⟨by show (2 * (len + 1 + 1) + 1024) * 1 ≤ _; omega, by show len + 1 + 1 ≤ _; omega⟩, ?_⟩
    conv => whnf
    intro c1 hc1
    have hc1 : len + 2 ≤ c1 := hc1
    conv => whnf
    refine ⟨_, by omega, 2, by omega, rfl, .inr ⟨c1, by omega, hc1, rfl, ?_⟩⟩
    show [(0, AB.dead), (1, AB.row 1 (List.take (len + 1) (l ++ List.take 1 six1) ++ [[zB 0]]))] = _
    rw [List.take_of_length_le (by simp; omega), List.append_assoc]
    rfl
  · conv => whnf
    refine ⟨by simp; omega, ⟨by show (2 * (len + 2 + 1) + 1024) * 1 ≤ _; omega, by show len + 2 + 1 ≤ _; omega⟩, ?_⟩
    conv => whnf
    intro c1 hc1
    have hc1 : len + 3 ≤ c1 := hc1
    conv => whnf
    refine ⟨_, by omega, 3, by omega, rfl, .inr ⟨c1, by omega, hc1, rfl, ?_⟩⟩
    show [(0, AB.dead), (1, AB.row 1 (List.take (len + 2) (l ++ List.take 2 six1) ++ [[zB 0]]))] = _
    rw [List.take_of_length_le (by simp; omega), List.append_assoc]
    rfl
  · conv => whnf
    refine ⟨by simp; omega, ⟨by show (2 * (len + 3 + 1) + 1024) * 1 ≤ _; omega, by show len + 3 + 1 ≤ _; omega⟩, ?_⟩
    conv => whnf
    intro c1 hc1
    have hc1 : len + 4 ≤ c1 := hc1
    conv => whnf
    refine ⟨_, by omega, 4, by omega, rfl, .inr ⟨c1, by omega, hc1, rfl, ?_⟩⟩
    show [(0, AB.dead), (1, AB.row 1 (List.take (len + 3) (l ++ List.take 3 six1) ++ [[zB 0]]))] = _
    rw [List.take_of_length_le (by simp; omega), List.append_assoc]
    rfl
  · conv => whnf
    refine ⟨by simp; omega, ⟨by show (2 * (len + 4 + 1) + 1024) * 1 ≤ _; omega, by show len + 4 + 1 ≤ _; omega⟩, ?_⟩
    conv => whnf
    intro c1 hc1
    have hc1 : len + 5 ≤ c1 := hc1
    conv => whnf
    refine ⟨_, by omega, 5, by omega, rfl, .inr ⟨c1, by omega, hc1, rfl, ?_⟩⟩
    show [(0, AB.dead), (1, AB.row 1 (List.take (len + 4) (l ++ List.take 4 six1) ++ [[zB 0]]))] = _
    rw [List.take_of_length_le (by simp; omega), List.append_assoc]
    rfl
  · conv => whnf
    refine ⟨by simp; omega, ⟨by show (2 * (len + 5 + 1) + 1024) * 1 ≤ _; omega, by show len + 5 + 1 ≤ _; omega⟩, ?_⟩
    conv => whnf
    intro c1 hc1
    have hc1 : len + 6 ≤ c1 := hc1
    conv => whnf
    refine ⟨_, by omega, 6, by omega, rfl, .inr ⟨c1, by omega, hc1, rfl, ?_⟩⟩
    show [(0, AB.dead), (1, AB.row 1 (List.take (len + 5) (l ++ List.take 5 six1) ++ [[zB 1]]))] = _
    rw [List.take_of_length_le (by simp; omega), List.append_assoc]
    rfl
  · conv => whnf
    exact ⟨c, hc, rfl, rfl⟩
end Go.Proofs.YtpfmnccocmgfmaaDoor
/- Seat D: a gate; a record is saved. -/
namespace Go.Proofs.YtpfmnccocmgfmaaDoor
open Go.Pv Go.RowKit
abbrev gateD : DV := .ptr [iD 0, iD 0, iD 0, iD 0] 0
set_option maxRecDepth 100000 in
theorem gate59o : Contract Tryd.prog GN 59 [iV 0] [] (fun r t => r = .ref (.g 0) 0 ∧ t = [(0, .cells [iV 0, iV 0, iV 0, iV 0])]) := by
  refine run59 0 [] rfl rfl ?_
  conv => whnf
  exact ⟨rfl, rfl⟩
theorem gate59 : Contract Tryd.prog GN 59 [iV 0] [] (fun r t => r = .d gateD ∧ t = []) := by
  refine gate59o.told fun r t hr => ⟨.d gateD, ?_, rfl, rfl, rfl⟩
  obtain ⟨rfl, rfl⟩ := hr
  refine GV.trans (GV.freeze 0 rfl (by simp) ?_ ?_) (GV.tidied [0] (E := [(0, .d gateD)]) (S := []) ?_)
  · repeat' first | exact trivial | apply And.intro | decide | (simp; done) | omega
  · repeat' first | exact trivial | apply And.intro
  · conv => whnf
    exact ⟨rfl, rfl⟩
abbrev cellD (c : Nat) (w : Int) : AB := .cells [.slc (.g c) 1 0 26 26, iV 0, bV false, iV w]
abbrev bytes13 : List (List DV) := [[zB 0], [zB 0], [zB 0], [zB 0], [zB 0], [zB 0], [zB 0], [zB 0], [zB 0], [zB 0], [zB 0], [zB 0], [zB 1]]
def rowsW (i : Nat) : List (List DV) := bytes13.take i ++ zeros (26 - i)
theorem rowsW_step {i : Nat} (h : i < 13) : ∃ b, bytes13[i]? = some [zB b] ∧ (rowsW i)[i]? = some [zB 0] ∧ (rowsW i).set i [zB b] = rowsW (i + 1) := by
  have h3 : i = 0 ∨ i = 1 ∨ i = 2 ∨ i = 3 ∨ i = 4 ∨ i = 5 ∨ i = 6 ∨ i = 7 ∨ i = 8 ∨ i = 9 ∨ i = 10 ∨ i = 11 ∨ i = 12 := by omega
  rcases h3 with rfl | rfl | rfl | rfl | rfl | rfl | rfl | rfl | rfl | rfl | rfl | rfl | rfl <;> exact ⟨_, rfl, rfl, rfl⟩
set_option maxRecDepth 100000 in
set_option maxHeartbeats 4000000 in
theorem save58 : Contract Tryd.prog GN 58 [.ref (.g 0) 0, .agg [iV 0, iV 1]] [(0, stoC 1 0 0 (-1)), (1, cellD 2 0), (2, .row 1 (zeros 26))] (fun r t => r = nilE ∧ t = [(0, stoC 1 0 1 0), (1, cellD 2 14), (2, .row 1 ([[zB 1], [zB 0], [zB 0], [zB 0], [zB 0], [zB 0], [zB 0], [zB 0], [zB 0], [zB 0], [zB 0], [zB 0], [zB 1]] ++ zeros 13))]) := by
  refine run58 3 [7] rfl rfl ?_
  conv => whnf
  refine .obj rfl ?_
  conv => whnf
  refine ⟨_, _, ⟨WkL.refl _, bad74⟩, fun res s1 h => ?_⟩
  obtain ⟨rfl, rfl⟩ := h
  conv => whnf
  refine StopG.draw wk58 [] sp58_7 [0, 3, 6, 7] (fun env s => ∃ c, 13 ≤ c ∧ env = [(0, .ref (.g 0) 0), (3, .ref (.g 3) 0), (6, iV 0), (7, .slc (.g 4) 1 0 13 c)] ∧ s = [(0, stoC 1 0 0 (-1)), (1, cellD 2 0), (2, .row 1 (zeros 26)), (3, .cells [iV 0, iV 1]), (4, .row 1 bytes13)]) rfl rfl (by kernel_rfl) ?_ ?_
  · conv => whnf
    repeat' (first
      | (refine Both.mk ?_ ?_ <;> conv => whnf)
      | (refine .obj rfl ?_; (conv => whnf); refine ⟨_, _, ⟨WkL.refl _, put75_0 (l := [[zB 0]]) rfl (by omega)⟩, fun res s1 h => ?_⟩; obtain ⟨c, hc, rfl, rfl⟩ := h; (conv => whnf))
      | (refine .obj rfl ?_; (conv => whnf); refine ⟨_, _, ⟨WkL.refl _, put75_1 (l := [[zB 0]] ++ six0) rfl (by omega)⟩, fun res s1 h => ?_⟩; obtain ⟨c, hc, rfl, rfl⟩ := h; (conv => whnf); exact ⟨c, hc, rfl, rfl⟩))
  rintro env s ⟨c, hc, rfl, rfl⟩
  conv => whnf
  refine StopG.rounds wk58 [] [0, 3, 6, 35, 36, 37] (fun m env s => ∃ i : Nat, i ≤ 13 ∧ m = 13 - i ∧ env = [(0, .ref (.g 0) 0), (3, .ref (.g 3) 0), (6, iV 0), (35, .slc (.g 4) 1 0 13 c), (36, iV 13), (37, iV i)] ∧ s = [(0, stoC 1 0 0 (-1)), (1, cellD 2 i), (2, .row 1 (rowsW i)), (3, .cells [iV 0, iV 1]), (4, .row 1 bytes13)]) rfl ?_ ?_
  · conv => whnf
    exact ⟨_, 0, by omega, rfl, rfl, rfl⟩
  rintro m env s ⟨i, hi, rfl, rfl, rfl⟩
  conv => whnf
  refine bcase_intro (fun h => ?_) (fun h => ?_)
  · have hil : (i : Int) < 13 := of_decide_eq_true h
    obtain ⟨b, hb1, hb2, hb3⟩ := rowsW_step (i := i) (by omega)
    conv => whnf
    refine ⟨⟨by omega, by omega⟩, ?_⟩
    conv => whnf
    refine ⟨[zB b], (by show bytes13[0 + ((i : Int)).toNat]? = _; simpa using hb1), rfl, ?_⟩
    conv => whnf
    have wI : IntKind.i64.wrap (IntKind.i64.wrap (0 * 13) + (i : Int)) = (i : Int) := by
      have e0 : IntKind.i64.wrap (0 * 13) = 0 := by decide
      rw [e0, Int.zero_add, wrap_id (by omega) (by omega)]
    rw [wI]
    refine .obj rfl ?_
    conv => whnf
    refine ⟨_, _, ⟨WkL.refl _, put76 (w := i) (rows := rowsW i) (i := i) (b := b) (by omega) hb2 (by omega) (by omega)⟩, fun res s1 h => ?_⟩
    obtain ⟨rfl, rfl⟩ := h
    rw [hb3]
    conv => whnf
    rw [wrap_id (show -9223372036854775808 ≤ (i : Int) + 1 by omega) (by omega)]
    exact ⟨_, by omega, i + 1, by omega, rfl, rfl, rfl⟩
  · have hil : ¬ (i : Int) < 13 := of_decide_eq_false h
    obtain rfl : i = 13 := by omega
    conv => whnf
    refine .obj rfl ?_
    conv => whnf
    refine ⟨_, _, ⟨WkL.refl _, put76 (w := 13) (rows := rowsW 13) (i := 0) (b := 1) (c := 0) (by omega) rfl (by omega) (by omega)⟩, fun res s1 h => ?_⟩
    obtain ⟨rfl, rfl⟩ := h
    conv => whnf
    exact ⟨rfl, rfl⟩
end Go.Proofs.YtpfmnccocmgfmaaDoor
/- Seat D: a counter goes up. -/
namespace Go.Proofs.YtpfmnccocmgfmaaDoor
open Go.RowKit Go.Shelf
theorem run_add (P : Program) (b off : Nat) (arr : Array Value) (tt : TypeId) (v d : Int) (w : World) (hb : w.heap[b]? = some (.cells arr tt (0, 0))) (hv : arr[off]? = some (.int .i64 v)) (hr : IntKind.i64.wrap (v + d) = v + d) :
    (Extern.Atomic.update (Op.intArith .add) .i64 true #[.pointer (some ⟨b, off, none⟩), .int .i64 d]).run P w = .ok (.int .i64 (v + d)) (w.setRow b (arr.setIfInBounds off (.int .i64 (v + d)))) := by
  have hc : w.cell? ⟨b, off, none⟩ = some (.int .i64 v) := by
    simp only [World.cell?, hb]
    simpa using hv
  have e0 : Extern.Atomic.update (Op.intArith .add) .i64 true #[.pointer (some ⟨b, off, none⟩), .int .i64 d] = (do
    let a ← asAddr (.pointer (some ⟨b, off, none⟩))
    let old ← Extern.Atomic.read (.int .i64) a
    let new ← Op.intArith .add .i64 (← asInt old) (← asInt (.int .i64 d))
    store a new .atomic
    pure new : Sem Value) := rfl
  rw [e0]
  unfold Extern.Atomic.read
  simp only [Sem.run_bind, asAddr, Sem.run_pure, Result.andThen_ok, run_load, hc, Op.intArith, asInt, asIntOf, if_true, hr]
  rw [run_store P w ⟨b, off, none⟩ _ .atomic rfl]
  simp only [hc]
  have hf : w.frozen? ⟨b, off, none⟩ = false := by
    simp only [World.frozen?, hb]
    simp
  rw [hf]
  have he : w.setCell ⟨b, off, none⟩ (.int .i64 (v + d)) = w.setRow b (arr.setIfInBounds off (.int .i64 (v + d))) := by
    unfold World.setCell World.setRow
    congr 1
    refine Array.ext (by simp) fun i h1 h2 => ?_
    simp only [Array.getElem_modify]
    split
    · rename_i e
      subst e
      have : w.heap[b]'(by simpa using h1) = .cells arr tt (0, 0) := (Array.getElem?_eq_some_iff.1 hb).2
      rw [this]
      rfl
    · rfl
  rw [he]
  rfl
set_option maxRecDepth 100000 in
set_option maxHeartbeats 1000000 in
theorem add78W (b off : Nat) (arr : Array Value) (tt : TypeId) (v d : Int) (w : World) (hb : w.heap[b]? = some (.cells arr tt (0, 0))) (hv : arr[off]? = some (.int .i64 v)) (hr : IntKind.i64.wrap (v + d) = v + d) :
    Calls Tryd.prog 78 #[.pointer (some ⟨b, off, none⟩), .int .i64 d] w fun e w' => e = .returned (.int .i64 (v + d)) ∧ w' = w.setRow b (arr.setIfInBounds off (.int .i64 (v + d))) := by
  go_enter Tryd.func78, Tryd.ntmps78
  go_wp2
  rw [run_callFunc_extern Tryd.func83 (by kernel_rfl) (by kernel_rfl) (by kernel_rfl) (e := Extern.Atomic.update (Op.intArith .add) .i64 true) (by kernel_rfl), run_add Tryd.prog b off arr tt v d w hb hv hr]
  simp only [Result.andThen]
  rw [Oper.upon_value]
  go_wp2
  go_ret
  exact ⟨rfl, rfl⟩
open Go.Pv
/-- The counter at a place of a block of one's own. -/
theorem add78 {cs : List AV} {off : Nat} {v d : Int} (hv : cs[off]? = some (.d (.int .i64 v))) (hr : IntKind.i64.wrap (v + d) = v + d) : Contract Tryd.prog GN 78 [.ref (.g 0) off, .d (.int .i64 d)] [(0, .cells cs)] (fun r t => r = .d (.int .i64 (v + d)) ∧ t = [(0, .cells (cs.set off (.d (.int .i64 (v + d)))))]) := by
  refine ⟨enters_of Tryd.func78 (by kernel_rfl) rfl, fun g F U w vals hS hG hlv hv0 => ?_⟩
  obtain ⟨v1, v2, rfl⟩ : ∃ v1 v2, vals = [v1, v2] := by
    match vals, hlv with
    | [v1, v2], _ => exact ⟨v1, v2, rfl⟩
  have hrv1 := hv0 0 _ v1 rfl rfl
  have hrv2 := hv0 1 _ v2 rfl rfl
  obtain rfl : v2 = .int .i64 d := hrv2.int_inv
  obtain ⟨b, hgb, rfl⟩ : ∃ b, g 0 = some b ∧ v1 = .pointer (some ⟨b, off, none⟩) := by
    cases hrv1 with
    | ref _ _ b h => exact ⟨b, h, rfl⟩
  obtain ⟨arr, tt, hbk, hasz, hac⟩ := hS.rb (.g 0) (.cells cs) b (by simp [Here]) hgb
  have hlt : off < cs.length := (List.getElem?_eq_some_iff.1 hv).1
  have hva : arr[off]? = some (.int .i64 v) := by
    have hu := Array.getElem?_eq_getElem (xs := arr) (i := off) (by omega)
    have := (hac off _ _ hv hu).2.int_inv
    rw [hu, this]
  refine (add78W b off arr tt v d w hbk hva hr).mono ?_
  rintro e w' ⟨rfl, rfl⟩
  have hE := eff_write (L' := []) (s' := [(0, .cells (cs.set off (.d (.int .i64 (v + d)))))]) (r := .g 0) (new := arr.setIfInBounds off (.int .i64 (v + d))) hS (Put.g [] [] [] 0) (by simp) hgb hbk (by simp) (fun w' hX hnew => by
    refine ⟨_, tt, hnew, by simp [hasz], fun j z u hz hu => ?_⟩
    by_cases hj : off = j
    · subst hj
      rw [List.getElem?_set_self hlt] at hz
      rw [Array.getElem?_setIfInBounds_self_of_lt (by omega)] at hu
      cases hz
      cases hu
      exact ⟨rfl, .d (.int _ _)⟩
    · rw [List.getElem?_set_ne hj] at hz
      rw [Array.getElem?_setIfInBounds_ne hj] at hu
      have := hac j z u hz hu
      exact ⟨this.1, this.2.mono (.refl _) (fun _ h => h) hS.FU hX⟩)
  exact ⟨_, .d (.int .i64 (v + d)), _, g, F, U, rfl, ⟨rfl, rfl⟩, fun _ _ h => h, hE.ids, fun _ h => h, fun _ h => h, fun b h => .inl h, hE.ext, hE.st, .d (.int _ _)⟩
end Go.Proofs.YtpfmnccocmgfmaaDoor
/- Seat D: a node comes up. -/
namespace Go.Proofs.YtpfmnccocmgfmaaDoor
open Go.Pv Go.RowKit
/-- A node's cells. -/
abbrev nodeC (s c l : AV) : AB := .cells ([iV 1, iV 2, iV 1, iV 1, iV 0, s, iV 1, iV 0, iV 0, iV 0, bV false, iV 0, .d gateD, .d .nil, c] ++ List.replicate 64 (bV false) ++ [l, bV false, bV false, iV 0, iV 0])
abbrev tableC : AB := .cells (ti150.zero.map .d)
abbrev setC : AB := .cells [.d (.raw (.map none))]
abbrev bootD : DV := .list 9 [[iD 9, iD 0, iD 0, iD 0, iD 0, iD 0, iD 0, iD 0, iD 0]]
abbrev slots : List (List DV) := [[zB 1], [zB 0], [zB 0], [zB 0], [zB 0], [zB 0], [zB 0], [zB 0], [zB 0], [zB 0], [zB 0], [zB 0], [zB 1]] ++ zeros 13
set_option maxRecDepth 100000 in
set_option maxHeartbeats 4000000 in
theorem new38 : Contract Tryd.prog GN 38 [hA, iV 0, .ref (.g 0) 0, iV 0] [(0, cellC 0), (1, .row 1 (zeros 26))] (fun r t => r = .tup [.ref (.g 2) 0, .d bootD, nilE] ∧ t = [(0, cellC 14), (1, .row 1 slots), (2, nodeC (.ref (.g 3) 0) (.ref (.g 4) 0) (.ref (.g 5) 0)), (3, stoC 0 0 1 0), (4, setC), (5, tableC)]) := by
  refine run38 2 [] rfl rfl ?_
  conv => whnf
  refine .data [hA, iV 0] _ ⟨WkL.refl _, rfl, start55⟩ ?_
  conv => whnf
  refine .obj rfl ?_
  conv => whnf
  refine ⟨_, _, ⟨WkL.refl _, open56⟩, fun res s1 h => ?_⟩
  obtain ⟨rfl, rfl⟩ := h
  conv => whnf
  refine .obj rfl ?_
  conv => whnf
  refine ⟨_, _, ⟨WkL.refl _, record57⟩, fun res s1 h => ?_⟩
  obtain ⟨rfl, rfl⟩ := h
  conv => whnf
  refine .obj rfl ?_
  conv => whnf
  refine ⟨_, _, ⟨WkL.refl _, save58⟩, fun res s1 h => ?_⟩
  obtain ⟨rfl, rfl⟩ := h
  conv => whnf
  refine .data [iV 0] _ ⟨WkL.refl _, rfl, gate59⟩ ?_
  conv => whnf
  exact ⟨rfl, rfl⟩
set_option maxRecDepth 100000 in
theorem new36 : Contract Tryd.prog GN 36 [iV 2] [] (fun r t => r = .tup [.ref (.g 0) 0, nilE] ∧ t = [(0, .cells [iV 2, .mp (.g 1), .mp (.g 2)]), (1, .dmap []), (2, .dmap [])]) := by
  refine run36 0 [] rfl rfl ?_
  conv => whnf
  exact ⟨rfl, rfl⟩
theorem kind77 : Contract Tryd.prog GN 77 [iV 9] [] (fun r t => r = bV true ∧ t = []) := by
  refine run77 0 [] rfl rfl ?_
  conv => whnf
  exact ⟨rfl, rfl⟩
end Go.Proofs.YtpfmnccocmgfmaaDoor
/- Seat D: events are noted. -/
namespace Go.Proofs.YtpfmnccocmgfmaaDoor
open Go.Pv Go.RowKit
abbrev meterL (n : Int) : List AV := [iV 0, iV 0, iV 0, iV 0, iV 0, iV 0, iV 0, iV 0, iV 0, iV n, iV 0, iV 0]
set_option maxRecDepth 100000 in
theorem add60 : Contract Tryd.prog GN 60 [.ref (.g 0) 0, iV 9] [(0, .cells (meterL 0))] (fun r t => r = bV true ∧ t = [(0, .cells (meterL 1))]) := by
  refine run60 1 [] rfl rfl ?_
  conv => whnf
  refine .data [iV 9] _ ⟨WkL.refl _, rfl, kind77⟩ ?_
  conv => whnf
  refine ⟨⟨by decide, by decide⟩, ?_⟩
  conv => whnf
  refine .obj rfl ?_
  conv => whnf
  refine ⟨_, _, ⟨WkL.refl _, add78 (cs := meterL 0) (off := 9) (v := 0) (d := 1) rfl rfl⟩, fun res s1 h => ?_⟩
  obtain ⟨rfl, rfl⟩ := h
  conv => whnf
  exact ⟨rfl, rfl⟩
abbrev worldC (nodes cells ev : AV) : AB := .cells [iV 1, iV 2, iV 1, iV 1, .ref (.g 1) 0, nodes, cells, .ref (.g 4) 0, .slc (.g 5) 1 0 1 1, iV 0, ev, .ref (.g 6) 0]
set_option maxRecDepth 100000 in
set_option maxHeartbeats 4000000 in
theorem note39 (nd cl : List (List DV)) (c1 c2 : Nat) : Contract Tryd.prog GN 39 [.ref (.g 0) 0, .d bootD] [(0, worldC (.slc (.g 2) 1 0 1 c1) (.slc (.g 3) 1 0 1 c2) (.d .nil)), (1, .cells [iV 2, .mp (.g 7), .mp (.g 8)]), (2, .row 1 nd), (3, .row 1 cl), (4, .cells [.d .nil, iV 0]), (5, .row 1 [[.bool false]]), (6, .cells (meterL 0)), (7, .dmap []), (8, .dmap [])]
    (fun r t => ∃ c3, 1 ≤ c3 ∧ r = iV 1 ∧ t = [(0, worldC (.slc (.g 2) 1 0 1 c1) (.slc (.g 3) 1 0 1 c2) (.slc (.g 9) 9 0 1 c3)), (1, .cells [iV 2, .mp (.g 7), .mp (.g 8)]), (2, .row 1 nd), (3, .row 1 cl), (4, .cells [.d .nil, iV 0]), (5, .row 1 [[.bool false]]), (6, .cells (meterL 1)), (7, .dmap []), (8, .dmap []), (9, .row 9 [[iD 9, iD 0, iD 0, iD 0, iD 0, iD 0, iD 0, iD 0, iD 0]])]) := by
  refine run39 9 [] rfl rfl ?_
  conv => whnf
  refine StopG.rounds wk39 [] [0, 1, 7, 8, 9] (fun m env s => (m = 1 ∧ env = [(0, .ref (.g 0) 0), (1, .d bootD), (7, .d bootD), (8, iV 1), (9, iV 0)] ∧ s = [(0, worldC (.slc (.g 2) 1 0 1 c1) (.slc (.g 3) 1 0 1 c2) (.d .nil)), (1, .cells [iV 2, .mp (.g 7), .mp (.g 8)]), (2, .row 1 nd), (3, .row 1 cl), (4, .cells [.d .nil, iV 0]), (5, .row 1 [[.bool false]]), (6, .cells (meterL 0)), (7, .dmap []), (8, .dmap [])]) ∨
    (m = 0 ∧ ∃ c3, 1 ≤ c3 ∧ env = [(0, .ref (.g 0) 0), (1, .d bootD), (7, .d bootD), (8, iV 1), (9, iV 1)] ∧ s = [(0, worldC (.slc (.g 2) 1 0 1 c1) (.slc (.g 3) 1 0 1 c2) (.slc (.g 9) 9 0 1 c3)), (1, .cells [iV 2, .mp (.g 7), .mp (.g 8)]), (2, .row 1 nd), (3, .row 1 cl), (4, .cells [.d .nil, iV 0]), (5, .row 1 [[.bool false]]), (6, .cells (meterL 1)), (7, .dmap []), (8, .dmap []), (9, .row 9 [[iD 9, iD 0, iD 0, iD 0, iD 0, iD 0, iD 0, iD 0, iD 0]])])) rfl ?_ ?_
  · conv => whnf
    exact ⟨_, .inl ⟨rfl, rfl, rfl⟩⟩
  rintro m env s (⟨rfl, rfl, rfl⟩ | ⟨rfl, c3, hc3, rfl, rfl⟩)
  · conv => whnf
    refine ⟨_, ⟨by decide, rfl⟩, ?_⟩
    conv => whnf
    refine .obj rfl ?_
    conv => whnf
    refine ⟨_, _, ⟨WkL.refl _, add60⟩, fun res s1 h => ?_⟩
    obtain ⟨rfl, rfl⟩ := h
    conv => whnf
    refine ⟨⟨by decide, by decide⟩, ?_⟩
    conv => whnf
    intro c3 hc3
    conv => whnf
    exact ⟨_, by decide, .inr ⟨rfl, c3, hc3, rfl, rfl⟩⟩
  · conv => whnf
    exact ⟨c3, hc3, rfl, rfl⟩
end Go.Proofs.YtpfmnccocmgfmaaDoor
/- Seat D: the smallest house. -/
namespace Go.Proofs.YtpfmnccocmgfmaaDoor
open Go.Pv Go.RowKit
abbrev houseC : AB := .cells [iV 1, iV 2, iV 1, iV 1]
abbrev worldX (r m o me : Nat) (nodes cells ev : AV) : AB := .cells [iV 1, iV 2, iV 1, iV 1, .ref (.g r) 0, nodes, cells, .ref (.g m) 0, .slc (.g o) 1 0 1 1, iV 0, ev, .ref (.g me) 0]
abbrev mailC : AB := .cells [.d .nil, iV 0]
abbrev riserC (a b : Nat) : AB := .cells [iV 2, .mp (.g a), .mp (.g b)]
abbrev nilS : AV := .d .nil
abbrev cellP : DV := .ptr [.list 1 ((List.drop 0 slots).take 26), iD 0, .bool false, iD 14] 0
abbrev stoP : DV := .ptr [cellP, iD 0, iD 1, iD 0] 0
abbrev setP : DV := .ptr [.raw (.map none)] 0
abbrev tableP : DV := .ptr ti150.zero 0
abbrev nodeP : DV := .ptr ([iD 1, iD 2, iD 1, iD 1, iD 0, stoP, iD 1, iD 0, iD 0, iD 0, .bool false, iD 0, gateD, .nil, setP] ++ List.replicate 64 (.bool false) ++ [tableP, .bool false, .bool false, iD 0, iD 0]) 0
abbrev evRow : List (List DV) := [[iD 9, iD 0, iD 0, iD 0, iD 0, iD 0, iD 0, iD 0, iD 0]]
/-- The smallest house, built. -/
abbrev worldS (c1 c2 c3 : Nat) : List (Nat × AB) := [(0, .cells [iV 1, iV 2, iV 1, iV 1, .ref (.g 1) 0, .slc (.g 2) 1 0 1 c1, .slc (.g 3) 1 0 1 c2, .ref (.g 4) 0, .slc (.g 5) 1 0 1 1, iV 0, .slc (.g 6) 9 0 1 c3, .ref (.g 7) 0]), (1, riserC 8 9), (2, .row 1 [[nodeP]]), (3, .row 1 [[cellP]]), (4, mailC), (5, .row 1 [[.bool false]]), (6, .row 9 evRow), (7, .cells (meterL 1)), (8, .dmap []), (9, .dmap [])]
set_option maxRecDepth 100000 in
set_option maxHeartbeats 4000000 in
theorem new27 : Contract Tryd.prog GN 27 [hA] [] (fun r t => ∃ c1 c2 c3, r = .tup [.ref (.g 0) 0, nilE] ∧ t = worldS c1 c2 c3) := by
  refine run27 0 [13, 16] rfl rfl ?_
  conv => whnf
  refine .data [hA] _ ⟨WkL.refl _, rfl, valid35⟩ ?_
  conv => whnf
  refine .obj rfl ?_
  conv => whnf
  refine ⟨_, _, ⟨WkL.refl _, new36⟩, fun res s1 h => ?_⟩
  obtain ⟨rfl, rfl⟩ := h
  conv => whnf
  refine ⟨1, 1, ⟨rfl, rfl, by decide, by decide, by decide⟩, ?_⟩
  conv => whnf
  refine StopG.rounds wk27 [13, 16] [1, 6, 37, 38] (fun m env s => (m = 1 ∧ env = [(1, .ref (.g 0) 0), (6, .ref (.g 1) 0), (37, iV 1), (38, iV 0)] ∧ s = [(0, houseC), (1, worldX 2 3 4 5 nilS nilS nilS), (2, riserC 6 7), (3, mailC), (4, .row 1 [[.bool false]]), (5, .cells (meterL 0)), (6, .dmap []), (7, .dmap [])]) ∨ (m = 0 ∧ ∃ c1 c2 c3, env = [(1, .ref (.g 0) 0), (6, .ref (.g 1) 0), (37, iV 1), (38, iV 1)] ∧ s = [(0, houseC), (1, .cells [iV 1, iV 2, iV 1, iV 1, .ref (.g 2) 0, .slc (.g 3) 1 0 1 c1, .slc (.g 4) 1 0 1 c2, .ref (.g 5) 0, .slc (.g 6) 1 0 1 1, iV 0, .slc (.g 7) 9 0 1 c3, .ref (.g 8) 0]), (2, riserC 9 10), (3, .row 1 [[nodeP]]), (4, .row 1 [[cellP]]), (5, mailC), (6, .row 1 [[.bool false]]), (7, .row 9 evRow), (8, .cells (meterL 1)), (9, .dmap []), (10, .dmap [])])) rfl ?_ ?_
  · conv => whnf
    exact ⟨_, .inl ⟨rfl, rfl, rfl⟩⟩
  rintro m env s (⟨rfl, rfl, rfl⟩ | ⟨rfl, c1, c2, c3, rfl, rfl⟩)
  rotate_left
  · conv => whnf
    exact ⟨c1, c2, c3, rfl, rfl⟩
  conv => whnf
  refine .obj rfl ?_
  conv => whnf
  refine ⟨_, _, ⟨WkL.refl _, new37⟩, fun res s1 h => ?_⟩
  obtain ⟨rfl, rfl⟩ := h
  conv => whnf
  refine StopG.draw wk27 [16] sp27_13 [1, 6, 8, 9, 10, 11, 37, 38] (fun env s => env = [(1, .ref (.g 0) 0), (6, .ref (.g 1) 0), (8, .ref (.g 2) 0), (9, nilE), (10, .ref (.g 3) 0), (11, .d bootD), (37, iV 1), (38, iV 0)] ∧ s = [(0, houseC), (1, worldX 4 5 6 7 nilS nilS nilS), (2, cellD 8 14), (3, nodeC (.ref (.g 9) 0) (.ref (.g 10) 0) (.ref (.g 11) 0)), (4, riserC 12 13), (5, mailC), (6, .row 1 [[.bool false]]), (7, .cells (meterL 0)), (8, .row 1 slots), (9, stoC 2 0 1 0), (10, setC), (11, tableC), (12, .dmap []), (13, .dmap [])]) rfl rfl (by kernel_rfl) ?_ ?_
  · conv => whnf
    repeat' (first
      | (refine Both.mk ?_ ?_ <;> conv => whnf)
      | (refine ⟨⟨rfl, by decide⟩, ?_⟩; conv => whnf)
      | (refine .obj rfl ?_; (conv => whnf); refine ⟨_, _, ⟨WkL.refl _, new38⟩, fun res s1 h => ?_⟩; obtain ⟨rfl, rfl⟩ := h; (conv => whnf); exact ⟨rfl, rfl⟩))
  rintro env s ⟨rfl, rfl⟩
  conv => whnf
  refine .ghost (GV.trans (GV.freeze 8 (ab := AB.row 1 slots) rfl (by simp) ?_ ?_) (GV.tidied [1, 6, 8, 9, 10, 11, 37, 38] (E := [(1, .ref (.g 0) 0), (6, .ref (.g 1) 0), (8, .ref (.g 2) 0), (9, nilE), (10, .ref (.g 3) 0), (11, .d bootD), (37, iV 1), (38, iV 0)]) (S := [(0, houseC), (1, worldX 4 5 6 7 nilS nilS nilS), (2, AB.cells [.d (.list 1 ((List.drop 0 slots).take 26)), iV 0, bV false, iV 14]), (3, nodeC (.ref (.g 8) 0) (.ref (.g 9) 0) (.ref (.g 10) 0)), (4, riserC 11 12), (5, mailC), (6, AB.row 1 [[.bool false]]), (7, AB.cells (meterL 0)), (8, AB.cells [.ref (.g 2) 0, iV 0, iV 1, iV 0]), (9, setC), (10, tableC), (11, AB.dmap []), (12, AB.dmap [])]) ?_)) ?_
  · repeat' first | exact trivial | apply And.intro | decide | (simp; done) | omega
  · repeat' first | exact trivial | apply And.intro | decide | (simp [zeros]; done) | omega
  · conv => whnf
    exact ⟨rfl, rfl⟩
  refine .ghost (GV.trans (GV.freeze 2 (ab := AB.cells [.d (.list 1 ((List.drop 0 slots).take 26)), iV 0, bV false, iV 14]) rfl (by simp) ?_ ?_) (GV.tidied [1, 6, 8, 9, 10, 11, 37, 38] (E := [(1, .ref (.g 0) 0), (6, .ref (.g 1) 0), (8, .d cellP), (9, nilE), (10, .ref (.g 2) 0), (11, .d bootD), (37, iV 1), (38, iV 0)]) (S := [(0, houseC), (1, worldX 3 4 5 6 nilS nilS nilS), (2, nodeC (.ref (.g 7) 0) (.ref (.g 8) 0) (.ref (.g 9) 0)), (3, riserC 10 11), (4, mailC), (5, AB.row 1 [[.bool false]]), (6, AB.cells (meterL 0)), (7, AB.cells [.d cellP, iV 0, iV 1, iV 0]), (8, setC), (9, tableC), (10, AB.dmap []), (11, AB.dmap [])]) ?_)) ?_
  · repeat' first | exact trivial | apply And.intro | decide | (simp; done) | omega
  · repeat' first | exact trivial | apply And.intro | decide | (simp [zeros]; done) | omega
  · conv => whnf
    exact ⟨rfl, rfl⟩
  refine .ghost (GV.trans (GV.freeze 7 (ab := AB.cells [.d cellP, iV 0, iV 1, iV 0]) rfl (by simp) ?_ ?_) (GV.tidied [1, 6, 8, 9, 10, 11, 37, 38] (E := [(1, .ref (.g 0) 0), (6, .ref (.g 1) 0), (8, .d cellP), (9, nilE), (10, .ref (.g 2) 0), (11, .d bootD), (37, iV 1), (38, iV 0)]) (S := [(0, houseC), (1, worldX 3 4 5 6 nilS nilS nilS), (2, nodeC (.d stoP) (.ref (.g 7) 0) (.ref (.g 8) 0)), (3, riserC 9 10), (4, mailC), (5, AB.row 1 [[.bool false]]), (6, AB.cells (meterL 0)), (7, setC), (8, tableC), (9, AB.dmap []), (10, AB.dmap [])]) ?_)) ?_
  · repeat' first | exact trivial | apply And.intro | decide | (simp; done) | omega
  · repeat' first | exact trivial | apply And.intro | decide | (simp [zeros]; done) | omega
  · conv => whnf
    exact ⟨rfl, rfl⟩
  refine .ghost (GV.trans (GV.freeze 7 (ab := setC) rfl (by simp) ?_ ?_) (GV.tidied [1, 6, 8, 9, 10, 11, 37, 38] (E := [(1, .ref (.g 0) 0), (6, .ref (.g 1) 0), (8, .d cellP), (9, nilE), (10, .ref (.g 2) 0), (11, .d bootD), (37, iV 1), (38, iV 0)]) (S := [(0, houseC), (1, worldX 3 4 5 6 nilS nilS nilS), (2, nodeC (.d stoP) (.d setP) (.ref (.g 7) 0)), (3, riserC 8 9), (4, mailC), (5, AB.row 1 [[.bool false]]), (6, AB.cells (meterL 0)), (7, tableC), (8, AB.dmap []), (9, AB.dmap [])]) ?_)) ?_
  · repeat' first | exact trivial | apply And.intro | decide | (simp; done) | omega
  · repeat' first | exact trivial | apply And.intro | decide | (simp [zeros]; done) | omega
  · conv => whnf
    exact ⟨rfl, rfl⟩
  refine .ghost (GV.trans (GV.freeze 7 (ab := tableC) rfl (by simp) ?_ ?_) (GV.tidied [1, 6, 8, 9, 10, 11, 37, 38] (E := [(1, .ref (.g 0) 0), (6, .ref (.g 1) 0), (8, .d cellP), (9, nilE), (10, .ref (.g 2) 0), (11, .d bootD), (37, iV 1), (38, iV 0)]) (S := [(0, houseC), (1, worldX 3 4 5 6 nilS nilS nilS), (2, nodeC (.d stoP) (.d setP) (.d tableP)), (3, riserC 7 8), (4, mailC), (5, AB.row 1 [[.bool false]]), (6, AB.cells (meterL 0)), (7, AB.dmap []), (8, AB.dmap [])]) ?_)) ?_
  · repeat' first | exact trivial | apply And.intro | decide | (simp; done) | omega
  · repeat' first | exact trivial | apply And.intro | decide | (simp [zeros]; done) | omega
  · conv => whnf
    exact ⟨rfl, rfl⟩
  refine .ghost (GV.trans (GV.freeze 2 (ab := nodeC (.d stoP) (.d setP) (.d tableP)) rfl (by simp) ?_ ?_) (GV.tidied [1, 6, 8, 9, 10, 11, 37, 38] (E := [(1, .ref (.g 0) 0), (6, .ref (.g 1) 0), (8, .d cellP), (9, nilE), (10, .d nodeP), (11, .d bootD), (37, iV 1), (38, iV 0)]) (S := [(0, houseC), (1, worldX 2 3 4 5 nilS nilS nilS), (2, riserC 6 7), (3, mailC), (4, AB.row 1 [[.bool false]]), (5, AB.cells (meterL 0)), (6, AB.dmap []), (7, AB.dmap [])]) ?_)) ?_
  · repeat' first | exact trivial | apply And.intro | decide | (simp; done) | omega
  · repeat' first | exact trivial | apply And.intro | decide | (simp [zeros]; done) | omega
  · conv => whnf
    exact ⟨rfl, rfl⟩
  refine .go wk27 [] ?_
  conv => whnf
  refine ⟨⟨by show (2 * 1 + 1024) * 8 ≤ _; decide, by show 1 ≤ _; decide⟩, ?_⟩
  conv => whnf
  intro c2 hc2
  conv => whnf
  refine ⟨⟨by show (2 * 1 + 1024) * 8 ≤ _; decide, by show 1 ≤ _; decide⟩, ?_⟩
  conv => whnf
  intro c1 hc1
  conv => whnf
  refine .obj rfl ?_
  conv => whnf
  refine ⟨_, _, ⟨WkL.refl _, note39 _ _ c1 c2⟩, fun res s1 h => ?_⟩
  obtain ⟨c3, hc3, rfl, rfl⟩ := h
  conv => whnf
  exact ⟨_, by decide, .inr ⟨rfl, c1, c2, c3, rfl, rfl⟩⟩
end Go.Proofs.YtpfmnccocmgfmaaDoor
/- Seat D: who is up in the smallest house. -/
namespace Go.Proofs.YtpfmnccocmgfmaaDoor
open Go.Pv Go.RowKit
abbrev wl (r n c m o e t c1 c2 c3 : Nat) : AB := .cells [iV 1, iV 2, iV 1, iV 1, .ref (.g r) 0, .slc (.g n) 1 0 1 c1, .slc (.g c) 1 0 1 c2, .ref (.g m) 0, .slc (.g o) 1 0 1 1, iV 0, .slc (.g e) 9 0 1 c3, .ref (.g t) 0]
abbrev wrest (r n c m o e t a b : Nat) : List (Nat × AB) := [(r, riserC a b), (n, .row 1 [[nodeP]]), (c, .row 1 [[cellP]]), (m, mailC), (o, .row 1 [[.bool false]]), (e, .row 9 evRow), (t, .cells (meterL 1)), (a, .dmap []), (b, .dmap [])]
variable {c1 c2 c3 : Nat}
set_option maxRecDepth 100000 in
theorem down63 : Contract Tryd.prog GN 63 [.d nodeP] [] (fun r t => r = bV false ∧ t = []) := by
  refine run63 0 [] rfl rfl ?_
  conv => whnf
  exact ⟨rfl, rfl⟩
set_option maxRecDepth 100000 in
theorem up62 : Contract Tryd.prog GN 62 [iV 0, .ref (.g 0) 0] ((0, .cells [.ref (.g 1) 0]) :: (1, wl 2 3 4 5 6 7 8 c1 c2 c3) :: wrest 2 3 4 5 6 7 8 9 10) (fun r t => r = bV true ∧ t = (0, .cells [.ref (.g 1) 0]) :: (1, wl 2 3 4 5 6 7 8 c1 c2 c3) :: wrest 2 3 4 5 6 7 8 9 10) := by
  refine run62 11 [] rfl rfl ?_
  conv => whnf
  refine ⟨⟨by decide, by decide⟩, ?_⟩
  conv => whnf
  refine ⟨[nodeP], rfl, rfl, ?_⟩
  conv => whnf
  refine .data [.d nodeP] _ ⟨WkL.refl _, rfl, down63⟩ ?_
  conv => whnf
  exact ⟨rfl, rfl⟩
set_option maxRecDepth 100000 in
theorem some61 : Contract Tryd.prog GN 61 [.ref (.g 0) 0, .fn 62 [.ref (.g 1) 0]] ((0, wl 2 3 4 5 6 7 8 c1 c2 c3) :: (1, .cells [.ref (.g 0) 0]) :: wrest 2 3 4 5 6 7 8 9 10) (fun r t => ∃ c, 1 ≤ c ∧ r = .slc (.g 11) 1 0 1 c ∧ t = (0, wl 2 3 4 5 6 7 8 c1 c2 c3) :: (1, .cells [.ref (.g 0) 0]) :: wrest 2 3 4 5 6 7 8 9 10 ++ [(11, .row 1 [[iD 0]])]) := by
  refine run61 11 [] rfl rfl ?_
  conv => whnf
  refine StopG.rounds wk61 [] [0, 1, 5, 11, 12] (fun m env s => (m = 1 ∧ env = [(0, .ref (.g 0) 0), (1, .fn 62 [.ref (.g 1) 0]), (5, .d .nil), (11, iV 1), (12, iV 0)] ∧ s = (0, wl 2 3 4 5 6 7 8 c1 c2 c3) :: (1, .cells [.ref (.g 0) 0]) :: wrest 2 3 4 5 6 7 8 9 10) ∨
    (m = 0 ∧ ∃ c, 1 ≤ c ∧ env = [(0, .ref (.g 0) 0), (1, .fn 62 [.ref (.g 1) 0]), (5, .slc (.g 11) 1 0 1 c), (11, iV 1), (12, iV 1)] ∧ s = (0, wl 2 3 4 5 6 7 8 c1 c2 c3) :: (1, .cells [.ref (.g 0) 0]) :: wrest 2 3 4 5 6 7 8 9 10 ++ [(11, .row 1 [[iD 0]])])) rfl ?_ ?_
  · conv => whnf
    exact ⟨_, .inl ⟨rfl, rfl, rfl⟩⟩
  rintro m env s (⟨rfl, rfl, rfl⟩ | ⟨rfl, c, hc, rfl, rfl⟩)
  · conv => whnf
    refine .obj rfl ?_
    conv => whnf
    refine ⟨_, _, ⟨WkL.refl _, up62⟩, fun res s1 h => ?_⟩
    obtain ⟨rfl, rfl⟩ := h
    conv => whnf
    refine ⟨⟨by show (2 * 1 + 1024) * 8 ≤ _; decide, by show 1 ≤ _; decide⟩, ?_⟩
    conv => whnf
    intro c hc
    conv => whnf
    exact ⟨_, by decide, .inr ⟨rfl, c, hc, rfl, rfl⟩⟩
  · conv => whnf
    exact ⟨c, hc, rfl, rfl⟩
set_option maxRecDepth 100000 in
theorem up40 : Contract Tryd.prog GN 40 [.ref (.g 0) 0] ((0, wl 1 2 3 4 5 6 7 c1 c2 c3) :: wrest 1 2 3 4 5 6 7 8 9) (fun r t => ∃ c, 1 ≤ c ∧ r = .slc (.g 10) 1 0 1 c ∧ t = (0, wl 1 2 3 4 5 6 7 c1 c2 c3) :: wrest 1 2 3 4 5 6 7 8 9 ++ [(10, .row 1 [[iD 0]])]) := by
  refine run40 10 [] rfl rfl ?_
  conv => whnf
  refine .obj rfl ?_
  conv => whnf
  refine ⟨_, _, ⟨WkL.refl _, some61⟩, fun res s1 h => ?_⟩
  obtain ⟨c, hc, rfl, rfl⟩ := h
  conv => whnf
  exact ⟨c, hc, rfl, rfl⟩
end Go.Proofs.YtpfmnccocmgfmaaDoor
/- Seat D: the smallest house is not settled when it is built. -/
namespace Go.Proofs.YtpfmnccocmgfmaaDoor
open Go.Pv Go.RowKit
variable {c1 c2 c3 : Nat}
set_option maxRecDepth 100000 in
theorem car64 : Contract Tryd.prog GN 64 [.ref (.g 0) 0, iV 0] ((0, wl 1 2 3 4 5 6 7 c1 c2 c3) :: wrest 1 2 3 4 5 6 7 8 9) (fun r t => r = bV true ∧ t = (0, wl 1 2 3 4 5 6 7 c1 c2 c3) :: wrest 1 2 3 4 5 6 7 8 9) := by
  refine run64 10 [] rfl rfl ?_
  conv => whnf
  exact ⟨rfl, rfl⟩
set_option maxRecDepth 100000 in
theorem node41 : Contract Tryd.prog GN 41 [.ref (.g 0) 0, iV 0] ((0, wl 1 2 3 4 5 6 7 c1 c2 c3) :: wrest 1 2 3 4 5 6 7 8 9) (fun r t => r = .tup [.d nodeP, bV true] ∧ t = (0, wl 1 2 3 4 5 6 7 c1 c2 c3) :: wrest 1 2 3 4 5 6 7 8 9) := by
  refine run41 10 [] rfl rfl ?_
  conv => whnf
  refine .obj rfl ?_
  conv => whnf
  refine ⟨_, _, ⟨WkL.refl _, car64⟩, fun res s1 h => ?_⟩
  obtain ⟨rfl, rfl⟩ := h
  conv => whnf
  refine ⟨⟨by decide, by decide⟩, ?_⟩
  conv => whnf
  refine ⟨[nodeP], rfl, rfl, ?_⟩
  conv => whnf
  exact ⟨rfl, rfl⟩
set_option maxRecDepth 100000 in
theorem epoch65 : Contract Tryd.prog GN 65 [.d gateD] [] (fun r t => r = .agg [iV 0, iV 0] ∧ t = []) := by
  refine run65 0 [] rfl rfl ?_
  conv => whnf
  exact ⟨rfl, rfl⟩
set_option maxRecDepth 100000 in
theorem epoch42 : Contract Tryd.prog GN 42 [.d nodeP] [] (fun r t => r = .agg [iV 0, iV 0] ∧ t = []) := by
  refine run42 0 [] rfl rfl ?_
  conv => whnf
  refine .data [.d gateD] _ ⟨WkL.refl _, rfl, epoch65⟩ ?_
  conv => whnf
  exact ⟨rfl, rfl⟩
theorem none46 : Contract Tryd.prog GN 46 [.agg [iV 0, iV 0]] [] (fun r t => r = bV true ∧ t = []) := by
  refine run46 0 [] rfl rfl ?_
  conv => whnf
  exact ⟨rfl, rfl⟩
abbrev upD : DV := .list 1 [[iD 0]]
set_option maxRecDepth 100000 in
theorem clone44 : Contract Tryd.prog GN 44 [.d upD] [] (fun r t => ∃ c, 1 ≤ c ∧ r = .slc (.g 0) 1 0 1 c ∧ t = [(0, .row 1 [[iD 0]])]) := by
  refine run44 0 [] rfl rfl ?_
  conv => whnf
  refine ⟨⟨by show (2 * 1 + 1024) * 8 ≤ _; decide, by show 1 ≤ _; decide⟩, ?_⟩
  conv => whnf
  intro c hc
  conv => whnf
  exact ⟨c, hc, rfl, rfl⟩
theorem is45 : Contract Tryd.prog GN 45 [iV 0, .ref (.g 0) 0] [(0, .cells [iV 0])] (fun r t => r = bV true ∧ t = [(0, .cells [iV 0])]) := by
  refine run45 1 [] rfl rfl ?_
  conv => whnf
  exact ⟨rfl, rfl⟩
set_option maxRecDepth 100000 in
theorem index66 {c : Nat} : Contract Tryd.prog GN 66 [.slc (.g 0) 1 0 1 c, .fn 45 [.ref (.g 1) 0]] [(0, .row 1 [[iD 0]]), (1, .cells [iV 0])] (fun r t => r = iV 0 ∧ t = [(0, .row 1 [[iD 0]]), (1, .cells [iV 0])]) := by
  refine run66 2 [] rfl rfl ?_
  conv => whnf
  refine StopG.rounds wk66 [] [0, 1, 7, 8] (fun m env s => m = 1 ∧ env = [(0, .slc (.g 0) 1 0 1 c), (1, .fn 45 [.ref (.g 1) 0]), (7, iV 1), (8, iV 0)] ∧ s = [(0, .row 1 [[iD 0]]), (1, .cells [iV 0])]) rfl ?_ ?_
  · conv => whnf
    exact ⟨_, rfl, rfl, rfl⟩
  rintro m env s ⟨rfl, rfl, rfl⟩
  conv => whnf
  refine ⟨⟨by decide, by decide⟩, ?_⟩
  conv => whnf
  refine ⟨[iD 0], rfl, rfl, ?_⟩
  conv => whnf
  refine .obj rfl ?_
  conv => whnf
  refine ⟨_, _, ⟨WkL.refl _, is45⟩, fun res s1 h => ?_⟩
  obtain ⟨rfl, rfl⟩ := h
  conv => whnf
  exact ⟨rfl, rfl⟩
set_option maxRecDepth 100000 in
theorem delete43 {c : Nat} (hc : 1 ≤ c) : Contract Tryd.prog GN 43 [.slc (.g 0) 1 0 1 c, .fn 45 [.ref (.g 1) 0]] [(0, .row 1 [[iD 0]]), (1, .cells [iV 0])] (fun r t => r = .slc (.g 0) 1 0 0 c ∧ t = [(0, .row 1 [[iD 0]]), (1, .cells [iV 0])]) := by
  refine run43 2 [] rfl rfl ?_
  conv => whnf
  refine .obj rfl ?_
  conv => whnf
  refine ⟨_, _, ⟨WkL.refl _, index66⟩, fun res s1 h => ?_⟩
  obtain ⟨rfl, rfl⟩ := h
  conv => whnf
  refine StopG.rounds wk43 [] [0, 1, 5, 6] (fun m env s => m = 0 ∧ env = [(0, .slc (.g 0) 1 0 1 c), (1, .fn 45 [.ref (.g 1) 0]), (5, iV 0), (6, iV 1)] ∧ s = [(0, .row 1 [[iD 0]]), (1, .cells [iV 0])]) rfl ?_ ?_
  · conv => whnf
    exact ⟨_, rfl, rfl, rfl⟩
  rintro m env s ⟨rfl, rfl, rfl⟩
  conv => whnf
  refine ⟨⟨by decide, by decide, by omega⟩, ?_⟩
  conv => whnf
  refine ⟨by decide, ?_⟩
  conv => whnf
  refine ⟨⟨by decide, by decide, by omega⟩, ?_⟩
  conv => whnf
  exact ⟨rfl, rfl⟩
set_option maxRecDepth 100000 in
set_option maxHeartbeats 4000000 in
theorem settled28 : Contract Tryd.prog GN 28 [.ref (.g 0) 0] ((0, wl 1 2 3 4 5 6 7 c1 c2 c3) :: wrest 1 2 3 4 5 6 7 8 9) (fun r t => r = bV false ∧ t = (0, wl 1 2 3 4 5 6 7 c1 c2 c3) :: wrest 1 2 3 4 5 6 7 8 9) := by
  refine run28 10 [2] rfl rfl ?_
  conv => whnf
  refine .obj rfl ?_
  conv => whnf
  refine ⟨_, _, ⟨WkL.refl _, up40⟩, fun res s1 h => ?_⟩
  obtain ⟨c, hc, rfl, rfl⟩ := h
  conv => whnf
  refine .ghost (GV.trans (GV.freeze 10 (ab := .row 1 [[iD 0]]) rfl (by simp) ?_ ?_) (GV.tidied [0, 3] (E := [(0, .ref (.g 0) 0), (3, .d upD)]) (S := (0, wl 1 2 3 4 5 6 7 c1 c2 c3) :: wrest 1 2 3 4 5 6 7 8 9) ?_)) ?_
  · repeat' first | exact trivial | apply And.intro | decide | (simp; done) | omega
  · repeat' first | exact trivial | apply And.intro | decide | (simp [zeros]; done) | omega
  · conv => whnf
    exact ⟨rfl, rfl⟩
  refine .go wk28 [] ?_
  conv => whnf
  refine StopG.rounds wk28 [] [0, 3, 4, 12, 13, 14] (fun m env s => m = 1 ∧ env = [(0, .ref (.g 0) 0), (3, .d upD), (4, .ref (.g 10) 0), (12, .d upD), (13, iV 1), (14, iV 0)] ∧ s = (0, wl 1 2 3 4 5 6 7 c1 c2 c3) :: wrest 1 2 3 4 5 6 7 8 9 ++ [(10, .cells [iV 0, iV 0])]) rfl ?_ ?_
  · conv => whnf
    exact ⟨_, rfl, rfl, rfl⟩
  rintro m env s ⟨rfl, rfl, rfl⟩
  conv => whnf
  refine ⟨_, ⟨by decide, rfl⟩, ?_⟩
  conv => whnf
  refine .obj rfl ?_
  conv => whnf
  refine ⟨_, _, ⟨WkL.refl _, node41⟩, fun res s1 h => ?_⟩
  obtain ⟨rfl, rfl⟩ := h
  conv => whnf
  refine .obj rfl ?_
  conv => whnf
  refine ⟨_, _, ⟨WkL.refl _, epoch42⟩, fun res s1 h => ?_⟩
  obtain ⟨rfl, rfl⟩ := h
  conv => whnf
  refine .obj rfl ?_
  conv => whnf
  refine ⟨_, _, ⟨WkL.refl _, clone44⟩, fun res s1 h => ?_⟩
  obtain ⟨c', hc', rfl, rfl⟩ := h
  conv => whnf
  refine .obj rfl ?_
  conv => whnf
  refine ⟨_, _, ⟨WkL.refl _, delete43 hc'⟩, fun res s1 h => ?_⟩
  obtain ⟨rfl, rfl⟩ := h
  conv => whnf
  refine .data [.agg [iV 0, iV 0]] _ ⟨WkL.refl _, rfl, none46⟩ ?_
  conv => whnf
  refine .data [.d nodeP] _ (fun _ => ⟨WkL.refl _, rfl, epoch42⟩) ?_
  conv => whnf
  refine ⟨⟨by kernel_rfl, by kernel_rfl⟩, ?_⟩
  conv => whnf
  refine .data [] nilS (fun hg => by simp [HG, lit, rfind] at hg) ?_
  conv => whnf
  refine .data [] (bV true) (fun hg => by simp [HG, lit, rfind] at hg) ?_
  conv => whnf
  refine .data [] nilS (fun hg => by simp [HG, lit, rfind] at hg) ?_
  conv => whnf
  refine .data [] (bV true) (fun hg => by simp [HG, lit, rfind] at hg) ?_
  conv => whnf
  exact ⟨rfl, rfl⟩
end Go.Proofs.YtpfmnccocmgfmaaDoor
/- Seat D: how long it takes at most. -/
namespace Go.Proofs.YtpfmnccocmgfmaaDoor
open Go.Pv Go.RowKit
theorem pat29 {n : Int} (h0 : 0 ≤ n) (h1 : n ≤ 100) : Contract Tryd.prog GN 29 [iV n] [] (fun r t => r = iV (4 * n + 8) ∧ t = []) := by
  refine run29 0 [] rfl rfl ?_
  conv => whnf
  refine ⟨?_, rfl⟩
  rw [wrap_id (show -9223372036854775808 ≤ 4 * n by omega) (by omega), wrap_id (by omega) (by omega)]
theorem pat30 {n : Int} (h0 : 0 ≤ n) (h1 : n ≤ 100) : Contract Tryd.prog GN 30 [iV n] [] (fun r t => r = iV (4 * n + 8) ∧ t = []) := by
  refine run30 0 [] rfl rfl ?_
  conv => whnf
  refine ⟨?_, rfl⟩
  rw [wrap_id (show -9223372036854775808 ≤ 4 * n by omega) (by omega), wrap_id (by omega) (by omega)]
set_option maxRecDepth 100000 in
theorem settle17 {a b c d : Int} (a0 : 0 ≤ a) (a1 : a ≤ 100) (d0 : 0 ≤ d) (d1 : d ≤ 100) : Contract Tryd.prog GN 17 [.agg [iV a, iV b, iV c, iV d]] [] (fun r t => r = iV (4 * (4 * a + 8) + 4 * a + 3 * d + 64) ∧ t = []) := by
  refine run17 0 [] rfl rfl ?_
  conv => whnf
  refine .data [iV a] _ ⟨WkL.refl _, rfl, pat29 a0 a1⟩ ?_
  conv => whnf
  refine ⟨?_, rfl⟩
  rw [wrap_id (show -9223372036854775808 ≤ 4 * (4 * a + 8) by omega) (by omega), wrap_id (show -9223372036854775808 ≤ 4 * a by omega) (by omega), wrap_id (show -9223372036854775808 ≤ 3 * d by omega) (by omega), wrap_id (show -9223372036854775808 ≤ 4 * (4 * a + 8) + 4 * a by omega) (by omega), wrap_id (show -9223372036854775808 ≤ 4 * (4 * a + 8) + 4 * a + 3 * d by omega) (by omega), wrap_id (by omega) (by omega)]
set_option maxRecDepth 100000 in
theorem settle18 {a b c d : Int} (a0 : 0 ≤ a) (a1 : a ≤ 100) (d0 : 0 ≤ d) (d1 : d ≤ 100) : Contract Tryd.prog GN 18 [.agg [iV a, iV b, iV c, iV d]] [] (fun r t => r = iV (4 * (4 * a + 8) + 4 * a + 3 * d + 64) ∧ t = []) := by
  refine run18 0 [] rfl rfl ?_
  conv => whnf
  refine .data [iV a] _ ⟨WkL.refl _, rfl, pat30 a0 a1⟩ ?_
  conv => whnf
  refine ⟨?_, rfl⟩
  rw [wrap_id (show -9223372036854775808 ≤ 4 * (4 * a + 8) by omega) (by omega), wrap_id (show -9223372036854775808 ≤ 4 * a by omega) (by omega), wrap_id (show -9223372036854775808 ≤ 3 * d by omega) (by omega), wrap_id (show -9223372036854775808 ≤ 4 * (4 * a + 8) + 4 * a by omega) (by omega), wrap_id (show -9223372036854775808 ≤ 4 * (4 * a + 8) + 4 * a + 3 * d by omega) (by omega), wrap_id (by omega) (by omega)]
set_option maxRecDepth 100000 in
theorem serve19 {a b c d : Int} (a0 : 0 ≤ a) (a1 : a ≤ 100) (b0 : 0 ≤ b) (b1 : b ≤ 100) (c0 : 0 ≤ c) (c1 : c ≤ 100) (d0 : 0 ≤ d) (d1 : d ≤ 100) : Contract Tryd.prog GN 19 [.agg [iV a, iV b, iV c, iV d]] [] (fun r t => r = iV (8 * b * (c + d + 2) + 4 * a + 16) ∧ t = []) := by
  have hm0 : 0 ≤ 8 * b * (c + d + 2) := Int.mul_nonneg (by omega) (by omega)
  have hm1 : 8 * b * (c + d + 2) ≤ 800 * 202 := Int.mul_le_mul (by omega) (by omega) (by omega) (by omega)
  refine run19 0 [] rfl rfl ?_
  conv => whnf
  refine ⟨?_, rfl⟩
  rw [wrap_id (show -9223372036854775808 ≤ 8 * b by omega) (by omega), wrap_id (show -9223372036854775808 ≤ c + d by omega) (by omega), wrap_id (show -9223372036854775808 ≤ c + d + 2 by omega) (by omega), wrap_id (show -9223372036854775808 ≤ 4 * a by omega) (by omega)]
  generalize hq : 8 * b * (c + d + 2) = q at *
  rw [wrap_id (show -9223372036854775808 ≤ q by omega) (by omega), wrap_id (show -9223372036854775808 ≤ q + 4 * a by omega) (by omega), wrap_id (by omega) (by omega)]
set_option maxRecDepth 100000 in
theorem serve20 {a b c d : Int} (a0 : 0 ≤ a) (a1 : a ≤ 100) (b0 : 0 ≤ b) (b1 : b ≤ 100) (c0 : 0 ≤ c) (c1 : c ≤ 100) (d0 : 0 ≤ d) (d1 : d ≤ 100) : Contract Tryd.prog GN 20 [.agg [iV a, iV b, iV c, iV d]] [] (fun r t => r = iV (8 * b * (c + d + 2) + 4 * a + 16) ∧ t = []) := by
  have hm0 : 0 ≤ 8 * b * (c + d + 2) := Int.mul_nonneg (by omega) (by omega)
  have hm1 : 8 * b * (c + d + 2) ≤ 800 * 202 := Int.mul_le_mul (by omega) (by omega) (by omega) (by omega)
  refine run20 0 [] rfl rfl ?_
  conv => whnf
  refine ⟨?_, rfl⟩
  rw [wrap_id (show -9223372036854775808 ≤ 8 * b by omega) (by omega), wrap_id (show -9223372036854775808 ≤ c + d by omega) (by omega), wrap_id (show -9223372036854775808 ≤ c + d + 2 by omega) (by omega), wrap_id (show -9223372036854775808 ≤ 4 * a by omega) (by omega)]
  generalize hq : 8 * b * (c + d + 2) = q at *
  rw [wrap_id (show -9223372036854775808 ≤ q by omega) (by omega), wrap_id (show -9223372036854775808 ≤ q + 4 * a by omega) (by omega), wrap_id (by omega) (by omega)]
set_option maxRecDepth 100000 in
theorem bound21 {a b c d : Int} (a0 : 0 ≤ a) (a1 : a ≤ 100) (b0 : 0 ≤ b) (b1 : b ≤ 100) (c0 : 0 ≤ c) (c1 : c ≤ 100) (d0 : 0 ≤ d) (d1 : d ≤ 100) : Contract Tryd.prog GN 21 [.agg [iV a, iV b, iV c, iV d]] [] (fun r t => r = iV ((4 * (4 * a + 8) + 4 * a + 3 * d + 64) + (8 * b * (c + d + 2) + 4 * a + 16)) ∧ t = []) := by
  have hm0 : 0 ≤ 8 * b * (c + d + 2) := Int.mul_nonneg (by omega) (by omega)
  have hm1 : 8 * b * (c + d + 2) ≤ 800 * 202 := Int.mul_le_mul (by omega) (by omega) (by omega) (by omega)
  refine run21 0 [] rfl rfl ?_
  conv => whnf
  refine .data [.agg [iV a, iV b, iV c, iV d]] _ ⟨WkL.refl _, rfl, settle17 a0 a1 d0 d1⟩ ?_
  conv => whnf
  refine .data [.agg [iV a, iV b, iV c, iV d]] _ ⟨WkL.refl _, rfl, serve19 a0 a1 b0 b1 c0 c1 d0 d1⟩ ?_
  conv => whnf
  refine ⟨?_, rfl⟩
  generalize hq : 8 * b * (c + d + 2) = q at *
  rw [wrap_id (by omega) (by omega)]
def validH (a b c d : Int) : Bool := bif (bif (bif (bif (bif (bif (bif decide (a ≥ 1) then decide (a ≤ 16) else false) then decide (b ≥ 2) else false) then decide (b ≤ 64) else false) then decide (c ≥ 1) else false) then decide (c ≤ 8) else false) then decide (d ≥ 1) else false) then decide (d ≤ 8) else false
theorem validH_of {a b c d : Int} (h : validH a b c d = true) : 1 ≤ a ∧ a ≤ 16 ∧ 2 ≤ b ∧ b ≤ 64 ∧ 1 ≤ c ∧ c ≤ 8 ∧ 1 ≤ d ∧ d ≤ 8 := by
  simpa [validH, and_assoc] using h
set_option maxRecDepth 100000 in
theorem valid16 (a b c d : Int) : Contract Tryd.prog GN 16 [.agg [iV a, iV b, iV c, iV d]] [] (fun r t => r = bV (validH a b c d) ∧ t = []) := by
  refine run16 0 [] rfl rfl ?_
  conv => whnf
  exact ⟨rfl, rfl⟩
end Go.Proofs.YtpfmnccocmgfmaaDoor
/- Seat D: the chapter's example. -/
namespace Go.Proofs.YtpfmnccocmgfmaaDoor
open Go.Pv Go.RowKit
set_option maxRecDepth 100000 in
set_option maxHeartbeats 4000000 in
theorem first15 : Contract Tryd.prog GN 15 [] [] (fun r t => r = bV true ∧ t = []) := by
  refine run15 0 [] rfl rfl ?_
  conv => whnf
  refine .obj rfl ?_
  conv => whnf
  refine ⟨_, _, ⟨WkL.refl _, new27⟩, fun res s1 h => ?_⟩
  obtain ⟨c1, c2, c3, rfl, rfl⟩ := h
  conv => whnf
  refine .data [hA] _ ⟨WkL.refl _, rfl, settle17 (a := 1) (b := 2) (c := 1) (d := 1) (by omega) (by omega) (by omega) (by omega)⟩ ?_
  conv => whnf
  refine .objg (fun _ => ?_) (fun hn => absurd (by simp [HG, lit, rfind]; try rfl) hn)
  conv => whnf
  refine ⟨_, _, ⟨WkL.refl _, settled28⟩, fun res s1 h => ?_⟩
  obtain ⟨rfl, rfl⟩ := h
  conv => whnf
  exact ⟨rfl, rfl⟩
set_option maxRecDepth 100000 in
set_option maxHeartbeats 4000000 in
theorem quietSays (a b c d : Int) : Contract Tryd.prog GN 7 [.agg [iV a, iV b, iV c, iV d]] [] (fun r t => r = bV true ∧ t = []) := by
  refine run7 0 [] rfl rfl ?_
  conv => whnf
  refine .data [] _ ⟨WkL.refl _, rfl, first15⟩ ?_
  conv => whnf
  refine .data [.agg [iV a, iV b, iV c, iV d]] _ ⟨WkL.refl _, rfl, valid16 a b c d⟩ ?_
  conv => whnf
  refine bcase_intro (fun h => ?_) (fun h => ?_) <;> conv => whnf
  · exact ⟨rfl, rfl⟩
  have hv : validH a b c d = true := by
    have h : (!validH a b c d) = false := h
    simpa using h
  obtain ⟨a0, a1, b0, b1, q0, q1, d0, d1⟩ := validH_of hv
  have k17 := settle17 (a := a) (b := b) (c := c) (d := d) (by omega) (by omega) (by omega) (by omega)
  have k18 := settle18 (a := a) (b := b) (c := c) (d := d) (by omega) (by omega) (by omega) (by omega)
  have k19 := serve19 (a := a) (b := b) (c := c) (d := d) (by omega) (by omega) (by omega) (by omega) (by omega) (by omega) (by omega) (by omega)
  have k20 := serve20 (a := a) (b := b) (c := c) (d := d) (by omega) (by omega) (by omega) (by omega) (by omega) (by omega) (by omega) (by omega)
  have k21 := bound21 (a := a) (b := b) (c := c) (d := d) (by omega) (by omega) (by omega) (by omega) (by omega) (by omega) (by omega) (by omega)
  refine .data [.agg [iV a, iV b, iV c, iV d]] _ (fun _ => ⟨WkL.refl _, rfl, k17⟩) ?_
  conv => whnf
  refine .data [.agg [iV a, iV b, iV c, iV d]] _ (fun _ => ⟨WkL.refl _, rfl, k18⟩) ?_
  conv => whnf
  refine .data [.agg [iV a, iV b, iV c, iV d]] _ (fun _ => ⟨WkL.refl _, rfl, k19⟩) ?_
  conv => whnf
  refine .data [.agg [iV a, iV b, iV c, iV d]] _ (fun _ => ⟨WkL.refl _, rfl, k20⟩) ?_
  conv => whnf
  refine .data [.agg [iV a, iV b, iV c, iV d]] _ (fun _ => ⟨WkL.refl _, rfl, k21⟩) ?_
  conv => whnf
  refine .data [.agg [iV a, iV b, iV c, iV d]] _ (fun _ => ⟨WkL.refl _, rfl, k18⟩) ?_
  conv => whnf
  refine .data [.agg [iV a, iV b, iV c, iV d]] _ (fun _ => ⟨WkL.refl _, rfl, k20⟩) ?_
  conv => whnf
  have hm0 : 0 ≤ 8 * b * (c + d + 2) := Int.mul_nonneg (by omega) (by omega)
  have hm1 : 8 * b * (c + d + 2) ≤ 800 * 202 := Int.mul_le_mul (by omega) (by omega) (by omega) (by omega)
  refine ⟨?_, rfl⟩
  generalize 8 * b * (c + d + 2) = q at *
  rw [wrap_id (by omega) (by omega)]
  simp
theorem serve_le {a b c d a' b' c' d' : Int} (b0 : 0 ≤ b) (c0 : 0 ≤ c) (d0 : 0 ≤ d) (h1 : a ≤ a') (h2 : b ≤ b') (h3 : c ≤ c') (h4 : d ≤ d') : 8 * b * (c + d + 2) + 4 * a + 16 ≤ 8 * b' * (c' + d' + 2) + 4 * a' + 16 := by
  have : 8 * b * (c + d + 2) ≤ 8 * b' * (c' + d' + 2) := Int.mul_le_mul (by omega) (by omega) (by omega) (by omega)
  omega
set_option maxRecDepth 100000 in
theorem number10 : Contract Tryd.prog GN 10 [iV 1, iV 2] [] (fun r t => r = iV 1 ∧ t = []) := by
  refine run10 0 [] rfl rfl ?_
  conv => whnf
  refine ⟨⟨rfl, by decide⟩, ?_⟩
  conv => whnf
  exact ⟨rfl, rfl⟩
abbrev hV (a b c d : Int) : AV := .agg [iV a, iV b, iV c, iV d]
def tooX (a b c d a' b' c' d' : Int) : Bool := bif (bif (bif (bif (bif (bif (bif (bif (bif (bif (bif decide (a < 1) then true else decide (b < 2)) then true else decide (c < 1)) then true else decide (d < 1)) then true else decide (a' > 16)) then true else decide (b' > 64)) then true else decide (c' > 8)) then true else decide (d' > 8)) then true else decide (a > a')) then true else decide (b > b')) then true else decide (c > c')) then true else decide (d > d')
set_option maxRecDepth 100000 in
set_option maxHeartbeats 4000000 in
theorem quietGrows (a b c d a' b' c' d' : Int) : Contract Tryd.prog GN 8 [hV a b c d, hV a' b' c' d'] [] (fun r t => r = bV true ∧ t = []) := by
  refine run8 0 [] rfl rfl ?_
  conv => whnf
  refine .data [] _ ⟨WkL.refl _, rfl, first15⟩ ?_
  conv => whnf
  refine bcase_intro (fun h => ?_) (fun h => ?_)
  · conv => whnf
    exact ⟨rfl, rfl⟩
  have hv : tooX a b c d a' b' c' d' = false := h
  have hv : 1 ≤ a ∧ 2 ≤ b ∧ 1 ≤ c ∧ 1 ≤ d ∧ a' ≤ 16 ∧ b' ≤ 64 ∧ c' ≤ 8 ∧ d' ≤ 8 ∧ a ≤ a' ∧ b ≤ b' ∧ c ≤ c' ∧ d ≤ d' := by
    simpa [tooX, and_assoc] using hv
  obtain ⟨a0, b0, q0, d0, a1, b1, q1, d1, e1, e2, e3, e4⟩ := hv
  have k17 := settle17 (a := a) (b := b) (c := c) (d := d) (by omega) (by omega) (by omega) (by omega)
  have k19 := serve19 (a := a) (b := b) (c := c) (d := d) (by omega) (by omega) (by omega) (by omega) (by omega) (by omega) (by omega) (by omega)
  have k21 := bound21 (a := a) (b := b) (c := c) (d := d) (by omega) (by omega) (by omega) (by omega) (by omega) (by omega) (by omega) (by omega)
  have m17 := settle17 (a := a') (b := b') (c := c') (d := d') (by omega) (by omega) (by omega) (by omega)
  have m19 := serve19 (a := a') (b := b') (c := c') (d := d') (by omega) (by omega) (by omega) (by omega) (by omega) (by omega) (by omega) (by omega)
  have hle := serve_le (b := b) (c := c) (d := d) (by omega) (by omega) (by omega) e1 e2 e3 e4
  have hm0 : 0 ≤ 8 * b * (c + d + 2) := Int.mul_nonneg (by omega) (by omega)
  have hm1 : 8 * b * (c + d + 2) ≤ 800 * 202 := Int.mul_le_mul (by omega) (by omega) (by omega) (by omega)
  conv => whnf
  refine .data [hV a b c d] _ (fun _ => ⟨WkL.refl _, rfl, k17⟩) ?_
  conv => whnf
  refine .data [hV a' b' c' d'] _ (fun _ => ⟨WkL.refl _, rfl, m17⟩) ?_
  conv => whnf
  refine .data [hV a b c d] _ (fun _ => ⟨WkL.refl _, rfl, k19⟩) ?_
  conv => whnf
  refine .data [hV a' b' c' d'] _ (fun _ => ⟨WkL.refl _, rfl, m19⟩) ?_
  conv => whnf
  refine .data [hV a b c d] _ (fun _ => ⟨WkL.refl _, rfl, k21⟩) ?_
  conv => whnf
  refine .data [hV a b c d] _ (fun _ => ⟨WkL.refl _, rfl, k17⟩) ?_
  conv => whnf
  refine .data [hV a b c d] _ (fun _ => ⟨WkL.refl _, rfl, k19⟩) ?_
  conv => whnf
  refine .data [hV a b c d] _ (fun _ => ⟨WkL.refl _, rfl, k17⟩) ?_
  conv => whnf
  refine .data [iV 1, iV 2] _ (fun _ => ⟨WkL.refl _, rfl, number10⟩) ?_
  conv => whnf
  refine ⟨?_, rfl⟩
  generalize 8 * b * (c + d + 2) = q at *
  generalize 8 * b' * (c' + d' + 2) = q' at *
  rw [wrap_id (by omega) (by omega)]
  have f1 : decide (4 * (4 * a + 8) + 4 * a + 3 * d + 64 ≤ 4 * (4 * a' + 8) + 4 * a' + 3 * d' + 64) = true := by simp; omega
  have f2 : decide (q + 4 * a + 16 ≤ q' + 4 * a' + 16) = true := by simp; omega
  have f3 : decide (4 * (4 * a + 8) + 4 * a + 3 * d + 64 > 0) = true := by simp; omega
  rw [f1, f2, f3]
  simp
end Go.Proofs.YtpfmnccocmgfmaaDoor
/- Seat D: houses that come in. -/
namespace Go.Proofs.YtpfmnccocmgfmaaDoor
open Go.Pv Go.RowKit
theorem arg_house {n : Nat} {x : AV} (h : ArgD T (n + 3) 24 x) : ∃ a b c d : Int, x = hV a b c d := by
  obtain ⟨xs, h, rfl⟩ := h
  obtain ⟨_, _, rfl, ⟨a, _, _, rfl⟩, _, _, rfl, ⟨b, _, _, rfl⟩, _, _, rfl, ⟨c, _, _, rfl⟩, _, _, rfl, ⟨d, _, _, rfl⟩, rfl⟩ := h
  exact ⟨a, b, c, d, rfl⟩
end Go.Proofs.YtpfmnccocmgfmaaDoor
