/- The seat's texts, part 1: what single functions of the program compute; no statement of its own. -/
import Derived.Test.YtkenimmellonjaaGreatRn
import Derived.Test.YtkenimmellonjaaGreatFrD
import Derived.Test.YtkenimmellonjaaGreatFrC
import Derived.Test.YtkenimmellonjaaGreatFn
import Derived.Test.YtkenimmellonjaaGreatTab
import Derived.Shelf.Sort.Plain
import Derived.Shelf.Slices.In.SortNone
import Derived.Test.YtkenimmellonjaaGreatProg
/- Seat Z: bids. -/
namespace Go.Proofs.YtkenimmellonjaaGreat
open Go.Pv Go.RowKit
abbrev B := Int × Int
def bidv (b : B) : AV := .agg [.d (.int .i64 b.1), .d (.int .i64 b.2)]
def lessB (a b : B) : Bool := decide (a.2 < b.2) || (a.2 == b.2 && decide (a.1 < b.1))
def sameB (a b : B) : Bool := a.1 == b.1 && a.2 == b.2
def rowB (b : B) : List DV := [.int .i64 b.1, .int .i64 b.2]
def rowsB (l : List B) : List (List DV) := l.map rowB
set_option maxRecDepth 100000 in
theorem lessC (a b : B) : Contract Tryz.prog G0 83 [bidv a, bidv b] [] (fun r t => r = .d (.bool (lessB a b)) ∧ t = []) := by
  refine run83 0 [] rfl rfl ?_
  conv => whnf
  refine ⟨rd_bool ?_, rfl⟩
  simp only [bif_or, bif_and, lessB]
set_option maxRecDepth 100000 in
theorem sameC (a b : B) : Contract Tryz.prog G0 103 [bidv a, bidv b] [] (fun r t => r = .d (.bool (sameB a b)) ∧ t = []) := by
  refine run103 0 [] rfl rfl ?_
  conv => whnf
  refine ⟨rd_bool ?_, rfl⟩
  simp only [bif_and, sameB]
set_option maxRecDepth 100000 in
theorem at1 (b : B) (car : Int) : Contract Tryz.prog G0 99 [bidv b, .d (.ptr [.int .i64 car] 0)] [] (fun r s => r = .d (.bool (b.1 == car)) ∧ s = []) := by
  refine run99 0 [] rfl rfl ?_
  conv => whnf
  exact ⟨rfl, rfl⟩
set_option maxRecDepth 100000 in
theorem put1 (x b : B) : Contract Tryz.prog G0 81 [bidv x, .d (.ptr (rowB b) 0)] [] (fun r s => r = .d (.bool (decide (x.1 > b.1))) ∧ s = []) := by
  refine run81 0 [] rfl rfl ?_
  conv => whnf
  exact ⟨rfl, rfl⟩
set_option maxRecDepth 100000 in
theorem indexFunc (l : List B) (hl : l.length ≤ 4611686018427387904) (p : B → Bool) (f : Nat) (cs : List DV) (hf : ∀ x, Contract Tryz.prog G0 f [bidv x, .d (.ptr cs 0)] [] (fun r t => r = .d (.bool (p x)) ∧ t = [])) :
    Contract Tryz.prog G0 80 [.d (.list 2 (rowsB l)), .fn f [.d (.ptr cs 0)]] [] (fun r t => r = .d (.int .i64 (idxFrom p l 0)) ∧ t = []) := by
  have hlen : (rowsB l).length = l.length := by simp [rowsB]
  refine run80 0 [] rfl rfl ?_
  conv => whnf
  refine StopG.rounds wk80 [] [0, 1, 4, 7, 8] (fun m env s => ∃ i : Nat, i ≤ l.length ∧ m = l.length - i ∧ idxFrom p (l.drop i) i = idxFrom p l 0 ∧
    env = [(0, .d (.list 2 (rowsB l))), (1, .fn f [.d (.ptr cs 0)]), (4, .d (.int .i64 0)), (7, .d (.int .i64 ((rowsB l).length : Int))), (8, .d (.int .i64 (i : Int)))] ∧ s = []) rfl ?_ ?_
  · conv => whnf
    exact ⟨_, 0, Nat.zero_le _, rfl, rfl, rfl, rfl⟩
  rintro m env s ⟨i, hi, rfl, hidx, rfl, rfl⟩
  conv => whnf
  refine bcase_intro (fun h => ?_) (fun h => ?_) <;> conv => whnf
  · have h := lt_of h
    rw [hlen] at h
    obtain ⟨x, hx, hdrop⟩ := at_i h
    refine ⟨rowB x, ⟨by omega, row_i hx⟩, ?_⟩
    conv => whnf
    refine .scal [bidv x, .d (.ptr cs 0)] _ ⟨.refl _, rfl, hf x⟩ ?_
    conv => whnf
    rw [hdrop, idxFrom] at hidx
    refine bcase_intro (fun h2 => ?_) (fun h2 => ?_) <;> conv => whnf
    · rw [if_pos h2] at hidx
      exact ⟨rd_int hidx, rfl⟩
    · rw [succ_i h (by omega)]
      refine ⟨_, by omega, i + 1, h, rfl, ?_, ?_, rfl⟩
      · rw [if_neg (by simp [h2])] at hidx
        exact hidx
      · rfl
  · have h := ge_of h
    rw [hlen] at h
    rw [List.drop_eq_nil_of_le h, idxFrom] at hidx
    exact ⟨rd_int hidx, rfl⟩
set_option maxRecDepth 100000 in
theorem at_ (l : List B) (hl : l.length ≤ 4611686018427387904) (car : Int) : Contract Tryz.prog G0 79 [.d (.list 2 (rowsB l)), .d (.int .i64 car)] [] (fun r t => r = .d (.int .i64 (idxFrom (fun b => b.1 == car) l 0)) ∧ t = []) := by
  refine run79 0 [] rfl rfl ?_
  conv => whnf
  refine .scal [.d (.list 2 (rowsB l)), .fn 99 [.d (.ptr [.int .i64 car] 0)]] _ ⟨.fz 0 _ rfl (by simp) ⟨trivial, ⟨trivial, trivial⟩, trivial⟩ (.refl _), rfl, indexFunc l hl _ 99 _ fun b => at1 b car⟩ ?_
  conv => whnf
  exact ⟨rfl, rfl⟩
set_option maxRecDepth 100000 in
theorem cloneB_nil : Contract Tryz.prog G0 78 [.d (.list 2 [])] [] (fun r t => (r = .d .nil ∨ r = .d .emp) ∧ t = []) := by
  refine run78 0 [] rfl rfl ?_
  conv => whnf
  refine ⟨?_, ?_⟩ <;> conv => whnf
  · exact ⟨.inl rfl, rfl⟩
  · refine ⟨⟨by decide, by decide⟩, ?_⟩
    conv => whnf
    exact ⟨.inr rfl, rfl⟩
set_option maxRecDepth 100000 in
theorem cloneB_cons (r0 : List DV) (rs : List (List DV)) (hl : rs.length ≤ 100000) : Contract Tryz.prog G0 78 [.d (.list 2 (r0 :: rs))] [] (fun r t => ∃ c, rs.length + 1 ≤ c ∧ r = .slc (.g 0) 2 0 (rs.length + 1) c ∧ t = [(0, .row 2 (r0 :: rs))]) := by
  refine run78 0 [] rfl rfl ?_
  conv => whnf
  refine ⟨⟨?_, ?_⟩, ?_⟩
  · show (2 * (rs.length + 1) + 1024) * 16 ≤ 281474976710656; omega
  · show rs.length + 1 ≤ _; omega
  conv => whnf
  intro c hc
  conv => whnf
  exact ⟨c, hc, rfl, rfl⟩
theorem ov140 (x y : Value) (w : World) : (callFunc 100 #[x, y]).run Tryz.prog w = ((Extern.SlicesOverlaps.overlaps #[54, 54] #[4] #[x, y]).run Tryz.prog w).andThen fun v w' => .ok (.value v) w' := by
  rw [run_callFunc_extern Tryz.func100 (by kernel_rfl) (by kernel_rfl) (by kernel_rfl) (e := Extern.SlicesOverlaps.overlaps #[54, 54] #[4]) (by kernel_rfl)]
theorem ins_a {α : Type} (l : List α) (k : Nat) (hk : k < l.length) (x : α) (m : Nat) (hm : m = l.length - k) (zs : List α) (hz : zs.length = l.length + 1 - k) :
    (((l.take k ++ zs).take k ++ [x] ++ (l.take k ++ zs).drop (k + 1)).take (k + 1) ++ (l.drop k).take m ++ ((l.take k ++ zs).take k ++ [x] ++ (l.take k ++ zs).drop (k + 1)).drop (k + 1 + m)).take (l.length + 1) = l.take k ++ x :: l.drop k := by
  subst hm
  have h1 : (l.take k).length = k := by simp; omega
  have e1 : (l.take k ++ zs).take k = l.take k := by rw [List.take_append_of_le_length (by omega), List.take_of_length_le (by omega)]
  rw [e1]
  have e2 : (l.take k ++ [x] ++ (l.take k ++ zs).drop (k + 1)).take (k + 1) = l.take k ++ [x] := by
    rw [List.take_append_of_le_length (by simp; omega), List.take_of_length_le (by simp; omega)]
  have e3 : (l.drop k).take (l.length - k) = l.drop k := List.take_of_length_le (by simp)
  have e4 : (l.take k ++ [x] ++ (l.take k ++ zs).drop (k + 1)).drop (k + 1 + (l.length - k)) = [] := by
    apply List.drop_eq_nil_of_le
    simp [hz]; omega
  rw [e2, e3, e4, List.append_nil, List.take_of_length_le (by simp; omega)]
  simp
theorem ins_b {α : Type} (l : List α) (k : Nat) (hk : k < l.length) (x : α) (m : Nat) (hm : m = l.length - k) :
    ((l.take (k + 1) ++ (l.drop k).take m ++ l.drop (k + 1 + (l.length - k))).take k ++ [x] ++ (l.take (k + 1) ++ (l.drop k).take m ++ l.drop (k + 1 + (l.length - k))).drop (k + 1)).take (l.length + 1) = l.take k ++ x :: l.drop k := by
  subst hm
  have h1 : (l.take (k + 1)).length = k + 1 := by simp; omega
  have e3 : (l.drop k).take (l.length - k) = l.drop k := List.take_of_length_le (by simp)
  have e4 : l.drop (k + 1 + (l.length - k)) = [] := List.drop_eq_nil_of_le (by omega)
  rw [e3, e4, List.append_nil]
  have e5 : (l.take (k + 1) ++ l.drop k).take k = l.take k := by rw [List.take_append_of_le_length (by omega), List.take_take]; congr 1; omega
  have e6 : (l.take (k + 1) ++ l.drop k).drop (k + 1) = l.drop k := by rw [List.drop_append_of_le_length (by omega), List.drop_of_length_le (by omega)]; rfl
  rw [e5, e6, List.take_of_length_le (by simp; omega)]
  simp
set_option maxRecDepth 100000 in
theorem insert_own (rows : List (List DV)) (hl : rows.length ≤ 100000) (k : Nat) (hk : k ≤ rows.length) (c : Nat) (hc : rows.length ≤ c) (x : List DV) :
    Contract Tryz.prog G0 82 [.slc (.g 0) 2 0 rows.length c, .d (.int .i64 k), .d (.list 2 [x])] [(0, .row 2 rows)] (fun r t => r = .d (.list 2 (rows.take k ++ x :: rows.drop k)) ∧ t = [(0, .dead)]) := by
  refine rung82 1 [] rfl rfl ?_
  conv => whnf
  refine ⟨⟨by omega, by omega, by omega⟩, ?_⟩
  conv => whnf
  have hw1 : IntKind.i64.wrap ((rows.length : Int) + (([x] : List (List DV)).length : Int)) = ((rows.length + 1 : Nat) : Int) := by
    rw [wrap_id (by simp; omega) (by simp; omega)]
    simp
  have hw2 : IntKind.i64.wrap ((k : Int) + (([x] : List (List DV)).length : Int)) = ((k + 1 : Nat) : Int) := by
    rw [wrap_id (by simp; omega) (by simp; omega)]
    simp
  refine bcase_intro (fun h => ?_) (fun h => ?_) <;> conv => whnf
  · have h : k = rows.length := by simp at h; omega
    subst h
    refine ⟨Nat.le_refl _, ⟨?_, ?_⟩, ?_⟩
    · show (2 * (rows.length + 1) + 1024) * 16 ≤ 281474976710656; omega
    · show rows.length + 1 ≤ _; omega
    conv => whnf
    intro c' hc'
    conv => whnf
    refine ⟨_, _, GV.freeze 1 rfl (by simp) (by repeat' first | exact trivial | apply And.intro | (simp; done) | decide | (simp; omega)) (by repeat' first | exact trivial | apply And.intro), ?_⟩
    conv => whnf
    refine ⟨?_, rfl⟩
    show AV.d (.list 2 ((List.drop 0 (List.take rows.length rows ++ [x])).take (rows.length + 1))) = _
    rw [List.drop_zero, List.take_length, List.drop_length, List.take_of_length_le (by simp)]
  · have h : k < rows.length := by simp at h; omega
    rw [hw1]
    refine bcase_intro (fun h2 => ?_) (fun h2 => ?_) <;> conv => whnf
    · have h2 : c < rows.length + 1 := by simp at h2; omega
      refine ⟨⟨by omega, by omega, by omega⟩, ?_⟩
      conv => whnf
      rw [hw1]
      simp -iota only [Int.toNat_natCast, Int.toNat_zero, Nat.sub_zero, Nat.zero_add]
      have hkn : k + (rows.length + 1 - k) = rows.length + 1 := by omega
      refine ⟨rows.length + 1 - k, ⟨?_, by omega, by omega, by omega, ?_, by omega⟩, ?_⟩
      · rw [wrap_id (by omega) (by omega)]; omega
      · show (2 * _ + 1024) * 16 ≤ 281474976710656; omega
      rw [hkn]
      conv => whnf
      intro c1 hc1
      conv => whnf
      refine ⟨⟨by omega, by omega, by omega⟩, ?_⟩
      conv => whnf
      simp -iota only [Int.toNat_natCast, Nat.zero_add]
      refine ⟨by simp; omega, ?_⟩
      conv => whnf
      refine ⟨⟨by omega, by rw [hw2]; omega, by omega⟩, ?_⟩
      conv => whnf
      refine ⟨⟨by omega, by omega, by omega⟩, ?_⟩
      conv => whnf
      rw [hw2]
      simp -iota only [Int.toNat_natCast, Nat.zero_add]
      refine ⟨by simp [splice]; omega, ?_⟩
      conv => whnf
      refine ⟨by omega, ?_⟩
      conv => whnf
      refine ⟨_, _, (GV.freeze 1 rfl (by simp) (by repeat' first | exact trivial | apply And.intro | decide | (simp [splice]; omega)) (by repeat' first | exact trivial | apply And.intro)).trans (GV.kill 0 rfl), ?_⟩
      conv => whnf
      refine ⟨?_, rfl⟩
      refine congrArg (fun q => AV.d (.list 2 q)) ?_
      have := ins_a rows k h x (min (rows.length - k) (rows.length + 1 - (k + 1))) (by omega) (List.replicate (rows.length + 1 - k) ti30.zero) (by simp)
      rw [← this]
      have e1 : ([x] : List (List DV)).take (rows.length + 1 - k) = [x] := List.take_of_length_le (by simp; try omega)
      have e2 : ((rows.drop k).take (min (rows.length - k) (rows.length + 1 - (k + 1)))).length = min (rows.length - k) (rows.length + 1 - (k + 1)) := by simp; try omega
      simp only [splice, e1, List.drop_zero, List.length_singleton, e2]
    · have h2 : rows.length + 1 ≤ c := by simp at h2; omega
      refine ⟨⟨by omega, by rw [hw1]; omega, by rw [hw1]; omega⟩, ?_⟩
      conv => whnf
      refine ⟨⟨by rw [hw2]; omega, by rw [hw1, hw2]; omega, by rw [hw1]; omega⟩, ?_⟩
      conv => whnf
      rw [hw1, hw2]
      simp -iota only [Int.toNat_natCast, Int.toNat_zero, Nat.sub_zero, Nat.zero_add]
      refine .raw rfl ?_
      have q1 : T 54 = some ti54 := by kernel_rfl
      have q2 : T 30 = some ti30 := by kernel_rfl
      refine ej_overlaps (f := 100) (c := .func 100) (tys := #[54, 54]) (t := 54) (tr := 4) (e := 30) (ti := ti54) (te := ti30) (x := .tmp 61) (y := .tmp 66) (sz := 2) (rows := [x]) (id := 0) (off := k + 1) (len := rows.length + 1 - (k + 1)) (cap := c - (k + 1)) (old := rows) tabOK q1 ?_ q2 ov140 ?_ ?_ ?_ ?_ ?_ ?_ ?_
      · rfl
      · rfl
      · rfl
      · rfl
      · decide
      · rfl
      · rfl
      conv => whnf
      refine ⟨⟨by rw [hw2]; omega, by rw [hw2]; omega, by omega⟩, ?_⟩
      conv => whnf
      refine ⟨⟨by omega, by omega, by omega⟩, ?_⟩
      conv => whnf
      rw [hw2]
      simp -iota only [Int.toNat_natCast, Nat.zero_add]
      refine ⟨by omega, ?_⟩
      conv => whnf
      refine ⟨by omega, ?_⟩
      conv => whnf
      refine ⟨⟨by omega, by omega, by omega⟩, ?_⟩
      conv => whnf
      simp -iota only [Int.toNat_natCast, Nat.zero_add]
      refine ⟨by simp [splice]; omega, ?_⟩
      conv => whnf
      have e2 : ((rows.drop k).take (min (rows.length + 1 - k) (rows.length + 1 - (k + 1)))).length = rows.length - k := by simp; omega
      have e1 : ([x] : List (List DV)).take (rows.length + 1 - k) = [x] := List.take_of_length_le (by simp; try omega)
      refine ⟨_, _, GV.freeze 0 rfl (by simp) (by repeat' first | exact trivial | apply And.intro | decide | (simp [splice, e1]; omega)) (by repeat' first | exact trivial | apply And.intro), ?_⟩
      conv => whnf
      refine ⟨?_, rfl⟩
      refine congrArg (fun q => AV.d (.list 2 q)) ?_
      rw [← ins_b rows k h x (min (rows.length + 1 - k) (rows.length + 1 - (k + 1))) (by omega)]
      simp only [splice, e1, List.drop_zero, List.length_singleton, e2]
set_option maxRecDepth 100000 in
theorem insert_none (e : DV) (he : e = .nil ∨ e = .emp) (x : List DV) :
    Contract Tryz.prog G0 82 [.d e, .d (.int .i64 0), .d (.list 2 [x])] [] (fun r t => r = .d (.list 2 [x]) ∧ t = []) := by
  refine rung82 0 [] rfl rfl ?_
  rcases he with rfl | rfl
  all_goals
    conv => whnf
    refine ⟨⟨by omega, by omega⟩, ?_⟩
    conv => whnf
    refine ⟨⟨?_, ?_⟩, ?_⟩
    · show (2 * 1 + 1024) * 16 ≤ 281474976710656; omega
    · show 1 ≤ _; omega
    conv => whnf
    intro c hc
    conv => whnf
    refine ⟨_, _, GV.freeze 0 rfl (by simp) (by repeat' first | exact trivial | apply And.intro | decide | (simp; done)) (by repeat' first | exact trivial | apply And.intro), ?_⟩
    conv => whnf
    exact ⟨rfl, rfl⟩
theorem idx_ge {α : Type} {p : α → Bool} {l : List α} (h : decide (idxFrom p l 0 ≥ 0) = true) : ∃ k x, idxFrom p l 0 = ((k : Nat) : Int) ∧ l[k]? = .some x ∧ l.find? p = .some x := by
  rcases idx_cases0 p l with ⟨h1, _⟩ | q
  · rw [h1] at h; simp at h
  · exact q
theorem idx_lt {α : Type} {p : α → Bool} {l : List α} (h : decide (idxFrom p l 0 ≥ 0) = false) : idxFrom p l 0 = -1 ∧ l.find? p = .none := by
  rcases idx_cases0 p l with q | ⟨k, x, h1, _⟩
  · exact q
  · rw [h1] at h; simp at h
theorem idx_ge' {α : Type} {p : α → Bool} {l : List α} (h : decide (idxFrom p l 0 < 0) = false) : ∃ k x, idxFrom p l 0 = ((k : Nat) : Int) ∧ l[k]? = .some x ∧ l.find? p = .some x := by
  rcases idx_cases0 p l with ⟨h1, _⟩ | q
  · rw [h1] at h; simp at h
  · exact q
theorem idx_lt' {α : Type} {p : α → Bool} {l : List α} (h : decide (idxFrom p l 0 < 0) = true) : idxFrom p l 0 = -1 ∧ l.find? p = .none := by
  rcases idx_cases0 p l with q | ⟨k, x, h1, _⟩
  · exact q
  · rw [h1] at h; simp at h; omega
def insB (l : List B) (b : B) : List B := match idxFrom (fun x => decide (x.1 > b.1)) l 0 with
  | .ofNat k => l.take k ++ b :: l.drop k
  | .negSucc _ => l ++ [b]
def putB (l : List B) (b : B) : List B × Bool := match l.find? (fun x => x.1 == b.1) with
  | .some _ => (l, false)
  | .none => (insB l b, true)
set_option maxRecDepth 100000 in
theorem put (l : List B) (hl : l.length ≤ 10000) (b : B) : Contract Tryz.prog G0 34 [.d (.list 2 (rowsB l)), bidv b] [] (fun r t => r = .tup [.d (.list 2 (rowsB (putB l b).1)), .d (.bool (putB l b).2)] ∧ t = []) := by
  have hlen : (rowsB l).length = l.length := by simp [rowsB]
  cases l with
  | nil =>
    refine rung34 0 [] rfl rfl ?_
    conv => whnf
    refine .obj rfl ?_
    conv => whnf
    refine ⟨_, _, ⟨WkL.refl _, cloneB_nil⟩, fun res s1 h => ?_⟩
    obtain ⟨h, rfl⟩ := h
    rcases h with rfl | rfl
    all_goals
      conv => whnf
      refine .scal [.d (.list 2 (rowsB [])), .d (.int .i64 b.1)] _ ⟨.refl _, rfl, at_ [] (by simp) b.1⟩ ?_
      conv => whnf
      refine .scal [.d (.list 2 (rowsB [])), .fn 81 [.d (.ptr (rowB b) 0)]] _ ⟨.fz 0 _ rfl (by simp) (by repeat' first | exact trivial | apply And.intro) (.refl _), rfl, indexFunc [] (by simp) _ 81 _ fun x => put1 x b⟩ ?_
      conv => whnf
      refine .data _ (.d (.list 2 [rowB b])) ⟨WkL.refl _, rfl, insert_none _ (by simp) (rowB b)⟩ ?_
      conv => whnf
      refine ⟨_, _, .refl, ?_⟩
      conv => whnf
      exact ⟨rfl, rfl⟩
  | cons b0 l0 =>
    have hl0 : l0.length + 1 ≤ 10000 := by simpa using hl
    refine rung34 0 [] rfl rfl ?_
    conv => whnf
    refine .obj rfl ?_
    conv => whnf
    refine ⟨_, _, ⟨WkL.refl _, cloneB_cons (rowB b0) (rowsB l0) (by simp [rowsB]; omega)⟩, fun res s1 h => ?_⟩
    obtain ⟨c, hc, rfl, rfl⟩ := h
    conv => whnf
    refine .scal [.d (.list 2 (rowsB (b0 :: l0))), .d (.int .i64 b.1)] _ ⟨.refl _, rfl, at_ (b0 :: l0) (by simp; omega) b.1⟩ ?_
    conv => whnf
    refine bcase_intro (fun h => ?_) (fun h => ?_)
    · obtain ⟨k, x, h1, h2, h3⟩ := idx_ge h
      conv => whnf
      refine ⟨_, _, GV.freeze 1 rfl (by simp) (by repeat' first | exact trivial | apply And.intro | decide | (simp; done)) (by repeat' first | exact trivial | apply And.intro), ?_⟩
      conv => whnf
      have hp : putB (b0 :: l0) b = (b0 :: l0, false) := by simp only [putB, h3]
      rw [hp]
      refine ⟨?_, rfl⟩
      refine congrArg (fun q => AV.tup [AV.d (.list 2 q), AV.d (.bool false)]) ?_
      rw [List.drop_zero, List.take_of_length_le (by simp)]
      rfl
    · obtain ⟨h1, h2⟩ := idx_lt h
      conv => whnf
      refine .scal [.d (.list 2 (rowsB (b0 :: l0))), .fn 81 [.d (.ptr (rowB b) 0)]] _ ⟨.fz 0 _ rfl (by simp) (by repeat' first | exact trivial | apply And.intro) (.refl _), rfl, indexFunc (b0 :: l0) (by simp; omega) _ 81 _ fun x => put1 x b⟩ ?_
      conv => whnf
      refine bcase_intro (fun h => ?_) (fun h => ?_)
      · obtain ⟨g1, g2⟩ := idx_lt' h
        conv => whnf
        refine .obj rfl ?_
        conv => whnf
        refine ⟨_, _, ⟨WkL.refl _, insert_own (rowB b0 :: rowsB l0) (by simp [rowsB]; omega) ((rowsB l0).length + 1) (by simp) c hc (rowB b)⟩, fun res s1 h => ?_⟩
        obtain ⟨rfl, rfl⟩ := h
        conv => whnf
        refine ⟨_, _, .refl, ?_⟩
        conv => whnf
        refine ⟨?_, rfl⟩
        have hp : putB (b0 :: l0) b = (b0 :: l0 ++ [b], true) := by
          simp only [putB, h2, insB, g1]
          rfl
        rw [hp]
        refine congrArg (fun q => AV.tup [AV.d (.list 2 q), AV.d (.bool true)]) ?_
        rw [show rowB b0 :: rowsB l0 = rowsB (b0 :: l0) from rfl, List.take_of_length_le (by simp [rowsB]), List.drop_eq_nil_of_le (by simp [rowsB])]
        simp [rowsB]
      · obtain ⟨k, x, g1, g2, g3⟩ := idx_ge' h
        conv => whnf
        rw [g1]
        have hk := (List.getElem?_eq_some_iff.1 g2).1
        simp only [List.length_cons] at hk
        refine .obj rfl ?_
        conv => whnf
        refine ⟨_, _, ⟨WkL.refl _, insert_own (rowB b0 :: rowsB l0) (by simp [rowsB]; omega) k (by simp [rowsB]; omega) c hc (rowB b)⟩, fun res s1 h => ?_⟩
        obtain ⟨rfl, rfl⟩ := h
        conv => whnf
        refine ⟨_, _, .refl, ?_⟩
        conv => whnf
        refine ⟨?_, rfl⟩
        have hp : putB (b0 :: l0) b = ((b0 :: l0).take k ++ b :: (b0 :: l0).drop k, true) := by
          simp only [putB, h2, insB, g1]
        rw [hp]
        refine congrArg (fun q => AV.tup [AV.d (.list 2 q), AV.d (.bool true)]) ?_
        rw [show rowB b0 :: rowsB l0 = rowsB (b0 :: l0) from rfl]
        simp [rowsB, List.map_take, List.map_drop]
def ofB (l : List B) (car : Int) : B × Bool := match l.find? (fun x => x.1 == car) with
  | .some b => (b, true)
  | .none => ((0, 0), false)
set_option maxRecDepth 100000 in
theorem of_ (l : List B) (hl : l.length ≤ 4611686018427387904) (car : Int) : Contract Tryz.prog G0 62 [.d (.list 2 (rowsB l)), .d (.int .i64 car)] [] (fun r t => r = .tup [bidv (ofB l car).1, .d (.bool (ofB l car).2)] ∧ t = []) := by
  refine run62 0 [] rfl rfl ?_
  conv => whnf
  refine .scal [.d (.list 2 (rowsB l)), .d (.int .i64 car)] _ ⟨.refl _, rfl, at_ l hl car⟩ ?_
  conv => whnf
  refine bcase_intro (fun h => ?_) (fun h => ?_)
  · obtain ⟨h1, h2⟩ := idx_lt' h
    conv => whnf
    rw [show ofB l car = ((0, 0), false) by simp only [ofB, h2]]
    exact ⟨rfl, rfl⟩
  · obtain ⟨k, x, h1, h2, h3⟩ := idx_ge' h
    conv => whnf
    rw [h1]
    refine ⟨rowB x, ⟨by omega, row_i h2⟩, ?_⟩
    conv => whnf
    rw [show ofB l car = (x, true) by simp only [ofB, h3]]
    exact ⟨rfl, rfl⟩
set_option maxRecDepth 100000 in
theorem indexInt (l : List Int) (hl : l.length ≤ 4611686018427387904) (p : Int → Bool) (f : Nat) (cs : List DV) (hf : ∀ x, Contract Tryz.prog G0 f [.d (.int .i64 x), .d (.ptr cs 0)] [] (fun r t => r = .d (.bool (p x)) ∧ t = [])) :
    Contract Tryz.prog G0 102 [.d (.list 1 (rowsI l)), .fn f [.d (.ptr cs 0)]] [] (fun r t => r = .d (.int .i64 (idxFrom p l 0)) ∧ t = []) := by
  have hlen : (rowsI l).length = l.length := by simp [rowsI]
  refine run102 0 [] rfl rfl ?_
  conv => whnf
  refine StopG.rounds wk102 [] [0, 1, 4, 7, 8] (fun m env s => ∃ i : Nat, i ≤ l.length ∧ m = l.length - i ∧ idxFrom p (l.drop i) i = idxFrom p l 0 ∧
    env = [(0, .d (.list 1 (rowsI l))), (1, .fn f [.d (.ptr cs 0)]), (4, .d (.int .i64 0)), (7, .d (.int .i64 ((rowsI l).length : Int))), (8, .d (.int .i64 (i : Int)))] ∧ s = []) rfl ?_ ?_
  · conv => whnf
    exact ⟨_, 0, Nat.zero_le _, rfl, rfl, rfl, rfl⟩
  rintro m env s ⟨i, hi, rfl, hidx, rfl, rfl⟩
  conv => whnf
  refine bcase_intro (fun h => ?_) (fun h => ?_) <;> conv => whnf
  · have h := lt_of h
    rw [hlen] at h
    obtain ⟨x, hx, hdrop⟩ := at_i h
    refine ⟨rowI x, ⟨by omega, row_i hx⟩, ?_⟩
    conv => whnf
    refine .scal [.d (.int .i64 x), .d (.ptr cs 0)] _ ⟨.refl _, rfl, hf x⟩ ?_
    conv => whnf
    rw [hdrop, idxFrom] at hidx
    refine bcase_intro (fun h2 => ?_) (fun h2 => ?_) <;> conv => whnf
    · rw [if_pos h2] at hidx
      exact ⟨rd_int hidx, rfl⟩
    · rw [succ_i h (by omega)]
      refine ⟨_, by omega, i + 1, h, rfl, ?_, ?_, rfl⟩
      · rw [if_neg (by simp [h2])] at hidx
        exact hidx
      · rfl
  · have h := ge_of h
    rw [hlen] at h
    rw [List.drop_eq_nil_of_le h, idxFrom] at hidx
    exact ⟨rd_int hidx, rfl⟩
set_option maxRecDepth 100000 in
theorem anyInt (l : List Int) (hl : l.length ≤ 4611686018427387904) (p : Int → Bool) (f : Nat) (cs : List DV) (hf : ∀ x, Contract Tryz.prog G0 f [.d (.int .i64 x), .d (.ptr cs 0)] [] (fun r t => r = .d (.bool (p x)) ∧ t = [])) :
    Contract Tryz.prog G0 84 [.d (.list 1 (rowsI l)), .fn f [.d (.ptr cs 0)]] [] (fun r t => r = .d (.bool (l.any p)) ∧ t = []) := by
  refine run84 0 [] rfl rfl ?_
  conv => whnf
  refine .scal [.d (.list 1 (rowsI l)), .fn f [.d (.ptr cs 0)]] _ ⟨.refl _, rfl, indexInt l hl p f cs hf⟩ ?_
  conv => whnf
  exact ⟨rd_bool (idx_any p l), rfl⟩
set_option maxRecDepth 100000 in
theorem full1 (l : List B) (hl : l.length ≤ 4611686018427387904) (x : Int) : Contract Tryz.prog G0 85 [.d (.int .i64 x), .d (.ptr [.list 2 (rowsB l)] 0)] [] (fun r t => r = .d (.bool (!l.any fun b => b.1 == x)) ∧ t = []) := by
  refine run85 0 [] rfl rfl ?_
  conv => whnf
  refine .scal [.d (.list 2 (rowsB l)), .d (.int .i64 x)] _ ⟨.refl _, rfl, at_ l hl x⟩ ?_
  conv => whnf
  refine ⟨rd_bool ?_, rfl⟩
  rw [← idx_any]
  rcases idx_cases0 (fun b : B => b.1 == x) l with ⟨h, _⟩ | ⟨k, x, h, _, g⟩ <;> rw [h]
  · rfl
  · simp
def fullB (ms : List Int) (l : List B) : Bool := !ms.any fun x => !l.any fun b => b.1 == x
set_option maxRecDepth 100000 in
theorem full (ms : List Int) (hm : ms.length ≤ 4611686018427387904) (l : List B) (hl : l.length ≤ 4611686018427387904) : Contract Tryz.prog G0 39 [.d (.list 1 (rowsI ms)), .d (.list 2 (rowsB l))] [] (fun r t => r = .d (.bool (fullB ms l)) ∧ t = []) := by
  refine run39 0 [] rfl rfl ?_
  conv => whnf
  refine .scal [.d (.list 1 (rowsI ms)), .fn 85 [.d (.ptr [.list 2 (rowsB l)] 0)]] _ ⟨.fz 0 _ rfl (by simp) (by repeat' first | exact trivial | apply And.intro) (.refl _), rfl, anyInt ms hm _ 85 _ fun x => full1 l hl x⟩ ?_
  conv => whnf
  exact ⟨rfl, rfl⟩
def leastFrom (best : B) : List B → B
  | [] => best
  | b :: r => leastFrom (if lessB b best then b else best) r
def leastB : List B → B × Bool
  | [] => ((0, 0), false)
  | b :: r => (leastFrom b r, true)
set_option maxRecDepth 100000 in
theorem least (l : List B) (hl : l.length ≤ 4611686018427387904) : Contract Tryz.prog G0 38 [.d (.list 2 (rowsB l))] [] (fun r t => r = .tup [bidv (leastB l).1, .d (.bool (leastB l).2)] ∧ t = []) := by
  have hlen : (rowsB l).length = l.length := by simp [rowsB]
  refine run38 0 [] rfl rfl ?_
  conv => whnf
  cases l with
  | nil =>
    conv => whnf
    exact ⟨rfl, rfl⟩
  | cons b0 r0 =>
  conv => whnf
  generalize hb : b0 :: r0 = l at hl hlen
  have hbest : leastFrom b0 (l.drop 0) = (leastB l).1 := by
    rw [← hb]; simp [leastFrom, leastB]
  have h2 : (leastB l).2 = true := by rw [← hb]; rfl
  rw [h2]
  refine ⟨rowB b0, ⟨by omega, by rw [← hb]; rfl⟩, ?_⟩
  conv => whnf
  refine StopG.rounds wk38 [] [0, 2, 3, 4, 14, 15, 16] (fun m env s => ∃ (i : Nat) (best : B), i ≤ l.length ∧ m = l.length - i ∧ leastFrom best (l.drop i) = (leastB l).1 ∧
    env = [(0, .d (.list 2 (rowsB l))), (2, .ref (.g 0) 0), (3, .d (.bool false)), (4, .ref (.g 1) 0), (14, .d (.list 2 (rowsB l))), (15, .d (.int .i64 ((rowsB l).length : Int))), (16, .d (.int .i64 i))] ∧
    s = [(0, .cells [.d (.int .i64 0), .d (.int .i64 0)]), (1, .cells [.d (.int .i64 best.1), .d (.int .i64 best.2)])]) rfl ?_ ?_
  · conv => whnf
    exact ⟨_, 0, b0, Nat.zero_le _, rfl, hbest, rfl, rfl⟩
  rintro m env s ⟨i, best, hi, rfl, hbest, rfl, rfl⟩
  conv => whnf
  refine bcase_intro (fun h => ?_) (fun h => ?_) <;> conv => whnf
  · have h := lt_of h
    rw [hlen] at h
    obtain ⟨x, hx, hdrop⟩ := at_i h
    refine ⟨rowB x, ⟨by omega, row_i hx⟩, ?_⟩
    conv => whnf
    refine .scal [bidv x, bidv best] _ ⟨.refl _, rfl, lessC _ _⟩ ?_
    conv => whnf
    rw [hdrop, leastFrom] at hbest
    refine bcase_intro (fun h2 => ?_) (fun h2 => ?_) <;> conv => whnf
    · rw [if_pos h2] at hbest
      rw [succ_i h (by omega)]
      refine ⟨_, by omega, i + 1, x, h, rfl, hbest, ?_, ?_⟩
      · rfl
      · rfl
    · rw [if_neg (by simp [h2])] at hbest
      rw [succ_i h (by omega)]
      refine ⟨_, by omega, i + 1, best, h, rfl, hbest, ?_, ?_⟩
      · rfl
      · rfl
  · have h := ge_of h
    rw [hlen] at h
    rw [List.drop_eq_nil_of_le h, leastFrom] at hbest
    rw [← hbest]
    exact ⟨rfl, rfl⟩
end Go.Proofs.YtkenimmellonjaaGreat
/- Seat Z: sets of ints. -/
namespace Go.Proofs.YtkenimmellonjaaGreat
open Go.Pv Go.RowKit

theorem clone_nil : Contract Tryz.prog G0 75 [.d (.list 1 [])] [] (fun r t => (r = .d .nil ∨ r = .d .emp) ∧ t = []) := by
  refine con75 0 rfl rfl ?_
  conv => whnf
  refine ⟨?_, ?_⟩ <;> conv => whnf
  · exact ⟨.inl rfl, rfl⟩
  · refine ⟨⟨by decide, by decide⟩, ?_⟩
    conv => whnf
    exact ⟨.inr rfl, rfl⟩
theorem clone_cons (r0 : List DV) (rs : List (List DV)) (hl : rs.length ≤ 100000) : Contract Tryz.prog G0 75 [.d (.list 1 (r0 :: rs))] [] (fun r t => ∃ c, rs.length + 1 ≤ c ∧ r = .slc (.g 0) 1 0 (rs.length + 1) c ∧ t = [(0, .row 1 (r0 :: rs))]) := by
  refine con75 0 rfl rfl ?_
  conv => whnf
  refine ⟨⟨?_, ?_⟩, ?_⟩
  · show (2 * (rs.length + 1) + 1024) * 8 ≤ 281474976710656; omega
  · show rs.length + 1 ≤ _; omega
  conv => whnf
  intro c hc
  conv => whnf
  exact ⟨c, hc, rfl, rfl⟩
theorem index (l : List Int) (hl : l.length ≤ 4611686018427387904) (x : Int) : Contract Tryz.prog G0 98 [.d (.list 1 (rowsI l)), .d (.int .i64 x)] [] (fun r t => r = .d (.int .i64 (idxFrom (fun y => x == y) l 0)) ∧ t = []) := by
  have hlen := rowsI_len l
  refine con98 0 rfl rfl ?_
  conv => whnf
  refine V.rounds (fun m env s => ∃ i : Nat, i ≤ l.length ∧ m = l.length - i ∧ idxFrom (fun y => x == y) (l.drop i) i = idxFrom (fun y => x == y) l 0 ∧
    env = [(0, .d (.list 1 (rowsI l))), (1, .d (.int .i64 x)), (4, .d (.int .i64 0)), (5, .undef), (7, .d (.int .i64 ((rowsI l).length : Int))), (8, .d (.int .i64 (i : Int))), (9, .undef), (16, .undef)] ∧ s = [])
    ⟨_, _, GV.drop [0, 1, 4, 7, 8], _, 0, Nat.zero_le _, rfl, rfl, rfl, rfl⟩ ?_
  rintro m env s ⟨i, hi, rfl, hidx, rfl, rfl⟩
  refine V.of (kt := kt98) tabOK mixed (by kernel_rfl) ?_
  conv => whnf
  refine bcase_intro (fun h => ?_) (fun h => ?_) <;> conv => whnf
  · have h := lt_of h
    rw [hlen] at h
    obtain ⟨y, hy, hdrop⟩ := at_i h
    refine ⟨rowI y, ⟨by omega, row_i hy⟩, ?_⟩
    conv => whnf
    rw [hdrop, idxFrom] at hidx
    refine bcase_intro (fun h2 => ?_) (fun h2 => ?_) <;> conv => whnf
    · rw [if_pos h2] at hidx
      exact ⟨rd_int hidx, rfl⟩
    · refine ⟨_, _, GV.drop [0, 1, 4, 7, 8], _, by omega, i + 1, h, rfl, ?_, ?_, rfl⟩
      · rw [if_neg (by simp [h2])] at hidx
        exact hidx
      · rw [← succ_i h hl]; rfl
  · have h := ge_of h
    rw [hlen] at h
    rw [List.drop_eq_nil_of_le h, idxFrom] at hidx
    exact ⟨rd_int hidx, rfl⟩
theorem contains (l : List Int) (hl : l.length ≤ 4611686018427387904) (x : Int) : Contract Tryz.prog G0 77 [.d (.list 1 (rowsI l)), .d (.int .i64 x)] [] (fun r t => r = .d (.bool (l.any fun y => x == y)) ∧ t = []) := by
  refine con77 0 rfl rfl ?_
  conv => whnf
  refine .inl (.inl ⟨[.d (.list 1 (rowsI l)), .d (.int .i64 x)], _, ⟨.refl _, rfl, index l hl x⟩, ?_⟩)
  conv => whnf
  exact ⟨rd_bool (idx_any _ _), rfl⟩
theorem has (l : List Int) (hl : l.length ≤ 4611686018427387904) (x : Int) : Contract Tryz.prog G0 33 [.d (.list 1 (rowsI l)), .d (.int .i64 x)] [] (fun r t => r = .d (.bool (l.any fun y => x == y)) ∧ t = []) := by
  refine con33 0 rfl rfl ?_
  conv => whnf
  refine .inl (.inl ⟨[.d (.list 1 (rowsI l)), .d (.int .i64 x)], _, ⟨.refl _, rfl, contains l hl x⟩, ?_⟩)
  conv => whnf
  exact ⟨rfl, rfl⟩
theorem among (l : List Int) (hl : l.length ≤ 4611686018427387904) (x : Int) : Contract Tryz.prog G0 36 [.d (.list 1 (rowsI l)), .d (.int .i64 x)] [] (fun r t => r = .d (.bool (l.any fun y => y == x)) ∧ t = []) := by
  have hlen := rowsI_len l
  refine con36 0 rfl rfl ?_
  conv => whnf
  refine V.rounds (fun m env s => ∃ i : Nat, i ≤ l.length ∧ m = l.length - i ∧ (l.drop i).any (fun y => y == x) = l.any (fun y => y == x) ∧
    env = [(0, .d (.list 1 (rowsI l))), (1, .d (.int .i64 x)), (4, .d (.bool false)), (5, .d (.int .i64 (i : Int))), (9, .undef), (17, .undef)] ∧ s = [])
    ⟨_, _, GV.drop [0, 1, 4, 5], _, 0, Nat.zero_le _, rfl, rfl, rfl, rfl⟩ ?_
  rintro m env s ⟨i, hi, rfl, hidx, rfl, rfl⟩
  refine V.of (kt := kt36) tabOK mixed (by kernel_rfl) ?_
  conv => whnf
  refine bcase_intro (fun h => ?_) (fun h => ?_) <;> conv => whnf
  · have h := lt_of h
    rw [hlen] at h
    obtain ⟨y, hy, hdrop⟩ := at_i h
    refine ⟨rowI y, ⟨by omega, row_i hy⟩, ?_⟩
    conv => whnf
    rw [hdrop, List.any_cons] at hidx
    refine bcase_intro (fun h2 => ?_) (fun h2 => ?_) <;> conv => whnf
    · rw [h2, Bool.true_or] at hidx
      exact ⟨rd_bool hidx, rfl⟩
    · refine ⟨_, _, GV.drop [0, 1, 4, 5], _, by omega, i + 1, h, rfl, ?_, ?_, rfl⟩
      · rw [h2, Bool.false_or] at hidx
        exact hidx
      · rw [← succ_i h hl]; rfl
  · have h := ge_of h
    rw [hlen] at h
    rw [List.drop_eq_nil_of_le h] at hidx
    exact ⟨rd_bool hidx, rfl⟩
end Go.Proofs.YtkenimmellonjaaGreat
/- The library that this program reaches, as the kit's shelf wants it laid: printed by a program. -/
namespace Go.Proofs.YtkenimmellonjaaGreat
open Go.Shelf
def lays189_ren : Ren :=
  {
    f := fun x =>
      match x with
      | 189 => 95
      | 125 => 108
      | 257 => 107
      | 128 => 121
      | 129 => 122
      | 294 => 112
      | 295 => 113
      | 296 => 114
      | 297 => 115
      | 298 => 116
      | 299 => 117
      | 216 => 118
      | 300 => 119
      | 301 => 120
      | 328 => 125
      | 329 => 126
      | 330 => 127
      | 331 => 128
      | 332 => 129
      | 215 => 91
      | 343 => 130
      | n => n,
    t := fun x =>
      match x with
      | 28 => 24
      | 3 => 3
      | 46 => 112
      | 0 => 0
      | 51 => 124
      | 53 => 126
      | 4 => 4
      | 183 => 116
      | 182 => 115
      | 131 => 121
      | 5 => 5
      | 9 => 9
      | 218 => 128
      | 222 => 132
      | 228 => 134
      | 229 => 135
      | n => n,
    g := fun x =>
      have n := x;
      n }
theorem lays189 : Lays.n189 Tryz.prog lays189_ren :=
  { mixed := Eq.refl true, f125 := Eq.trans Tryz.func108 (congrArg some (Eq.refl (Body.n125 lays189_ren))),
    f128 := Eq.trans Tryz.func121 (congrArg some (Eq.refl (Body.n128 lays189_ren))),
    f129 := Eq.trans Tryz.func122 (congrArg some (Eq.refl (Body.n129 lays189_ren))),
    f189 := Eq.trans Tryz.func95 (congrArg some (Eq.refl (Body.n189 lays189_ren))),
    f215 := Eq.trans Tryz.func91 (congrArg some (Eq.refl (Body.n215 lays189_ren))),
    f216 := Eq.trans Tryz.func118 (congrArg some (Eq.refl (Body.n216 lays189_ren))),
    f257 := Eq.trans Tryz.func107 (congrArg some (Eq.refl (Body.n257 lays189_ren))),
    f294 := Eq.trans Tryz.func112 (congrArg some (Eq.refl (Body.n294 lays189_ren))),
    f295 := Eq.trans Tryz.func113 (congrArg some (Eq.refl (Body.n295 lays189_ren))),
    f296 := Eq.trans Tryz.func114 (congrArg some (Eq.refl (Body.n296 lays189_ren))),
    f297 := Eq.trans Tryz.func115 (congrArg some (Eq.refl (Body.n297 lays189_ren))),
    f298 := Eq.trans Tryz.func116 (congrArg some (Eq.refl (Body.n298 lays189_ren))),
    f299 := Eq.trans Tryz.func117 (congrArg some (Eq.refl (Body.n299 lays189_ren))),
    f300 := Eq.trans Tryz.func119 (congrArg some (Eq.refl (Body.n300 lays189_ren))),
    f301 := Eq.trans Tryz.func120 (congrArg some (Eq.refl (Body.n301 lays189_ren))),
    f328 := Eq.trans Tryz.func125 (congrArg some (Eq.refl (Body.n328 lays189_ren))),
    f329 := Eq.trans Tryz.func126 (congrArg some (Eq.refl (Body.n329 lays189_ren))),
    f330 := Eq.trans Tryz.func127 (congrArg some (Eq.refl (Body.n330 lays189_ren))),
    f331 := Eq.trans Tryz.func128 (congrArg some (Eq.refl (Body.n331 lays189_ren))),
    f332 := Eq.trans Tryz.func129 (congrArg some (Eq.refl (Body.n332 lays189_ren))),
    f343 := Eq.trans Tryz.func130 (congrArg some (Eq.refl (Body.n343 lays189_ren))), t0 := Tryz.underlying0,
    a0 := Tryz.isAgg0, z0 := Tryz.sizeOf0, v0 := Tryz.zeroValue0, t3 := Tryz.underlying3, a3 := Tryz.isAgg3,
    z3 := Tryz.sizeOf3, v3 := Tryz.zeroValue3, t4 := Tryz.underlying4, a4 := Tryz.isAgg4, z4 := Tryz.sizeOf4,
    v4 := Tryz.zeroValue4, t5 := Tryz.underlying5, a5 := Tryz.isAgg5, z5 := Tryz.sizeOf5, v5 := Tryz.zeroValue5,
    t9 := Tryz.underlying9, a9 := Tryz.isAgg9, z9 := Tryz.sizeOf9, v9 := Tryz.zeroValue9, t28 := Tryz.underlying24,
    a28 := Tryz.isAgg24, z28 := Tryz.sizeOf24, v28 := Tryz.zeroValue24, t46 := Tryz.underlying112, a46 := Tryz.isAgg112,
    z46 := Tryz.sizeOf112, v46 := Tryz.zeroValue112, t51 := Tryz.underlying124, a51 := Tryz.isAgg124,
    z51 := Tryz.sizeOf124, v51 := Tryz.zeroValue124, t53 := Tryz.underlying126, a53 := Tryz.isAgg126,
    z53 := Tryz.sizeOf126, v53 := Tryz.zeroValue126, t131 := Tryz.underlying121, a131 := Tryz.isAgg121,
    z131 := Tryz.sizeOf121, v131 := Tryz.zeroValue121, t182 := Tryz.underlying115, a182 := Tryz.isAgg115,
    z182 := Tryz.sizeOf115, v182 := Tryz.zeroValue115, t183 := Tryz.underlying116, a183 := Tryz.isAgg116,
    z183 := Tryz.sizeOf116, v183 := Tryz.zeroValue116, t218 := Tryz.underlying128, a218 := Tryz.isAgg128,
    z218 := Tryz.sizeOf128, v218 := Tryz.zeroValue128, t222 := Tryz.underlying132, a222 := Tryz.isAgg132,
    z222 := Tryz.sizeOf132, v222 := Tryz.zeroValue132, t228 := Tryz.underlying134, a228 := Tryz.isAgg134,
    z228 := Tryz.sizeOf134, v228 := Tryz.zeroValue134, t229 := Tryz.underlying135, a229 := Tryz.isAgg135,
    z229 := Tryz.sizeOf135, v229 := Tryz.zeroValue135 }
end Go.Proofs.YtkenimmellonjaaGreat
/- Seat Z: sorting, compacting, sets. -/
namespace Go.Proofs.YtkenimmellonjaaGreat
open Go.Pv Go.RowKit Go.Shelf

theorem equal (a b : List Int) (ha : a.length ≤ 4611686018427387904) : Contract Tryz.prog G0 67 [.d (.list 1 (rowsI a)), .d (.list 1 (rowsI b))] [] (fun r t => r = .d (.bool (a == b)) ∧ t = []) := by
  have hlen := rowsI_len a
  have hlen2 := rowsI_len b
  refine con67 0 rfl rfl ?_
  conv => whnf
  refine bcase_intro (fun h => ?_) (fun h => ?_) <;> conv => whnf
  · rw [hlen, hlen2] at h
    refine ⟨rd_bool ?_, rfl⟩
    symm
    rw [beq_eq_false_iff_ne]
    rintro rfl
    simp at h
  have hab : a.length = b.length := by
    rw [hlen, hlen2] at h
    simp at h
    omega
  refine V.rounds (fun m env s => ∃ i : Nat, i ≤ a.length ∧ m = a.length - i ∧ a.take i = b.take i ∧
    env = [(0, .d (.list 1 (rowsI a))), (1, .d (.list 1 (rowsI b))), (4, .d (.bool false)), (5, .undef), (10, .undef), (12, .d (.int .i64 ((rowsI a).length : Int))), (13, .d (.int .i64 (i : Int))), (14, .undef), (24, .undef)] ∧ s = [])
    ⟨_, _, GV.drop [0, 1, 4, 12, 13], _, 0, Nat.zero_le _, rfl, rfl, rfl, rfl⟩ ?_
  rintro m env s ⟨i, hi, rfl, heq, rfl, rfl⟩
  refine V.of (kt := kt67) tabOK mixed (by kernel_rfl) ?_
  conv => whnf
  refine bcase_intro (fun h => ?_) (fun h => ?_) <;> conv => whnf
  · have h := lt_of h
    rw [hlen] at h
    obtain ⟨x, hx, hdrop⟩ := at_i h
    obtain ⟨y, hy, hdrop2⟩ := at_i (l := b) (i := i) (by omega)
    refine ⟨rowI x, ⟨by omega, row_i hx⟩, ?_⟩
    conv => whnf
    refine ⟨rowI y, ⟨by omega, row_i hy⟩, ?_⟩
    conv => whnf
    refine bcase_intro (fun h2 => ?_) (fun h2 => ?_) <;> conv => whnf
    · refine ⟨rd_bool ?_, rfl⟩
      symm
      rw [beq_eq_false_iff_ne]
      intro e
      subst e
      rw [hx] at hy
      cases hy
      simp at h2
    · refine ⟨_, _, GV.drop [0, 1, 4, 12, 13], _, by omega, i + 1, h, rfl, ?_, ?_, rfl⟩
      · have h2 : x = y := by simpa using h2
        rw [List.take_add_one, List.take_add_one, heq, hx, hy, h2]
      · rw [← succ_i h ha]; rfl
  · have h := ge_of h
    rw [hlen] at h
    refine ⟨rd_bool ?_, rfl⟩
    rw [List.take_of_length_le h, List.take_of_length_le (by omega)] at heq
    symm
    simp [heq]
theorem sort68 (l : List Int) (hl : l.length < 4611686018427387904) (cap : Nat) : Contract Tryz.prog G0 95 [.slc (.g 0) 1 0 l.length cap] [(0, .row 1 (rowsI l))] (fun r t => r = .tup [] ∧ t = [(0, .row 1 (rowsI (sortI l)))]) :=
  Contract.sort_ints (enters_of Tryz.func95 (by kernel_rfl) rfl) sortI sortI_len (fun blk off cap zs w => Any.slices_Sort_int lays189 blk off cap zs w) (fun p cap w => Any.slices_Sort_int_none lays189 p cap w) l hl cap
theorem dd_take {l : List Int} {i : Nat} {x y : Int} (hi : 0 < i) (hx : l[i - 1]? = .some x) (hy : l[i]? = .some y) : dd (l.take (i + 1)) = dd (l.take i) ++ (if x = y then [] else [y]) := by
  obtain ⟨j, rfl⟩ : ∃ j, i = j + 1 := ⟨i - 1, by omega⟩
  simp only [Nat.add_sub_cancel] at hx
  have h1 : l.take (j + 1 + 1) = l.take j ++ [x, y] := by
    rw [List.take_add_one, List.take_add_one, hx, hy]
    simp
  have h2 : l.take (j + 1) = l.take j ++ [x] := by
    rw [List.take_add_one, hx]
    simp
  rw [h1, h2, dd_snoc]
theorem row_at {l : List Int} {k i : Nat} {x : Int} (h : l[k + i]? = .some x) : (rowsI l)[k + (i : Int).toNat]? = some (rowI x) := by simp [rowsI, h]
theorem compact (l : List Int) (hl : l.length ≤ 1000000) (cap : Nat) (hc : l.length ≤ cap) : Contract Tryz.prog G0 96 [.slc (.g 0) 1 0 l.length cap] [(0, .row 1 (rowsI l))]
    (fun r t => ∃ cur : List Int, cur.length = l.length ∧ cur.take (dd l).length = dd l ∧ r = .slc (.g 0) 1 0 (dd l).length cap ∧ t = [(0, .row 1 (rowsI cur))]) := by
  have hlen := rowsI_len l
  refine con96 1 rfl rfl ?_
  conv => whnf
  refine bcase_intro (fun h => ?_) (fun h => ?_) <;> conv => whnf
  · have h := of_decide_eq_true h
    have hd : dd l = l := by
      match l, h with
      | [], _ => rfl
      | [x], _ => rfl
      | x :: y :: r, h => simp at h; omega
    exact ⟨l, rfl, by rw [hd, List.take_length], by rw [hd], rfl⟩
  have h := of_decide_eq_false h
  refine V.rounds (fun m env s => ∃ i : Nat, 0 < i ∧ i ≤ l.length ∧ m = l.length - i ∧ dd (l.take i) = l.take i ∧
    env = [(0, .slc (.g 0) 1 0 l.length cap), (2, .d .nil), (3, .d (.int .i64 i)), (4, .undef), (5, .undef), (8, .undef), (13, .undef), (25, .undef), (32, .undef), (44, .undef)] ∧ s = [(0, .row 1 (rowsI l))])
    ⟨_, _, GV.drop [0, 2, 3], _, 1, by omega, by omega, rfl, ?_, rfl, rfl⟩ ?_
  · cases l with
    | nil => rfl
    | cons x r => rfl
  rintro m env s ⟨i, hi0, hi, rfl, hdd, rfl, rfl⟩
  refine V.of (kt := kt96) tabOK mixed (by kernel_rfl) ?_
  conv => whnf
  refine bcase_intro (fun h => ?_) (fun h => ?_) <;> conv => whnf
  · have h := lt_of h
    refine ⟨⟨by omega, by omega⟩, ?_⟩
    conv => whnf
    obtain ⟨y, hy⟩ := list_has l i h
    obtain ⟨x, hx⟩ := list_has l (i - 1) (by omega)
    refine ⟨rowI y, row_at (by rw [Nat.zero_add]; exact hy), rfl, ?_⟩
    conv => whnf
    rw [pred_i hi0 (by omega)]
    refine ⟨⟨by omega, by omega⟩, ?_⟩
    conv => whnf
    refine ⟨rowI x, row_at (by rw [Nat.zero_add]; exact hx), rfl, ?_⟩
    conv => whnf
    have hst := dd_take hi0 hx hy
    refine bcase_intro (fun h2 => ?_) (fun h2 => ?_) <;> conv => whnf
    · have h2 : y = x := by simpa using h2
      subst h2
      rw [if_pos rfl, List.append_nil] at hst
      refine ⟨⟨by omega, by omega, by omega⟩, ?_⟩
      conv => whnf
      refine V.rounds (fun m env s => ∃ (j q : Nat) (cur : List Int), 0 < j ∧ i + j ≤ l.length ∧ m = l.length - (i + j) ∧ q ≤ i + j - 1 ∧ cur.length = l.length ∧ cur.take q = dd (l.take (i + j)) ∧ (dd (l.take (i + j))).length = q ∧ cur.drop (i + j - 1) = l.drop (i + j - 1) ∧
        env = [(0, .slc (.g 0) 1 0 l.length cap), (2, .d .nil), (3, .d (.int .i64 q)), (4, .slc (.g 0) 1 i (l.length - i) (cap - i)), (5, .d (.int .i64 j)), (8, .undef), (13, .undef), (25, .undef), (32, .undef), (44, .undef)] ∧ s = [(0, .row 1 (rowsI cur))])
        ⟨_, _, GV.drop [0, 2, 3, 4, 5], _, 1, i, l, by omega, by omega, rfl, by omega, rfl, ?_, ?_, rfl, ?_, rfl⟩ ?_
      · rw [hst, hdd]
      · rw [hst, hdd, List.length_take]; omega
      · simp only [Int.toNat_natCast, Nat.zero_add]
        rfl
      rintro m env s ⟨j, q, cur, hj0, hj, rfl, hq, hcl, hcur, hql, hrest, rfl, rfl⟩
      refine V.of (kt := kt96) tabOK mixed (by kernel_rfl) ?_
      conv => whnf
      refine bcase_intro (fun h => ?_) (fun h => ?_) <;> conv => whnf
      · have h := lt_of h
        obtain ⟨u, hu⟩ := list_has l (i + j) (by omega)
        obtain ⟨p, hp⟩ := list_has l (i + j - 1) (by omega)
        have hcu : cur[i + j]? = .some u := by
          have := congrArg (fun q => q[1]?) hrest
          simp only [List.getElem?_drop] at this
          rwa [show i + j - 1 + 1 = i + j by omega, hu] at this
        have hcp : cur[i + j - 1]? = .some p := by
          have := congrArg (fun q => q[0]?) hrest
          simp only [List.getElem?_drop] at this
          rwa [show i + j - 1 + 0 = i + j - 1 by omega, hp] at this
        refine ⟨⟨by omega, by omega⟩, ?_⟩
        conv => whnf
        refine ⟨rowI u, row_at hcu, rfl, ?_⟩
        conv => whnf
        rw [pred_i hj0 (by omega)]
        refine ⟨⟨by omega, by omega⟩, ?_⟩
        conv => whnf
        refine ⟨rowI p, row_at (by rw [show i + (j - 1) = i + j - 1 by omega]; exact hcp), rfl, ?_⟩
        conv => whnf
        have hst2 := dd_take (show 0 < i + j by omega) hp hu
        refine bcase_intro (fun h3 => ?_) (fun h3 => ?_) <;> conv => whnf
        · have h3 : u ≠ p := by simpa using h3
          rw [if_neg (fun e => h3 e.symm)] at hst2
          refine ⟨⟨by omega, by omega⟩, ?_⟩
          conv => whnf
          refine ⟨rowI u, row_at hcu, rfl, ?_⟩
          conv => whnf
          refine ⟨⟨by omega, by omega⟩, ?_⟩
          conv => whnf
          obtain ⟨v, hv⟩ := list_has cur q (by omega)
          refine ⟨rowI v, row_at (by rw [Nat.zero_add]; exact hv), ?_⟩
          conv => whnf
          rw [succ_i (n := l.length) (i := q) (by omega) (by omega), succ_i (n := l.length) (i := j) (by omega) (by omega)]
          refine ⟨_, _, GV.drop [0, 2, 3, 4, 5], _, by omega, j + 1, q + 1, cur.set q u, by omega, by omega, rfl, by omega, by simp [hcl], ?_, ?_, ?_, rfl, ?_⟩
          · rw [← Nat.add_assoc, hst2, ← hcur, List.take_add_one, List.take_set_of_le (Nat.le_refl _)]
            simp [show q < cur.length by omega]
          · rw [← Nat.add_assoc, hst2, List.length_append, hql]; rfl
          · have := congrArg List.tail hrest
            rw [List.tail_drop, List.tail_drop] at this
            rw [List.drop_set_of_lt (by omega), show i + (j + 1) - 1 = i + j - 1 + 1 by omega]
            exact this
          · refine congrArg (fun q => [(0, AB.row 1 q)]) ?_
            simp [rowsI, List.map_set, setN, rowI]
        · have h3 : u = p := by simpa using h3
          rw [if_pos h3.symm, List.append_nil] at hst2
          rw [succ_i (n := l.length) (by omega) (by omega)]
          refine ⟨_, _, GV.drop [0, 2, 3, 4, 5], _, by omega, j + 1, q, cur, by omega, by omega, rfl, by omega, hcl, ?_, ?_, ?_, rfl, rfl⟩
          · rw [← Nat.add_assoc, hst2, hcur]
          · rw [← Nat.add_assoc, hst2, hql]
          · have := congrArg List.tail hrest
            rwa [List.tail_drop, List.tail_drop, show i + j - 1 + 1 = i + (j + 1) - 1 by omega] at this
      · have h := ge_of h
        have hij : i + j = l.length := by omega
        rw [hij, List.take_length] at hcur hql
        refine ⟨⟨by omega, by omega, by omega⟩, ?_⟩
        conv => whnf
        refine ⟨by simp [rowsI]; omega, ?_⟩
        conv => whnf
        refine ⟨⟨by omega, by omega, by omega⟩, ?_⟩
        conv => whnf
        refine ⟨cur.take q ++ List.replicate (l.length - q) 0, by simp; omega, ?_, ?_, ?_⟩
        · rw [hql, List.take_append_of_le_length (by simp; omega), List.take_take, Nat.min_self]
          exact hcur
        · rw [hql]; rfl
        · refine congrArg (fun q => [(0, AB.row 1 q)]) ?_
          have hz : ti3.zero = rowI 0 := rfl
          rw [hz, Nat.zero_add, Int.toNat_natCast, Int.toNat_natCast]
          unfold splice
          rw [List.length_replicate, show q + (l.length - q) = l.length by omega, List.drop_eq_nil_of_le (by simp [rowsI]; omega)]
          simp [rowsI, List.map_take]
    · have h2 : y ≠ x := by simpa using h2
      rw [if_neg (fun e => h2 e.symm), hdd] at hst
      rw [succ_i h (by omega)]
      refine ⟨_, _, GV.drop [0, 2, 3], _, by omega, i + 1, by omega, h, rfl, ?_, rfl, rfl⟩
      rw [hst, List.take_add_one, hy]
      rfl
  · have h := ge_of h
    have hil : i = l.length := by omega
    subst hil
    rw [List.take_length] at hdd
    refine ⟨l, rfl, by rw [hdd, List.take_length], ?_, ?_⟩
    · rw [hdd]
    · rfl
theorem sort_nil : Contract Tryz.prog G0 95 [.d (.list 1 [])] [] (fun r t => r = .tup [] ∧ t = []) :=
  Contract.sort_none (enters_of Tryz.func95 (by kernel_rfl) rfl) fun p cap w => Any.slices_Sort_int_none lays189 p cap w
theorem compact_nil : Contract Tryz.prog G0 96 [.d (.list 1 [])] [] (fun r t => r = .d (.list 1 []) ∧ t = []) := by
  refine con96 0 rfl rfl ?_
  conv => whnf
  exact ⟨rfl, rfl⟩
theorem set19 (l : List Int) (hl : l.length ≤ 100000) : Contract Tryz.prog G0 65 [.d (.list 1 (rowsI l))] [] (fun r t => r = .d (.list 1 (rowsI (setI l))) ∧ t = []) := by
  cases l with
  | nil =>
    refine conG65 0 rfl rfl ?_
    conv => whnf
    refine .inr (.inl ⟨_, _, ⟨WkL.refl _, clone_nil⟩, fun res s1 h => ?_⟩)
    obtain ⟨h, rfl⟩ := h
    rcases h with rfl | rfl
    · conv => whnf
      refine .inl (.inl ⟨[.d (.list 1 [])], _, ⟨.n 1 .nil, rfl, sort_nil⟩, ?_⟩)
      conv => whnf
      refine .inl (.inr ⟨[.d (.list 1 [])], _, ⟨.n 1 .nil, rfl, compact_nil⟩, ?_⟩)
      conv => whnf
      refine ⟨_, _, .refl, ?_⟩
      conv => whnf
      rw [show setI [] = [] by simp [setI, sortI, dd]]
      exact ⟨rfl, rfl⟩
    · conv => whnf
      refine .inl (.inl ⟨[.d (.list 1 [])], _, ⟨.e 1 .nil, rfl, sort_nil⟩, ?_⟩)
      conv => whnf
      refine .inl (.inr ⟨[.d (.list 1 [])], _, ⟨.e 1 .nil, rfl, compact_nil⟩, ?_⟩)
      conv => whnf
      refine ⟨_, _, .refl, ?_⟩
      conv => whnf
      rw [show setI [] = [] by simp [setI, sortI, dd]]
      exact ⟨rfl, rfl⟩
  | cons x r =>
    have hl : r.length + 1 ≤ 100000 := by simpa using hl
    have hrl := rowsI_len r
    refine conG65 0 rfl rfl ?_
    conv => whnf
    refine .inr (.inl ⟨_, _, ⟨WkL.refl _, clone_cons (rowI x) (rowsI r) (by simp [rowsI]; omega)⟩, fun res s1 h => ?_⟩)
    obtain ⟨c, hc, rfl, rfl⟩ := h
    rw [hrl] at hc ⊢
    conv => whnf
    have hs := sort68 (x :: r) (by simp; omega) c
    refine .inr (.inl ⟨_, _, ⟨WkL.refl _, hs⟩, fun res s1 h => ?_⟩)
    obtain ⟨rfl, rfl⟩ := h
    conv => whnf
    have hsl := sortI_len (x :: r)
    have hcp := compact (sortI (x :: r)) (by rw [hsl]; simp; omega) c (by rw [hsl]; simpa using hc)
    rw [hsl] at hcp
    refine .inr (.inl ⟨_, _, ⟨WkL.refl _, hcp⟩, fun res s1 h => ?_⟩)
    obtain ⟨cur, h1, h2, rfl, rfl⟩ := h
    conv => whnf
    have hdl := dd_len (sortI (x :: r))
    have hsl2 : (sortI (x :: r)).length = r.length + 1 := hsl
    have hcl : (rowsI cur).length = r.length + 1 := by rw [rowsI_len, h1]; rfl
    refine ⟨_, _, GV.freeze 0 rfl (by simp) (by repeat' first | exact trivial | apply And.intro | decide | (simp; done) | omega) (by repeat' first | exact trivial | apply And.intro), ?_⟩
    conv => whnf
    refine ⟨?_, rfl⟩
    refine congrArg (fun q => AV.d (.list 1 q)) ?_
    rw [List.drop_zero]
    show List.take (dd (sortI (x :: r))).length (rowsI cur) = rowsI (dd (sortI (x :: r)))
    conv => rhs; rw [← h2]
    simp [rowsI, List.map_take]
end Go.Proofs.YtkenimmellonjaaGreat
/- Seat Z: copies, the least; a set of what is handed on. -/
namespace Go.Proofs.YtkenimmellonjaaGreat
open Go.Pv Go.RowKit Go.Shelf

theorem ints43 (l : List Int) (hl : l.length ≤ 1000000) : Contract Tryz.prog G0 29 [.d (.list 1 (rowsI l))] [] (fun r t => ∃ c, l.length ≤ c ∧ r = .slc (.g 0) 1 0 l.length c ∧ t = [(0, .row 1 (rowsI l))]) := by
  have hlen := rowsI_len l
  refine conG29 0 rfl rfl ?_
  conv => whnf
  refine ⟨0, l.length, ⟨rfl, by rw [hlen], Nat.zero_le _, by show l.length * 8 ≤ _; omega, by omega⟩, ?_⟩
  conv => whnf
  refine V.rounds (fun m env s => ∃ i c : Nat, i ≤ l.length ∧ m = l.length - i ∧ i ≤ c ∧
    env = [(0, .d (.list 1 (rowsI l))), (2, .d .nil), (3, .slc (.g 0) 1 0 i c), (4, .d (.int .i64 (i : Int))), (11, .undef)] ∧ s = [(0, .row 1 (rowsI (l.take i)))])
    ⟨_, _, GV.drop [0, 2, 3, 4], _, 0, l.length, Nat.zero_le _, rfl, Nat.zero_le _, rfl, rfl⟩ ?_
  rintro m env s ⟨i, c, hi, rfl, hic, rfl, rfl⟩
  refine V.of (kt := kt29) tabOK mixed (by kernel_rfl) ?_
  conv => whnf
  refine bcase_intro (fun h => ?_) (fun h => ?_) <;> conv => whnf
  · have h := lt_of h
    rw [hlen] at h
    obtain ⟨x, hx, hdrop⟩ := at_i h
    refine ⟨rowI x, ⟨by omega, row_i hx⟩, ?_⟩
    conv => whnf
    refine ⟨by simp [rowsI]; omega, ⟨?_, ?_⟩, ?_⟩
    · show (2 * (i + 1) + 1024) * 8 ≤ 281474976710656; omega
    · show i + 1 ≤ _; omega
    conv => whnf
    intro c2 hc2
    conv => whnf
    refine ⟨_, _, GV.trans (GV.gather [1] rfl rfl rfl) (GV.drop [0, 2, 3, 4]), _, by omega, i + 1, c2, h, rfl, hc2, ?_, ?_⟩
    · rw [← succ_i h (by omega)]; rfl
    · refine congrArg (fun q => [(0, AB.row 1 q)]) ?_
      rw [List.take_of_length_le (by simp [rowsI]; omega), List.take_add_one, hx]
      simp [rowsI, rowI]
  · have h := ge_of h
    rw [hlen] at h
    have : i = l.length := by omega
    subst this
    refine ⟨_, _, .refl, ?_⟩
    conv => whnf
    refine ⟨c, hic, rfl, ?_⟩
    rw [List.take_of_length_le (Nat.le_refl _)]
/-- Set, told of an object that is wanted no more. -/
theorem set19_own (l : List Int) (hl : l.length ≤ 100000) (cap : Nat) : Contract Tryz.prog G0 65 [.slc (.g 0) 1 0 l.length cap] [(0, .row 1 (rowsI l))] (fun r t => r = .d (.list 1 (rowsI (setI l))) ∧ t = [(0, .dead)]) := by
  have h0 := set19 l hl
  have e : fzL 0 (AB.row 1 (rowsI l)) [.slc (.g 0) 1 0 l.length cap] = [.d (.list 1 ((List.drop 0 (rowsI l)).take l.length))] := rfl
  refine Contract.frz (by simp) ⟨⟨by decide, by rw [rowsI_len]; omega⟩, trivial⟩ rfl ?_
  rw [e, List.drop_zero, List.take_of_length_le (by rw [rowsI_len]; exact Nat.le_refl _)]
  exact h0
def minI (x : Int) : List Int → Int
  | [] => x
  | y :: r => minI (if y < x then y else x) r
/-- The least, and whether there is one. -/
def leastI : List Int → Int × Bool
  | [] => (0, false)
  | x :: r => (minI x r, true)
theorem minI_le : ∀ (r : List Int) (x y : Int), (y = x ∨ y ∈ r) → minI x r ≤ y
  | [], x, y, h => by
    rcases h with rfl | h
    · exact Int.le_refl _
    · cases h
  | z :: r, x, y, h => by
    simp only [minI]
    rcases h with rfl | h
    · have := minI_le r (if z < y then z else y) _ (.inl rfl)
      split at this <;> rename_i hz <;> simp only [hz, if_true, if_false] <;> omega
    · rcases List.mem_cons.1 h with rfl | h
      · have := minI_le r (if y < x then y else x) _ (.inl rfl)
        split at this <;> rename_i hz <;> simp only [hz, if_true, if_false] <;> omega
      · exact minI_le r _ y (.inr h)
theorem minI_mem : ∀ (r : List Int) (x : Int), minI x r = x ∨ minI x r ∈ r
  | [], x => .inl rfl
  | z :: r, x => by
    simp only [minI]
    rcases minI_mem r (if z < x then z else x) with h | h
    · rw [h]
      split
      · exact .inr (by simp)
      · exact .inl rfl
    · exact .inr (by simp [h])
end Go.Proofs.YtkenimmellonjaaGreat
/- OrderSets: plain laws. -/
namespace Go.Proofs.YtkenimmellonjaaGreat
open Go.Pv Go.RowKit Go.Shelf
theorem inc_eq {a b : List Int} (ha : IncI a) (hb : IncI b) (h : ∀ x, x ∈ a ↔ x ∈ b) : a = b := by
  have hp : a.Perm b := (List.perm_ext_iff_of_nodup (inc_nodup ha) (inc_nodup hb)).2 h
  exact sorted_eq hp (ha.imp fun h => by omega) (hb.imp fun h => by omega)
theorem setI_more (l : List Int) (b : Int) : (setI (l ++ [b])).length = (setI l).length + (if (setI l).any (fun y => b == y) then 0 else 1) := by
  cases h : (setI l).any (fun y => b == y) with
  | true =>
    rw [List.any_eq_true] at h
    obtain ⟨y, hy, he⟩ := h
    have he : b = y := by simpa using he
    subst he
    have : setI (l ++ [b]) = setI l := inc_eq (setI_inc _) (setI_inc _) fun x => by
      rw [setI_mem, setI_mem, List.mem_append, List.mem_singleton]
      constructor
      · rintro (h | rfl)
        · exact h
        · exact (setI_mem _ _).1 hy
      · exact .inl
    rw [this]
    simp
  | false =>
    have hb : b ∉ setI l := fun hm => by
      rw [List.any_eq_false] at h
      exact h b hm (by simp)
    have hp : (setI (l ++ [b])).Perm (b :: setI l) := by
      refine (List.perm_ext_iff_of_nodup (inc_nodup (setI_inc _)) (List.nodup_cons.2 ⟨hb, inc_nodup (setI_inc _)⟩)).2 fun x => ?_
      rw [setI_mem, List.mem_append, List.mem_singleton, List.mem_cons, setI_mem, or_comm]
    rw [hp.length_eq]
    simp
theorem least_head {l : List Int} {x : Int} {r s : List Int} (hl : l = x :: r) (hs : IncI s) (hm : ∀ y, y ∈ s ↔ y ∈ l) {a : Int} (ha : s[0]? = .some a) : minI x r = a := by
  subst hl
  have h1 : minI x r ∈ x :: r := by
    rcases minI_mem r x with h | h
    · rw [h]; simp
    · simp [h]
  have h2 : a ∈ x :: r := (hm a).1 (List.mem_of_getElem? ha)
  have h3 := minI_le r x a (by simpa using h2)
  have h4 : a ≤ minI x r := by
    have h5 := (hm _).2 h1
    cases s with
    | nil => cases h5
    | cons y q =>
      simp at ha
      subst ha
      rcases List.mem_cons.1 h5 with h | h
      · omega
      · have := (List.pairwise_cons.1 hs).1 _ h; omega
  omega
end Go.Proofs.YtkenimmellonjaaGreat
/- Seat Z: the reference's sets. -/
namespace Go.Proofs.YtkenimmellonjaaGreat
open Go.Pv Go.RowKit Go.Shelf

theorem sameInts34 (a b : List Int) (ha : a.length ≤ 4611686018427387904) : Contract Tryz.prog G0 44 [.d (.list 1 (rowsI a)), .d (.list 1 (rowsI b))] [] (fun r t => r = .d (.bool (a == b)) ∧ t = []) := by
  have hlen := rowsI_len a
  have hlen2 := rowsI_len b
  refine run44 0 [] rfl rfl ?_
  conv => whnf
  refine bcase_intro (fun h => ?_) (fun h => ?_) <;> conv => whnf
  · rw [hlen, hlen2] at h
    refine ⟨rd_bool ?_, rfl⟩
    symm
    rw [beq_eq_false_iff_ne]
    rintro rfl
    simp at h
  have hab : a.length = b.length := by
    rw [hlen, hlen2] at h
    simp at h
    omega
  refine StopG.rounds wk44 [] [0, 1, 5] (fun m env s => ∃ i : Nat, i ≤ a.length ∧ m = a.length - i ∧ a.take i = b.take i ∧
    env = [(0, .d (.list 1 (rowsI a))), (1, .d (.list 1 (rowsI b))), (5, .d (.int .i64 (i : Int)))] ∧ s = []) rfl ?_ ?_
  · conv => whnf
    exact ⟨_, 0, Nat.zero_le _, rfl, rfl, rfl, rfl⟩
  rintro m env s ⟨i, hi, rfl, heq, rfl, rfl⟩
  conv => whnf
  refine bcase_intro (fun h => ?_) (fun h => ?_) <;> conv => whnf
  · have h := lt_of h
    rw [hlen] at h
    obtain ⟨x, hx, hdrop⟩ := at_i h
    obtain ⟨y, hy, hdrop2⟩ := at_i (l := b) (i := i) (by omega)
    refine ⟨rowI x, ⟨by omega, row_i hx⟩, ?_⟩
    conv => whnf
    refine ⟨rowI y, ⟨by omega, row_i hy⟩, ?_⟩
    conv => whnf
    refine bcase_intro (fun h2 => ?_) (fun h2 => ?_) <;> conv => whnf
    · refine ⟨rd_bool ?_, rfl⟩
      symm
      rw [beq_eq_false_iff_ne]
      intro e
      subst e
      rw [hx] at hy
      cases hy
      simp at h2
    · rw [succ_i h ha]
      refine ⟨_, by omega, i + 1, h, rfl, ?_, rfl, rfl⟩
      have h2 : x = y := by simpa using h2
      rw [List.take_add_one, List.take_add_one, heq, hx, hy, h2]
  · have h := ge_of h
    rw [hlen] at h
    refine ⟨rd_bool ?_, rfl⟩
    rw [List.take_of_length_le h, List.take_of_length_le (by omega)] at heq
    symm
    simp [heq]

def ltN (l : List Int) (n : Int) : Nat := (l.takeWhile fun x => decide (x < n)).length
/-- Put in where it belongs. -/
def putI (l : List Int) (n : Int) : List Int := if l[ltN l n]? = some n then l else l.take (ltN l n) ++ n :: l.drop (ltN l n)
theorem ltN_le (l : List Int) (n : Int) : ltN l n ≤ l.length := (List.takeWhile_sublist _).length_le
theorem ltN_cons (x : Int) (l : List Int) (n : Int) : ltN (x :: l) n = if x < n then ltN l n + 1 else 0 := by
  unfold ltN
  rw [List.takeWhile_cons]
  split <;> simp_all
theorem put39 (l : List Int) (n : Int) (hl : l.length ≤ 100000) : Contract Tryz.prog G0 97 [.d (.list 1 (rowsI l)), .d (.int .i64 n)] [] (fun r t => r = .d (.list 1 (rowsI (putI l n))) ∧ t = []) := by
  have hlen := rowsI_len l
  refine rung97 0 [] rfl rfl ?_
  conv => whnf
  refine StopG.rounds wk97 [] [0, 1, 5] (fun m env s => ∃ i : Nat, i ≤ l.length ∧ m = l.length - i ∧ i + ltN (l.drop i) n = ltN l n ∧
    env = [(0, .d (.list 1 (rowsI l))), (1, .d (.int .i64 n)), (5, .d (.int .i64 (i : Int)))] ∧ s = []) rfl ?_ ?_
  · conv => whnf
    exact ⟨_, 0, Nat.zero_le _, rfl, by simp, rfl, rfl⟩
  rintro m env s ⟨i, hi, rfl, heq, rfl, rfl⟩
  conv => whnf
  obtain ⟨x, hx⟩ : ∃ y : Int, y = (l[i]?).getD 0 := ⟨_, rfl⟩
  have hx2 : i < l.length → l[i]? = .some x := fun h0 => by rw [hx, List.getElem?_eq_getElem h0]; rfl
  refine ⟨rowI x, fun hg => ?_, ?_⟩
  · have h0 := lt_of (show decide ((i : Int) < ((rowsI l).length : Int)) = true from hg)
    rw [hlen] at h0
    exact ⟨by omega, row_i (hx2 h0)⟩
  conv => whnf
  refine bcase_intro (fun h => ?_) (fun h => ?_) <;> conv => whnf
  · rw [bif_and, Bool.and_eq_true] at h
    obtain ⟨h, h2⟩ := h
    have h := lt_of h
    rw [hlen] at h
    have h2 := of_decide_eq_true h2
    obtain ⟨y, hy, hdrop⟩ := at_i h
    rw [hx2 h] at hy
    cases hy
    rw [hdrop, ltN_cons, if_pos h2] at heq
    rw [succ_i h (by omega)]
    exact ⟨_, by omega, i + 1, h, rfl, by omega, rfl, rfl⟩
  · have hk : i = ltN l n := by
      rcases Nat.lt_or_ge i l.length with h1 | h1
      · obtain ⟨y, hy, hdrop⟩ := at_i h1
        rw [hx2 h1] at hy
        cases hy
        rw [hdrop, ltN_cons] at heq
        have h2 : ¬ x < n := by
          intro h2
          rw [hlen, decide_eq_true (show (i : Int) < (l.length : Int) by omega), decide_eq_true h2] at h
          cases h
        rw [if_neg h2] at heq
        omega
      · rw [List.drop_eq_nil_of_le h1] at heq
        simpa [ltN] using heq
    clear heq h
    refine ⟨rowI x, fun hg => ?_, ?_⟩
    · have h0 := lt_of (show decide ((i : Int) < ((rowsI l).length : Int)) = true from hg)
      rw [hlen] at h0
      exact ⟨by omega, row_i (hx2 h0)⟩
    conv => whnf
    have hb : (bif decide ((i : Int) < ((rowsI l).length : Int)) then x == n else false) = decide (l[ltN l n]? = some n) := by
      rw [← hk, hlen]
      rcases Nat.lt_or_ge i l.length with h1 | h1
      · rw [decide_eq_true (show (i : Int) < (l.length : Int) by omega), hx2 h1]
        simp [Bool.beq_eq_decide_eq]
      · rw [decide_eq_false (show ¬ (i : Int) < (l.length : Int) by omega), List.getElem?_eq_none h1]
        rfl
    rw [hb]
    refine bcase_intro (fun h => ?_) (fun h => ?_) <;> conv => whnf
    · have h := of_decide_eq_true h
      refine .obj rfl ?_
      conv => whnf
      refine ⟨_, _, ⟨WkL.refl _, ints43 l (by omega)⟩, fun res s1 h => ?_⟩
      obtain ⟨c, hc, rfl, rfl⟩ := h
      conv => whnf
      refine ⟨_, _, GV.freeze 0 rfl (by simp) (by repeat' first | exact trivial | apply And.intro | decide | (simp; done) | omega) (by repeat' first | exact trivial | apply And.intro), ?_⟩
      conv => whnf
      refine ⟨?_, rfl⟩
      rw [List.drop_zero, List.take_of_length_le (by omega), putI, if_pos h]
    · have h := of_decide_eq_false h
      refine ⟨⟨by omega, by omega, by omega⟩, ?_⟩
      conv => whnf
      have e1 : List.drop (Int.toNat 0) (List.take ((i : Int)).toNat (rowsI l)) = rowsI (l.take i) := by simp [rowsI, List.map_take]
      have e2 : (l.take i).length = i := by rw [List.length_take]; omega
      rw [e1]
      refine .obj rfl ?_
      conv => whnf
      have hin := ints43 (l.take i) (by omega)
      rw [e2] at hin
      refine ⟨_, _, ⟨WkL.refl _, hin⟩, fun res s1 h => ?_⟩
      obtain ⟨c, hc, rfl, rfl⟩ := h
      conv => whnf
      have e3 := rowsI_len (l.take i)
      rw [e2] at e3
      refine ⟨by omega, ⟨?_, ?_⟩, ?_⟩
      · show (2 * (i + 1) + 1024) * 8 ≤ 281474976710656; omega
      · show i + 1 ≤ _; omega
      conv => whnf
      intro c2 hc2
      conv => whnf
      refine ⟨⟨by omega, by omega, by omega⟩, ?_⟩
      conv => whnf
      have e4 : (List.drop ((i : Int)).toNat (List.take (((rowsI l).length : Int)).toNat (rowsI l))) = rowsI (l.drop i) := by rw [Int.toNat_natCast, Int.toNat_natCast, List.take_of_length_le (Nat.le_refl _)]; simp [rowsI]
      have e5 : (rowsI (l.drop i)).length = l.length - i := by rw [rowsI_len, List.length_drop]
      rw [e4]
      refine ⟨by simp [e3], ⟨?_, ?_⟩, ?_⟩
      · show (2 * (i + 1 + (rowsI (l.drop i)).length) + 1024) * 8 ≤ 281474976710656; rw [e5]; omega
      · show i + 1 + (rowsI (l.drop i)).length ≤ _; rw [e5]; omega
      conv => whnf
      intro c3 hc3
      conv => whnf
      refine ⟨_, _, GV.freeze 2 rfl (by simp) (by repeat' first | exact trivial | apply And.intro | decide | (simp [e3]; done) | omega) (by repeat' first | exact trivial | apply And.intro), ?_⟩
      conv => whnf
      refine ⟨?_, rfl⟩
      refine congrArg (fun q => AV.d (.list 1 q)) ?_
      rw [putI, if_neg h, ← hk, List.drop_zero]
      have e6 : List.take i (rowsI (l.take i)) = rowsI (l.take i) := List.take_of_length_le (by omega)
      rw [e6, List.take_of_length_le (by simp [e3]), List.take_of_length_le (by simp [e3])]
      simp [rowsI, rowI]
end Go.Proofs.YtkenimmellonjaaGreat
/- The law's first input. -/
namespace Go.Proofs.YtkenimmellonjaaGreat
open Go.Pv Go.RowKit Go.Shelf
end Go.Proofs.YtkenimmellonjaaGreat
/- Seat Z: the reference's sets, next; OrderSays. -/
namespace Go.Proofs.YtkenimmellonjaaGreat
open Go.Pv Go.RowKit Go.Shelf

def set6 (l : List Int) : List Int := l.foldl putI []
theorem putI_mem (l : List Int) (n x : Int) : x ∈ putI l n ↔ x = n ∨ x ∈ l := by
  unfold putI
  split
  · rename_i h
    constructor
    · exact .inr
    · rintro (rfl | h2)
      · exact List.mem_of_getElem? h
      · exact h2
  · rw [List.mem_append, List.mem_cons]
    conv => rhs; rw [← List.take_append_drop (ltN l n) l, List.mem_append]
    constructor
    · rintro (h | h | h)
      · exact .inr (.inl h)
      · exact .inl h
      · exact .inr (.inr h)
    · rintro (h | h | h)
      · exact .inr (.inl h)
      · exact .inl h
      · exact .inr (.inr h)
theorem takeW {p : Int → Bool} {x : Int} : ∀ {l : List Int}, x ∈ l.takeWhile p → p x = true
  | [], h => by simp at h
  | y :: r, h => by
    rw [List.takeWhile_cons] at h
    split at h
    · rename_i hy
      rcases List.mem_cons.1 h with rfl | h
      · exact hy
      · exact takeW h
    · cases h
theorem ltN_take (l : List Int) (n : Int) : ∀ x ∈ l.take (ltN l n), x < n := by
  intro x hx
  have h : l.take (ltN l n) = l.takeWhile fun x => decide (x < n) := by
    unfold ltN
    exact List.prefix_iff_eq_take.1 (List.takeWhile_prefix _) |>.symm
  rw [h] at hx
  exact of_decide_eq_true (takeW hx)
theorem ltN_at (l : List Int) (n : Int) (h : ltN l n < l.length) : n ≤ l[ltN l n] := by
  induction l with
  | nil => simp at h
  | cons x r ih =>
    have e := ltN_cons x r n
    by_cases hx : x < n
    · rw [if_pos hx] at e
      simp only [e] at h ⊢
      simp only [List.length_cons] at h
      have := ih (by omega)
      simpa using this
    · rw [if_neg hx] at e
      simp only [e]
      simp
      omega
theorem putI_inc {l : List Int} (h : IncI l) (n : Int) : IncI (putI l n) := by
  unfold putI
  split
  · exact h
  · rename_i hne
    have h2 : IncI (l.take (ltN l n) ++ l.drop (ltN l n)) := by rw [List.take_append_drop]; exact h
    obtain ⟨q1, q2, q3⟩ := List.pairwise_append.1 h2
    refine List.pairwise_append.2 ⟨q1, List.pairwise_cons.2 ⟨fun y hy => ?_, q2⟩, fun x hx y hy => ?_⟩
    · rcases Nat.lt_or_ge (ltN l n) l.length with hlt | hge
      · have h3 := ltN_at l n hlt
        rw [List.drop_eq_getElem_cons hlt] at hy q2
        have h4 : l[ltN l n] ≠ n := fun e => hne (by rw [List.getElem?_eq_getElem hlt, e])
        rcases List.mem_cons.1 hy with rfl | hy
        · omega
        · have := (List.pairwise_cons.1 q2).1 y hy
          omega
      · rw [List.drop_eq_nil_of_le hge] at hy
        cases hy
    · rcases List.mem_cons.1 hy with rfl | hy
      · exact ltN_take l _ x hx
      · exact q3 x hx y hy
theorem putI_len (l : List Int) (n : Int) : (putI l n).length ≤ l.length + 1 := by
  unfold putI
  have := ltN_le l n
  split
  · omega
  · simp; omega
theorem putI_ne (l : List Int) (n : Int) : putI l n ≠ [] := fun h => by
  have := (putI_mem l n n).2 (.inl rfl)
  rw [h] at this
  cases this
theorem foldPut (l : List Int) : ∀ (acc : List Int), IncI acc → IncI (l.foldl putI acc) ∧ (∀ x, x ∈ l.foldl putI acc ↔ x ∈ acc ∨ x ∈ l) ∧ (l.foldl putI acc).length ≤ acc.length + l.length := by
  induction l with
  | nil => intro acc h; exact ⟨h, fun x => by simp, by simp⟩
  | cons y r ih =>
    intro acc h
    obtain ⟨h1, h2, h3⟩ := ih (putI acc y) (putI_inc h y)
    refine ⟨h1, fun x => ?_, ?_⟩
    · rw [List.foldl_cons, h2, putI_mem, List.mem_cons]
      constructor
      · rintro ((h | h) | h)
        · exact .inr (.inl h)
        · exact .inl h
        · exact .inr (.inr h)
      · rintro (h | h | h)
        · exact .inl (.inr h)
        · exact .inl (.inl h)
        · exact .inr h
    · have := putI_len acc y
      simp only [List.foldl_cons, List.length_cons]
      omega
theorem set6_eq (l : List Int) : set6 l = setI l := by
  obtain ⟨h1, h2, _⟩ := foldPut l [] .nil
  exact inc_eq h1 (setI_inc l) fun x => by rw [show set6 l = l.foldl putI [] from rfl, h2, setI_mem]; simp
theorem set6_len (l : List Int) : (set6 l).length ≤ l.length := by
  have := (foldPut l [] .nil).2.2
  simpa [set6] using this

theorem set40 (l : List Int) (hl : l.length ≤ 10000) : Contract Tryz.prog G0 66 [.d (.list 1 (rowsI l))] [] (fun r t => r = .d (.list 1 (rowsI (set6 l))) ∧ t = []) := by
  have hlen := rowsI_len l
  refine rung66 0 [] rfl rfl ?_
  conv => whnf
  refine StopG.roundsM wk66 [] [0, 3, 4] (fun m env s => ∃ i : Nat, i ≤ l.length ∧ m = l.length - i ∧
    env = [(0, .d (.list 1 (rowsI l))), (3, .d (.list 1 (rowsI (set6 (l.take i))))), (4, .d (.int .i64 (i : Int)))] ∧ s = []) rfl ?_ ?_
  · refine ⟨_, _, GV.wk 3 1, ?_⟩
    conv => whnf
    exact ⟨_, 0, Nat.zero_le _, rfl, rfl, rfl⟩
  rintro m env s ⟨i, hi, rfl, rfl, rfl⟩
  conv => whnf
  refine bcase_intro (fun h => ?_) (fun h => ?_) <;> conv => whnf
  · have h := lt_of h
    rw [hlen] at h
    obtain ⟨x, hx, hdrop⟩ := at_i h
    refine ⟨rowI x, ⟨by omega, row_i hx⟩, ?_⟩
    conv => whnf
    have h6 := set6_len (l.take i)
    rw [List.length_take] at h6
    refine .data [.d (.list 1 (rowsI (set6 (l.take i)))), .d (.int .i64 x)] _ ⟨WkL.refl _, rfl, put39 _ x (by omega)⟩ ?_
    conv => whnf
    refine ⟨_, _, .refl, ?_⟩
    conv => whnf
    rw [succ_i h (by omega)]
    refine ⟨_, by omega, i + 1, h, rfl, ?_, rfl⟩
    rw [List.take_add_one, hx]
    simp [set6, List.foldl_append]
  · have h := ge_of h
    rw [hlen] at h
    refine ⟨_, _, .refl, ?_⟩
    conv => whnf
    rw [List.take_of_length_le h]
    exact ⟨rfl, rfl⟩

/-- Who comes next in a set, as the reference has it. -/
def next6 (l : List Int) (x : Int) : Int × Bool := if l.any (fun y => y == x) then ((match l.find? fun y => decide (y > x) with
  | some y => y
  | none => (l[0]?).getD 0), true) else (0, false)
def nextV (l : List Int) (x : Int) : Int := match idxFrom (fun y => x == y) l 0 with
  | .ofNat k => (l[(k + 1) % l.length]?).getD 0
  | .negSucc _ => 0
/-- In a set they are the same. -/
theorem next6_inc {l : List Int} (h : IncI l) (x : Int) : nextV l x = (next6 l x).1 ∧ (l.any fun y => x == y) = (next6 l x).2 := by
  have hs : (l.any fun y => x == y) = l.any fun y => y == x := by
    congr 1
    funext y
    exact Bool.eq_iff_iff.2 ⟨fun h => by simpa using (by simpa using h : x = y).symm, fun h => by simpa using (by simpa using h : y = x).symm⟩
  unfold next6 nextV
  rw [hs]
  cases ha : l.any fun y => y == x with
  | false =>
    rw [if_neg (by simp)]
    refine ⟨?_, rfl⟩
    rcases idx_cases0 (fun y => x == y) l with ⟨h1, _⟩ | ⟨k, y, h1, h2, h3⟩
    · rw [h1]; rfl
    · exfalso
      have h4 : (x == y) = true := by simpa using List.find?_some h3
      have h5 := List.any_eq_false.1 ha y (List.mem_of_getElem? h2)
      exact h5 (by simpa using (by simpa using h4 : x = y).symm)
  | true =>
    rw [if_pos rfl]
    refine ⟨?_, rfl⟩
    obtain ⟨y, hy, he⟩ := List.any_eq_true.1 ha
    have he : y = x := by simpa using he
    subst he
    obtain ⟨i, hi, hiy⟩ := List.mem_iff_getElem.1 hy
    have hget : l[i]? = .some y := by rw [List.getElem?_eq_getElem hi, hiy]
    have h1 := idx_nodup l 0 i y (inc_nodup h) hget
    have h1 : idxFrom (fun z => y == z) l 0 = Int.ofNat i := by rw [Nat.zero_add] at h1; exact h1
    rw [h1]
    simp only
    rcases Nat.lt_or_ge (i + 1) l.length with hlt | hge
    · rw [Nat.mod_eq_of_lt hlt]
      have hgt : y < l[i + 1] := by
        have := List.pairwise_iff_getElem.1 h i (i + 1) hi hlt (by omega)
        rwa [hiy] at this
      have hf : (l.find? fun z => decide (z > y)) = some l[i + 1] := by
        rw [List.find?_eq_some_iff_getElem]
        refine ⟨by simpa using hgt, i + 1, hlt, rfl, fun j hj => ?_⟩
        simp only [gt_iff_lt, Bool.not_eq_true', decide_eq_false_iff_not, Int.not_lt]
        rcases Nat.lt_or_ge j i with hji | hji
        · have := List.pairwise_iff_getElem.1 h j i (by omega) hi hji
          rw [hiy] at this
          omega
        · have : j = i := by omega
          subst this
          rw [hiy]
          exact Int.le_refl _
      rw [hf, List.getElem?_eq_getElem hlt]
      rfl
    · have hil : i + 1 = l.length := by omega
      rw [hil, Nat.mod_self]
      have hf : (l.find? fun z => decide (z > y)) = none := by
        rw [List.find?_eq_none]
        intro z hz
        obtain ⟨j, hj, rfl⟩ := List.mem_iff_getElem.1 hz
        simp only [gt_iff_lt, decide_eq_true_eq, Int.not_lt]
        rcases Nat.lt_or_ge j i with hji | hji
        · have := List.pairwise_iff_getElem.1 h j i (by omega) hi hji
          rw [hiy] at this
          omega
        · have : j = i := by omega
          subst this
          rw [hiy]
          exact Int.le_refl _
      rw [hf]
end Go.Proofs.YtkenimmellonjaaGreat
/- Seat Z: when a ring is founded. -/
namespace Go.Proofs.YtkenimmellonjaaGreat
open Go.Pv Go.RowKit Go.Shelf

abbrev cV (car cars : Int) (out any : Bool) (alive ring : List Int) (since fnd : Int) : AV := .agg [.d (.int .i64 car), .d (.int .i64 cars), .d (.bool out), .d (.bool any), .d (.list 1 (rowsI alive)), .d (.list 1 (rowsI ring)), .d (.int .i64 since), .d (.int .i64 fnd)]
def patI (n : Int) : Int := IntKind.i64.wrap (IntKind.i64.wrap (4 * n) + 8)
def membI (l : List Int) (x : Int) : List Int := setI (l ++ [x])
def headI (l : List Int) : Int := (l[0]?).getD 0
def shouldI (car cars : Int) (out any : Bool) (alive ring : List Int) (since fnd : Int) : Bool :=
  bif (bif (bif out then true else !(headI (membI alive car) == car)) then true else decide (fnd ≤ patI cars)) then false else (bif (bif !any then true else !(ring == membI alive car)) then true else decide (since > patI cars))

theorem membI_eq (l : List Int) (x : Int) : putI (setI l) x = membI l x :=
  inc_eq (putI_inc (setI_inc l) x) (setI_inc _) fun y => by rw [putI_mem, membI, setI_mem, setI_mem, List.mem_append, List.mem_singleton, or_comm]
theorem membI_len (l : List Int) (x : Int) : (membI l x).length ≤ l.length + 1 := by have := setI_len (l ++ [x]); simpa [membI] using this
theorem membI_ne (l : List Int) (x : Int) : 0 < (membI l x).length := List.length_pos_of_mem (a := x) (by rw [membI, setI_mem]; simp)
theorem head_least {l : List Int} (h : IncI l) (hn : 0 < l.length) : leastI l = (headI l, true) := by
  cases l with
  | nil => simp at hn
  | cons x r =>
    have := least_head (l := x :: r) rfl h (fun _ => Iff.rfl) (a := x) rfl
    simp [leastI, headI, this]
theorem membI_inc (l : List Int) (x : Int) : IncI (membI l x) := setI_inc _
theorem least_memb (l : List Int) (x : Int) : leastI (membI l x) = (headI (membI l x), true) := head_least (membI_inc l x) (membI_ne l x)
end Go.Proofs.YtkenimmellonjaaGreat
/- Seat Z: the ledger's copies. -/
namespace Go.Proofs.YtkenimmellonjaaGreat
open Go.Pv Go.RowKit Go.Shelf

structure En where
  fl : Int
  dr : Int
  gn : Int
  bids : List B
  aw : Int
def rowE (e : En) : List DV := [.int .i64 e.fl, .int .i64 e.dr, .int .i64 e.gn, .list 2 (rowsB e.bids), .int .i64 e.aw]
def rowsE (l : List En) : List (List DV) := l.map rowE
theorem rowsE_len (l : List En) : (rowsE l).length = l.length := by simp [rowsE]
theorem rowsB_len (l : List B) : (rowsB l).length = l.length := by simp [rowsB]
theorem cloneD67 (rows : List (List DV)) (hl : rows.length ≤ 100000) : Contract Tryz.prog G0 75 [.d (.list 1 rows)] [] (fun r t => r = .d (.list 1 rows) ∧ t = []) := by
  refine rung75 0 [] rfl rfl ?_
  cases rows with
  | nil =>
    conv => whnf
    refine ⟨?_, ?_⟩ <;> conv => whnf
    · refine ⟨_, _, GV.wk 2 1, ?_⟩
      conv => whnf
      exact ⟨rfl, rfl⟩
    · refine ⟨⟨by decide, by decide⟩, ?_⟩
      conv => whnf
      refine ⟨_, _, GV.wk 2 1, ?_⟩
      conv => whnf
      exact ⟨rfl, rfl⟩
  | cons r0 rs =>
    have hl : rs.length + 1 ≤ 100000 := by simpa using hl
    conv => whnf
    refine ⟨⟨?_, ?_⟩, ?_⟩
    · show (2 * (rs.length + 1) + 1024) * 8 ≤ 281474976710656; omega
    · show rs.length + 1 ≤ _; omega
    conv => whnf
    intro c hc
    conv => whnf
    refine ⟨_, _, GV.freeze 0 rfl (by simp) (by repeat' first | exact trivial | apply And.intro | decide | (simp; done) | omega) (by repeat' first | exact trivial | apply And.intro), ?_⟩
    conv => whnf
    refine ⟨?_, rfl⟩
    rw [List.drop_zero, List.take_of_length_le (by simp)]
theorem cloneD114 (rows : List (List DV)) (hl : rows.length ≤ 100000) : Contract Tryz.prog G0 78 [.d (.list 2 rows)] [] (fun r t => r = .d (.list 2 rows) ∧ t = []) := by
  refine rung78 0 [] rfl rfl ?_
  cases rows with
  | nil =>
    conv => whnf
    refine ⟨?_, ?_⟩ <;> conv => whnf
    · refine ⟨_, _, GV.wk 2 2, ?_⟩
      conv => whnf
      exact ⟨rfl, rfl⟩
    · refine ⟨⟨by decide, by decide⟩, ?_⟩
      conv => whnf
      refine ⟨_, _, GV.wk 2 2, ?_⟩
      conv => whnf
      exact ⟨rfl, rfl⟩
  | cons r0 rs =>
    have hl : rs.length + 1 ≤ 100000 := by simpa using hl
    conv => whnf
    refine ⟨⟨?_, ?_⟩, ?_⟩
    · show (2 * (rs.length + 1) + 1024) * 16 ≤ 281474976710656; omega
    · show rs.length + 1 ≤ _; omega
    conv => whnf
    intro c hc
    conv => whnf
    refine ⟨_, _, GV.freeze 0 rfl (by simp) (by repeat' first | exact trivial | apply And.intro | decide | (simp; done) | omega) (by repeat' first | exact trivial | apply And.intro), ?_⟩
    conv => whnf
    refine ⟨?_, rfl⟩
    rw [List.drop_zero, List.take_of_length_le (by simp)]
theorem clone113_nil : Contract Tryz.prog G0 86 [.d (.list 5 [])] [] (fun r t => (r = .d .nil ∨ r = .d .emp) ∧ t = []) := by
  refine run86 0 [] rfl rfl ?_
  conv => whnf
  refine ⟨?_, ?_⟩ <;> conv => whnf
  · exact ⟨.inl rfl, rfl⟩
  · refine ⟨⟨by decide, by decide⟩, ?_⟩
    conv => whnf
    exact ⟨.inr rfl, rfl⟩
theorem clone113_cons (r0 : List DV) (rs : List (List DV)) (hl : rs.length ≤ 100000) : Contract Tryz.prog G0 86 [.d (.list 5 (r0 :: rs))] [] (fun r t => ∃ c, rs.length + 1 ≤ c ∧ r = .slc (.g 0) 5 0 (rs.length + 1) c ∧ t = [(0, .row 5 (r0 :: rs))]) := by
  refine run86 0 [] rfl rfl ?_
  conv => whnf
  refine ⟨⟨?_, ?_⟩, ?_⟩
  · show (2 * (rs.length + 1) + 1024) * 56 ≤ 281474976710656; omega
  · show rs.length + 1 ≤ _; omega
  conv => whnf
  intro c hc
  conv => whnf
  exact ⟨c, hc, rfl, rfl⟩
theorem entries_nil : Contract Tryz.prog G0 40 [.d (.list 5 [])] [] (fun r t => (r = .d .nil ∨ r = .d .emp) ∧ t = []) := by
  refine run40 0 [] rfl rfl ?_
  conv => whnf
  refine .obj rfl ?_
  conv => whnf
  refine ⟨_, _, ⟨WkL.refl _, clone113_nil⟩, fun res s1 h => ?_⟩
  obtain ⟨h, rfl⟩ := h
  rcases h with rfl | rfl
  · conv => whnf
    refine StopG.rounds wk40 [] [0, 3, 8, 9] (fun m env s => m = 0 ∧ env = [(0, .d (.list 5 [])), (3, .d .nil), (8, .d (.int .i64 0)), (9, .d (.int .i64 0))] ∧ s = []) rfl ?_ ?_
    · conv => whnf
      exact ⟨_, rfl, rfl, rfl⟩
    rintro m env s ⟨rfl, rfl, rfl⟩
    conv => whnf
    exact ⟨by simp, rfl⟩
  · conv => whnf
    refine StopG.rounds wk40 [] [0, 3, 8, 9] (fun m env s => m = 0 ∧ env = [(0, .d (.list 5 [])), (3, .d .emp), (8, .d (.int .i64 0)), (9, .d (.int .i64 0))] ∧ s = []) rfl ?_ ?_
    · conv => whnf
      exact ⟨_, rfl, rfl, rfl⟩
    rintro m env s ⟨rfl, rfl, rfl⟩
    conv => whnf
    exact ⟨by simp, rfl⟩
theorem entries_cons (e0 : En) (l0 : List En) (hl : l0.length ≤ 1000) (hb : ∀ e ∈ e0 :: l0, e.bids.length ≤ 100000) : Contract Tryz.prog G0 40 [.d (.list 5 (rowsE (e0 :: l0)))] [] (fun r t => ∃ c, l0.length + 1 ≤ c ∧ r = .slc (.g 0) 5 0 (l0.length + 1) c ∧ t = [(0, .row 5 (rowsE (e0 :: l0)))]) := by
  have hcl := clone113_cons (rowE e0) (rowsE l0) (by rw [rowsE_len]; omega)
  rw [rowsE_len] at hcl
  refine run40 0 [] rfl rfl ?_
  conv => whnf
  refine .obj rfl ?_
  conv => whnf
  refine ⟨_, _, ⟨WkL.refl _, hcl⟩, fun res s1 h => ?_⟩
  obtain ⟨c, hc, rfl, rfl⟩ := h
  conv => whnf
  rw [show rowE e0 :: rowsE l0 = rowsE (e0 :: l0) from rfl]
  generalize hle : e0 :: l0 = l at hb
  have hll : l.length = l0.length + 1 := by rw [← hle]; rfl
  rw [← hll] at hc ⊢
  have hlen := rowsE_len l
  refine StopG.rounds wk40 [] [3, 8, 9] (fun m env s => ∃ i : Nat, i ≤ l.length ∧ m = l.length - i ∧ env = [(3, .slc (.g 0) 5 0 l.length c), (8, .d (.int .i64 (l.length : Int))), (9, .d (.int .i64 (i : Int)))] ∧ s = [(0, .row 5 (rowsE l))]) rfl ?_ ?_
  · conv => whnf
    exact ⟨_, 0, Nat.zero_le _, rfl, rfl, rfl⟩
  rintro m env s ⟨i, hi, rfl, rfl, rfl⟩
  conv => whnf
  refine bcase_intro (fun h => ?_) (fun h => ?_) <;> conv => whnf
  · have h := lt_of h
    obtain ⟨x, hx, hdrop⟩ := at_i h
    refine ⟨⟨by omega, by omega⟩, ?_⟩
    conv => whnf
    refine ⟨rowE x, row_g hx, rfl, ?_⟩
    conv => whnf
    have hxb := hb x (List.mem_of_getElem? hx)
    refine .data [.d (.list 2 (rowsB x.bids))] _ ⟨WkL.refl _, rfl, cloneD114 _ (by rw [rowsB_len]; exact hxb)⟩ ?_
    conv => whnf
    refine ⟨⟨by omega, by omega⟩, ?_⟩
    conv => whnf
    refine ⟨rowE x, row_g hx, ?_⟩
    conv => whnf
    rw [succ_i h (by omega)]
    refine ⟨_, by omega, i + 1, h, rfl, rfl, ?_⟩
    refine congrArg (fun q => [(0, AB.row 5 q)]) ?_
    rw [show setN (rowE x) 3 [DV.list 2 (rowsB x.bids)] = rowE x from rfl]
    exact (set_row x).trans (by rw [set_same hx]; rfl)
  · exact ⟨c, hc, rfl, rfl⟩
/-- A ring. -/
structure Rg where
  cnt : Int
  fdr : Int
  hop : Int
  mem : List Int
  ents : List En
abbrev rgV (cnt fdr hop : Int) (mem : List Int) (en : AV) : AV := .agg [.d (.int .i64 cnt), .d (.int .i64 fdr), .d (.int .i64 hop), .d (.list 1 (rowsI mem)), en]
theorem own_nil0 (cnt fdr hop : Int) (mem : List Int) (hm : mem.length ≤ 100000) : Contract Tryz.prog G0 31 [rgV cnt fdr hop mem (.d (.list 5 []))] [] (fun r t => (r = rgV cnt fdr hop mem (.d .nil) ∨ r = rgV cnt fdr hop mem (.d .emp)) ∧ t = []) := by
  refine run31 0 [] rfl rfl ?_
  conv => whnf
  refine .data [.d (.list 1 (rowsI mem))] _ ⟨WkL.refl _, rfl, cloneD67 _ (by rw [rowsI_len]; exact hm)⟩ ?_
  conv => whnf
  refine .obj rfl ?_
  conv => whnf
  refine ⟨_, _, ⟨WkL.refl _, entries_nil⟩, fun res s1 h => ?_⟩
  obtain ⟨h, rfl⟩ := h
  rcases h with rfl | rfl
  · conv => whnf
    exact ⟨.inl rfl, rfl⟩
  · conv => whnf
    exact ⟨.inr rfl, rfl⟩
theorem own_nil (cnt fdr hop : Int) (mem : List Int) (hm : mem.length ≤ 100000) : Contract Tryz.prog G0 31 [rgV cnt fdr hop mem (.d (.list 5 []))] [] (fun r t => r = rgV cnt fdr hop mem (.d (.list 5 [])) ∧ t = []) :=
  (own_nil0 cnt fdr hop mem hm).weak 5 fun r t h => by
    obtain ⟨h | h, rfl⟩ := h <;> subst h <;> exact ⟨rfl, rfl, rfl, rfl⟩
theorem own_cons (cnt fdr hop : Int) (mem : List Int) (hm : mem.length ≤ 100000) (e0 : En) (l0 : List En) (hl : l0.length ≤ 1000) (hb : ∀ e ∈ e0 :: l0, e.bids.length ≤ 100000) :
    Contract Tryz.prog G0 31 [rgV cnt fdr hop mem (.d (.list 5 (rowsE (e0 :: l0))))] [] (fun r t => ∃ c, l0.length + 1 ≤ c ∧ r = rgV cnt fdr hop mem (.slc (.g 0) 5 0 (l0.length + 1) c) ∧ t = [(0, .row 5 (rowsE (e0 :: l0)))]) := by
  refine run31 0 [] rfl rfl ?_
  conv => whnf
  refine .data [.d (.list 1 (rowsI mem))] _ ⟨WkL.refl _, rfl, cloneD67 _ (by rw [rowsI_len]; exact hm)⟩ ?_
  conv => whnf
  refine .obj rfl ?_
  conv => whnf
  refine ⟨_, _, ⟨WkL.refl _, entries_cons e0 l0 hl hb⟩, fun res s1 h => ?_⟩
  obtain ⟨c, hc, rfl, rfl⟩ := h
  conv => whnf
  exact ⟨c, hc, rfl, rfl⟩
/-- As data. -/
theorem entriesD (l : List En) (hl : l.length ≤ 1000) (hb : ∀ e ∈ l, e.bids.length ≤ 100000) : Contract Tryz.prog G0 40 [.d (.list 5 (rowsE l))] [] (fun r t => r = .d (.list 5 (rowsE l)) ∧ t = []) := by
  cases l with
  | nil => exact Contract.as_list (by decide) (entries_nil.mono fun r t ⟨h1, h2⟩ => .inl ⟨h1, rfl, h2⟩)
  | cons e0 l0 =>
    refine Contract.as_list (by decide) ((entries_cons e0 l0 (by simp at hl; omega) hb).mono fun r t ⟨c, h1, h2, h3⟩ => .inr ⟨c, ?_, ?_, h3⟩)
    · rw [rowsE_len]; simpa using h1
    · rw [rowsE_len]; exact h2
/-- Of a list of one's own that is wanted no more. -/
theorem entriesO (l : List En) (hl : l.length ≤ 1000) (hb : ∀ e ∈ l, e.bids.length ≤ 100000) (cap : Nat) : Contract Tryz.prog G0 40 [.slc (.g 0) 5 0 l.length cap] [(0, .row 5 (rowsE l))] (fun r t => r = .d (.list 5 (rowsE l)) ∧ t = [(0, .dead)]) := by
  have h0 := entriesD l hl hb
  have e : fzL 0 (AB.row 5 (rowsE l)) [.slc (.g 0) 5 0 l.length cap] = [.d (.list 5 ((List.drop 0 (rowsE l)).take l.length))] := rfl
  refine Contract.frz (by simp) ⟨⟨by decide, by rw [rowsE_len]; omega⟩, trivial⟩ rfl ?_
  rw [e, List.drop_zero, List.take_of_length_le (by rw [rowsE_len]; exact Nat.le_refl _)]
  exact h0
def wonE (ms : List Int) (e : En) : Bool := bif bif decide (e.aw < 0) then (leastB e.bids).2 else false then fullB ms e.bids else false
def awE (ms : List Int) (e : En) : En := if wonE ms e then ⟨e.fl, e.dr, e.gn, e.bids, (leastB e.bids).1.1⟩ else e
/-- What is awarded, of some. -/
def wonL (ms : List Int) (l : List En) : List En := (l.filter (wonE ms)).map (awE ms)
abbrev awG (cnt fdr hop : Int) (mem : List Int) (l : List En) : AV := rgV cnt fdr hop mem (.d (.list 5 (rowsE l)))
set_option maxRecDepth 100000 in
theorem award_nil (cnt fdr hop : Int) (mem : List Int) (hm : mem.length ≤ 100000) : Contract Tryz.prog G0 9 [awG cnt fdr hop mem []] [] (fun r t => r = .tup [awG cnt fdr hop mem [], .d (.list 5 [])] ∧ t = []) := by
  refine run9 0 [] rfl rfl ?_
  conv => whnf
  refine .obj rfl ?_
  conv => whnf
  refine ⟨_, _, ⟨WkL.refl _, own_nil cnt fdr hop mem hm⟩, fun res s1 h => ?_⟩
  obtain ⟨rfl, rfl⟩ := h
  conv => whnf
  refine StopG.rounds wk9 [] [1, 2, 4, 13, 14] (fun m env s => m = 0 ∧ env = [(1, .ref (.g 0) 0), (2, .ref (.g 1) 0), (4, .d .nil), (13, .d (.int .i64 0)), (14, .d (.int .i64 0))] ∧ s = [(0, .cells [.d (.int .i64 cnt), .d (.int .i64 fdr), .d (.int .i64 hop), .d (.list 1 (rowsI mem)), .d (.list 5 [])]), (1, .cells [.d (.int .i64 0), .d (.int .i64 0), .d (.int .i64 0), .d .nil, .d .nil])]) rfl ?_ ?_
  · conv => whnf
    exact ⟨_, rfl, rfl, rfl⟩
  rintro m env s ⟨rfl, rfl, rfl⟩
  conv => whnf
  refine .data [.d (.list 5 [])] _ ⟨.n 5 .nil, rfl, entriesD [] (by simp) (by simp)⟩ ?_
  conv => whnf
  exact ⟨rfl, rfl⟩
end Go.Proofs.YtkenimmellonjaaGreat
/- Seat Z: what comes in. -/
namespace Go.Proofs.YtkenimmellonjaaGreat
open Go.Pv Go.RowKit
theorem dat_int {n : Nat} {r : List DV} (h : Dat T (n + 1) 3 r) : ∃ m : Int, IntKind.min .i64 ≤ m ∧ m ≤ IntKind.max .i64 ∧ r = [.int .i64 m] := by
  obtain ⟨m, h1, h2, rfl⟩ := h
  exact ⟨m, h1, h2, rfl⟩
theorem dat_ints {n : Nat} {r : List DV} (h : Dat T (n + 2) 24 r) : ∃ (x : DV) (l : List Int), r = [x] ∧ l.length ≤ maxLen ∧ (∀ m ∈ l, IntKind.min .i64 ≤ m ∧ m ≤ IntKind.max .i64) ∧ ∀ {r r' : List AV}, WkL r r' → WkL (.d x :: r) (.d (.list 1 (rowsI l)) :: r') := by
  rcases h with h | ⟨rows, h1, h2, h⟩
  · exact ⟨.nil, [], h, by simp, by simp, fun hw => .n 1 hw⟩
  · have : ∃ ms : List Int, rows = rowsI ms ∧ ∀ m ∈ ms, IntKind.min .i64 ≤ m ∧ m ≤ IntKind.max .i64 := by
      clear h1 h
      induction rows with
      | nil => exact ⟨[], rfl, by simp⟩
      | cons r rs ih =>
        obtain ⟨ms, h3, h4⟩ := ih fun x hx => h2 x (List.mem_cons_of_mem _ hx)
        obtain ⟨m, h6, h7, h8⟩ := dat_int (h2 r (List.mem_cons_self ..))
        refine ⟨m :: ms, by rw [h3, h8]; rfl, ?_⟩
        intro x hx
        rcases List.mem_cons.1 hx with rfl | hx
        · exact ⟨h6, h7⟩
        · exact h4 x hx
    obtain ⟨ms, rfl, h3⟩ := this
    exact ⟨.list 1 (rowsI ms), ms, h, by simpa [rowsI] using h1, h3, fun hw => .s _ hw⟩
end Go.Proofs.YtkenimmellonjaaGreat
/- Seat Z: rings that come in. -/
namespace Go.Proofs.YtkenimmellonjaaGreat
open Go.Pv Go.RowKit
theorem dat_bid {n : Nat} {r : List DV} (h : Dat T (n + 2) 30 r) : ∃ b : B, r = rowB b := by
  obtain ⟨_, _, rfl, ⟨c, _, _, rfl⟩, _, _, rfl, ⟨p, _, _, rfl⟩, rfl⟩ := h
  exact ⟨(c, p), rfl⟩
theorem dat_bids {n : Nat} {r : List DV} (h : Dat T (n + 3) 54 r) : ∃ (x : DV) (l : List B), r = [x] ∧ l.length ≤ maxLen ∧ WkD x (.list 2 (rowsB l)) := by
  rcases h with h | ⟨rows, h1, h2, h⟩
  · exact ⟨.nil, [], h, by simp, WkD.nil 2⟩
  · have : ∃ l : List B, rows = rowsB l := by
      clear h1 h
      induction rows with
      | nil => exact ⟨[], rfl⟩
      | cons r rs ih =>
        obtain ⟨l, h3⟩ := ih fun x hx => h2 x (List.mem_cons_of_mem _ hx)
        obtain ⟨b, h4⟩ := dat_bid (h2 r (List.mem_cons_self ..))
        exact ⟨b :: l, by rw [h3, h4]; rfl⟩
    obtain ⟨l, rfl⟩ := this
    exact ⟨_, l, h, by simpa [rowsB] using h1, WkD.refl _⟩
theorem dat_entry {n : Nat} {r : List DV} (h : Dat T (n + 4) 56 r) : ∃ (e : En) (x : DV), r = [.int .i64 e.fl, .int .i64 e.dr, .int .i64 e.gn, x, .int .i64 e.aw] ∧ WkD x (.list 2 (rowsB e.bids)) := by
  obtain ⟨_, _, rfl, ⟨_, _, rfl, ⟨_, _, rfl, ⟨fl, _, _, rfl⟩, _, _, rfl, ⟨dr, _, _, rfl⟩, rfl⟩, _, _, rfl, ⟨gn, _, _, rfl⟩, rfl⟩, _, _, rfl, hb, _, _, rfl, ⟨aw, _, _, rfl⟩, rfl⟩ := h
  obtain ⟨x, l, rfl, _, hw⟩ := dat_bids hb
  exact ⟨⟨fl, dr, gn, l, aw⟩, x, rfl, hw⟩
theorem dat_ents {n : Nat} {r : List DV} (h : Dat T (n + 5) 25 r) : ∃ (x : DV) (l : List En), r = [x] ∧ l.length ≤ maxLen ∧ WkD x (.list 5 (rowsE l)) := by
  rcases h with h | ⟨rows, h1, h2, h⟩
  · exact ⟨.nil, [], h, by simp, WkD.nil 5⟩
  · have : ∃ l : List En, rows.length = l.length ∧ ∀ (i : Nat) (r r' : List DV), rows[i]? = some r → (rowsE l)[i]? = some r' → r'.length = r.length ∧ ∀ (j : Nat) (x y : DV), r[j]? = some x → r'[j]? = some y → WkD x y := by
      clear h1 h
      induction rows with
      | nil => exact ⟨[], rfl, by simp⟩
      | cons r rs ih =>
        obtain ⟨l, h3, h4⟩ := ih fun x hx => h2 x (List.mem_cons_of_mem _ hx)
        obtain ⟨e, z, h5, hw⟩ := dat_entry (h2 r (List.mem_cons_self ..))
        refine ⟨e :: l, by simp [h3], fun i a a' ha ha' => ?_⟩
        cases i with
        | succ i => exact h4 i a a' ha ha'
        | zero =>
          cases ha
          cases ha'
          subst h5
          refine ⟨rfl, fun j x y hx hy => ?_⟩
          match j, hx, hy with
          | 0, hx, hy => cases hx; cases hy; exact WkD.refl _
          | 1, hx, hy => cases hx; cases hy; exact WkD.refl _
          | 2, hx, hy => cases hx; cases hy; exact WkD.refl _
          | 3, hx, hy => cases hx; cases hy; exact hw
          | 4, hx, hy => cases hx; cases hy; exact WkD.refl _
          | j + 5, hx, hy => cases hx
    obtain ⟨l, h3, h4⟩ := this
    exact ⟨_, l, h, by rw [← h3]; exact h1, WkD.list (by rw [rowsE_len, h3]) h4⟩
theorem arg_ring {n : Nat} {x : AV} (h : ArgD T (n + 6) 27 x) : ∃ (cnt fdr hop : Int) (mem : List Int) (l : List En), mem.length ≤ maxLen ∧ l.length ≤ maxLen ∧ ∀ {r r' : List AV}, WkL r r' → WkL (x :: r) (rgV cnt fdr hop mem (.d (.list 5 (rowsE l))) :: r') := by
  obtain ⟨xs, h, rfl⟩ := h
  obtain ⟨_, _, rfl, ⟨_, _, rfl, ⟨cnt, _, _, rfl⟩, _, _, rfl, ⟨fdr, _, _, rfl⟩, rfl⟩, _, _, rfl, ⟨hop, _, _, rfl⟩, _, _, rfl, hm, _, _, rfl, he, rfl⟩ := h
  obtain ⟨x1, mem, rfl, hml, _, hw1⟩ := dat_ints hm
  obtain ⟨x2, l, rfl, hll, hw2⟩ := dat_ents he
  exact ⟨cnt, fdr, hop, mem, l, hml, hll, fun hw => .a (.s _ (.s _ (.s _ (hw1 (.w hw2 .nil))))) hw⟩
end Go.Proofs.YtkenimmellonjaaGreat
/- Seat Z: what is awarded. -/
namespace Go.Proofs.YtkenimmellonjaaGreat
open Go.Pv Go.RowKit Go.Shelf
theorem mid_at {l : List En} {ms : List Int} {i : Nat} {x : En} (hx : l[i]? = some x) : ((l.take i).map (awE ms) ++ l.drop i)[i]? = some x := by
  have hi : i < l.length := (List.getElem?_eq_some_iff.1 hx).1
  rw [List.getElem?_append_right (by simp; omega)]
  simp only [List.length_map, List.length_take, Nat.min_eq_left (Nat.le_of_lt hi), Nat.sub_self, List.getElem?_drop, Nat.add_zero]
  exact hx
theorem mid_set {l : List En} {ms : List Int} {i : Nat} {x : En} (hx : l[i]? = some x) : ((l.take i).map (awE ms) ++ l.drop i).set i (awE ms x) = (l.take (i + 1)).map (awE ms) ++ l.drop (i + 1) := by
  have hi : i < l.length := (List.getElem?_eq_some_iff.1 hx).1
  rw [List.set_append_right _ _ (by simp; omega), List.take_add_one, hx]
  simp only [List.length_map, List.length_take, Nat.min_eq_left (Nat.le_of_lt hi), Nat.sub_self, List.map_append]
  have : l.drop i = x :: l.drop (i + 1) := by
    obtain ⟨y, h1, h2⟩ := at_i hi
    rw [hx] at h1; cases h1; exact h2
  rw [this]
  simp
theorem wonL_snoc {l : List En} {ms : List Int} {i : Nat} {x : En} (hx : l[i]? = some x) : wonL ms (l.take (i + 1)) = wonL ms (l.take i) ++ (match wonE ms x with | true => [awE ms x] | false => []) := by
  rw [List.take_add_one, hx]
  simp only [wonL, List.filter_append, List.map_append, Option.toList]
  cases h : wonE ms x <;> simp [h]
theorem awE_won {ms : List Int} {x : En} (h : wonE ms x = true) : setN (rowE x) 4 [DV.int .i64 (leastB x.bids).1.1] = rowE (awE ms x) := by
  rw [awE, if_pos h]; rfl
theorem awE_not {ms : List Int} {x : En} (h : wonE ms x = false) : awE ms x = x := by
  rw [awE, if_neg (by simp [h])]
theorem set_get {α : Type} {row : α → List DV} {l : List α} {i : Nat} {y x : α} (h : l[i]? = some x) : ((l.map row).set (0 + (i : Int).toNat) (row y))[0 + (i : Int).toNat]? = some (row y) := by
  rw [set_row]
  refine row_g ?_
  rw [List.getElem?_set]
  simp [(List.getElem?_eq_some_iff.1 h).1]
set_option maxRecDepth 100000 in
theorem award_cons (cnt fdr hop : Int) (mem : List Int) (hm : mem.length ≤ 100000) (e0 : En) (l0 : List En) (hl : l0.length + 1 ≤ 1000) (hb : ∀ e ∈ e0 :: l0, e.bids.length ≤ 100000) : Contract Tryz.prog G0 9 [awG cnt fdr hop mem (e0 :: l0)] [] (fun r t => ∃ c, l0.length + 1 ≤ c ∧ r = .tup [rgV cnt fdr hop mem (.slc (.g 0) 5 0 (l0.length + 1) c), .d (.list 5 (rowsE (wonL mem (e0 :: l0))))] ∧ t = [(0, .row 5 (rowsE ((e0 :: l0).map (awE mem))))]) := by
  refine run9 0 [] rfl rfl ?_
  conv => whnf
  refine .obj rfl ?_
  conv => whnf
  refine ⟨_, _, ⟨WkL.refl _, own_cons cnt fdr hop mem hm e0 l0 (by omega) hb⟩, fun res s1 h => ?_⟩
  obtain ⟨c, hc, rfl, rfl⟩ := h
  conv => whnf
  generalize hle : e0 :: l0 = l at hb
  have hll : l.length = l0.length + 1 := by rw [← hle]; rfl
  rw [← hll] at hc ⊢
  refine StopG.roundsS wk9 [] [1, 2, 4, 13, 14] (fun m env s => ∃ i : Nat, ∃ w, wonL mem (l.take i) = w ∧ i ≤ l.length ∧ m = l.length - i ∧ ((w = [] ∧ env = [(1, .ref (.g 0) 0), (2, .ref (.g 1) 0), (4, .d .nil), (13, .d (.int .i64 (l.length : Int))), (14, .d (.int .i64 (i : Int)))] ∧ s = [(0, .cells [.d (.int .i64 cnt), .d (.int .i64 fdr), .d (.int .i64 hop), .d (.list 1 (rowsI mem)), .slc (.g 2) 5 0 l.length c]), (1, .cells [.d (.int .i64 0), .d (.int .i64 0), .d (.int .i64 0), .d .nil, .d .nil]), (2, .row 5 (rowsE ((l.take i).map (awE mem) ++ l.drop i)))]) ∨ ∃ wc, w.length ≤ wc ∧ env = [(1, .ref (.g 0) 0), (2, .ref (.g 1) 0), (4, .slc (.g 2) 5 0 w.length wc), (13, .d (.int .i64 (l.length : Int))), (14, .d (.int .i64 (i : Int)))] ∧ s = [(0, .cells [.d (.int .i64 cnt), .d (.int .i64 fdr), .d (.int .i64 hop), .d (.list 1 (rowsI mem)), .slc (.g 3) 5 0 l.length c]), (1, .cells [.d (.int .i64 0), .d (.int .i64 0), .d (.int .i64 0), .d .nil, .d .nil]), (2, .row 5 (rowsE w)), (3, .row 5 (rowsE ((l.take i).map (awE mem) ++ l.drop i)))])) rfl ?_ ?_
  · conv => whnf
    exact ⟨_, 0, [], rfl, Nat.zero_le _, rfl, .inl ⟨rfl, rfl, rfl⟩⟩
  rintro m env s ⟨i, w, hw, hi, rfl, hout⟩
  rcases Nat.lt_or_ge i l.length with hil | hil
  · rcases hout with ⟨rfl, rfl, rfl⟩ | ⟨wc, hwc, rfl, rfl⟩
    · refine .go wk9 [] ?_
      conv => whnf
      refine bcase_intro (fun h => ?_) (fun h => ?_) <;> conv => whnf
      · refine ⟨⟨by omega, by omega⟩, ?_⟩
        conv => whnf
        obtain ⟨x, hx, hdrop⟩ := at_i hil
        have hrow := row_g (row := rowE) (mid_at (ms := mem) hx)
        have hxb := hb x (List.mem_of_getElem? hx)
        refine ⟨rowE x, hrow, rfl, ?_⟩
        conv => whnf
        refine .data [.d (.list 2 (rowsB x.bids))] _ ⟨WkL.refl _, rfl, least x.bids (by omega)⟩ ?_
        conv => whnf
        refine ⟨rowE x, hrow, rfl, ?_⟩
        conv => whnf
        refine ⟨rowE x, fun _ => hrow, rfl, ?_⟩
        conv => whnf
        refine .scal [.d (.list 1 (rowsI mem)), .d (.list 2 (rowsB x.bids))] _ (fun _ => ⟨.refl _, rfl, full mem (by omega) x.bids (by omega)⟩) ?_
        conv => whnf
        refine bcase_intro (fun hg => ?_) (fun hg => ?_) <;> conv => whnf
        · have hwon : wonE mem x = true := hg
          have e4 := awE_won hwon
          refine ⟨rowE x, hrow, ?_⟩
          conv => whnf
          refine ⟨rowE (awE mem x), (by rw [show (fun x_1 => DV.int IntKind.i64 (leastB x.bids).fst.fst :: x_1) [] = [DV.int .i64 (leastB x.bids).1.1] from rfl, e4]; exact set_get (mid_at hx)), rfl, ?_⟩
          rw [show (fun x_1 => DV.int IntKind.i64 (leastB x.bids).fst.fst :: x_1) [] = [DV.int .i64 (leastB x.bids).1.1] from rfl, e4]
          conv => whnf
          refine ⟨⟨?_, ?_⟩, ?_⟩
          · show (2 * 1 + 1024) * 56 ≤ 281474976710656; omega
          · show 1 ≤ _; omega
          conv => whnf
          intro c2 hc2
          conv => whnf
          rw [succ_i hil (by omega)]
          refine ⟨_, by omega, i + 1, [awE mem x], ?_, hil, rfl, .inr ⟨c2, hc2, rfl, ?_⟩⟩
          · rw [wonL_snoc hx, hw, hwon]; rfl
          · rw [← mid_set hx]
            exact congrArg (fun q => [(0, .cells [.d (.int .i64 cnt), .d (.int .i64 fdr), .d (.int .i64 hop), .d (.list 1 (rowsI mem)), .slc (.g 3) 5 0 l.length c]), (1, .cells [.d (.int .i64 0), .d (.int .i64 0), .d (.int .i64 0), .d .nil, .d .nil]), (2, .row 5 [rowE (awE mem x)]), (3, AB.row 5 q)]) (set_row (awE mem x))
        · have hwon : wonE mem x = false := hg
          rw [succ_i hil (by omega)]
          refine ⟨_, by omega, i + 1, [], ?_, hil, rfl, .inl ⟨rfl, rfl, ?_⟩⟩
          · rw [wonL_snoc hx, hw, hwon]; rfl
          · rw [← mid_set hx, awE_not hwon, set_same (mid_at hx)]
      · exact absurd hil (Nat.not_lt.2 (ge_of h))
    · refine .go wk9 [] ?_
      conv => whnf
      refine bcase_intro (fun h => ?_) (fun h => ?_) <;> conv => whnf
      · refine ⟨⟨by omega, by omega⟩, ?_⟩
        conv => whnf
        obtain ⟨x, hx, hdrop⟩ := at_i hil
        have hrow := row_g (row := rowE) (mid_at (ms := mem) hx)
        have hxb := hb x (List.mem_of_getElem? hx)
        refine ⟨rowE x, hrow, rfl, ?_⟩
        conv => whnf
        refine .data [.d (.list 2 (rowsB x.bids))] _ ⟨WkL.refl _, rfl, least x.bids (by omega)⟩ ?_
        conv => whnf
        refine ⟨rowE x, hrow, rfl, ?_⟩
        conv => whnf
        refine ⟨rowE x, fun _ => hrow, rfl, ?_⟩
        conv => whnf
        refine .scal [.d (.list 1 (rowsI mem)), .d (.list 2 (rowsB x.bids))] _ (fun _ => ⟨.refl _, rfl, full mem (by omega) x.bids (by omega)⟩) ?_
        conv => whnf
        refine bcase_intro (fun hg => ?_) (fun hg => ?_) <;> conv => whnf
        · have hwon : wonE mem x = true := hg
          have e4 := awE_won hwon
          refine ⟨rowE x, hrow, ?_⟩
          conv => whnf
          refine ⟨rowE (awE mem x), (by rw [show (fun x_1 => DV.int IntKind.i64 (leastB x.bids).fst.fst :: x_1) [] = [DV.int .i64 (leastB x.bids).1.1] from rfl, e4]; exact set_get (mid_at hx)), rfl, ?_⟩
          rw [show (fun x_1 => DV.int IntKind.i64 (leastB x.bids).fst.fst :: x_1) [] = [DV.int .i64 (leastB x.bids).1.1] from rfl, e4]
          conv => whnf
          have hwl : w.length ≤ 1001 := by
            rw [← hw]
            refine Nat.le_trans ?_ (show l.length ≤ 1001 by omega)
            rw [wonL, List.length_map]
            exact Nat.le_trans (List.length_filter_le _ _) (by simp; omega)
          have hrl := rowsE_len w
          refine ⟨by omega, ⟨?_, ?_⟩, ?_⟩
          · show (2 * (w.length + 1) + 1024) * 56 ≤ 281474976710656; omega
          · show w.length + 1 ≤ _; omega
          conv => whnf
          intro c2 hc2
          conv => whnf
          rw [succ_i hil (by omega), List.take_of_length_le (by omega)]
          refine ⟨_, by omega, i + 1, w ++ [awE mem x], ?_, hil, rfl, .inr ⟨c2, by simpa using hc2, ?_, ?_⟩⟩
          · rw [wonL_snoc hx, hw, hwon]
          · rw [List.length_append]; rfl
          · rw [← mid_set hx, show rowsE (w ++ [awE mem x]) = rowsE w ++ [rowE (awE mem x)] by simp [rowsE]]
            exact congrArg (fun q => [(0, .cells [.d (.int .i64 cnt), .d (.int .i64 fdr), .d (.int .i64 hop), .d (.list 1 (rowsI mem)), .slc (.g 3) 5 0 l.length c]), (1, .cells [.d (.int .i64 0), .d (.int .i64 0), .d (.int .i64 0), .d .nil, .d .nil]), (2, .row 5 (rowsE w ++ [rowE (awE mem x)])), (3, AB.row 5 q)]) (set_row (awE mem x))
        · have hwon : wonE mem x = false := hg
          rw [succ_i hil (by omega)]
          refine ⟨_, by omega, i + 1, w, ?_, hil, rfl, .inr ⟨wc, hwc, rfl, ?_⟩⟩
          · rw [wonL_snoc hx, hw, hwon, List.append_nil]
          · rw [← mid_set hx, awE_not hwon, set_same (mid_at hx)]
      · exact absurd hil (Nat.not_lt.2 (ge_of h))
  · refine .ghost (env' := [(1, .ref (.g 0) 0), (2, .ref (.g 1) 0), (4, .d (.list 5 (rowsE w))), (13, .d (.int .i64 (l.length : Int))), (14, .d (.int .i64 (i : Int)))]) (s' := [(0, .cells [.d (.int .i64 cnt), .d (.int .i64 fdr), .d (.int .i64 hop), .d (.list 1 (rowsI mem)), .slc (.g 2) 5 0 l.length c]), (1, .cells [.d (.int .i64 0), .d (.int .i64 0), .d (.int .i64 0), .d .nil, .d .nil]), (2, .row 5 (rowsE (l.map (awE mem))))]) ?_ (.go wk9 [] ?_)
    · have hil2 : i = l.length := by omega
      subst hil2
      have hrl := rowsE_len w
      rcases hout with ⟨rfl, rfl, rfl⟩ | ⟨wc, hwc, rfl, rfl⟩
      · rw [List.take_length, List.drop_length, List.append_nil]
        exact GV.wk 4 5
      · rw [List.take_length, List.drop_length, List.append_nil]
        refine GV.trans (GV.freeze 2 rfl (by simp) (by repeat' first | exact trivial | apply And.intro | decide | (simp; done) | omega) (by repeat' first | exact trivial | apply And.intro)) (GV.tidied [1, 2, 4, 13, 14] ?_)
        conv => whnf
        rw [List.drop_zero, List.take_of_length_le (by omega)]
        exact ⟨rfl, rfl⟩
    conv => whnf
    refine bcase_intro (fun h => ?_) (fun h => ?_) <;> conv => whnf
    · exact absurd (lt_of h) (Nat.not_lt.2 hil)
    have hil2 : i = l.length := by omega
    have hwb : ∀ e ∈ w, e.bids.length ≤ 100000 := by
      intro e he
      rw [← hw] at he
      obtain ⟨y, hy, rfl⟩ := List.mem_map.1 he
      have h1 := hb y (List.mem_of_mem_take (List.mem_filter.1 hy).1)
      rw [awE]; split <;> exact h1
    have hwl : w.length ≤ 1000 := by
      rw [← hw, wonL, List.length_map]
      refine Nat.le_trans (List.length_filter_le _ _) ?_
      simp; omega
    refine .data [.d (.list 5 (rowsE w))] _ ⟨WkL.refl _, rfl, entriesD w hwl hwb⟩ ?_
    conv => whnf
    rw [hil2, List.take_length] at hw
    exact ⟨c, hc, by rw [hw], rfl⟩
/-- As data. -/
theorem award (cnt fdr hop : Int) (mem : List Int) (hm : mem.length ≤ 100000) (l : List En) (hl : l.length ≤ 1000) (hb : ∀ e ∈ l, e.bids.length ≤ 100000) : Contract Tryz.prog G0 9 [awG cnt fdr hop mem l] [] (fun r t => r = .tup [awG cnt fdr hop mem (l.map (awE mem)), .d (.list 5 (rowsE (wonL mem l)))] ∧ t = []) := by
  cases l with
  | nil => exact award_nil cnt fdr hop mem hm
  | cons e0 l0 =>
    refine (award_cons cnt fdr hop mem hm e0 l0 (by simpa using hl) hb).told fun r t hr => ?_
    obtain ⟨c, hc, rfl, rfl⟩ := hr
    refine ⟨.tup [awG cnt fdr hop mem ((e0 :: l0).map (awE mem)), .d (.list 5 (rowsE (wonL mem (e0 :: l0))))], ?_, rfl, rfl, rfl⟩
    have hrl := rowsE_len ((e0 :: l0).map (awE mem))
    have hrl2 : ((e0 :: l0).map (awE mem)).length = l0.length + 1 := by simp
    refine GV.trans (GV.freeze 0 rfl (by simp) (by repeat' first | exact trivial | apply And.intro | decide | (simp; done) | omega) (by repeat' first | exact trivial | apply And.intro)) (GV.tidied [0] ?_)
    conv => whnf
    rw [List.drop_zero, List.take_of_length_le (by omega)]
    exact ⟨rfl, rfl⟩
end Go.Proofs.YtkenimmellonjaaGreat
