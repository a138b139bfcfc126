/- Seat r2: bids. -/
import Derived.Test.YtkenimmellonjaaRn
import Derived.Test.YtkenimmellonjaaFrD
import Derived.Test.YtkenimmellonjaaFrB
namespace Go.Proofs.Ytkenimmellonjaa
open Go.Pv Go.RowKit
abbrev B := Int × Int
def bidv (b : B) : AV := .agg [.d (.int .i64 b.1), .d (.int .i64 b.2)]
def lessB (a b : B) : Bool := decide (a.2 < b.2) || (a.2 == b.2 && decide (a.1 < b.1))
def sameB (a b : B) : Bool := a.1 == b.1 && a.2 == b.2
def rowB (b : B) : List DV := [.int .i64 b.1, .int .i64 b.2]
def rowsB (l : List B) : List (List DV) := l.map rowB
set_option maxRecDepth 100000 in
theorem lessC (a b : B) : Contract Try.prog G0 109 [bidv a, bidv b] [] (fun r t => r = .d (.bool (lessB a b)) ∧ t = []) := by
  refine run109 0 [] rfl rfl ?_
  conv => whnf
  refine ⟨rd_bool ?_, rfl⟩
  simp only [bif_or, bif_and, lessB]
set_option maxRecDepth 100000 in
theorem sameC (a b : B) : Contract Try.prog G0 124 [bidv a, bidv b] [] (fun r t => r = .d (.bool (sameB a b)) ∧ t = []) := by
  refine run124 0 [] rfl rfl ?_
  conv => whnf
  refine ⟨rd_bool ?_, rfl⟩
  simp only [bif_and, sameB]
set_option maxRecDepth 100000 in
theorem at1 (b : B) (car : Int) : Contract Try.prog G0 139 [bidv b, .d (.ptr [.int .i64 car] 0)] [] (fun r s => r = .d (.bool (b.1 == car)) ∧ s = []) := by
  refine run139 0 [] rfl rfl ?_
  conv => whnf
  exact ⟨rfl, rfl⟩
set_option maxRecDepth 100000 in
theorem put1 (x b : B) : Contract Try.prog G0 118 [bidv x, .d (.ptr (rowB b) 0)] [] (fun r s => r = .d (.bool (decide (x.1 > b.1))) ∧ s = []) := by
  refine run118 0 [] rfl rfl ?_
  conv => whnf
  exact ⟨rfl, rfl⟩
set_option maxRecDepth 100000 in
theorem indexFunc (l : List B) (hl : l.length ≤ 4611686018427387904) (p : B → Bool) (f : Nat) (cs : List DV) (hf : ∀ x, Contract Try.prog G0 f [bidv x, .d (.ptr cs 0)] [] (fun r t => r = .d (.bool (p x)) ∧ t = [])) :
    Contract Try.prog G0 117 [.d (.list 2 (rowsB l)), .fn f [.d (.ptr cs 0)]] [] (fun r t => r = .d (.int .i64 (idxFrom p l 0)) ∧ t = []) := by
  have hlen : (rowsB l).length = l.length := by simp [rowsB]
  refine run117 0 [] rfl rfl ?_
  conv => whnf
  refine StopG.rounds wk117 [] [0, 1, 4, 7, 8] (fun m env s => ∃ i : Nat, i ≤ l.length ∧ m = l.length - i ∧ idxFrom p (l.drop i) i = idxFrom p l 0 ∧
    env = [(0, .d (.list 2 (rowsB l))), (1, .fn f [.d (.ptr cs 0)]), (4, .d (.int .i64 0)), (7, .d (.int .i64 ((rowsB l).length : Int))), (8, .d (.int .i64 (i : Int)))] ∧ s = []) rfl ?_ ?_
  · conv => whnf
    exact ⟨_, 0, Nat.zero_le _, rfl, rfl, rfl, rfl⟩
  rintro m env s ⟨i, hi, rfl, hidx, rfl, rfl⟩
  conv => whnf
  refine bcase_intro (fun h => ?_) (fun h => ?_) <;> conv => whnf
  · have h := lt_of h
    rw [hlen] at h
    obtain ⟨x, hx, hdrop⟩ := at_i h
    refine ⟨rowB x, ⟨by omega, row_i hx⟩, ?_⟩
    conv => whnf
    refine .scal [bidv x, .d (.ptr cs 0)] _ ⟨.refl _, rfl, hf x⟩ ?_
    conv => whnf
    rw [hdrop, idxFrom] at hidx
    refine bcase_intro (fun h2 => ?_) (fun h2 => ?_) <;> conv => whnf
    · rw [if_pos h2] at hidx
      exact ⟨rd_int hidx, rfl⟩
    · rw [succ_i h (by omega)]
      refine ⟨_, by omega, i + 1, h, rfl, ?_, ?_, rfl⟩
      · rw [if_neg (by simp [h2])] at hidx
        exact hidx
      · rfl
  · have h := ge_of h
    rw [hlen] at h
    rw [List.drop_eq_nil_of_le h, idxFrom] at hidx
    exact ⟨rd_int hidx, rfl⟩
set_option maxRecDepth 100000 in
theorem at_ (l : List B) (hl : l.length ≤ 4611686018427387904) (car : Int) : Contract Try.prog G0 112 [.d (.list 2 (rowsB l)), .d (.int .i64 car)] [] (fun r t => r = .d (.int .i64 (idxFrom (fun b => b.1 == car) l 0)) ∧ t = []) := by
  refine run112 0 [] rfl rfl ?_
  conv => whnf
  refine .scal [.d (.list 2 (rowsB l)), .fn 139 [.d (.ptr [.int .i64 car] 0)]] _ ⟨.fz 0 _ rfl (by simp) ⟨trivial, ⟨trivial, trivial⟩, trivial⟩ (.refl _), rfl, indexFunc l hl _ 139 _ fun b => at1 b car⟩ ?_
  conv => whnf
  exact ⟨rfl, rfl⟩
set_option maxRecDepth 100000 in
theorem cloneB_nil : Contract Try.prog G0 114 [.d (.list 2 [])] [] (fun r t => (r = .d .nil ∨ r = .d .emp) ∧ t = []) := by
  refine run114 0 [] rfl rfl ?_
  conv => whnf
  refine ⟨?_, ?_⟩ <;> conv => whnf
  · exact ⟨.inl rfl, rfl⟩
  · refine ⟨⟨by decide, by decide⟩, ?_⟩
    conv => whnf
    exact ⟨.inr rfl, rfl⟩
set_option maxRecDepth 100000 in
theorem cloneB_cons (r0 : List DV) (rs : List (List DV)) (hl : rs.length ≤ 100000) : Contract Try.prog G0 114 [.d (.list 2 (r0 :: rs))] [] (fun r t => ∃ c, rs.length + 1 ≤ c ∧ r = .slc (.g 0) 2 0 (rs.length + 1) c ∧ t = [(0, .row 2 (r0 :: rs))]) := by
  refine run114 0 [] rfl rfl ?_
  conv => whnf
  refine ⟨⟨?_, ?_⟩, ?_⟩
  · show (2 * (rs.length + 1) + 1024) * 16 ≤ 281474976710656; omega
  · show rs.length + 1 ≤ _; omega
  conv => whnf
  intro c hc
  conv => whnf
  exact ⟨c, hc, rfl, rfl⟩
theorem ov140 (x y : Value) (w : World) : (callFunc 140 #[x, y]).run Try.prog w = ((Extern.SlicesOverlaps.overlaps #[70, 70] #[4] #[x, y]).run Try.prog w).andThen fun v w' => .ok (.value v) w' := by
  rw [run_callFunc_extern Try.func140 (by kernel_rfl) (by kernel_rfl) (by kernel_rfl) (e := Extern.SlicesOverlaps.overlaps #[70, 70] #[4]) (by kernel_rfl)]
theorem ins_a {α : Type} (l : List α) (k : Nat) (hk : k < l.length) (x : α) (m : Nat) (hm : m = l.length - k) (zs : List α) (hz : zs.length = l.length + 1 - k) :
    (((l.take k ++ zs).take k ++ [x] ++ (l.take k ++ zs).drop (k + 1)).take (k + 1) ++ (l.drop k).take m ++ ((l.take k ++ zs).take k ++ [x] ++ (l.take k ++ zs).drop (k + 1)).drop (k + 1 + m)).take (l.length + 1) = l.take k ++ x :: l.drop k := by
  subst hm
  have h1 : (l.take k).length = k := by simp; omega
  have e1 : (l.take k ++ zs).take k = l.take k := by rw [List.take_append_of_le_length (by omega), List.take_of_length_le (by omega)]
  rw [e1]
  have e2 : (l.take k ++ [x] ++ (l.take k ++ zs).drop (k + 1)).take (k + 1) = l.take k ++ [x] := by
    rw [List.take_append_of_le_length (by simp; omega), List.take_of_length_le (by simp; omega)]
  have e3 : (l.drop k).take (l.length - k) = l.drop k := List.take_of_length_le (by simp)
  have e4 : (l.take k ++ [x] ++ (l.take k ++ zs).drop (k + 1)).drop (k + 1 + (l.length - k)) = [] := by
    apply List.drop_eq_nil_of_le
    simp [hz]; omega
  rw [e2, e3, e4, List.append_nil, List.take_of_length_le (by simp; omega)]
  simp
theorem ins_b {α : Type} (l : List α) (k : Nat) (hk : k < l.length) (x : α) (m : Nat) (hm : m = l.length - k) :
    ((l.take (k + 1) ++ (l.drop k).take m ++ l.drop (k + 1 + (l.length - k))).take k ++ [x] ++ (l.take (k + 1) ++ (l.drop k).take m ++ l.drop (k + 1 + (l.length - k))).drop (k + 1)).take (l.length + 1) = l.take k ++ x :: l.drop k := by
  subst hm
  have h1 : (l.take (k + 1)).length = k + 1 := by simp; omega
  have e3 : (l.drop k).take (l.length - k) = l.drop k := List.take_of_length_le (by simp)
  have e4 : l.drop (k + 1 + (l.length - k)) = [] := List.drop_eq_nil_of_le (by omega)
  rw [e3, e4, List.append_nil]
  have e5 : (l.take (k + 1) ++ l.drop k).take k = l.take k := by rw [List.take_append_of_le_length (by omega), List.take_take]; congr 1; omega
  have e6 : (l.take (k + 1) ++ l.drop k).drop (k + 1) = l.drop k := by rw [List.drop_append_of_le_length (by omega), List.drop_of_length_le (by omega)]; rfl
  rw [e5, e6, List.take_of_length_le (by simp; omega)]
  simp
set_option maxRecDepth 100000 in
theorem insert_own (rows : List (List DV)) (hl : rows.length ≤ 100000) (k : Nat) (hk : k ≤ rows.length) (c : Nat) (hc : rows.length ≤ c) (x : List DV) :
    Contract Try.prog G0 119 [.slc (.g 0) 2 0 rows.length c, .d (.int .i64 k), .d (.list 2 [x])] [(0, .row 2 rows)] (fun r t => r = .d (.list 2 (rows.take k ++ x :: rows.drop k)) ∧ t = [(0, .dead)]) := by
  refine rung119 1 [] rfl rfl ?_
  conv => whnf
  refine ⟨⟨by omega, by omega, by omega⟩, ?_⟩
  conv => whnf
  have hw1 : IntKind.i64.wrap ((rows.length : Int) + (([x] : List (List DV)).length : Int)) = ((rows.length + 1 : Nat) : Int) := by
    rw [wrap_id (by simp; omega) (by simp; omega)]
    simp
  have hw2 : IntKind.i64.wrap ((k : Int) + (([x] : List (List DV)).length : Int)) = ((k + 1 : Nat) : Int) := by
    rw [wrap_id (by simp; omega) (by simp; omega)]
    simp
  refine bcase_intro (fun h => ?_) (fun h => ?_) <;> conv => whnf
  · have h : k = rows.length := by simp at h; omega
    subst h
    refine ⟨Nat.le_refl _, ⟨?_, ?_⟩, ?_⟩
    · show (2 * (rows.length + 1) + 1024) * 16 ≤ 281474976710656; omega
    · show rows.length + 1 ≤ _; omega
    conv => whnf
    intro c' hc'
    conv => whnf
    refine ⟨_, _, GV.freeze 1 rfl (by simp) (by repeat' first | exact trivial | apply And.intro | (simp; done) | decide | (simp; omega)) (by repeat' first | exact trivial | apply And.intro), ?_⟩
    conv => whnf
    refine ⟨?_, rfl⟩
    show AV.d (.list 2 ((List.drop 0 (List.take rows.length rows ++ [x])).take (rows.length + 1))) = _
    rw [List.drop_zero, List.take_length, List.drop_length, List.take_of_length_le (by simp)]
  · have h : k < rows.length := by simp at h; omega
    rw [hw1]
    refine bcase_intro (fun h2 => ?_) (fun h2 => ?_) <;> conv => whnf
    · have h2 : c < rows.length + 1 := by simp at h2; omega
      refine ⟨⟨by omega, by omega, by omega⟩, ?_⟩
      conv => whnf
      rw [hw1]
      simp -iota only [Int.toNat_natCast, Int.toNat_zero, Nat.sub_zero, Nat.zero_add]
      have hkn : k + (rows.length + 1 - k) = rows.length + 1 := by omega
      refine ⟨rows.length + 1 - k, ⟨?_, by omega, by omega, by omega, ?_, by omega⟩, ?_⟩
      · rw [wrap_id (by omega) (by omega)]; omega
      · show (2 * _ + 1024) * 16 ≤ 281474976710656; omega
      rw [hkn]
      conv => whnf
      intro c1 hc1
      conv => whnf
      refine ⟨⟨by omega, by omega, by omega⟩, ?_⟩
      conv => whnf
      simp -iota only [Int.toNat_natCast, Nat.zero_add]
      refine ⟨by simp; omega, ?_⟩
      conv => whnf
      refine ⟨⟨by omega, by rw [hw2]; omega, by omega⟩, ?_⟩
      conv => whnf
      refine ⟨⟨by omega, by omega, by omega⟩, ?_⟩
      conv => whnf
      rw [hw2]
      simp -iota only [Int.toNat_natCast, Nat.zero_add]
      refine ⟨by simp [splice]; omega, ?_⟩
      conv => whnf
      refine ⟨by omega, ?_⟩
      conv => whnf
      refine ⟨_, _, (GV.freeze 1 rfl (by simp) (by repeat' first | exact trivial | apply And.intro | decide | (simp [splice]; omega)) (by repeat' first | exact trivial | apply And.intro)).trans (GV.kill 0 rfl), ?_⟩
      conv => whnf
      refine ⟨?_, rfl⟩
      refine congrArg (fun q => AV.d (.list 2 q)) ?_
      have := ins_a rows k h x (min (rows.length - k) (rows.length + 1 - (k + 1))) (by omega) (List.replicate (rows.length + 1 - k) ti89.zero) (by simp)
      rw [← this]
      have e1 : ([x] : List (List DV)).take (rows.length + 1 - k) = [x] := List.take_of_length_le (by simp; try omega)
      have e2 : ((rows.drop k).take (min (rows.length - k) (rows.length + 1 - (k + 1)))).length = min (rows.length - k) (rows.length + 1 - (k + 1)) := by simp; try omega
      simp only [splice, e1, List.drop_zero, List.length_singleton, e2]
    · have h2 : rows.length + 1 ≤ c := by simp at h2; omega
      refine ⟨⟨by omega, by rw [hw1]; omega, by rw [hw1]; omega⟩, ?_⟩
      conv => whnf
      refine ⟨⟨by rw [hw2]; omega, by rw [hw1, hw2]; omega, by rw [hw1]; omega⟩, ?_⟩
      conv => whnf
      rw [hw1, hw2]
      simp -iota only [Int.toNat_natCast, Int.toNat_zero, Nat.sub_zero, Nat.zero_add]
      refine .raw rfl ?_
      have q1 : T 70 = some ti70 := by kernel_rfl
      have q2 : T 89 = some ti89 := by kernel_rfl
      refine ej_overlaps (f := 140) (c := .func 140) (tys := #[70, 70]) (t := 70) (tr := 4) (e := 89) (ti := ti70) (te := ti89) (x := .tmp 61) (y := .tmp 66) (sz := 2) (rows := [x]) (id := 0) (off := k + 1) (len := rows.length + 1 - (k + 1)) (cap := c - (k + 1)) (old := rows) tabOK q1 ?_ q2 ov140 ?_ ?_ ?_ ?_ ?_ ?_ ?_
      · rfl
      · rfl
      · rfl
      · rfl
      · decide
      · rfl
      · rfl
      conv => whnf
      refine ⟨⟨by rw [hw2]; omega, by rw [hw2]; omega, by omega⟩, ?_⟩
      conv => whnf
      refine ⟨⟨by omega, by omega, by omega⟩, ?_⟩
      conv => whnf
      rw [hw2]
      simp -iota only [Int.toNat_natCast, Nat.zero_add]
      refine ⟨by omega, ?_⟩
      conv => whnf
      refine ⟨by omega, ?_⟩
      conv => whnf
      refine ⟨⟨by omega, by omega, by omega⟩, ?_⟩
      conv => whnf
      simp -iota only [Int.toNat_natCast, Nat.zero_add]
      refine ⟨by simp [splice]; omega, ?_⟩
      conv => whnf
      have e2 : ((rows.drop k).take (min (rows.length + 1 - k) (rows.length + 1 - (k + 1)))).length = rows.length - k := by simp; omega
      have e1 : ([x] : List (List DV)).take (rows.length + 1 - k) = [x] := List.take_of_length_le (by simp; try omega)
      refine ⟨_, _, GV.freeze 0 rfl (by simp) (by repeat' first | exact trivial | apply And.intro | decide | (simp [splice, e1]; omega)) (by repeat' first | exact trivial | apply And.intro), ?_⟩
      conv => whnf
      refine ⟨?_, rfl⟩
      refine congrArg (fun q => AV.d (.list 2 q)) ?_
      rw [← ins_b rows k h x (min (rows.length + 1 - k) (rows.length + 1 - (k + 1))) (by omega)]
      simp only [splice, e1, List.drop_zero, List.length_singleton, e2]
set_option maxRecDepth 100000 in
theorem insert_none (e : DV) (he : e = .nil ∨ e = .emp) (x : List DV) :
    Contract Try.prog G0 119 [.d e, .d (.int .i64 0), .d (.list 2 [x])] [] (fun r t => r = .d (.list 2 [x]) ∧ t = []) := by
  refine rung119 0 [] rfl rfl ?_
  rcases he with rfl | rfl
  all_goals
    conv => whnf
    refine ⟨⟨by omega, by omega⟩, ?_⟩
    conv => whnf
    refine ⟨⟨?_, ?_⟩, ?_⟩
    · show (2 * 1 + 1024) * 16 ≤ 281474976710656; omega
    · show 1 ≤ _; omega
    conv => whnf
    intro c hc
    conv => whnf
    refine ⟨_, _, GV.freeze 0 rfl (by simp) (by repeat' first | exact trivial | apply And.intro | decide | (simp; done)) (by repeat' first | exact trivial | apply And.intro), ?_⟩
    conv => whnf
    exact ⟨rfl, rfl⟩
theorem idx_ge {α : Type} {p : α → Bool} {l : List α} (h : decide (idxFrom p l 0 ≥ 0) = true) : ∃ k x, idxFrom p l 0 = ((k : Nat) : Int) ∧ l[k]? = .some x ∧ l.find? p = .some x := by
  rcases idx_cases0 p l with ⟨h1, _⟩ | q
  · rw [h1] at h; simp at h
  · exact q
theorem idx_lt {α : Type} {p : α → Bool} {l : List α} (h : decide (idxFrom p l 0 ≥ 0) = false) : idxFrom p l 0 = -1 ∧ l.find? p = .none := by
  rcases idx_cases0 p l with q | ⟨k, x, h1, _⟩
  · exact q
  · rw [h1] at h; simp at h
theorem idx_ge' {α : Type} {p : α → Bool} {l : List α} (h : decide (idxFrom p l 0 < 0) = false) : ∃ k x, idxFrom p l 0 = ((k : Nat) : Int) ∧ l[k]? = .some x ∧ l.find? p = .some x := by
  rcases idx_cases0 p l with ⟨h1, _⟩ | q
  · rw [h1] at h; simp at h
  · exact q
theorem idx_lt' {α : Type} {p : α → Bool} {l : List α} (h : decide (idxFrom p l 0 < 0) = true) : idxFrom p l 0 = -1 ∧ l.find? p = .none := by
  rcases idx_cases0 p l with q | ⟨k, x, h1, _⟩
  · exact q
  · rw [h1] at h; simp at h; omega
def insB (l : List B) (b : B) : List B := match idxFrom (fun x => decide (x.1 > b.1)) l 0 with
  | .ofNat k => l.take k ++ b :: l.drop k
  | .negSucc _ => l ++ [b]
def putB (l : List B) (b : B) : List B × Bool := match l.find? (fun x => x.1 == b.1) with
  | .some _ => (l, false)
  | .none => (insB l b, true)
set_option maxRecDepth 100000 in
theorem put (l : List B) (hl : l.length ≤ 10000) (b : B) : Contract Try.prog G0 88 [.d (.list 2 (rowsB l)), bidv b] [] (fun r t => r = .tup [.d (.list 2 (rowsB (putB l b).1)), .d (.bool (putB l b).2)] ∧ t = []) := by
  have hlen : (rowsB l).length = l.length := by simp [rowsB]
  cases l with
  | nil =>
    refine rung88 0 [] rfl rfl ?_
    conv => whnf
    refine .obj rfl ?_
    conv => whnf
    refine ⟨_, _, ⟨WkL.refl _, cloneB_nil⟩, fun res s1 h => ?_⟩
    obtain ⟨h, rfl⟩ := h
    rcases h with rfl | rfl
    all_goals
      conv => whnf
      refine .scal [.d (.list 2 (rowsB [])), .d (.int .i64 b.1)] _ ⟨.refl _, rfl, at_ [] (by simp) b.1⟩ ?_
      conv => whnf
      refine .scal [.d (.list 2 (rowsB [])), .fn 118 [.d (.ptr (rowB b) 0)]] _ ⟨.fz 0 _ rfl (by simp) (by repeat' first | exact trivial | apply And.intro) (.refl _), rfl, indexFunc [] (by simp) _ 118 _ fun x => put1 x b⟩ ?_
      conv => whnf
      refine .data _ (.d (.list 2 [rowB b])) ⟨WkL.refl _, rfl, insert_none _ (by simp) (rowB b)⟩ ?_
      conv => whnf
      refine ⟨_, _, .refl, ?_⟩
      conv => whnf
      exact ⟨rfl, rfl⟩
  | cons b0 l0 =>
    have hl0 : l0.length + 1 ≤ 10000 := by simpa using hl
    refine rung88 0 [] rfl rfl ?_
    conv => whnf
    refine .obj rfl ?_
    conv => whnf
    refine ⟨_, _, ⟨WkL.refl _, cloneB_cons (rowB b0) (rowsB l0) (by simp [rowsB]; omega)⟩, fun res s1 h => ?_⟩
    obtain ⟨c, hc, rfl, rfl⟩ := h
    conv => whnf
    refine .scal [.d (.list 2 (rowsB (b0 :: l0))), .d (.int .i64 b.1)] _ ⟨.refl _, rfl, at_ (b0 :: l0) (by simp; omega) b.1⟩ ?_
    conv => whnf
    refine bcase_intro (fun h => ?_) (fun h => ?_)
    · obtain ⟨k, x, h1, h2, h3⟩ := idx_ge h
      conv => whnf
      refine ⟨_, _, GV.freeze 1 rfl (by simp) (by repeat' first | exact trivial | apply And.intro | decide | (simp; done)) (by repeat' first | exact trivial | apply And.intro), ?_⟩
      conv => whnf
      have hp : putB (b0 :: l0) b = (b0 :: l0, false) := by simp only [putB, h3]
      rw [hp]
      refine ⟨?_, rfl⟩
      refine congrArg (fun q => AV.tup [AV.d (.list 2 q), AV.d (.bool false)]) ?_
      rw [List.drop_zero, List.take_of_length_le (by simp)]
      rfl
    · obtain ⟨h1, h2⟩ := idx_lt h
      conv => whnf
      refine .scal [.d (.list 2 (rowsB (b0 :: l0))), .fn 118 [.d (.ptr (rowB b) 0)]] _ ⟨.fz 0 _ rfl (by simp) (by repeat' first | exact trivial | apply And.intro) (.refl _), rfl, indexFunc (b0 :: l0) (by simp; omega) _ 118 _ fun x => put1 x b⟩ ?_
      conv => whnf
      refine bcase_intro (fun h => ?_) (fun h => ?_)
      · obtain ⟨g1, g2⟩ := idx_lt' h
        conv => whnf
        refine .obj rfl ?_
        conv => whnf
        refine ⟨_, _, ⟨WkL.refl _, insert_own (rowB b0 :: rowsB l0) (by simp [rowsB]; omega) ((rowsB l0).length + 1) (by simp) c hc (rowB b)⟩, fun res s1 h => ?_⟩
        obtain ⟨rfl, rfl⟩ := h
        conv => whnf
        refine ⟨_, _, .refl, ?_⟩
        conv => whnf
        refine ⟨?_, rfl⟩
        have hp : putB (b0 :: l0) b = (b0 :: l0 ++ [b], true) := by
          simp only [putB, h2, insB, g1]
          rfl
        rw [hp]
        refine congrArg (fun q => AV.tup [AV.d (.list 2 q), AV.d (.bool true)]) ?_
        rw [show rowB b0 :: rowsB l0 = rowsB (b0 :: l0) from rfl, List.take_of_length_le (by simp [rowsB]), List.drop_eq_nil_of_le (by simp [rowsB])]
        simp [rowsB]
      · obtain ⟨k, x, g1, g2, g3⟩ := idx_ge' h
        conv => whnf
        rw [g1]
        have hk := (List.getElem?_eq_some_iff.1 g2).1
        simp only [List.length_cons] at hk
        refine .obj rfl ?_
        conv => whnf
        refine ⟨_, _, ⟨WkL.refl _, insert_own (rowB b0 :: rowsB l0) (by simp [rowsB]; omega) k (by simp [rowsB]; omega) c hc (rowB b)⟩, fun res s1 h => ?_⟩
        obtain ⟨rfl, rfl⟩ := h
        conv => whnf
        refine ⟨_, _, .refl, ?_⟩
        conv => whnf
        refine ⟨?_, rfl⟩
        have hp : putB (b0 :: l0) b = ((b0 :: l0).take k ++ b :: (b0 :: l0).drop k, true) := by
          simp only [putB, h2, insB, g1]
        rw [hp]
        refine congrArg (fun q => AV.tup [AV.d (.list 2 q), AV.d (.bool true)]) ?_
        rw [show rowB b0 :: rowsB l0 = rowsB (b0 :: l0) from rfl]
        simp [rowsB, List.map_take, List.map_drop]
def ofB (l : List B) (car : Int) : B × Bool := match l.find? (fun x => x.1 == car) with
  | .some b => (b, true)
  | .none => ((0, 0), false)
set_option maxRecDepth 100000 in
theorem of_ (l : List B) (hl : l.length ≤ 4611686018427387904) (car : Int) : Contract Try.prog G0 86 [.d (.list 2 (rowsB l)), .d (.int .i64 car)] [] (fun r t => r = .tup [bidv (ofB l car).1, .d (.bool (ofB l car).2)] ∧ t = []) := by
  refine run86 0 [] rfl rfl ?_
  conv => whnf
  refine .scal [.d (.list 2 (rowsB l)), .d (.int .i64 car)] _ ⟨.refl _, rfl, at_ l hl car⟩ ?_
  conv => whnf
  refine bcase_intro (fun h => ?_) (fun h => ?_)
  · obtain ⟨h1, h2⟩ := idx_lt' h
    conv => whnf
    rw [show ofB l car = ((0, 0), false) by simp only [ofB, h2]]
    exact ⟨rfl, rfl⟩
  · obtain ⟨k, x, h1, h2, h3⟩ := idx_ge' h
    conv => whnf
    rw [h1]
    refine ⟨rowB x, ⟨by omega, row_i h2⟩, ?_⟩
    conv => whnf
    rw [show ofB l car = (x, true) by simp only [ofB, h3]]
    exact ⟨rfl, rfl⟩
set_option maxRecDepth 100000 in
theorem indexInt (l : List Int) (hl : l.length ≤ 4611686018427387904) (p : Int → Bool) (f : Nat) (cs : List DV) (hf : ∀ x, Contract Try.prog G0 f [.d (.int .i64 x), .d (.ptr cs 0)] [] (fun r t => r = .d (.bool (p x)) ∧ t = [])) :
    Contract Try.prog G0 138 [.d (.list 1 (rowsI l)), .fn f [.d (.ptr cs 0)]] [] (fun r t => r = .d (.int .i64 (idxFrom p l 0)) ∧ t = []) := by
  have hlen : (rowsI l).length = l.length := by simp [rowsI]
  refine run138 0 [] rfl rfl ?_
  conv => whnf
  refine StopG.rounds wk138 [] [0, 1, 4, 7, 8] (fun m env s => ∃ i : Nat, i ≤ l.length ∧ m = l.length - i ∧ idxFrom p (l.drop i) i = idxFrom p l 0 ∧
    env = [(0, .d (.list 1 (rowsI l))), (1, .fn f [.d (.ptr cs 0)]), (4, .d (.int .i64 0)), (7, .d (.int .i64 ((rowsI l).length : Int))), (8, .d (.int .i64 (i : Int)))] ∧ s = []) rfl ?_ ?_
  · conv => whnf
    exact ⟨_, 0, Nat.zero_le _, rfl, rfl, rfl, rfl⟩
  rintro m env s ⟨i, hi, rfl, hidx, rfl, rfl⟩
  conv => whnf
  refine bcase_intro (fun h => ?_) (fun h => ?_) <;> conv => whnf
  · have h := lt_of h
    rw [hlen] at h
    obtain ⟨x, hx, hdrop⟩ := at_i h
    refine ⟨rowI x, ⟨by omega, row_i hx⟩, ?_⟩
    conv => whnf
    refine .scal [.d (.int .i64 x), .d (.ptr cs 0)] _ ⟨.refl _, rfl, hf x⟩ ?_
    conv => whnf
    rw [hdrop, idxFrom] at hidx
    refine bcase_intro (fun h2 => ?_) (fun h2 => ?_) <;> conv => whnf
    · rw [if_pos h2] at hidx
      exact ⟨rd_int hidx, rfl⟩
    · rw [succ_i h (by omega)]
      refine ⟨_, by omega, i + 1, h, rfl, ?_, ?_, rfl⟩
      · rw [if_neg (by simp [h2])] at hidx
        exact hidx
      · rfl
  · have h := ge_of h
    rw [hlen] at h
    rw [List.drop_eq_nil_of_le h, idxFrom] at hidx
    exact ⟨rd_int hidx, rfl⟩
set_option maxRecDepth 100000 in
theorem anyInt (l : List Int) (hl : l.length ≤ 4611686018427387904) (p : Int → Bool) (f : Nat) (cs : List DV) (hf : ∀ x, Contract Try.prog G0 f [.d (.int .i64 x), .d (.ptr cs 0)] [] (fun r t => r = .d (.bool (p x)) ∧ t = [])) :
    Contract Try.prog G0 110 [.d (.list 1 (rowsI l)), .fn f [.d (.ptr cs 0)]] [] (fun r t => r = .d (.bool (l.any p)) ∧ t = []) := by
  refine run110 0 [] rfl rfl ?_
  conv => whnf
  refine .scal [.d (.list 1 (rowsI l)), .fn f [.d (.ptr cs 0)]] _ ⟨.refl _, rfl, indexInt l hl p f cs hf⟩ ?_
  conv => whnf
  exact ⟨rd_bool (idx_any p l), rfl⟩
set_option maxRecDepth 100000 in
theorem full1 (l : List B) (hl : l.length ≤ 4611686018427387904) (x : Int) : Contract Try.prog G0 111 [.d (.int .i64 x), .d (.ptr [.list 2 (rowsB l)] 0)] [] (fun r t => r = .d (.bool (!l.any fun b => b.1 == x)) ∧ t = []) := by
  refine run111 0 [] rfl rfl ?_
  conv => whnf
  refine .scal [.d (.list 2 (rowsB l)), .d (.int .i64 x)] _ ⟨.refl _, rfl, at_ l hl x⟩ ?_
  conv => whnf
  refine ⟨rd_bool ?_, rfl⟩
  rw [← idx_any]
  rcases idx_cases0 (fun b : B => b.1 == x) l with ⟨h, _⟩ | ⟨k, x, h, _, g⟩ <;> rw [h]
  · rfl
  · simp
def fullB (ms : List Int) (l : List B) : Bool := !ms.any fun x => !l.any fun b => b.1 == x
set_option maxRecDepth 100000 in
theorem full (ms : List Int) (hm : ms.length ≤ 4611686018427387904) (l : List B) (hl : l.length ≤ 4611686018427387904) : Contract Try.prog G0 82 [.d (.list 1 (rowsI ms)), .d (.list 2 (rowsB l))] [] (fun r t => r = .d (.bool (fullB ms l)) ∧ t = []) := by
  refine run82 0 [] rfl rfl ?_
  conv => whnf
  refine .scal [.d (.list 1 (rowsI ms)), .fn 111 [.d (.ptr [.list 2 (rowsB l)] 0)]] _ ⟨.fz 0 _ rfl (by simp) (by repeat' first | exact trivial | apply And.intro) (.refl _), rfl, anyInt ms hm _ 111 _ fun x => full1 l hl x⟩ ?_
  conv => whnf
  exact ⟨rfl, rfl⟩
def leastFrom (best : B) : List B → B
  | [] => best
  | b :: r => leastFrom (if lessB b best then b else best) r
def leastB : List B → B × Bool
  | [] => ((0, 0), false)
  | b :: r => (leastFrom b r, true)
set_option maxRecDepth 100000 in
theorem least (l : List B) (hl : l.length ≤ 4611686018427387904) : Contract Try.prog G0 81 [.d (.list 2 (rowsB l))] [] (fun r t => r = .tup [bidv (leastB l).1, .d (.bool (leastB l).2)] ∧ t = []) := by
  have hlen : (rowsB l).length = l.length := by simp [rowsB]
  refine run81 0 [] rfl rfl ?_
  conv => whnf
  cases l with
  | nil =>
    conv => whnf
    exact ⟨rfl, rfl⟩
  | cons b0 r0 =>
  conv => whnf
  generalize hb : b0 :: r0 = l at hl hlen
  have hbest : leastFrom b0 (l.drop 0) = (leastB l).1 := by
    rw [← hb]; simp [leastFrom, leastB]
  have h2 : (leastB l).2 = true := by rw [← hb]; rfl
  rw [h2]
  refine ⟨rowB b0, ⟨by omega, by rw [← hb]; rfl⟩, ?_⟩
  conv => whnf
  refine StopG.rounds wk81 [] [0, 2, 3, 4, 14, 15, 16] (fun m env s => ∃ (i : Nat) (best : B), i ≤ l.length ∧ m = l.length - i ∧ leastFrom best (l.drop i) = (leastB l).1 ∧
    env = [(0, .d (.list 2 (rowsB l))), (2, .ref (.g 0) 0), (3, .d (.bool false)), (4, .ref (.g 1) 0), (14, .d (.list 2 (rowsB l))), (15, .d (.int .i64 ((rowsB l).length : Int))), (16, .d (.int .i64 i))] ∧
    s = [(0, .cells [.d (.int .i64 0), .d (.int .i64 0)]), (1, .cells [.d (.int .i64 best.1), .d (.int .i64 best.2)])]) rfl ?_ ?_
  · conv => whnf
    exact ⟨_, 0, b0, Nat.zero_le _, rfl, hbest, rfl, rfl⟩
  rintro m env s ⟨i, best, hi, rfl, hbest, rfl, rfl⟩
  conv => whnf
  refine bcase_intro (fun h => ?_) (fun h => ?_) <;> conv => whnf
  · have h := lt_of h
    rw [hlen] at h
    obtain ⟨x, hx, hdrop⟩ := at_i h
    refine ⟨rowB x, ⟨by omega, row_i hx⟩, ?_⟩
    conv => whnf
    refine .scal [bidv x, bidv best] _ ⟨.refl _, rfl, lessC _ _⟩ ?_
    conv => whnf
    rw [hdrop, leastFrom] at hbest
    refine bcase_intro (fun h2 => ?_) (fun h2 => ?_) <;> conv => whnf
    · rw [if_pos h2] at hbest
      rw [succ_i h (by omega)]
      refine ⟨_, by omega, i + 1, x, h, rfl, hbest, ?_, ?_⟩
      · rfl
      · rfl
    · rw [if_neg (by simp [h2])] at hbest
      rw [succ_i h (by omega)]
      refine ⟨_, by omega, i + 1, best, h, rfl, hbest, ?_, ?_⟩
      · rfl
      · rfl
  · have h := ge_of h
    rw [hlen] at h
    rw [List.drop_eq_nil_of_le h, leastFrom] at hbest
    rw [← hbest]
    exact ⟨rfl, rfl⟩
end Go.Proofs.Ytkenimmellonjaa
