/- The seat's texts, part 1: what single functions of the program compute; no statement of its own. -/
import Derived.Test.YtkenimmellonjaaRn
import Derived.Test.YtkenimmellonjaaFrD
import Derived.Test.YtkenimmellonjaaFrC
import Derived.Test.YtkenimmellonjaaFn
import Derived.Test.YtkenimmellonjaaSp
import Derived.Shelf.Sort.Plain
import Derived.Shelf.Slices.In.SortNone
import Derived.Test.YtkenimmellonjaaProg
/- Seat r2: bids. -/
namespace Go.Proofs.Ytkenimmellonjaa
open Go.Pv Go.RowKit
abbrev B := Int × Int
def bidv (b : B) : AV := .agg [.d (.int .i64 b.1), .d (.int .i64 b.2)]
def lessB (a b : B) : Bool := decide (a.2 < b.2) || (a.2 == b.2 && decide (a.1 < b.1))
def sameB (a b : B) : Bool := a.1 == b.1 && a.2 == b.2
def rowB (b : B) : List DV := [.int .i64 b.1, .int .i64 b.2]
def rowsB (l : List B) : List (List DV) := l.map rowB
set_option maxRecDepth 100000 in
theorem lessC (a b : B) : Contract Try.prog G0 109 [bidv a, bidv b] [] (fun r t => r = .d (.bool (lessB a b)) ∧ t = []) := by
  refine run109 0 [] rfl rfl ?_
  conv => whnf
  refine ⟨rd_bool ?_, rfl⟩
  simp only [bif_or, bif_and, lessB]
set_option maxRecDepth 100000 in
theorem sameC (a b : B) : Contract Try.prog G0 124 [bidv a, bidv b] [] (fun r t => r = .d (.bool (sameB a b)) ∧ t = []) := by
  refine run124 0 [] rfl rfl ?_
  conv => whnf
  refine ⟨rd_bool ?_, rfl⟩
  simp only [bif_and, sameB]
set_option maxRecDepth 100000 in
theorem at1 (b : B) (car : Int) : Contract Try.prog G0 139 [bidv b, .d (.ptr [.int .i64 car] 0)] [] (fun r s => r = .d (.bool (b.1 == car)) ∧ s = []) := by
  refine run139 0 [] rfl rfl ?_
  conv => whnf
  exact ⟨rfl, rfl⟩
set_option maxRecDepth 100000 in
theorem put1 (x b : B) : Contract Try.prog G0 118 [bidv x, .d (.ptr (rowB b) 0)] [] (fun r s => r = .d (.bool (decide (x.1 > b.1))) ∧ s = []) := by
  refine run118 0 [] rfl rfl ?_
  conv => whnf
  exact ⟨rfl, rfl⟩
set_option maxRecDepth 100000 in
theorem indexFunc (l : List B) (hl : l.length ≤ 4611686018427387904) (p : B → Bool) (f : Nat) (cs : List DV) (hf : ∀ x, Contract Try.prog G0 f [bidv x, .d (.ptr cs 0)] [] (fun r t => r = .d (.bool (p x)) ∧ t = [])) :
    Contract Try.prog G0 117 [.d (.list 2 (rowsB l)), .fn f [.d (.ptr cs 0)]] [] (fun r t => r = .d (.int .i64 (idxFrom p l 0)) ∧ t = []) := by
  have hlen : (rowsB l).length = l.length := by simp [rowsB]
  refine run117 0 [] rfl rfl ?_
  conv => whnf
  refine StopG.rounds wk117 [] [0, 1, 4, 7, 8] (fun m env s => ∃ i : Nat, i ≤ l.length ∧ m = l.length - i ∧ idxFrom p (l.drop i) i = idxFrom p l 0 ∧
    env = [(0, .d (.list 2 (rowsB l))), (1, .fn f [.d (.ptr cs 0)]), (4, .d (.int .i64 0)), (7, .d (.int .i64 ((rowsB l).length : Int))), (8, .d (.int .i64 (i : Int)))] ∧ s = []) rfl ?_ ?_
  · conv => whnf
    exact ⟨_, 0, Nat.zero_le _, rfl, rfl, rfl, rfl⟩
  rintro m env s ⟨i, hi, rfl, hidx, rfl, rfl⟩
  conv => whnf
  refine bcase_intro (fun h => ?_) (fun h => ?_) <;> conv => whnf
  · have h := lt_of h
    rw [hlen] at h
    obtain ⟨x, hx, hdrop⟩ := at_i h
    refine ⟨rowB x, ⟨by omega, row_i hx⟩, ?_⟩
    conv => whnf
    refine .scal [bidv x, .d (.ptr cs 0)] _ ⟨.refl _, rfl, hf x⟩ ?_
    conv => whnf
    rw [hdrop, idxFrom] at hidx
    refine bcase_intro (fun h2 => ?_) (fun h2 => ?_) <;> conv => whnf
    · rw [if_pos h2] at hidx
      exact ⟨rd_int hidx, rfl⟩
    · rw [succ_i h (by omega)]
      refine ⟨_, by omega, i + 1, h, rfl, ?_, ?_, rfl⟩
      · rw [if_neg (by simp [h2])] at hidx
        exact hidx
      · rfl
  · have h := ge_of h
    rw [hlen] at h
    rw [List.drop_eq_nil_of_le h, idxFrom] at hidx
    exact ⟨rd_int hidx, rfl⟩
set_option maxRecDepth 100000 in
theorem at_ (l : List B) (hl : l.length ≤ 4611686018427387904) (car : Int) : Contract Try.prog G0 112 [.d (.list 2 (rowsB l)), .d (.int .i64 car)] [] (fun r t => r = .d (.int .i64 (idxFrom (fun b => b.1 == car) l 0)) ∧ t = []) := by
  refine run112 0 [] rfl rfl ?_
  conv => whnf
  refine .scal [.d (.list 2 (rowsB l)), .fn 139 [.d (.ptr [.int .i64 car] 0)]] _ ⟨.fz 0 _ rfl (by simp) ⟨trivial, ⟨trivial, trivial⟩, trivial⟩ (.refl _), rfl, indexFunc l hl _ 139 _ fun b => at1 b car⟩ ?_
  conv => whnf
  exact ⟨rfl, rfl⟩
set_option maxRecDepth 100000 in
theorem cloneB_nil : Contract Try.prog G0 114 [.d (.list 2 [])] [] (fun r t => (r = .d .nil ∨ r = .d .emp) ∧ t = []) := by
  refine run114 0 [] rfl rfl ?_
  conv => whnf
  refine ⟨?_, ?_⟩ <;> conv => whnf
  · exact ⟨.inl rfl, rfl⟩
  · refine ⟨⟨by decide, by decide⟩, ?_⟩
    conv => whnf
    exact ⟨.inr rfl, rfl⟩
set_option maxRecDepth 100000 in
theorem cloneB_cons (r0 : List DV) (rs : List (List DV)) (hl : rs.length ≤ 100000) : Contract Try.prog G0 114 [.d (.list 2 (r0 :: rs))] [] (fun r t => ∃ c, rs.length + 1 ≤ c ∧ r = .slc (.g 0) 2 0 (rs.length + 1) c ∧ t = [(0, .row 2 (r0 :: rs))]) := by
  refine run114 0 [] rfl rfl ?_
  conv => whnf
  refine ⟨⟨?_, ?_⟩, ?_⟩
  · show (2 * (rs.length + 1) + 1024) * 16 ≤ 281474976710656; omega
  · show rs.length + 1 ≤ _; omega
  conv => whnf
  intro c hc
  conv => whnf
  exact ⟨c, hc, rfl, rfl⟩
theorem ov140 (x y : Value) (w : World) : (callFunc 140 #[x, y]).run Try.prog w = ((Extern.SlicesOverlaps.overlaps #[70, 70] #[4] #[x, y]).run Try.prog w).andThen fun v w' => .ok (.value v) w' := by
  rw [run_callFunc_extern Try.func140 (by kernel_rfl) (by kernel_rfl) (by kernel_rfl) (e := Extern.SlicesOverlaps.overlaps #[70, 70] #[4]) (by kernel_rfl)]
theorem ins_a {α : Type} (l : List α) (k : Nat) (hk : k < l.length) (x : α) (m : Nat) (hm : m = l.length - k) (zs : List α) (hz : zs.length = l.length + 1 - k) :
    (((l.take k ++ zs).take k ++ [x] ++ (l.take k ++ zs).drop (k + 1)).take (k + 1) ++ (l.drop k).take m ++ ((l.take k ++ zs).take k ++ [x] ++ (l.take k ++ zs).drop (k + 1)).drop (k + 1 + m)).take (l.length + 1) = l.take k ++ x :: l.drop k := by
  subst hm
  have h1 : (l.take k).length = k := by simp; omega
  have e1 : (l.take k ++ zs).take k = l.take k := by rw [List.take_append_of_le_length (by omega), List.take_of_length_le (by omega)]
  rw [e1]
  have e2 : (l.take k ++ [x] ++ (l.take k ++ zs).drop (k + 1)).take (k + 1) = l.take k ++ [x] := by
    rw [List.take_append_of_le_length (by simp; omega), List.take_of_length_le (by simp; omega)]
  have e3 : (l.drop k).take (l.length - k) = l.drop k := List.take_of_length_le (by simp)
  have e4 : (l.take k ++ [x] ++ (l.take k ++ zs).drop (k + 1)).drop (k + 1 + (l.length - k)) = [] := by
    apply List.drop_eq_nil_of_le
    simp [hz]; omega
  rw [e2, e3, e4, List.append_nil, List.take_of_length_le (by simp; omega)]
  simp
theorem ins_b {α : Type} (l : List α) (k : Nat) (hk : k < l.length) (x : α) (m : Nat) (hm : m = l.length - k) :
    ((l.take (k + 1) ++ (l.drop k).take m ++ l.drop (k + 1 + (l.length - k))).take k ++ [x] ++ (l.take (k + 1) ++ (l.drop k).take m ++ l.drop (k + 1 + (l.length - k))).drop (k + 1)).take (l.length + 1) = l.take k ++ x :: l.drop k := by
  subst hm
  have h1 : (l.take (k + 1)).length = k + 1 := by simp; omega
  have e3 : (l.drop k).take (l.length - k) = l.drop k := List.take_of_length_le (by simp)
  have e4 : l.drop (k + 1 + (l.length - k)) = [] := List.drop_eq_nil_of_le (by omega)
  rw [e3, e4, List.append_nil]
  have e5 : (l.take (k + 1) ++ l.drop k).take k = l.take k := by rw [List.take_append_of_le_length (by omega), List.take_take]; congr 1; omega
  have e6 : (l.take (k + 1) ++ l.drop k).drop (k + 1) = l.drop k := by rw [List.drop_append_of_le_length (by omega), List.drop_of_length_le (by omega)]; rfl
  rw [e5, e6, List.take_of_length_le (by simp; omega)]
  simp
set_option maxRecDepth 100000 in
theorem insert_own (rows : List (List DV)) (hl : rows.length ≤ 100000) (k : Nat) (hk : k ≤ rows.length) (c : Nat) (hc : rows.length ≤ c) (x : List DV) :
    Contract Try.prog G0 119 [.slc (.g 0) 2 0 rows.length c, .d (.int .i64 k), .d (.list 2 [x])] [(0, .row 2 rows)] (fun r t => r = .d (.list 2 (rows.take k ++ x :: rows.drop k)) ∧ t = [(0, .dead)]) := by
  refine rung119 1 [] rfl rfl ?_
  conv => whnf
  refine ⟨⟨by omega, by omega, by omega⟩, ?_⟩
  conv => whnf
  have hw1 : IntKind.i64.wrap ((rows.length : Int) + (([x] : List (List DV)).length : Int)) = ((rows.length + 1 : Nat) : Int) := by
    rw [wrap_id (by simp; omega) (by simp; omega)]
    simp
  have hw2 : IntKind.i64.wrap ((k : Int) + (([x] : List (List DV)).length : Int)) = ((k + 1 : Nat) : Int) := by
    rw [wrap_id (by simp; omega) (by simp; omega)]
    simp
  refine bcase_intro (fun h => ?_) (fun h => ?_) <;> conv => whnf
  · have h : k = rows.length := by simp at h; omega
    subst h
    refine ⟨Nat.le_refl _, ⟨?_, ?_⟩, ?_⟩
    · show (2 * (rows.length + 1) + 1024) * 16 ≤ 281474976710656; omega
    · show rows.length + 1 ≤ _; omega
    conv => whnf
    intro c' hc'
    conv => whnf
    refine ⟨_, _, GV.freeze 1 rfl (by simp) (by repeat' first | exact trivial | apply And.intro | (simp; done) | decide | (simp; omega)) (by repeat' first | exact trivial | apply And.intro), ?_⟩
    conv => whnf
    refine ⟨?_, rfl⟩
    show AV.d (.list 2 ((List.drop 0 (List.take rows.length rows ++ [x])).take (rows.length + 1))) = _
    rw [List.drop_zero, List.take_length, List.drop_length, List.take_of_length_le (by simp)]
  · have h : k < rows.length := by simp at h; omega
    rw [hw1]
    refine bcase_intro (fun h2 => ?_) (fun h2 => ?_) <;> conv => whnf
    · have h2 : c < rows.length + 1 := by simp at h2; omega
      refine ⟨⟨by omega, by omega, by omega⟩, ?_⟩
      conv => whnf
      rw [hw1]
      simp -iota only [Int.toNat_natCast, Int.toNat_zero, Nat.sub_zero, Nat.zero_add]
      have hkn : k + (rows.length + 1 - k) = rows.length + 1 := by omega
      refine ⟨rows.length + 1 - k, ⟨?_, by omega, by omega, by omega, ?_, by omega⟩, ?_⟩
      · rw [wrap_id (by omega) (by omega)]; omega
      · show (2 * _ + 1024) * 16 ≤ 281474976710656; omega
      rw [hkn]
      conv => whnf
      intro c1 hc1
      conv => whnf
      refine ⟨⟨by omega, by omega, by omega⟩, ?_⟩
      conv => whnf
      simp -iota only [Int.toNat_natCast, Nat.zero_add]
      refine ⟨by simp; omega, ?_⟩
      conv => whnf
      refine ⟨⟨by omega, by rw [hw2]; omega, by omega⟩, ?_⟩
      conv => whnf
      refine ⟨⟨by omega, by omega, by omega⟩, ?_⟩
      conv => whnf
      rw [hw2]
      simp -iota only [Int.toNat_natCast, Nat.zero_add]
      refine ⟨by simp [splice]; omega, ?_⟩
      conv => whnf
      refine ⟨by omega, ?_⟩
      conv => whnf
      refine ⟨_, _, (GV.freeze 1 rfl (by simp) (by repeat' first | exact trivial | apply And.intro | decide | (simp [splice]; omega)) (by repeat' first | exact trivial | apply And.intro)).trans (GV.kill 0 rfl), ?_⟩
      conv => whnf
      refine ⟨?_, rfl⟩
      refine congrArg (fun q => AV.d (.list 2 q)) ?_
      have := ins_a rows k h x (min (rows.length - k) (rows.length + 1 - (k + 1))) (by omega) (List.replicate (rows.length + 1 - k) ti89.zero) (by simp)
      rw [← this]
      have e1 : ([x] : List (List DV)).take (rows.length + 1 - k) = [x] := List.take_of_length_le (by simp; try omega)
      have e2 : ((rows.drop k).take (min (rows.length - k) (rows.length + 1 - (k + 1)))).length = min (rows.length - k) (rows.length + 1 - (k + 1)) := by simp; try omega
      simp only [splice, e1, List.drop_zero, List.length_singleton, e2]
    · have h2 : rows.length + 1 ≤ c := by simp at h2; omega
      refine ⟨⟨by omega, by rw [hw1]; omega, by rw [hw1]; omega⟩, ?_⟩
      conv => whnf
      refine ⟨⟨by rw [hw2]; omega, by rw [hw1, hw2]; omega, by rw [hw1]; omega⟩, ?_⟩
      conv => whnf
      rw [hw1, hw2]
      simp -iota only [Int.toNat_natCast, Int.toNat_zero, Nat.sub_zero, Nat.zero_add]
      refine .raw rfl ?_
      have q1 : T 70 = some ti70 := by kernel_rfl
      have q2 : T 89 = some ti89 := by kernel_rfl
      refine ej_overlaps (f := 140) (c := .func 140) (tys := #[70, 70]) (t := 70) (tr := 4) (e := 89) (ti := ti70) (te := ti89) (x := .tmp 61) (y := .tmp 66) (sz := 2) (rows := [x]) (id := 0) (off := k + 1) (len := rows.length + 1 - (k + 1)) (cap := c - (k + 1)) (old := rows) tabOK q1 ?_ q2 ov140 ?_ ?_ ?_ ?_ ?_ ?_ ?_
      · rfl
      · rfl
      · rfl
      · rfl
      · decide
      · rfl
      · rfl
      conv => whnf
      refine ⟨⟨by rw [hw2]; omega, by rw [hw2]; omega, by omega⟩, ?_⟩
      conv => whnf
      refine ⟨⟨by omega, by omega, by omega⟩, ?_⟩
      conv => whnf
      rw [hw2]
      simp -iota only [Int.toNat_natCast, Nat.zero_add]
      refine ⟨by omega, ?_⟩
      conv => whnf
      refine ⟨by omega, ?_⟩
      conv => whnf
      refine ⟨⟨by omega, by omega, by omega⟩, ?_⟩
      conv => whnf
      simp -iota only [Int.toNat_natCast, Nat.zero_add]
      refine ⟨by simp [splice]; omega, ?_⟩
      conv => whnf
      have e2 : ((rows.drop k).take (min (rows.length + 1 - k) (rows.length + 1 - (k + 1)))).length = rows.length - k := by simp; omega
      have e1 : ([x] : List (List DV)).take (rows.length + 1 - k) = [x] := List.take_of_length_le (by simp; try omega)
      refine ⟨_, _, GV.freeze 0 rfl (by simp) (by repeat' first | exact trivial | apply And.intro | decide | (simp [splice, e1]; omega)) (by repeat' first | exact trivial | apply And.intro), ?_⟩
      conv => whnf
      refine ⟨?_, rfl⟩
      refine congrArg (fun q => AV.d (.list 2 q)) ?_
      rw [← ins_b rows k h x (min (rows.length + 1 - k) (rows.length + 1 - (k + 1))) (by omega)]
      simp only [splice, e1, List.drop_zero, List.length_singleton, e2]
set_option maxRecDepth 100000 in
theorem insert_none (e : DV) (he : e = .nil ∨ e = .emp) (x : List DV) :
    Contract Try.prog G0 119 [.d e, .d (.int .i64 0), .d (.list 2 [x])] [] (fun r t => r = .d (.list 2 [x]) ∧ t = []) := by
  refine rung119 0 [] rfl rfl ?_
  rcases he with rfl | rfl
  all_goals
    conv => whnf
    refine ⟨⟨by omega, by omega⟩, ?_⟩
    conv => whnf
    refine ⟨⟨?_, ?_⟩, ?_⟩
    · show (2 * 1 + 1024) * 16 ≤ 281474976710656; omega
    · show 1 ≤ _; omega
    conv => whnf
    intro c hc
    conv => whnf
    refine ⟨_, _, GV.freeze 0 rfl (by simp) (by repeat' first | exact trivial | apply And.intro | decide | (simp; done)) (by repeat' first | exact trivial | apply And.intro), ?_⟩
    conv => whnf
    exact ⟨rfl, rfl⟩
theorem idx_ge {α : Type} {p : α → Bool} {l : List α} (h : decide (idxFrom p l 0 ≥ 0) = true) : ∃ k x, idxFrom p l 0 = ((k : Nat) : Int) ∧ l[k]? = .some x ∧ l.find? p = .some x := by
  rcases idx_cases0 p l with ⟨h1, _⟩ | q
  · rw [h1] at h; simp at h
  · exact q
theorem idx_lt {α : Type} {p : α → Bool} {l : List α} (h : decide (idxFrom p l 0 ≥ 0) = false) : idxFrom p l 0 = -1 ∧ l.find? p = .none := by
  rcases idx_cases0 p l with q | ⟨k, x, h1, _⟩
  · exact q
  · rw [h1] at h; simp at h
theorem idx_ge' {α : Type} {p : α → Bool} {l : List α} (h : decide (idxFrom p l 0 < 0) = false) : ∃ k x, idxFrom p l 0 = ((k : Nat) : Int) ∧ l[k]? = .some x ∧ l.find? p = .some x := by
  rcases idx_cases0 p l with ⟨h1, _⟩ | q
  · rw [h1] at h; simp at h
  · exact q
theorem idx_lt' {α : Type} {p : α → Bool} {l : List α} (h : decide (idxFrom p l 0 < 0) = true) : idxFrom p l 0 = -1 ∧ l.find? p = .none := by
  rcases idx_cases0 p l with q | ⟨k, x, h1, _⟩
  · exact q
  · rw [h1] at h; simp at h; omega
def insB (l : List B) (b : B) : List B := match idxFrom (fun x => decide (x.1 > b.1)) l 0 with
  | .ofNat k => l.take k ++ b :: l.drop k
  | .negSucc _ => l ++ [b]
def putB (l : List B) (b : B) : List B × Bool := match l.find? (fun x => x.1 == b.1) with
  | .some _ => (l, false)
  | .none => (insB l b, true)
set_option maxRecDepth 100000 in
theorem put (l : List B) (hl : l.length ≤ 10000) (b : B) : Contract Try.prog G0 88 [.d (.list 2 (rowsB l)), bidv b] [] (fun r t => r = .tup [.d (.list 2 (rowsB (putB l b).1)), .d (.bool (putB l b).2)] ∧ t = []) := by
  have hlen : (rowsB l).length = l.length := by simp [rowsB]
  cases l with
  | nil =>
    refine rung88 0 [] rfl rfl ?_
    conv => whnf
    refine .obj rfl ?_
    conv => whnf
    refine ⟨_, _, ⟨WkL.refl _, cloneB_nil⟩, fun res s1 h => ?_⟩
    obtain ⟨h, rfl⟩ := h
    rcases h with rfl | rfl
    all_goals
      conv => whnf
      refine .scal [.d (.list 2 (rowsB [])), .d (.int .i64 b.1)] _ ⟨.refl _, rfl, at_ [] (by simp) b.1⟩ ?_
      conv => whnf
      refine .scal [.d (.list 2 (rowsB [])), .fn 118 [.d (.ptr (rowB b) 0)]] _ ⟨.fz 0 _ rfl (by simp) (by repeat' first | exact trivial | apply And.intro) (.refl _), rfl, indexFunc [] (by simp) _ 118 _ fun x => put1 x b⟩ ?_
      conv => whnf
      refine .data _ (.d (.list 2 [rowB b])) ⟨WkL.refl _, rfl, insert_none _ (by simp) (rowB b)⟩ ?_
      conv => whnf
      refine ⟨_, _, .refl, ?_⟩
      conv => whnf
      exact ⟨rfl, rfl⟩
  | cons b0 l0 =>
    have hl0 : l0.length + 1 ≤ 10000 := by simpa using hl
    refine rung88 0 [] rfl rfl ?_
    conv => whnf
    refine .obj rfl ?_
    conv => whnf
    refine ⟨_, _, ⟨WkL.refl _, cloneB_cons (rowB b0) (rowsB l0) (by simp [rowsB]; omega)⟩, fun res s1 h => ?_⟩
    obtain ⟨c, hc, rfl, rfl⟩ := h
    conv => whnf
    refine .scal [.d (.list 2 (rowsB (b0 :: l0))), .d (.int .i64 b.1)] _ ⟨.refl _, rfl, at_ (b0 :: l0) (by simp; omega) b.1⟩ ?_
    conv => whnf
    refine bcase_intro (fun h => ?_) (fun h => ?_)
    · obtain ⟨k, x, h1, h2, h3⟩ := idx_ge h
      conv => whnf
      refine ⟨_, _, GV.freeze 1 rfl (by simp) (by repeat' first | exact trivial | apply And.intro | decide | (simp; done)) (by repeat' first | exact trivial | apply And.intro), ?_⟩
      conv => whnf
      have hp : putB (b0 :: l0) b = (b0 :: l0, false) := by simp only [putB, h3]
      rw [hp]
      refine ⟨?_, rfl⟩
      refine congrArg (fun q => AV.tup [AV.d (.list 2 q), AV.d (.bool false)]) ?_
      rw [List.drop_zero, List.take_of_length_le (by simp)]
      rfl
    · obtain ⟨h1, h2⟩ := idx_lt h
      conv => whnf
      refine .scal [.d (.list 2 (rowsB (b0 :: l0))), .fn 118 [.d (.ptr (rowB b) 0)]] _ ⟨.fz 0 _ rfl (by simp) (by repeat' first | exact trivial | apply And.intro) (.refl _), rfl, indexFunc (b0 :: l0) (by simp; omega) _ 118 _ fun x => put1 x b⟩ ?_
      conv => whnf
      refine bcase_intro (fun h => ?_) (fun h => ?_)
      · obtain ⟨g1, g2⟩ := idx_lt' h
        conv => whnf
        refine .obj rfl ?_
        conv => whnf
        refine ⟨_, _, ⟨WkL.refl _, insert_own (rowB b0 :: rowsB l0) (by simp [rowsB]; omega) ((rowsB l0).length + 1) (by simp) c hc (rowB b)⟩, fun res s1 h => ?_⟩
        obtain ⟨rfl, rfl⟩ := h
        conv => whnf
        refine ⟨_, _, .refl, ?_⟩
        conv => whnf
        refine ⟨?_, rfl⟩
        have hp : putB (b0 :: l0) b = (b0 :: l0 ++ [b], true) := by
          simp only [putB, h2, insB, g1]
          rfl
        rw [hp]
        refine congrArg (fun q => AV.tup [AV.d (.list 2 q), AV.d (.bool true)]) ?_
        rw [show rowB b0 :: rowsB l0 = rowsB (b0 :: l0) from rfl, List.take_of_length_le (by simp [rowsB]), List.drop_eq_nil_of_le (by simp [rowsB])]
        simp [rowsB]
      · obtain ⟨k, x, g1, g2, g3⟩ := idx_ge' h
        conv => whnf
        rw [g1]
        have hk := (List.getElem?_eq_some_iff.1 g2).1
        simp only [List.length_cons] at hk
        refine .obj rfl ?_
        conv => whnf
        refine ⟨_, _, ⟨WkL.refl _, insert_own (rowB b0 :: rowsB l0) (by simp [rowsB]; omega) k (by simp [rowsB]; omega) c hc (rowB b)⟩, fun res s1 h => ?_⟩
        obtain ⟨rfl, rfl⟩ := h
        conv => whnf
        refine ⟨_, _, .refl, ?_⟩
        conv => whnf
        refine ⟨?_, rfl⟩
        have hp : putB (b0 :: l0) b = ((b0 :: l0).take k ++ b :: (b0 :: l0).drop k, true) := by
          simp only [putB, h2, insB, g1]
        rw [hp]
        refine congrArg (fun q => AV.tup [AV.d (.list 2 q), AV.d (.bool true)]) ?_
        rw [show rowB b0 :: rowsB l0 = rowsB (b0 :: l0) from rfl]
        simp [rowsB, List.map_take, List.map_drop]
def ofB (l : List B) (car : Int) : B × Bool := match l.find? (fun x => x.1 == car) with
  | .some b => (b, true)
  | .none => ((0, 0), false)
set_option maxRecDepth 100000 in
theorem of_ (l : List B) (hl : l.length ≤ 4611686018427387904) (car : Int) : Contract Try.prog G0 86 [.d (.list 2 (rowsB l)), .d (.int .i64 car)] [] (fun r t => r = .tup [bidv (ofB l car).1, .d (.bool (ofB l car).2)] ∧ t = []) := by
  refine run86 0 [] rfl rfl ?_
  conv => whnf
  refine .scal [.d (.list 2 (rowsB l)), .d (.int .i64 car)] _ ⟨.refl _, rfl, at_ l hl car⟩ ?_
  conv => whnf
  refine bcase_intro (fun h => ?_) (fun h => ?_)
  · obtain ⟨h1, h2⟩ := idx_lt' h
    conv => whnf
    rw [show ofB l car = ((0, 0), false) by simp only [ofB, h2]]
    exact ⟨rfl, rfl⟩
  · obtain ⟨k, x, h1, h2, h3⟩ := idx_ge' h
    conv => whnf
    rw [h1]
    refine ⟨rowB x, ⟨by omega, row_i h2⟩, ?_⟩
    conv => whnf
    rw [show ofB l car = (x, true) by simp only [ofB, h3]]
    exact ⟨rfl, rfl⟩
set_option maxRecDepth 100000 in
theorem indexInt (l : List Int) (hl : l.length ≤ 4611686018427387904) (p : Int → Bool) (f : Nat) (cs : List DV) (hf : ∀ x, Contract Try.prog G0 f [.d (.int .i64 x), .d (.ptr cs 0)] [] (fun r t => r = .d (.bool (p x)) ∧ t = [])) :
    Contract Try.prog G0 138 [.d (.list 1 (rowsI l)), .fn f [.d (.ptr cs 0)]] [] (fun r t => r = .d (.int .i64 (idxFrom p l 0)) ∧ t = []) := by
  have hlen : (rowsI l).length = l.length := by simp [rowsI]
  refine run138 0 [] rfl rfl ?_
  conv => whnf
  refine StopG.rounds wk138 [] [0, 1, 4, 7, 8] (fun m env s => ∃ i : Nat, i ≤ l.length ∧ m = l.length - i ∧ idxFrom p (l.drop i) i = idxFrom p l 0 ∧
    env = [(0, .d (.list 1 (rowsI l))), (1, .fn f [.d (.ptr cs 0)]), (4, .d (.int .i64 0)), (7, .d (.int .i64 ((rowsI l).length : Int))), (8, .d (.int .i64 (i : Int)))] ∧ s = []) rfl ?_ ?_
  · conv => whnf
    exact ⟨_, 0, Nat.zero_le _, rfl, rfl, rfl, rfl⟩
  rintro m env s ⟨i, hi, rfl, hidx, rfl, rfl⟩
  conv => whnf
  refine bcase_intro (fun h => ?_) (fun h => ?_) <;> conv => whnf
  · have h := lt_of h
    rw [hlen] at h
    obtain ⟨x, hx, hdrop⟩ := at_i h
    refine ⟨rowI x, ⟨by omega, row_i hx⟩, ?_⟩
    conv => whnf
    refine .scal [.d (.int .i64 x), .d (.ptr cs 0)] _ ⟨.refl _, rfl, hf x⟩ ?_
    conv => whnf
    rw [hdrop, idxFrom] at hidx
    refine bcase_intro (fun h2 => ?_) (fun h2 => ?_) <;> conv => whnf
    · rw [if_pos h2] at hidx
      exact ⟨rd_int hidx, rfl⟩
    · rw [succ_i h (by omega)]
      refine ⟨_, by omega, i + 1, h, rfl, ?_, ?_, rfl⟩
      · rw [if_neg (by simp [h2])] at hidx
        exact hidx
      · rfl
  · have h := ge_of h
    rw [hlen] at h
    rw [List.drop_eq_nil_of_le h, idxFrom] at hidx
    exact ⟨rd_int hidx, rfl⟩
set_option maxRecDepth 100000 in
theorem anyInt (l : List Int) (hl : l.length ≤ 4611686018427387904) (p : Int → Bool) (f : Nat) (cs : List DV) (hf : ∀ x, Contract Try.prog G0 f [.d (.int .i64 x), .d (.ptr cs 0)] [] (fun r t => r = .d (.bool (p x)) ∧ t = [])) :
    Contract Try.prog G0 110 [.d (.list 1 (rowsI l)), .fn f [.d (.ptr cs 0)]] [] (fun r t => r = .d (.bool (l.any p)) ∧ t = []) := by
  refine run110 0 [] rfl rfl ?_
  conv => whnf
  refine .scal [.d (.list 1 (rowsI l)), .fn f [.d (.ptr cs 0)]] _ ⟨.refl _, rfl, indexInt l hl p f cs hf⟩ ?_
  conv => whnf
  exact ⟨rd_bool (idx_any p l), rfl⟩
set_option maxRecDepth 100000 in
theorem full1 (l : List B) (hl : l.length ≤ 4611686018427387904) (x : Int) : Contract Try.prog G0 111 [.d (.int .i64 x), .d (.ptr [.list 2 (rowsB l)] 0)] [] (fun r t => r = .d (.bool (!l.any fun b => b.1 == x)) ∧ t = []) := by
  refine run111 0 [] rfl rfl ?_
  conv => whnf
  refine .scal [.d (.list 2 (rowsB l)), .d (.int .i64 x)] _ ⟨.refl _, rfl, at_ l hl x⟩ ?_
  conv => whnf
  refine ⟨rd_bool ?_, rfl⟩
  rw [← idx_any]
  rcases idx_cases0 (fun b : B => b.1 == x) l with ⟨h, _⟩ | ⟨k, x, h, _, g⟩ <;> rw [h]
  · rfl
  · simp
def fullB (ms : List Int) (l : List B) : Bool := !ms.any fun x => !l.any fun b => b.1 == x
set_option maxRecDepth 100000 in
theorem full (ms : List Int) (hm : ms.length ≤ 4611686018427387904) (l : List B) (hl : l.length ≤ 4611686018427387904) : Contract Try.prog G0 82 [.d (.list 1 (rowsI ms)), .d (.list 2 (rowsB l))] [] (fun r t => r = .d (.bool (fullB ms l)) ∧ t = []) := by
  refine run82 0 [] rfl rfl ?_
  conv => whnf
  refine .scal [.d (.list 1 (rowsI ms)), .fn 111 [.d (.ptr [.list 2 (rowsB l)] 0)]] _ ⟨.fz 0 _ rfl (by simp) (by repeat' first | exact trivial | apply And.intro) (.refl _), rfl, anyInt ms hm _ 111 _ fun x => full1 l hl x⟩ ?_
  conv => whnf
  exact ⟨rfl, rfl⟩
def leastFrom (best : B) : List B → B
  | [] => best
  | b :: r => leastFrom (if lessB b best then b else best) r
def leastB : List B → B × Bool
  | [] => ((0, 0), false)
  | b :: r => (leastFrom b r, true)
set_option maxRecDepth 100000 in
theorem least (l : List B) (hl : l.length ≤ 4611686018427387904) : Contract Try.prog G0 81 [.d (.list 2 (rowsB l))] [] (fun r t => r = .tup [bidv (leastB l).1, .d (.bool (leastB l).2)] ∧ t = []) := by
  have hlen : (rowsB l).length = l.length := by simp [rowsB]
  refine run81 0 [] rfl rfl ?_
  conv => whnf
  cases l with
  | nil =>
    conv => whnf
    exact ⟨rfl, rfl⟩
  | cons b0 r0 =>
  conv => whnf
  generalize hb : b0 :: r0 = l at hl hlen
  have hbest : leastFrom b0 (l.drop 0) = (leastB l).1 := by
    rw [← hb]; simp [leastFrom, leastB]
  have h2 : (leastB l).2 = true := by rw [← hb]; rfl
  rw [h2]
  refine ⟨rowB b0, ⟨by omega, by rw [← hb]; rfl⟩, ?_⟩
  conv => whnf
  refine StopG.rounds wk81 [] [0, 2, 3, 4, 14, 15, 16] (fun m env s => ∃ (i : Nat) (best : B), i ≤ l.length ∧ m = l.length - i ∧ leastFrom best (l.drop i) = (leastB l).1 ∧
    env = [(0, .d (.list 2 (rowsB l))), (2, .ref (.g 0) 0), (3, .d (.bool false)), (4, .ref (.g 1) 0), (14, .d (.list 2 (rowsB l))), (15, .d (.int .i64 ((rowsB l).length : Int))), (16, .d (.int .i64 i))] ∧
    s = [(0, .cells [.d (.int .i64 0), .d (.int .i64 0)]), (1, .cells [.d (.int .i64 best.1), .d (.int .i64 best.2)])]) rfl ?_ ?_
  · conv => whnf
    exact ⟨_, 0, b0, Nat.zero_le _, rfl, hbest, rfl, rfl⟩
  rintro m env s ⟨i, best, hi, rfl, hbest, rfl, rfl⟩
  conv => whnf
  refine bcase_intro (fun h => ?_) (fun h => ?_) <;> conv => whnf
  · have h := lt_of h
    rw [hlen] at h
    obtain ⟨x, hx, hdrop⟩ := at_i h
    refine ⟨rowB x, ⟨by omega, row_i hx⟩, ?_⟩
    conv => whnf
    refine .scal [bidv x, bidv best] _ ⟨.refl _, rfl, lessC _ _⟩ ?_
    conv => whnf
    rw [hdrop, leastFrom] at hbest
    refine bcase_intro (fun h2 => ?_) (fun h2 => ?_) <;> conv => whnf
    · rw [if_pos h2] at hbest
      rw [succ_i h (by omega)]
      refine ⟨_, by omega, i + 1, x, h, rfl, hbest, ?_, ?_⟩
      · rfl
      · rfl
    · rw [if_neg (by simp [h2])] at hbest
      rw [succ_i h (by omega)]
      refine ⟨_, by omega, i + 1, best, h, rfl, hbest, ?_, ?_⟩
      · rfl
      · rfl
  · have h := ge_of h
    rw [hlen] at h
    rw [List.drop_eq_nil_of_le h, leastFrom] at hbest
    rw [← hbest]
    exact ⟨rfl, rfl⟩
end Go.Proofs.Ytkenimmellonjaa
/- Seat r2: sets of ints. -/
namespace Go.Proofs.Ytkenimmellonjaa
open Go.Pv Go.RowKit

theorem clone_nil : Contract Try.prog G0 67 [.d (.list 1 [])] [] (fun r t => (r = .d .nil ∨ r = .d .emp) ∧ t = []) := by
  refine con67 0 rfl rfl ?_
  conv => whnf
  refine ⟨?_, ?_⟩ <;> conv => whnf
  · exact ⟨.inl rfl, rfl⟩
  · refine ⟨⟨by decide, by decide⟩, ?_⟩
    conv => whnf
    exact ⟨.inr rfl, rfl⟩
theorem clone_cons (r0 : List DV) (rs : List (List DV)) (hl : rs.length ≤ 100000) : Contract Try.prog G0 67 [.d (.list 1 (r0 :: rs))] [] (fun r t => ∃ c, rs.length + 1 ≤ c ∧ r = .slc (.g 0) 1 0 (rs.length + 1) c ∧ t = [(0, .row 1 (r0 :: rs))]) := by
  refine con67 0 rfl rfl ?_
  conv => whnf
  refine ⟨⟨?_, ?_⟩, ?_⟩
  · show (2 * (rs.length + 1) + 1024) * 8 ≤ 281474976710656; omega
  · show rs.length + 1 ≤ _; omega
  conv => whnf
  intro c hc
  conv => whnf
  exact ⟨c, hc, rfl, rfl⟩
theorem index (l : List Int) (hl : l.length ≤ 4611686018427387904) (x : Int) : Contract Try.prog G0 70 [.d (.list 1 (rowsI l)), .d (.int .i64 x)] [] (fun r t => r = .d (.int .i64 (idxFrom (fun y => x == y) l 0)) ∧ t = []) := by
  have hlen := rowsI_len l
  refine con70 0 rfl rfl ?_
  conv => whnf
  refine V.rounds (fun m env s => ∃ i : Nat, i ≤ l.length ∧ m = l.length - i ∧ idxFrom (fun y => x == y) (l.drop i) i = idxFrom (fun y => x == y) l 0 ∧
    env = [(0, .d (.list 1 (rowsI l))), (1, .d (.int .i64 x)), (4, .d (.int .i64 0)), (5, .undef), (7, .d (.int .i64 ((rowsI l).length : Int))), (8, .d (.int .i64 (i : Int))), (9, .undef), (16, .undef)] ∧ s = [])
    ⟨_, _, GV.drop [0, 1, 4, 7, 8], _, 0, Nat.zero_le _, rfl, rfl, rfl, rfl⟩ ?_
  rintro m env s ⟨i, hi, rfl, hidx, rfl, rfl⟩
  refine V.of (kt := kt70) tabOK mixed (by kernel_rfl) ?_
  conv => whnf
  refine bcase_intro (fun h => ?_) (fun h => ?_) <;> conv => whnf
  · have h := lt_of h
    rw [hlen] at h
    obtain ⟨y, hy, hdrop⟩ := at_i h
    refine ⟨rowI y, ⟨by omega, row_i hy⟩, ?_⟩
    conv => whnf
    rw [hdrop, idxFrom] at hidx
    refine bcase_intro (fun h2 => ?_) (fun h2 => ?_) <;> conv => whnf
    · rw [if_pos h2] at hidx
      exact ⟨rd_int hidx, rfl⟩
    · refine ⟨_, _, GV.drop [0, 1, 4, 7, 8], _, by omega, i + 1, h, rfl, ?_, ?_, rfl⟩
      · rw [if_neg (by simp [h2])] at hidx
        exact hidx
      · rw [← succ_i h hl]; rfl
  · have h := ge_of h
    rw [hlen] at h
    rw [List.drop_eq_nil_of_le h, idxFrom] at hidx
    exact ⟨rd_int hidx, rfl⟩
theorem contains (l : List Int) (hl : l.length ≤ 4611686018427387904) (x : Int) : Contract Try.prog G0 72 [.d (.list 1 (rowsI l)), .d (.int .i64 x)] [] (fun r t => r = .d (.bool (l.any fun y => x == y)) ∧ t = []) := by
  refine con72 0 rfl rfl ?_
  conv => whnf
  refine .inl (.inl ⟨[.d (.list 1 (rowsI l)), .d (.int .i64 x)], _, ⟨.refl _, rfl, index l hl x⟩, ?_⟩)
  conv => whnf
  exact ⟨rd_bool (idx_any _ _), rfl⟩
theorem has (l : List Int) (hl : l.length ≤ 4611686018427387904) (x : Int) : Contract Try.prog G0 23 [.d (.list 1 (rowsI l)), .d (.int .i64 x)] [] (fun r t => r = .d (.bool (l.any fun y => x == y)) ∧ t = []) := by
  refine con23 0 rfl rfl ?_
  conv => whnf
  refine .inl (.inl ⟨[.d (.list 1 (rowsI l)), .d (.int .i64 x)], _, ⟨.refl _, rfl, contains l hl x⟩, ?_⟩)
  conv => whnf
  exact ⟨rfl, rfl⟩
theorem among (l : List Int) (hl : l.length ≤ 4611686018427387904) (x : Int) : Contract Try.prog G0 21 [.d (.list 1 (rowsI l)), .d (.int .i64 x)] [] (fun r t => r = .d (.bool (l.any fun y => y == x)) ∧ t = []) := by
  have hlen := rowsI_len l
  refine con21 0 rfl rfl ?_
  conv => whnf
  refine V.rounds (fun m env s => ∃ i : Nat, i ≤ l.length ∧ m = l.length - i ∧ (l.drop i).any (fun y => y == x) = l.any (fun y => y == x) ∧
    env = [(0, .d (.list 1 (rowsI l))), (1, .d (.int .i64 x)), (4, .d (.bool false)), (5, .d (.int .i64 (i : Int))), (9, .undef), (17, .undef)] ∧ s = [])
    ⟨_, _, GV.drop [0, 1, 4, 5], _, 0, Nat.zero_le _, rfl, rfl, rfl, rfl⟩ ?_
  rintro m env s ⟨i, hi, rfl, hidx, rfl, rfl⟩
  refine V.of (kt := kt21) tabOK mixed (by kernel_rfl) ?_
  conv => whnf
  refine bcase_intro (fun h => ?_) (fun h => ?_) <;> conv => whnf
  · have h := lt_of h
    rw [hlen] at h
    obtain ⟨y, hy, hdrop⟩ := at_i h
    refine ⟨rowI y, ⟨by omega, row_i hy⟩, ?_⟩
    conv => whnf
    rw [hdrop, List.any_cons] at hidx
    refine bcase_intro (fun h2 => ?_) (fun h2 => ?_) <;> conv => whnf
    · rw [h2, Bool.true_or] at hidx
      exact ⟨rd_bool hidx, rfl⟩
    · refine ⟨_, _, GV.drop [0, 1, 4, 5], _, by omega, i + 1, h, rfl, ?_, ?_, rfl⟩
      · rw [h2, Bool.false_or] at hidx
        exact hidx
      · rw [← succ_i h hl]; rfl
  · have h := ge_of h
    rw [hlen] at h
    rw [List.drop_eq_nil_of_le h] at hidx
    exact ⟨rd_bool hidx, rfl⟩
theorem number (n : Int) (m : Nat) (hm : 0 < m) (hm2 : m ≤ 4611686018427387904) : Contract Try.prog G0 24 [.d (.int .i64 n), .d (.int .i64 (m : Int))] [] (fun r t => r = .d (.int .i64 (numB n m : Int)) ∧ t = []) := by
  refine con24 0 rfl rfl ?_
  conv => whnf
  refine ⟨⟨rfl, by omega⟩, ?_⟩
  conv => whnf
  refine bcase_intro (fun h => ?_) (fun h => ?_) <;> conv => whnf
  · have h := of_decide_eq_true h
    have h1 := Int.lt_tmod_of_pos n (show (0 : Int) < (m : Int) by omega)
    refine ⟨?_, rfl⟩
    rw [wrap_id (by omega) (by omega)]
    refine rd_int ?_
    unfold numB
    rw [if_pos h]
    omega
  · have h := of_decide_eq_false h
    refine ⟨rd_int ?_, rfl⟩
    unfold numB
    rw [if_neg h]
    omega
theorem next (l : List Int) (hl : l.length ≤ 1000000) (x : Int) : Contract Try.prog G0 20 [.d (.list 1 (rowsI l)), .d (.int .i64 x)] []
    (fun r t => r = .tup [.d (.int .i64 (match idxFrom (fun y => x == y) l 0 with | .ofNat k => (l[(k + 1) % l.length]?).getD 0 | .negSucc _ => 0)), .d (.bool (l.any fun y => x == y))] ∧ t = []) := by
  have hlen := rowsI_len l
  refine con20 0 rfl rfl ?_
  conv => whnf
  refine .inl (.inl ⟨[.d (.list 1 (rowsI l)), .d (.int .i64 x)], _, ⟨.refl _, rfl, index l (by omega) x⟩, ?_⟩)
  conv => whnf
  rw [← idx_any]
  rcases idx_cases0 (fun y => x == y) l with ⟨h1, h2⟩ | ⟨k, y, h1, h2, h3⟩ <;> rw [h1]
  · conv => whnf
    exact ⟨rfl, rfl⟩
  · rw [decide_eq_false (show ¬ (k : Int) < 0 by omega)]
    conv => whnf
    have hk := (List.getElem?_eq_some_iff.1 h2).1
    refine ⟨⟨rfl, by rw [hlen]; omega⟩, ?_⟩
    conv => whnf
    have hw : Int.tmod (IntKind.i64.wrap ((k : Int) + 1)) ((rowsI l).length : Int) = (((k + 1) % l.length : Nat) : Int) := by
      rw [wrap_id (by omega) (by omega), hlen, Int.tmod_eq_emod_of_nonneg (by omega)]
      simp
    rw [hw]
    obtain ⟨z, hz⟩ := list_has l ((k + 1) % l.length) (Nat.mod_lt _ (by omega))
    refine ⟨rowI z, ⟨by omega, row_i hz⟩, ?_⟩
    conv => whnf
    refine ⟨?_, rfl⟩
    rw [show ((k : Nat) : Int) = Int.ofNat k from rfl]
    simp only [hz]
    rfl
end Go.Proofs.Ytkenimmellonjaa
/- The library that this program reaches, as the kit's shelf wants it laid: printed by a program. -/
namespace Go.Proofs.Ytkenimmellonjaa
open Go.Shelf
def lays189_ren : Ren :=
  {
    f := fun x =>
      match x with
      | 189 => 68
      | 125 => 101
      | 257 => 100
      | 128 => 134
      | 129 => 135
      | 294 => 125
      | 295 => 126
      | 296 => 127
      | 297 => 128
      | 298 => 129
      | 299 => 130
      | 216 => 131
      | 300 => 132
      | 301 => 133
      | 328 => 145
      | 329 => 146
      | 330 => 147
      | 331 => 148
      | 332 => 149
      | 215 => 121
      | 343 => 160
      | n => n,
    t := fun x =>
      match x with
      | 28 => 22
      | 3 => 3
      | 46 => 130
      | 0 => 0
      | 51 => 155
      | 53 => 157
      | 4 => 4
      | 183 => 149
      | 182 => 148
      | 131 => 25
      | 5 => 5
      | 9 => 9
      | 218 => 163
      | 222 => 167
      | 228 => 174
      | 229 => 175
      | n => n,
    g := fun x =>
      have n := x;
      n }
theorem lays189 : Lays.n189 Try.prog lays189_ren :=
  { mixed := Eq.refl true, f125 := Eq.trans Try.func101 (congrArg some (Eq.refl (Body.n125 lays189_ren))),
    f128 := Eq.trans Try.func134 (congrArg some (Eq.refl (Body.n128 lays189_ren))),
    f129 := Eq.trans Try.func135 (congrArg some (Eq.refl (Body.n129 lays189_ren))),
    f189 := Eq.trans Try.func68 (congrArg some (Eq.refl (Body.n189 lays189_ren))),
    f215 := Eq.trans Try.func121 (congrArg some (Eq.refl (Body.n215 lays189_ren))),
    f216 := Eq.trans Try.func131 (congrArg some (Eq.refl (Body.n216 lays189_ren))),
    f257 := Eq.trans Try.func100 (congrArg some (Eq.refl (Body.n257 lays189_ren))),
    f294 := Eq.trans Try.func125 (congrArg some (Eq.refl (Body.n294 lays189_ren))),
    f295 := Eq.trans Try.func126 (congrArg some (Eq.refl (Body.n295 lays189_ren))),
    f296 := Eq.trans Try.func127 (congrArg some (Eq.refl (Body.n296 lays189_ren))),
    f297 := Eq.trans Try.func128 (congrArg some (Eq.refl (Body.n297 lays189_ren))),
    f298 := Eq.trans Try.func129 (congrArg some (Eq.refl (Body.n298 lays189_ren))),
    f299 := Eq.trans Try.func130 (congrArg some (Eq.refl (Body.n299 lays189_ren))),
    f300 := Eq.trans Try.func132 (congrArg some (Eq.refl (Body.n300 lays189_ren))),
    f301 := Eq.trans Try.func133 (congrArg some (Eq.refl (Body.n301 lays189_ren))),
    f328 := Eq.trans Try.func145 (congrArg some (Eq.refl (Body.n328 lays189_ren))),
    f329 := Eq.trans Try.func146 (congrArg some (Eq.refl (Body.n329 lays189_ren))),
    f330 := Eq.trans Try.func147 (congrArg some (Eq.refl (Body.n330 lays189_ren))),
    f331 := Eq.trans Try.func148 (congrArg some (Eq.refl (Body.n331 lays189_ren))),
    f332 := Eq.trans Try.func149 (congrArg some (Eq.refl (Body.n332 lays189_ren))),
    f343 := Eq.trans Try.func160 (congrArg some (Eq.refl (Body.n343 lays189_ren))), t0 := Try.underlying0,
    a0 := Try.isAgg0, z0 := Try.sizeOf0, v0 := Try.zeroValue0, t3 := Try.underlying3, a3 := Try.isAgg3, z3 := Try.sizeOf3,
    v3 := Try.zeroValue3, t4 := Try.underlying4, a4 := Try.isAgg4, z4 := Try.sizeOf4, v4 := Try.zeroValue4,
    t5 := Try.underlying5, a5 := Try.isAgg5, z5 := Try.sizeOf5, v5 := Try.zeroValue5, t9 := Try.underlying9,
    a9 := Try.isAgg9, z9 := Try.sizeOf9, v9 := Try.zeroValue9, t28 := Try.underlying22, a28 := Try.isAgg22,
    z28 := Try.sizeOf22, v28 := Try.zeroValue22, t46 := Try.underlying130, a46 := Try.isAgg130, z46 := Try.sizeOf130,
    v46 := Try.zeroValue130, t51 := Try.underlying155, a51 := Try.isAgg155, z51 := Try.sizeOf155, v51 := Try.zeroValue155,
    t53 := Try.underlying157, a53 := Try.isAgg157, z53 := Try.sizeOf157, v53 := Try.zeroValue157,
    t131 := Try.underlying25, a131 := Try.isAgg25, z131 := Try.sizeOf25, v131 := Try.zeroValue25,
    t182 := Try.underlying148, a182 := Try.isAgg148, z182 := Try.sizeOf148, v182 := Try.zeroValue148,
    t183 := Try.underlying149, a183 := Try.isAgg149, z183 := Try.sizeOf149, v183 := Try.zeroValue149,
    t218 := Try.underlying163, a218 := Try.isAgg163, z218 := Try.sizeOf163, v218 := Try.zeroValue163,
    t222 := Try.underlying167, a222 := Try.isAgg167, z222 := Try.sizeOf167, v222 := Try.zeroValue167,
    t228 := Try.underlying174, a228 := Try.isAgg174, z228 := Try.sizeOf174, v228 := Try.zeroValue174,
    t229 := Try.underlying175, a229 := Try.isAgg175, z229 := Try.sizeOf175, v229 := Try.zeroValue175 }
end Go.Proofs.Ytkenimmellonjaa
/- Seat r2: sorting, compacting, sets. -/
namespace Go.Proofs.Ytkenimmellonjaa
open Go.Pv Go.RowKit Go.Shelf

theorem equal (a b : List Int) (ha : a.length ≤ 4611686018427387904) : Contract Try.prog G0 71 [.d (.list 1 (rowsI a)), .d (.list 1 (rowsI b))] [] (fun r t => r = .d (.bool (a == b)) ∧ t = []) := by
  have hlen := rowsI_len a
  have hlen2 := rowsI_len b
  refine con71 0 rfl rfl ?_
  conv => whnf
  refine bcase_intro (fun h => ?_) (fun h => ?_) <;> conv => whnf
  · rw [hlen, hlen2] at h
    refine ⟨rd_bool ?_, rfl⟩
    symm
    rw [beq_eq_false_iff_ne]
    rintro rfl
    simp at h
  have hab : a.length = b.length := by
    rw [hlen, hlen2] at h
    simp at h
    omega
  refine V.rounds (fun m env s => ∃ i : Nat, i ≤ a.length ∧ m = a.length - i ∧ a.take i = b.take i ∧
    env = [(0, .d (.list 1 (rowsI a))), (1, .d (.list 1 (rowsI b))), (4, .d (.bool false)), (5, .undef), (10, .undef), (12, .d (.int .i64 ((rowsI a).length : Int))), (13, .d (.int .i64 (i : Int))), (14, .undef), (24, .undef)] ∧ s = [])
    ⟨_, _, GV.drop [0, 1, 4, 12, 13], _, 0, Nat.zero_le _, rfl, rfl, rfl, rfl⟩ ?_
  rintro m env s ⟨i, hi, rfl, heq, rfl, rfl⟩
  refine V.of (kt := kt71) tabOK mixed (by kernel_rfl) ?_
  conv => whnf
  refine bcase_intro (fun h => ?_) (fun h => ?_) <;> conv => whnf
  · have h := lt_of h
    rw [hlen] at h
    obtain ⟨x, hx, hdrop⟩ := at_i h
    obtain ⟨y, hy, hdrop2⟩ := at_i (l := b) (i := i) (by omega)
    refine ⟨rowI x, ⟨by omega, row_i hx⟩, ?_⟩
    conv => whnf
    refine ⟨rowI y, ⟨by omega, row_i hy⟩, ?_⟩
    conv => whnf
    refine bcase_intro (fun h2 => ?_) (fun h2 => ?_) <;> conv => whnf
    · refine ⟨rd_bool ?_, rfl⟩
      symm
      rw [beq_eq_false_iff_ne]
      intro e
      subst e
      rw [hx] at hy
      cases hy
      simp at h2
    · refine ⟨_, _, GV.drop [0, 1, 4, 12, 13], _, by omega, i + 1, h, rfl, ?_, ?_, rfl⟩
      · have h2 : x = y := by simpa using h2
        rw [List.take_add_one, List.take_add_one, heq, hx, hy, h2]
      · rw [← succ_i h ha]; rfl
  · have h := ge_of h
    rw [hlen] at h
    refine ⟨rd_bool ?_, rfl⟩
    rw [List.take_of_length_le h, List.take_of_length_le (by omega)] at heq
    symm
    simp [heq]
theorem same22 (a b : List Int) (ha : a.length ≤ 4611686018427387904) : Contract Try.prog G0 22 [.d (.list 1 (rowsI a)), .d (.list 1 (rowsI b))] [] (fun r t => r = .d (.bool (a == b)) ∧ t = []) := by
  refine con22 0 rfl rfl ?_
  conv => whnf
  refine .inl (.inl ⟨[.d (.list 1 (rowsI a)), .d (.list 1 (rowsI b))], _, ⟨.refl _, rfl, equal a b ha⟩, ?_⟩)
  conv => whnf
  exact ⟨rfl, rfl⟩
theorem sort68 (l : List Int) (hl : l.length < 4611686018427387904) (cap : Nat) : Contract Try.prog G0 68 [.slc (.g 0) 1 0 l.length cap] [(0, .row 1 (rowsI l))] (fun r t => r = .tup [] ∧ t = [(0, .row 1 (rowsI (sortI l)))]) :=
  Contract.sort_ints (enters_of Try.func68 (by kernel_rfl) rfl) sortI sortI_len (fun blk off cap zs w => Any.slices_Sort_int lays189 blk off cap zs w) (fun p cap w => Any.slices_Sort_int_none lays189 p cap w) l hl cap
theorem dd_take {l : List Int} {i : Nat} {x y : Int} (hi : 0 < i) (hx : l[i - 1]? = .some x) (hy : l[i]? = .some y) : dd (l.take (i + 1)) = dd (l.take i) ++ (if x = y then [] else [y]) := by
  obtain ⟨j, rfl⟩ : ∃ j, i = j + 1 := ⟨i - 1, by omega⟩
  simp only [Nat.add_sub_cancel] at hx
  have h1 : l.take (j + 1 + 1) = l.take j ++ [x, y] := by
    rw [List.take_add_one, List.take_add_one, hx, hy]
    simp
  have h2 : l.take (j + 1) = l.take j ++ [x] := by
    rw [List.take_add_one, hx]
    simp
  rw [h1, h2, dd_snoc]
theorem row_at {l : List Int} {k i : Nat} {x : Int} (h : l[k + i]? = .some x) : (rowsI l)[k + (i : Int).toNat]? = some (rowI x) := by simp [rowsI, h]
theorem compact (l : List Int) (hl : l.length ≤ 1000000) (cap : Nat) (hc : l.length ≤ cap) : Contract Try.prog G0 69 [.slc (.g 0) 1 0 l.length cap] [(0, .row 1 (rowsI l))]
    (fun r t => ∃ cur : List Int, cur.length = l.length ∧ cur.take (dd l).length = dd l ∧ r = .slc (.g 0) 1 0 (dd l).length cap ∧ t = [(0, .row 1 (rowsI cur))]) := by
  have hlen := rowsI_len l
  refine con69 1 rfl rfl ?_
  conv => whnf
  refine bcase_intro (fun h => ?_) (fun h => ?_) <;> conv => whnf
  · have h := of_decide_eq_true h
    have hd : dd l = l := by
      match l, h with
      | [], _ => rfl
      | [x], _ => rfl
      | x :: y :: r, h => simp at h; omega
    exact ⟨l, rfl, by rw [hd, List.take_length], by rw [hd], rfl⟩
  have h := of_decide_eq_false h
  refine V.rounds (fun m env s => ∃ i : Nat, 0 < i ∧ i ≤ l.length ∧ m = l.length - i ∧ dd (l.take i) = l.take i ∧
    env = [(0, .slc (.g 0) 1 0 l.length cap), (2, .d .nil), (3, .d (.int .i64 i)), (4, .undef), (5, .undef), (8, .undef), (13, .undef), (25, .undef), (32, .undef), (44, .undef)] ∧ s = [(0, .row 1 (rowsI l))])
    ⟨_, _, GV.drop [0, 2, 3], _, 1, by omega, by omega, rfl, ?_, rfl, rfl⟩ ?_
  · cases l with
    | nil => rfl
    | cons x r => rfl
  rintro m env s ⟨i, hi0, hi, rfl, hdd, rfl, rfl⟩
  refine V.of (kt := kt69) tabOK mixed (by kernel_rfl) ?_
  conv => whnf
  refine bcase_intro (fun h => ?_) (fun h => ?_) <;> conv => whnf
  · have h := lt_of h
    refine ⟨⟨by omega, by omega⟩, ?_⟩
    conv => whnf
    obtain ⟨y, hy⟩ := list_has l i h
    obtain ⟨x, hx⟩ := list_has l (i - 1) (by omega)
    refine ⟨rowI y, row_at (by rw [Nat.zero_add]; exact hy), rfl, ?_⟩
    conv => whnf
    rw [pred_i hi0 (by omega)]
    refine ⟨⟨by omega, by omega⟩, ?_⟩
    conv => whnf
    refine ⟨rowI x, row_at (by rw [Nat.zero_add]; exact hx), rfl, ?_⟩
    conv => whnf
    have hst := dd_take hi0 hx hy
    refine bcase_intro (fun h2 => ?_) (fun h2 => ?_) <;> conv => whnf
    · have h2 : y = x := by simpa using h2
      subst h2
      rw [if_pos rfl, List.append_nil] at hst
      refine ⟨⟨by omega, by omega, by omega⟩, ?_⟩
      conv => whnf
      refine V.rounds (fun m env s => ∃ (j q : Nat) (cur : List Int), 0 < j ∧ i + j ≤ l.length ∧ m = l.length - (i + j) ∧ q ≤ i + j - 1 ∧ cur.length = l.length ∧ cur.take q = dd (l.take (i + j)) ∧ (dd (l.take (i + j))).length = q ∧ cur.drop (i + j - 1) = l.drop (i + j - 1) ∧
        env = [(0, .slc (.g 0) 1 0 l.length cap), (2, .d .nil), (3, .d (.int .i64 q)), (4, .slc (.g 0) 1 i (l.length - i) (cap - i)), (5, .d (.int .i64 j)), (8, .undef), (13, .undef), (25, .undef), (32, .undef), (44, .undef)] ∧ s = [(0, .row 1 (rowsI cur))])
        ⟨_, _, GV.drop [0, 2, 3, 4, 5], _, 1, i, l, by omega, by omega, rfl, by omega, rfl, ?_, ?_, rfl, ?_, rfl⟩ ?_
      · rw [hst, hdd]
      · rw [hst, hdd, List.length_take]; omega
      · simp only [Int.toNat_natCast, Nat.zero_add]
        rfl
      rintro m env s ⟨j, q, cur, hj0, hj, rfl, hq, hcl, hcur, hql, hrest, rfl, rfl⟩
      refine V.of (kt := kt69) tabOK mixed (by kernel_rfl) ?_
      conv => whnf
      refine bcase_intro (fun h => ?_) (fun h => ?_) <;> conv => whnf
      · have h := lt_of h
        obtain ⟨u, hu⟩ := list_has l (i + j) (by omega)
        obtain ⟨p, hp⟩ := list_has l (i + j - 1) (by omega)
        have hcu : cur[i + j]? = .some u := by
          have := congrArg (fun q => q[1]?) hrest
          simp only [List.getElem?_drop] at this
          rwa [show i + j - 1 + 1 = i + j by omega, hu] at this
        have hcp : cur[i + j - 1]? = .some p := by
          have := congrArg (fun q => q[0]?) hrest
          simp only [List.getElem?_drop] at this
          rwa [show i + j - 1 + 0 = i + j - 1 by omega, hp] at this
        refine ⟨⟨by omega, by omega⟩, ?_⟩
        conv => whnf
        refine ⟨rowI u, row_at hcu, rfl, ?_⟩
        conv => whnf
        rw [pred_i hj0 (by omega)]
        refine ⟨⟨by omega, by omega⟩, ?_⟩
        conv => whnf
        refine ⟨rowI p, row_at (by rw [show i + (j - 1) = i + j - 1 by omega]; exact hcp), rfl, ?_⟩
        conv => whnf
        have hst2 := dd_take (show 0 < i + j by omega) hp hu
        refine bcase_intro (fun h3 => ?_) (fun h3 => ?_) <;> conv => whnf
        · have h3 : u ≠ p := by simpa using h3
          rw [if_neg (fun e => h3 e.symm)] at hst2
          refine ⟨⟨by omega, by omega⟩, ?_⟩
          conv => whnf
          refine ⟨rowI u, row_at hcu, rfl, ?_⟩
          conv => whnf
          refine ⟨⟨by omega, by omega⟩, ?_⟩
          conv => whnf
          obtain ⟨v, hv⟩ := list_has cur q (by omega)
          refine ⟨rowI v, row_at (by rw [Nat.zero_add]; exact hv), ?_⟩
          conv => whnf
          rw [succ_i (n := l.length) (i := q) (by omega) (by omega), succ_i (n := l.length) (i := j) (by omega) (by omega)]
          refine ⟨_, _, GV.drop [0, 2, 3, 4, 5], _, by omega, j + 1, q + 1, cur.set q u, by omega, by omega, rfl, by omega, by simp [hcl], ?_, ?_, ?_, rfl, ?_⟩
          · rw [← Nat.add_assoc, hst2, ← hcur, List.take_add_one, List.take_set_of_le (Nat.le_refl _)]
            simp [show q < cur.length by omega]
          · rw [← Nat.add_assoc, hst2, List.length_append, hql]; rfl
          · have := congrArg List.tail hrest
            rw [List.tail_drop, List.tail_drop] at this
            rw [List.drop_set_of_lt (by omega), show i + (j + 1) - 1 = i + j - 1 + 1 by omega]
            exact this
          · refine congrArg (fun q => [(0, AB.row 1 q)]) ?_
            simp [rowsI, List.map_set, setN, rowI]
        · have h3 : u = p := by simpa using h3
          rw [if_pos h3.symm, List.append_nil] at hst2
          rw [succ_i (n := l.length) (by omega) (by omega)]
          refine ⟨_, _, GV.drop [0, 2, 3, 4, 5], _, by omega, j + 1, q, cur, by omega, by omega, rfl, by omega, hcl, ?_, ?_, ?_, rfl, rfl⟩
          · rw [← Nat.add_assoc, hst2, hcur]
          · rw [← Nat.add_assoc, hst2, hql]
          · have := congrArg List.tail hrest
            rwa [List.tail_drop, List.tail_drop, show i + j - 1 + 1 = i + (j + 1) - 1 by omega] at this
      · have h := ge_of h
        have hij : i + j = l.length := by omega
        rw [hij, List.take_length] at hcur hql
        refine ⟨⟨by omega, by omega, by omega⟩, ?_⟩
        conv => whnf
        refine ⟨by simp [rowsI]; omega, ?_⟩
        conv => whnf
        refine ⟨⟨by omega, by omega, by omega⟩, ?_⟩
        conv => whnf
        refine ⟨cur.take q ++ List.replicate (l.length - q) 0, by simp; omega, ?_, ?_, ?_⟩
        · rw [hql, List.take_append_of_le_length (by simp; omega), List.take_take, Nat.min_self]
          exact hcur
        · rw [hql]; rfl
        · refine congrArg (fun q => [(0, AB.row 1 q)]) ?_
          have hz : ti3.zero = rowI 0 := rfl
          rw [hz, Nat.zero_add, Int.toNat_natCast, Int.toNat_natCast]
          unfold splice
          rw [List.length_replicate, show q + (l.length - q) = l.length by omega, List.drop_eq_nil_of_le (by simp [rowsI]; omega)]
          simp [rowsI, List.map_take]
    · have h2 : y ≠ x := by simpa using h2
      rw [if_neg (fun e => h2 e.symm), hdd] at hst
      rw [succ_i h (by omega)]
      refine ⟨_, _, GV.drop [0, 2, 3], _, by omega, i + 1, by omega, h, rfl, ?_, rfl, rfl⟩
      rw [hst, List.take_add_one, hy]
      rfl
  · have h := ge_of h
    have hil : i = l.length := by omega
    subst hil
    rw [List.take_length] at hdd
    refine ⟨l, rfl, by rw [hdd, List.take_length], ?_, ?_⟩
    · rw [hdd]
    · rfl
theorem sort_nil : Contract Try.prog G0 68 [.d (.list 1 [])] [] (fun r t => r = .tup [] ∧ t = []) :=
  Contract.sort_none (enters_of Try.func68 (by kernel_rfl) rfl) fun p cap w => Any.slices_Sort_int_none lays189 p cap w
theorem compact_nil : Contract Try.prog G0 69 [.d (.list 1 [])] [] (fun r t => r = .d (.list 1 []) ∧ t = []) := by
  refine con69 0 rfl rfl ?_
  conv => whnf
  exact ⟨rfl, rfl⟩
theorem set19 (l : List Int) (hl : l.length ≤ 100000) : Contract Try.prog G0 19 [.d (.list 1 (rowsI l))] [] (fun r t => r = .d (.list 1 (rowsI (setI l))) ∧ t = []) := by
  cases l with
  | nil =>
    refine conG19 0 rfl rfl ?_
    conv => whnf
    refine .inr (.inl ⟨_, _, ⟨WkL.refl _, clone_nil⟩, fun res s1 h => ?_⟩)
    obtain ⟨h, rfl⟩ := h
    rcases h with rfl | rfl
    · conv => whnf
      refine .inl (.inl ⟨[.d (.list 1 [])], _, ⟨.n 1 .nil, rfl, sort_nil⟩, ?_⟩)
      conv => whnf
      refine .inl (.inr (.inl ⟨[.d (.list 1 [])], _, ⟨.n 1 .nil, rfl, compact_nil⟩, ?_⟩))
      conv => whnf
      refine ⟨_, _, .refl, ?_⟩
      conv => whnf
      rw [show setI [] = [] by simp [setI, sortI, dd]]
      exact ⟨rfl, rfl⟩
    · conv => whnf
      refine .inl (.inl ⟨[.d (.list 1 [])], _, ⟨.e 1 .nil, rfl, sort_nil⟩, ?_⟩)
      conv => whnf
      refine .inl (.inr (.inl ⟨[.d (.list 1 [])], _, ⟨.e 1 .nil, rfl, compact_nil⟩, ?_⟩))
      conv => whnf
      refine ⟨_, _, .refl, ?_⟩
      conv => whnf
      rw [show setI [] = [] by simp [setI, sortI, dd]]
      exact ⟨rfl, rfl⟩
  | cons x r =>
    have hl : r.length + 1 ≤ 100000 := by simpa using hl
    have hrl := rowsI_len r
    refine conG19 0 rfl rfl ?_
    conv => whnf
    refine .inr (.inl ⟨_, _, ⟨WkL.refl _, clone_cons (rowI x) (rowsI r) (by simp [rowsI]; omega)⟩, fun res s1 h => ?_⟩)
    obtain ⟨c, hc, rfl, rfl⟩ := h
    rw [hrl] at hc ⊢
    conv => whnf
    have hs := sort68 (x :: r) (by simp; omega) c
    refine .inr (.inl ⟨_, _, ⟨WkL.refl _, hs⟩, fun res s1 h => ?_⟩)
    obtain ⟨rfl, rfl⟩ := h
    conv => whnf
    have hsl := sortI_len (x :: r)
    have hcp := compact (sortI (x :: r)) (by rw [hsl]; simp; omega) c (by rw [hsl]; simpa using hc)
    rw [hsl] at hcp
    refine .inr (.inl ⟨_, _, ⟨WkL.refl _, hcp⟩, fun res s1 h => ?_⟩)
    obtain ⟨cur, h1, h2, rfl, rfl⟩ := h
    conv => whnf
    have hdl := dd_len (sortI (x :: r))
    have hsl2 : (sortI (x :: r)).length = r.length + 1 := hsl
    have hcl : (rowsI cur).length = r.length + 1 := by rw [rowsI_len, h1]; rfl
    refine ⟨_, _, GV.freeze 0 rfl (by simp) (by repeat' first | exact trivial | apply And.intro | decide | (simp; done) | omega) (by repeat' first | exact trivial | apply And.intro), ?_⟩
    conv => whnf
    refine ⟨?_, rfl⟩
    refine congrArg (fun q => AV.d (.list 1 q)) ?_
    rw [List.drop_zero]
    show List.take (dd (sortI (x :: r))).length (rowsI cur) = rowsI (dd (sortI (x :: r)))
    conv => rhs; rw [← h2]
    simp [rowsI, List.map_take]
end Go.Proofs.Ytkenimmellonjaa
/- Seat r2: copies, the least; a set of what is handed on. -/
namespace Go.Proofs.Ytkenimmellonjaa
open Go.Pv Go.RowKit Go.Shelf

theorem ints43 (l : List Int) (hl : l.length ≤ 1000000) : Contract Try.prog G0 43 [.d (.list 1 (rowsI l))] [] (fun r t => ∃ c, l.length ≤ c ∧ r = .slc (.g 0) 1 0 l.length c ∧ t = [(0, .row 1 (rowsI l))]) := by
  have hlen := rowsI_len l
  refine conG43 0 rfl rfl ?_
  conv => whnf
  refine ⟨0, l.length, ⟨rfl, by rw [hlen], Nat.zero_le _, by show l.length * 8 ≤ _; omega, by omega⟩, ?_⟩
  conv => whnf
  refine V.rounds (fun m env s => ∃ i c : Nat, i ≤ l.length ∧ m = l.length - i ∧ i ≤ c ∧
    env = [(0, .d (.list 1 (rowsI l))), (2, .d .nil), (3, .slc (.g 0) 1 0 i c), (4, .d (.int .i64 (i : Int))), (11, .undef)] ∧ s = [(0, .row 1 (rowsI (l.take i)))])
    ⟨_, _, GV.drop [0, 2, 3, 4], _, 0, l.length, Nat.zero_le _, rfl, Nat.zero_le _, rfl, rfl⟩ ?_
  rintro m env s ⟨i, c, hi, rfl, hic, rfl, rfl⟩
  refine V.of (kt := kt43) tabOK mixed (by kernel_rfl) ?_
  conv => whnf
  refine bcase_intro (fun h => ?_) (fun h => ?_) <;> conv => whnf
  · have h := lt_of h
    rw [hlen] at h
    obtain ⟨x, hx, hdrop⟩ := at_i h
    refine ⟨rowI x, ⟨by omega, row_i hx⟩, ?_⟩
    conv => whnf
    refine ⟨by simp [rowsI]; omega, ⟨?_, ?_⟩, ?_⟩
    · show (2 * (i + 1) + 1024) * 8 ≤ 281474976710656; omega
    · show i + 1 ≤ _; omega
    conv => whnf
    intro c2 hc2
    conv => whnf
    refine ⟨_, _, GV.trans (GV.gather [1] rfl rfl rfl) (GV.drop [0, 2, 3, 4]), _, by omega, i + 1, c2, h, rfl, hc2, ?_, ?_⟩
    · rw [← succ_i h (by omega)]; rfl
    · refine congrArg (fun q => [(0, AB.row 1 q)]) ?_
      rw [List.take_of_length_le (by simp [rowsI]; omega), List.take_add_one, hx]
      simp [rowsI, rowI]
  · have h := ge_of h
    rw [hlen] at h
    have : i = l.length := by omega
    subst this
    refine ⟨_, _, .refl, ?_⟩
    conv => whnf
    refine ⟨c, hic, rfl, ?_⟩
    rw [List.take_of_length_le (Nat.le_refl _)]
/-- Set, told of an object that is wanted no more. -/
theorem set19_own (l : List Int) (hl : l.length ≤ 100000) (cap : Nat) : Contract Try.prog G0 19 [.slc (.g 0) 1 0 l.length cap] [(0, .row 1 (rowsI l))] (fun r t => r = .d (.list 1 (rowsI (setI l))) ∧ t = [(0, .dead)]) := by
  have h0 := set19 l hl
  have e : fzL 0 (AB.row 1 (rowsI l)) [.slc (.g 0) 1 0 l.length cap] = [.d (.list 1 ((List.drop 0 (rowsI l)).take l.length))] := rfl
  refine Contract.frz (by simp) ⟨⟨by decide, by rw [rowsI_len]; omega⟩, trivial⟩ rfl ?_
  rw [e, List.drop_zero, List.take_of_length_le (by rw [rowsI_len]; exact Nat.le_refl _)]
  exact h0
def minI (x : Int) : List Int → Int
  | [] => x
  | y :: r => minI (if y < x then y else x) r
theorem min77 (x0 : Int) (r : List Int) (hl : r.length ≤ 1000000) : Contract Try.prog G0 77 [.d (.list 1 (rowsI (x0 :: r)))] [] (fun q t => q = .d (.int .i64 (minI x0 r)) ∧ t = []) := by
  have hlen := rowsI_len (x0 :: r)
  refine con77 0 rfl rfl ?_
  conv => whnf
  refine ⟨rowI x0, ⟨by omega, rfl⟩, ?_⟩
  conv => whnf
  generalize hl2 : x0 :: r = l at hlen
  have hll : l.length = r.length + 1 := by rw [← hl2]; rfl
  refine V.rounds (fun m env s => ∃ (i : Nat) (b : Int), 0 < i ∧ i ≤ l.length ∧ m = l.length - i ∧ minI b (l.drop i) = minI x0 r ∧
    env = [(0, .d (.list 1 (rowsI l))), (2, .d (.int .i64 0)), (3, .d (.int .i64 b)), (4, .d (.int .i64 (i : Int))), (7, .undef), (15, .undef)] ∧ s = [])
    ⟨_, _, GV.drop [0, 2, 3, 4], _, 1, x0, by omega, by omega, rfl, by rw [← hl2]; rfl, rfl, rfl⟩ ?_
  rintro m env s ⟨i, b, hi0, hi, rfl, hb, rfl, rfl⟩
  refine V.of (kt := kt77) tabOK mixed (by kernel_rfl) ?_
  conv => whnf
  refine bcase_intro (fun h => ?_) (fun h => ?_) <;> conv => whnf
  · have h := lt_of h
    rw [hlen] at h
    obtain ⟨x, hx, hdrop⟩ := at_i h
    refine ⟨rowI x, ⟨by omega, row_i hx⟩, ?_⟩
    conv => whnf
    rw [hdrop, minI] at hb
    rw [succ_i h (by omega)]
    exact ⟨_, _, GV.drop [0, 2, 3, 4], _, by omega, i + 1, _, by omega, h, rfl, hb, rfl, rfl⟩
  · have h := ge_of h
    rw [hlen] at h
    rw [List.drop_eq_nil_of_le h, minI] at hb
    exact ⟨rd_int hb, rfl⟩
/-- The least, and whether there is one. -/
def leastI : List Int → Int × Bool
  | [] => (0, false)
  | x :: r => (minI x r, true)
theorem least42 (l : List Int) (hl : l.length ≤ 1000000) : Contract Try.prog G0 42 [.d (.list 1 (rowsI l))] [] (fun q t => q = .tup [.d (.int .i64 (leastI l).1), .d (.bool (leastI l).2)] ∧ t = []) := by
  cases l with
  | nil =>
    refine con42 0 rfl rfl ?_
    conv => whnf
    exact ⟨rfl, rfl⟩
  | cons x r =>
    have hl : r.length + 1 ≤ 1000000 := by simpa using hl
    refine con42 0 rfl rfl ?_
    conv => whnf
    refine .inl (.inl ⟨[.d (.list 1 (rowsI (x :: r)))], _, ⟨.refl _, rfl, min77 x r (by omega)⟩, ?_⟩)
    conv => whnf
    exact ⟨rfl, rfl⟩
theorem minI_le : ∀ (r : List Int) (x y : Int), (y = x ∨ y ∈ r) → minI x r ≤ y
  | [], x, y, h => by
    rcases h with rfl | h
    · exact Int.le_refl _
    · cases h
  | z :: r, x, y, h => by
    simp only [minI]
    rcases h with rfl | h
    · have := minI_le r (if z < y then z else y) _ (.inl rfl)
      split at this <;> rename_i hz <;> simp only [hz, if_true, if_false] <;> omega
    · rcases List.mem_cons.1 h with rfl | h
      · have := minI_le r (if y < x then y else x) _ (.inl rfl)
        split at this <;> rename_i hz <;> simp only [hz, if_true, if_false] <;> omega
      · exact minI_le r _ y (.inr h)
theorem minI_mem : ∀ (r : List Int) (x : Int), minI x r = x ∨ minI x r ∈ r
  | [], x => .inl rfl
  | z :: r, x => by
    simp only [minI]
    rcases minI_mem r (if z < x then z else x) with h | h
    · rw [h]
      split
      · exact .inr (by simp)
      · exact .inl rfl
    · exact .inr (by simp [h])
end Go.Proofs.Ytkenimmellonjaa
/- OrderSets: plain laws. -/
namespace Go.Proofs.Ytkenimmellonjaa
open Go.Pv Go.RowKit Go.Shelf
theorem inc_eq {a b : List Int} (ha : IncI a) (hb : IncI b) (h : ∀ x, x ∈ a ↔ x ∈ b) : a = b := by
  have hp : a.Perm b := (List.perm_ext_iff_of_nodup (inc_nodup ha) (inc_nodup hb)).2 h
  exact sorted_eq hp (ha.imp fun h => by omega) (hb.imp fun h => by omega)
theorem setI_more (l : List Int) (b : Int) : (setI (l ++ [b])).length = (setI l).length + (if (setI l).any (fun y => b == y) then 0 else 1) := by
  cases h : (setI l).any (fun y => b == y) with
  | true =>
    rw [List.any_eq_true] at h
    obtain ⟨y, hy, he⟩ := h
    have he : b = y := by simpa using he
    subst he
    have : setI (l ++ [b]) = setI l := inc_eq (setI_inc _) (setI_inc _) fun x => by
      rw [setI_mem, setI_mem, List.mem_append, List.mem_singleton]
      constructor
      · rintro (h | rfl)
        · exact h
        · exact (setI_mem _ _).1 hy
      · exact .inl
    rw [this]
    simp
  | false =>
    have hb : b ∉ setI l := fun hm => by
      rw [List.any_eq_false] at h
      exact h b hm (by simp)
    have hp : (setI (l ++ [b])).Perm (b :: setI l) := by
      refine (List.perm_ext_iff_of_nodup (inc_nodup (setI_inc _)) (List.nodup_cons.2 ⟨hb, inc_nodup (setI_inc _)⟩)).2 fun x => ?_
      rw [setI_mem, List.mem_append, List.mem_singleton, List.mem_cons, setI_mem, or_comm]
    rw [hp.length_eq]
    simp
theorem least_head {l : List Int} {x : Int} {r s : List Int} (hl : l = x :: r) (hs : IncI s) (hm : ∀ y, y ∈ s ↔ y ∈ l) {a : Int} (ha : s[0]? = .some a) : minI x r = a := by
  subst hl
  have h1 : minI x r ∈ x :: r := by
    rcases minI_mem r x with h | h
    · rw [h]; simp
    · simp [h]
  have h2 : a ∈ x :: r := (hm a).1 (List.mem_of_getElem? ha)
  have h3 := minI_le r x a (by simpa using h2)
  have h4 : a ≤ minI x r := by
    have h5 := (hm _).2 h1
    cases s with
    | nil => cases h5
    | cons y q =>
      simp at ha
      subst ha
      rcases List.mem_cons.1 h5 with h | h
      · omega
      · have := (List.pairwise_cons.1 hs).1 _ h; omega
  omega
end Go.Proofs.Ytkenimmellonjaa
/- Seat r2: the reference's sets. -/
namespace Go.Proofs.Ytkenimmellonjaa
open Go.Pv Go.RowKit Go.Shelf

theorem sameInts34 (a b : List Int) (ha : a.length ≤ 4611686018427387904) : Contract Try.prog G0 34 [.d (.list 1 (rowsI a)), .d (.list 1 (rowsI b))] [] (fun r t => r = .d (.bool (a == b)) ∧ t = []) := by
  have hlen := rowsI_len a
  have hlen2 := rowsI_len b
  refine run34 0 [] rfl rfl ?_
  conv => whnf
  refine bcase_intro (fun h => ?_) (fun h => ?_) <;> conv => whnf
  · rw [hlen, hlen2] at h
    refine ⟨rd_bool ?_, rfl⟩
    symm
    rw [beq_eq_false_iff_ne]
    rintro rfl
    simp at h
  have hab : a.length = b.length := by
    rw [hlen, hlen2] at h
    simp at h
    omega
  refine StopG.rounds wk34 [] [0, 1, 5] (fun m env s => ∃ i : Nat, i ≤ a.length ∧ m = a.length - i ∧ a.take i = b.take i ∧
    env = [(0, .d (.list 1 (rowsI a))), (1, .d (.list 1 (rowsI b))), (5, .d (.int .i64 (i : Int)))] ∧ s = []) rfl ?_ ?_
  · conv => whnf
    exact ⟨_, 0, Nat.zero_le _, rfl, rfl, rfl, rfl⟩
  rintro m env s ⟨i, hi, rfl, heq, rfl, rfl⟩
  conv => whnf
  refine bcase_intro (fun h => ?_) (fun h => ?_) <;> conv => whnf
  · have h := lt_of h
    rw [hlen] at h
    obtain ⟨x, hx, hdrop⟩ := at_i h
    obtain ⟨y, hy, hdrop2⟩ := at_i (l := b) (i := i) (by omega)
    refine ⟨rowI x, ⟨by omega, row_i hx⟩, ?_⟩
    conv => whnf
    refine ⟨rowI y, ⟨by omega, row_i hy⟩, ?_⟩
    conv => whnf
    refine bcase_intro (fun h2 => ?_) (fun h2 => ?_) <;> conv => whnf
    · refine ⟨rd_bool ?_, rfl⟩
      symm
      rw [beq_eq_false_iff_ne]
      intro e
      subst e
      rw [hx] at hy
      cases hy
      simp at h2
    · rw [succ_i h ha]
      refine ⟨_, by omega, i + 1, h, rfl, ?_, rfl, rfl⟩
      have h2 : x = y := by simpa using h2
      rw [List.take_add_one, List.take_add_one, heq, hx, hy, h2]
  · have h := ge_of h
    rw [hlen] at h
    refine ⟨rd_bool ?_, rfl⟩
    rw [List.take_of_length_le h, List.take_of_length_le (by omega)] at heq
    symm
    simp [heq]

def ltN (l : List Int) (n : Int) : Nat := (l.takeWhile fun x => decide (x < n)).length
/-- Put in where it belongs. -/
def putI (l : List Int) (n : Int) : List Int := if l[ltN l n]? = some n then l else l.take (ltN l n) ++ n :: l.drop (ltN l n)
theorem ltN_le (l : List Int) (n : Int) : ltN l n ≤ l.length := (List.takeWhile_sublist _).length_le
theorem ltN_cons (x : Int) (l : List Int) (n : Int) : ltN (x :: l) n = if x < n then ltN l n + 1 else 0 := by
  unfold ltN
  rw [List.takeWhile_cons]
  split <;> simp_all
theorem put39 (l : List Int) (n : Int) (hl : l.length ≤ 100000) : Contract Try.prog G0 39 [.d (.list 1 (rowsI l)), .d (.int .i64 n)] [] (fun r t => r = .d (.list 1 (rowsI (putI l n))) ∧ t = []) := by
  have hlen := rowsI_len l
  refine rung39 0 [] rfl rfl ?_
  conv => whnf
  refine StopG.rounds wk39 [] [0, 1, 5] (fun m env s => ∃ i : Nat, i ≤ l.length ∧ m = l.length - i ∧ i + ltN (l.drop i) n = ltN l n ∧
    env = [(0, .d (.list 1 (rowsI l))), (1, .d (.int .i64 n)), (5, .d (.int .i64 (i : Int)))] ∧ s = []) rfl ?_ ?_
  · conv => whnf
    exact ⟨_, 0, Nat.zero_le _, rfl, by simp, rfl, rfl⟩
  rintro m env s ⟨i, hi, rfl, heq, rfl, rfl⟩
  conv => whnf
  obtain ⟨x, hx⟩ : ∃ y : Int, y = (l[i]?).getD 0 := ⟨_, rfl⟩
  have hx2 : i < l.length → l[i]? = .some x := fun h0 => by rw [hx, List.getElem?_eq_getElem h0]; rfl
  refine ⟨rowI x, fun hg => ?_, ?_⟩
  · have h0 := lt_of (show decide ((i : Int) < ((rowsI l).length : Int)) = true from hg)
    rw [hlen] at h0
    exact ⟨by omega, row_i (hx2 h0)⟩
  conv => whnf
  refine bcase_intro (fun h => ?_) (fun h => ?_) <;> conv => whnf
  · rw [bif_and, Bool.and_eq_true] at h
    obtain ⟨h, h2⟩ := h
    have h := lt_of h
    rw [hlen] at h
    have h2 := of_decide_eq_true h2
    obtain ⟨y, hy, hdrop⟩ := at_i h
    rw [hx2 h] at hy
    cases hy
    rw [hdrop, ltN_cons, if_pos h2] at heq
    rw [succ_i h (by omega)]
    exact ⟨_, by omega, i + 1, h, rfl, by omega, rfl, rfl⟩
  · have hk : i = ltN l n := by
      rcases Nat.lt_or_ge i l.length with h1 | h1
      · obtain ⟨y, hy, hdrop⟩ := at_i h1
        rw [hx2 h1] at hy
        cases hy
        rw [hdrop, ltN_cons] at heq
        have h2 : ¬ x < n := by
          intro h2
          rw [hlen, decide_eq_true (show (i : Int) < (l.length : Int) by omega), decide_eq_true h2] at h
          cases h
        rw [if_neg h2] at heq
        omega
      · rw [List.drop_eq_nil_of_le h1] at heq
        simpa [ltN] using heq
    clear heq h
    refine ⟨rowI x, fun hg => ?_, ?_⟩
    · have h0 := lt_of (show decide ((i : Int) < ((rowsI l).length : Int)) = true from hg)
      rw [hlen] at h0
      exact ⟨by omega, row_i (hx2 h0)⟩
    conv => whnf
    have hb : (bif decide ((i : Int) < ((rowsI l).length : Int)) then x == n else false) = decide (l[ltN l n]? = some n) := by
      rw [← hk, hlen]
      rcases Nat.lt_or_ge i l.length with h1 | h1
      · rw [decide_eq_true (show (i : Int) < (l.length : Int) by omega), hx2 h1]
        simp [Bool.beq_eq_decide_eq]
      · rw [decide_eq_false (show ¬ (i : Int) < (l.length : Int) by omega), List.getElem?_eq_none h1]
        rfl
    rw [hb]
    refine bcase_intro (fun h => ?_) (fun h => ?_) <;> conv => whnf
    · have h := of_decide_eq_true h
      refine .obj rfl ?_
      conv => whnf
      refine ⟨_, _, ⟨WkL.refl _, ints43 l (by omega)⟩, fun res s1 h => ?_⟩
      obtain ⟨c, hc, rfl, rfl⟩ := h
      conv => whnf
      refine ⟨_, _, GV.freeze 0 rfl (by simp) (by repeat' first | exact trivial | apply And.intro | decide | (simp; done) | omega) (by repeat' first | exact trivial | apply And.intro), ?_⟩
      conv => whnf
      refine ⟨?_, rfl⟩
      rw [List.drop_zero, List.take_of_length_le (by omega), putI, if_pos h]
    · have h := of_decide_eq_false h
      refine ⟨⟨by omega, by omega, by omega⟩, ?_⟩
      conv => whnf
      have e1 : List.drop (Int.toNat 0) (List.take ((i : Int)).toNat (rowsI l)) = rowsI (l.take i) := by simp [rowsI, List.map_take]
      have e2 : (l.take i).length = i := by rw [List.length_take]; omega
      rw [e1]
      refine .obj rfl ?_
      conv => whnf
      have hin := ints43 (l.take i) (by omega)
      rw [e2] at hin
      refine ⟨_, _, ⟨WkL.refl _, hin⟩, fun res s1 h => ?_⟩
      obtain ⟨c, hc, rfl, rfl⟩ := h
      conv => whnf
      have e3 := rowsI_len (l.take i)
      rw [e2] at e3
      refine ⟨by omega, ⟨?_, ?_⟩, ?_⟩
      · show (2 * (i + 1) + 1024) * 8 ≤ 281474976710656; omega
      · show i + 1 ≤ _; omega
      conv => whnf
      intro c2 hc2
      conv => whnf
      refine ⟨⟨by omega, by omega, by omega⟩, ?_⟩
      conv => whnf
      have e4 : (List.drop ((i : Int)).toNat (List.take (((rowsI l).length : Int)).toNat (rowsI l))) = rowsI (l.drop i) := by rw [Int.toNat_natCast, Int.toNat_natCast, List.take_of_length_le (Nat.le_refl _)]; simp [rowsI]
      have e5 : (rowsI (l.drop i)).length = l.length - i := by rw [rowsI_len, List.length_drop]
      rw [e4]
      refine ⟨by simp [e3], ⟨?_, ?_⟩, ?_⟩
      · show (2 * (i + 1 + (rowsI (l.drop i)).length) + 1024) * 8 ≤ 281474976710656; rw [e5]; omega
      · show i + 1 + (rowsI (l.drop i)).length ≤ _; rw [e5]; omega
      conv => whnf
      intro c3 hc3
      conv => whnf
      refine ⟨_, _, GV.freeze 2 rfl (by simp) (by repeat' first | exact trivial | apply And.intro | decide | (simp [e3]; done) | omega) (by repeat' first | exact trivial | apply And.intro), ?_⟩
      conv => whnf
      refine ⟨?_, rfl⟩
      refine congrArg (fun q => AV.d (.list 1 q)) ?_
      rw [putI, if_neg h, ← hk, List.drop_zero]
      have e6 : List.take i (rowsI (l.take i)) = rowsI (l.take i) := List.take_of_length_le (by omega)
      rw [e6, List.take_of_length_le (by simp [e3]), List.take_of_length_le (by simp [e3])]
      simp [rowsI, rowI]
end Go.Proofs.Ytkenimmellonjaa
/- The law's first input. -/
namespace Go.Proofs.Ytkenimmellonjaa
open Go.Pv Go.RowKit Go.Shelf
theorem first18 : Contract Try.prog G0 18 [] [] (fun r t => r = .d (.bool true) ∧ t = []) := by
  refine con18 0 rfl rfl ?_
  conv => whnf
  refine .inl (.inl ⟨[.d (.list 1 (rowsI [1, 4, 6])), .d (.int .i64 6)], _, ⟨.refl _, rfl, next [1, 4, 6] (by decide) 6⟩, ?_⟩)
  conv => whnf
  exact ⟨rfl, rfl⟩
end Go.Proofs.Ytkenimmellonjaa
/- Seat r2: the reference's sets, next; OrderSays. -/
namespace Go.Proofs.Ytkenimmellonjaa
open Go.Pv Go.RowKit Go.Shelf

def set6 (l : List Int) : List Int := l.foldl putI []
theorem putI_mem (l : List Int) (n x : Int) : x ∈ putI l n ↔ x = n ∨ x ∈ l := by
  unfold putI
  split
  · rename_i h
    constructor
    · exact .inr
    · rintro (rfl | h2)
      · exact List.mem_of_getElem? h
      · exact h2
  · rw [List.mem_append, List.mem_cons]
    conv => rhs; rw [← List.take_append_drop (ltN l n) l, List.mem_append]
    constructor
    · rintro (h | h | h)
      · exact .inr (.inl h)
      · exact .inl h
      · exact .inr (.inr h)
    · rintro (h | h | h)
      · exact .inr (.inl h)
      · exact .inl h
      · exact .inr (.inr h)
theorem takeW {p : Int → Bool} {x : Int} : ∀ {l : List Int}, x ∈ l.takeWhile p → p x = true
  | [], h => by simp at h
  | y :: r, h => by
    rw [List.takeWhile_cons] at h
    split at h
    · rename_i hy
      rcases List.mem_cons.1 h with rfl | h
      · exact hy
      · exact takeW h
    · cases h
theorem ltN_take (l : List Int) (n : Int) : ∀ x ∈ l.take (ltN l n), x < n := by
  intro x hx
  have h : l.take (ltN l n) = l.takeWhile fun x => decide (x < n) := by
    unfold ltN
    exact List.prefix_iff_eq_take.1 (List.takeWhile_prefix _) |>.symm
  rw [h] at hx
  exact of_decide_eq_true (takeW hx)
theorem ltN_at (l : List Int) (n : Int) (h : ltN l n < l.length) : n ≤ l[ltN l n] := by
  induction l with
  | nil => simp at h
  | cons x r ih =>
    have e := ltN_cons x r n
    by_cases hx : x < n
    · rw [if_pos hx] at e
      simp only [e] at h ⊢
      simp only [List.length_cons] at h
      have := ih (by omega)
      simpa using this
    · rw [if_neg hx] at e
      simp only [e]
      simp
      omega
theorem putI_inc {l : List Int} (h : IncI l) (n : Int) : IncI (putI l n) := by
  unfold putI
  split
  · exact h
  · rename_i hne
    have h2 : IncI (l.take (ltN l n) ++ l.drop (ltN l n)) := by rw [List.take_append_drop]; exact h
    obtain ⟨q1, q2, q3⟩ := List.pairwise_append.1 h2
    refine List.pairwise_append.2 ⟨q1, List.pairwise_cons.2 ⟨fun y hy => ?_, q2⟩, fun x hx y hy => ?_⟩
    · rcases Nat.lt_or_ge (ltN l n) l.length with hlt | hge
      · have h3 := ltN_at l n hlt
        rw [List.drop_eq_getElem_cons hlt] at hy q2
        have h4 : l[ltN l n] ≠ n := fun e => hne (by rw [List.getElem?_eq_getElem hlt, e])
        rcases List.mem_cons.1 hy with rfl | hy
        · omega
        · have := (List.pairwise_cons.1 q2).1 y hy
          omega
      · rw [List.drop_eq_nil_of_le hge] at hy
        cases hy
    · rcases List.mem_cons.1 hy with rfl | hy
      · exact ltN_take l _ x hx
      · exact q3 x hx y hy
theorem putI_len (l : List Int) (n : Int) : (putI l n).length ≤ l.length + 1 := by
  unfold putI
  have := ltN_le l n
  split
  · omega
  · simp; omega
theorem putI_ne (l : List Int) (n : Int) : putI l n ≠ [] := fun h => by
  have := (putI_mem l n n).2 (.inl rfl)
  rw [h] at this
  cases this
theorem foldPut (l : List Int) : ∀ (acc : List Int), IncI acc → IncI (l.foldl putI acc) ∧ (∀ x, x ∈ l.foldl putI acc ↔ x ∈ acc ∨ x ∈ l) ∧ (l.foldl putI acc).length ≤ acc.length + l.length := by
  induction l with
  | nil => intro acc h; exact ⟨h, fun x => by simp, by simp⟩
  | cons y r ih =>
    intro acc h
    obtain ⟨h1, h2, h3⟩ := ih (putI acc y) (putI_inc h y)
    refine ⟨h1, fun x => ?_, ?_⟩
    · rw [List.foldl_cons, h2, putI_mem, List.mem_cons]
      constructor
      · rintro ((h | h) | h)
        · exact .inr (.inl h)
        · exact .inl h
        · exact .inr (.inr h)
      · rintro (h | h | h)
        · exact .inl (.inr h)
        · exact .inl (.inl h)
        · exact .inr h
    · have := putI_len acc y
      simp only [List.foldl_cons, List.length_cons]
      omega
theorem set6_eq (l : List Int) : set6 l = setI l := by
  obtain ⟨h1, h2, _⟩ := foldPut l [] .nil
  exact inc_eq h1 (setI_inc l) fun x => by rw [show set6 l = l.foldl putI [] from rfl, h2, setI_mem]; simp
theorem set6_len (l : List Int) : (set6 l).length ≤ l.length := by
  have := (foldPut l [] .nil).2.2
  simpa [set6] using this

theorem set40 (l : List Int) (hl : l.length ≤ 10000) : Contract Try.prog G0 40 [.d (.list 1 (rowsI l))] [] (fun r t => r = .d (.list 1 (rowsI (set6 l))) ∧ t = []) := by
  have hlen := rowsI_len l
  refine rung40 0 [] rfl rfl ?_
  conv => whnf
  refine StopG.roundsM wk40 [] [0, 3, 4] (fun m env s => ∃ i : Nat, i ≤ l.length ∧ m = l.length - i ∧
    env = [(0, .d (.list 1 (rowsI l))), (3, .d (.list 1 (rowsI (set6 (l.take i))))), (4, .d (.int .i64 (i : Int)))] ∧ s = []) rfl ?_ ?_
  · refine ⟨_, _, GV.wk 3 1, ?_⟩
    conv => whnf
    exact ⟨_, 0, Nat.zero_le _, rfl, rfl, rfl⟩
  rintro m env s ⟨i, hi, rfl, rfl, rfl⟩
  conv => whnf
  refine bcase_intro (fun h => ?_) (fun h => ?_) <;> conv => whnf
  · have h := lt_of h
    rw [hlen] at h
    obtain ⟨x, hx, hdrop⟩ := at_i h
    refine ⟨rowI x, ⟨by omega, row_i hx⟩, ?_⟩
    conv => whnf
    have h6 := set6_len (l.take i)
    rw [List.length_take] at h6
    refine .data [.d (.list 1 (rowsI (set6 (l.take i)))), .d (.int .i64 x)] _ ⟨WkL.refl _, rfl, put39 _ x (by omega)⟩ ?_
    conv => whnf
    refine ⟨_, _, .refl, ?_⟩
    conv => whnf
    rw [succ_i h (by omega)]
    refine ⟨_, by omega, i + 1, h, rfl, ?_, rfl⟩
    rw [List.take_add_one, hx]
    simp [set6, List.foldl_append]
  · have h := ge_of h
    rw [hlen] at h
    refine ⟨_, _, .refl, ?_⟩
    conv => whnf
    rw [List.take_of_length_le h]
    exact ⟨rfl, rfl⟩

/-- Who comes next in a set, as the reference has it. -/
def next6 (l : List Int) (x : Int) : Int × Bool := if l.any (fun y => y == x) then ((match l.find? fun y => decide (y > x) with
  | some y => y
  | none => (l[0]?).getD 0), true) else (0, false)
theorem next41 (l : List Int) (hl : l.length ≤ 10000) (x : Int) : Contract Try.prog G0 41 [.d (.list 1 (rowsI l)), .d (.int .i64 x)] [] (fun r t => r = .tup [.d (.int .i64 (next6 l x).1), .d (.bool (next6 l x).2)] ∧ t = []) := by
  have hlen := rowsI_len l
  refine run41 0 [] rfl rfl ?_
  conv => whnf
  refine .scal [.d (.list 1 (rowsI l)), .d (.int .i64 x)] _ ⟨.refl _, rfl, among l (by omega) x⟩ ?_
  conv => whnf
  refine bcase_intro (fun h => ?_) (fun h => ?_) <;> conv => whnf
  · refine ⟨?_, rfl⟩
    have h : (l.any fun y => y == x) = false := by simpa using h
    rw [next6, h, if_neg (by simp)]
  have hany : (l.any fun y => y == x) = true := by simpa using h
  have hn6 : next6 l x = ((match l.find? fun y => decide (y > x) with
    | some y => y
    | none => (l[0]?).getD 0), true) := by rw [next6, if_pos hany]
  have hne : 0 < l.length := by
    rw [List.any_eq_true] at hany
    obtain ⟨y, hy, _⟩ := hany
    exact List.length_pos_of_mem hy
  refine StopG.rounds wk41 [] [0, 1, 6] (fun m env s => ∃ i : Nat, i ≤ l.length ∧ m = l.length - i ∧ (l.drop i).find? (fun y => decide (y > x)) = l.find? (fun y => decide (y > x)) ∧
    env = [(0, .d (.list 1 (rowsI l))), (1, .d (.int .i64 x)), (6, .d (.int .i64 (i : Int)))] ∧ s = []) rfl ?_ ?_
  · conv => whnf
    exact ⟨_, 0, Nat.zero_le _, rfl, rfl, rfl, rfl⟩
  rintro m env s ⟨i, hi, rfl, hidx, rfl, rfl⟩
  conv => whnf
  refine bcase_intro (fun h => ?_) (fun h => ?_) <;> conv => whnf
  · have h := lt_of h
    rw [hlen] at h
    obtain ⟨y, hy, hdrop⟩ := at_i h
    refine ⟨rowI y, ⟨by omega, row_i hy⟩, ?_⟩
    conv => whnf
    rw [hdrop, List.find?_cons] at hidx
    refine bcase_intro (fun h2 => ?_) (fun h2 => ?_) <;> conv => whnf
    · refine ⟨rowI y, ⟨by omega, row_i hy⟩, ?_⟩
      conv => whnf
      rw [h2] at hidx
      refine ⟨?_, rfl⟩
      rw [hn6, ← hidx]
    · rw [h2] at hidx
      rw [succ_i h (by omega)]
      exact ⟨_, by omega, i + 1, h, rfl, hidx, rfl, rfl⟩
  · have h := ge_of h
    rw [hlen] at h
    obtain ⟨y, hy⟩ := list_has l 0 hne
    refine ⟨rowI y, ⟨by decide, by simp [rowsI, hy]⟩, ?_⟩
    conv => whnf
    rw [List.drop_eq_nil_of_le h] at hidx
    refine ⟨?_, rfl⟩
    rw [hn6, ← hidx, hy]
    rfl
def nextV (l : List Int) (x : Int) : Int := match idxFrom (fun y => x == y) l 0 with
  | .ofNat k => (l[(k + 1) % l.length]?).getD 0
  | .negSucc _ => 0
theorem next20 (l : List Int) (hl : l.length ≤ 1000000) (x : Int) : Contract Try.prog G0 20 [.d (.list 1 (rowsI l)), .d (.int .i64 x)] [] (fun r t => r = .tup [.d (.int .i64 (nextV l x)), .d (.bool (l.any fun y => x == y))] ∧ t = []) := next l hl x
/-- In a set they are the same. -/
theorem next6_inc {l : List Int} (h : IncI l) (x : Int) : nextV l x = (next6 l x).1 ∧ (l.any fun y => x == y) = (next6 l x).2 := by
  have hs : (l.any fun y => x == y) = l.any fun y => y == x := by
    congr 1
    funext y
    exact Bool.eq_iff_iff.2 ⟨fun h => by simpa using (by simpa using h : x = y).symm, fun h => by simpa using (by simpa using h : y = x).symm⟩
  unfold next6 nextV
  rw [hs]
  cases ha : l.any fun y => y == x with
  | false =>
    rw [if_neg (by simp)]
    refine ⟨?_, rfl⟩
    rcases idx_cases0 (fun y => x == y) l with ⟨h1, _⟩ | ⟨k, y, h1, h2, h3⟩
    · rw [h1]; rfl
    · exfalso
      have h4 : (x == y) = true := by simpa using List.find?_some h3
      have h5 := List.any_eq_false.1 ha y (List.mem_of_getElem? h2)
      exact h5 (by simpa using (by simpa using h4 : x = y).symm)
  | true =>
    rw [if_pos rfl]
    refine ⟨?_, rfl⟩
    obtain ⟨y, hy, he⟩ := List.any_eq_true.1 ha
    have he : y = x := by simpa using he
    subst he
    obtain ⟨i, hi, hiy⟩ := List.mem_iff_getElem.1 hy
    have hget : l[i]? = .some y := by rw [List.getElem?_eq_getElem hi, hiy]
    have h1 := idx_nodup l 0 i y (inc_nodup h) hget
    have h1 : idxFrom (fun z => y == z) l 0 = Int.ofNat i := by rw [Nat.zero_add] at h1; exact h1
    rw [h1]
    simp only
    rcases Nat.lt_or_ge (i + 1) l.length with hlt | hge
    · rw [Nat.mod_eq_of_lt hlt]
      have hgt : y < l[i + 1] := by
        have := List.pairwise_iff_getElem.1 h i (i + 1) hi hlt (by omega)
        rwa [hiy] at this
      have hf : (l.find? fun z => decide (z > y)) = some l[i + 1] := by
        rw [List.find?_eq_some_iff_getElem]
        refine ⟨by simpa using hgt, i + 1, hlt, rfl, fun j hj => ?_⟩
        simp only [gt_iff_lt, Bool.not_eq_true', decide_eq_false_iff_not, Int.not_lt]
        rcases Nat.lt_or_ge j i with hji | hji
        · have := List.pairwise_iff_getElem.1 h j i (by omega) hi hji
          rw [hiy] at this
          omega
        · have : j = i := by omega
          subst this
          rw [hiy]
          exact Int.le_refl _
      rw [hf, List.getElem?_eq_getElem hlt]
      rfl
    · have hil : i + 1 = l.length := by omega
      rw [hil, Nat.mod_self]
      have hf : (l.find? fun z => decide (z > y)) = none := by
        rw [List.find?_eq_none]
        intro z hz
        obtain ⟨j, hj, rfl⟩ := List.mem_iff_getElem.1 hz
        simp only [gt_iff_lt, decide_eq_true_eq, Int.not_lt]
        rcases Nat.lt_or_ge j i with hji | hji
        · have := List.pairwise_iff_getElem.1 h j i (by omega) hi hji
          rw [hiy] at this
          omega
        · have : j = i := by omega
          subst this
          rw [hiy]
          exact Int.le_refl _
      rw [hf]
end Go.Proofs.Ytkenimmellonjaa
/- Seat r2: when a ring is founded. -/
namespace Go.Proofs.Ytkenimmellonjaa
open Go.Pv Go.RowKit Go.Shelf

abbrev cV (car cars : Int) (out any : Bool) (alive ring : List Int) (since fnd : Int) : AV := .agg [.d (.int .i64 car), .d (.int .i64 cars), .d (.bool out), .d (.bool any), .d (.list 1 (rowsI alive)), .d (.list 1 (rowsI ring)), .d (.int .i64 since), .d (.int .i64 fnd)]
def patI (n : Int) : Int := IntKind.i64.wrap (IntKind.i64.wrap (4 * n) + 8)
def membI (l : List Int) (x : Int) : List Int := setI (l ++ [x])
def headI (l : List Int) : Int := (l[0]?).getD 0
def shouldI (car cars : Int) (out any : Bool) (alive ring : List Int) (since fnd : Int) : Bool :=
  bif (bif (bif out then true else !(headI (membI alive car) == car)) then true else decide (fnd ≤ patI cars)) then false else (bif (bif !any then true else !(ring == membI alive car)) then true else decide (since > patI cars))

theorem pat37 (n : Int) : Contract Try.prog G0 37 [.d (.int .i64 n)] [] (fun r t => r = .d (.int .i64 (patI n)) ∧ t = []) := by
  refine run37 0 [] rfl rfl ?_
  conv => whnf
  exact ⟨rfl, rfl⟩
theorem pat38 (n : Int) : Contract Try.prog G0 38 [.d (.int .i64 n)] [] (fun r t => r = .d (.int .i64 (patI n)) ∧ t = []) := by
  refine run38 0 [] rfl rfl ?_
  conv => whnf
  exact ⟨rfl, rfl⟩
theorem membI_eq (l : List Int) (x : Int) : putI (setI l) x = membI l x :=
  inc_eq (putI_inc (setI_inc l) x) (setI_inc _) fun y => by rw [putI_mem, membI, setI_mem, setI_mem, List.mem_append, List.mem_singleton, or_comm]
theorem membI_len (l : List Int) (x : Int) : (membI l x).length ≤ l.length + 1 := by have := setI_len (l ++ [x]); simpa [membI] using this
theorem membI_ne (l : List Int) (x : Int) : 0 < (membI l x).length := List.length_pos_of_mem (a := x) (by rw [membI, setI_mem]; simp)
theorem memb36 (car cars : Int) (out any : Bool) (alive ring : List Int) (since fnd : Int) (hl : alive.length ≤ 1000) : Contract Try.prog G0 36 [cV car cars out any alive ring since fnd] [] (fun r t => r = .d (.list 1 (rowsI (membI alive car))) ∧ t = []) := by
  refine run36 0 [] rfl rfl ?_
  conv => whnf
  refine .data [.d (.list 1 (rowsI alive))] _ ⟨WkL.refl _, rfl, set40 _ (by omega)⟩ ?_
  rw [set6_eq]
  have := setI_len alive
  conv => whnf
  refine .data [.d (.list 1 (rowsI (setI alive))), .d (.int .i64 car)] _ ⟨WkL.refl _, rfl, put39 _ car (by omega)⟩ ?_
  rw [membI_eq]
  conv => whnf
  exact ⟨rfl, rfl⟩
set_option maxRecDepth 100000 in
theorem memb35 (car cars : Int) (out any : Bool) (alive ring : List Int) (since fnd : Int) (hl : alive.length ≤ 1000) : Contract Try.prog G0 35 [cV car cars out any alive ring since fnd] [] (fun r t => r = .d (.list 1 (rowsI (membI alive car))) ∧ t = []) := by
  refine run35 0 [1] rfl rfl ?_
  conv => whnf
  refine StopG.draw wk35 [] sp35_1 [2] (fun env s => env = [(2, .d (.list 1 (rowsI (membI alive car))))] ∧ s = []) rfl rfl (by kernel_rfl) ?_ ?_
  · cases alive with
    | nil =>
      have hso : ∀ cap, Contract Try.prog G0 19 [.slc (.g 0) 1 0 1 cap] [(0, .row 1 [[.int .i64 car]])] (fun r t => r = .d (.list 1 (rowsI (membI [] car))) ∧ t = [(0, .dead)]) := fun cap => set19_own [car] (by simp) cap
      conv => whnf
      repeat' (first
        | (refine Both.mk ?_ ?_ <;> conv => whnf)
        | (refine .obj rfl ?_; (conv => whnf); refine ⟨_, _, ⟨WkL.refl _, clone_nil⟩, fun res s1 h => ?_⟩; obtain ⟨h, rfl⟩ := h; rcases h with rfl | rfl <;> conv => whnf)
        | (refine .obj rfl ?_; (conv => whnf); refine ⟨_, _, ⟨WkL.refl _, hso _⟩, fun res s1 h => ?_⟩; obtain ⟨rfl, rfl⟩ := h; (conv => whnf); exact ⟨rfl, rfl⟩)
        | (refine ⟨⟨show (2 * 1 + 1024) * 8 ≤ 281474976710656 by omega, show 1 ≤ 4611686018427387904 by omega⟩, ?_⟩; (conv => whnf); intro c2 hc2; conv => whnf))
    | cons x r =>
      have hrl := rowsI_len r
      have hl : r.length + 1 ≤ 1000 := by simpa using hl
      have hcl := clone_cons (rowI x) (rowsI r) (by rw [hrl]; omega)
      have hso : ∀ cap, Contract Try.prog G0 19 [.slc (.g 0) 1 0 ((rowsI r).length + 1 + 1) cap] [(0, .row 1 (List.take ((rowsI r).length + 1) (rowI x :: rowsI r) ++ [[.int .i64 car]]))] (fun q t => q = .d (.list 1 (rowsI (membI (x :: r) car))) ∧ t = [(0, .dead)]) := fun cap => by
        have := set19_own (x :: r ++ [car]) (by simp; omega) cap
        have e1 : List.take ((rowsI r).length + 1) (rowI x :: rowsI r) ++ [[DV.int .i64 car]] = rowsI (x :: r ++ [car]) := by
          rw [List.take_of_length_le (by simp)]
          simp [rowsI, rowI]
        have e2 : (rowsI r).length + 1 + 1 = (x :: r ++ [car]).length := by
          rw [hrl]
          simp
        rw [e1, e2]
        exact this
      conv => whnf
      repeat' (first
        | (refine Both.mk ?_ ?_ <;> conv => whnf)
        | (refine .obj rfl ?_; (conv => whnf); refine ⟨_, _, ⟨WkL.refl _, hcl⟩, fun res s1 h => ?_⟩; obtain ⟨cc, hcc, rfl, rfl⟩ := h; conv => whnf)
        | (refine .obj rfl ?_; (conv => whnf); refine ⟨_, _, ⟨WkL.refl _, hso _⟩, fun res s1 h => ?_⟩; obtain ⟨rfl, rfl⟩ := h; (conv => whnf); exact ⟨rfl, rfl⟩)
        | (refine ⟨by simp, ⟨?_, ?_⟩, ?_⟩; (show (2 * ((rowsI r).length + 1 + 1) + 1024) * 8 ≤ 281474976710656; omega); (show (rowsI r).length + 1 + 1 ≤ _; omega); (conv => whnf); intro c2 hc2; conv => whnf))
  · rintro env s ⟨rfl, rfl⟩
    conv => whnf
    exact ⟨rfl, rfl⟩
theorem head_least {l : List Int} (h : IncI l) (hn : 0 < l.length) : leastI l = (headI l, true) := by
  cases l with
  | nil => simp at hn
  | cons x r =>
    have := least_head (l := x :: r) rfl h (fun _ => Iff.rfl) (a := x) rfl
    simp [leastI, headI, this]
theorem membI_inc (l : List Int) (x : Int) : IncI (membI l x) := setI_inc _
theorem least_memb (l : List Int) (x : Int) : leastI (membI l x) = (headI (membI l x), true) := head_least (membI_inc l x) (membI_ne l x)
set_option maxRecDepth 100000 in
theorem should32 (car cars : Int) (out any : Bool) (alive ring : List Int) (since fnd : Int) (hl : alive.length ≤ 1000) (hr : ring.length ≤ 100000) : Contract Try.prog G0 32 [cV car cars out any alive ring since fnd] [] (fun r t => r = .d (.bool (shouldI car cars out any alive ring since fnd)) ∧ t = []) := by
  refine run32 0 [] rfl rfl ?_
  conv => whnf
  refine .data [cV car cars out any alive ring since fnd] _ ⟨WkL.refl _, rfl, memb35 car cars out any alive ring since fnd hl⟩ ?_
  have hml := membI_len alive car
  have hle := least_memb alive car
  have hsh : shouldI car cars out any alive ring since fnd = bif (bif (bif out then true else !(headI (membI alive car) == car)) then true else decide (fnd ≤ patI cars)) then false else (bif (bif !any then true else !(ring == membI alive car)) then true else decide (since > patI cars)) := rfl
  generalize membI alive car = m at hml hle hsh
  conv => whnf
  refine .scal [.d (.list 1 (rowsI m))] _ ⟨.refl _, rfl, least42 m (by omega)⟩ ?_
  rw [hle]
  conv => whnf
  refine .scal [.d (.int .i64 cars)] _ (fun _ => ⟨.refl _, rfl, pat37 cars⟩) ?_
  conv => whnf
  refine bcase_intro (fun h => ?_) (fun h => ?_) <;> conv => whnf
  · refine ⟨rd_bool ?_, rfl⟩
    rw [hsh]
    rw [show (bif (bif (bif out then true else !(headI m == car)) then true else decide (fnd ≤ patI cars)) then false else (bif (bif !any then true else !(ring == m)) then true else decide (since > patI cars))) = false by
      rw [show (bif (bif out then true else !(headI m == car)) then true else decide (fnd ≤ patI cars)) = true from h]; rfl]
  · refine .scal [.d (.list 1 (rowsI ring)), .d (.list 1 (rowsI m))] _ (fun _ => ⟨.refl _, rfl, same22 ring m (by omega)⟩) ?_
    conv => whnf
    refine .scal [.d (.int .i64 cars)] _ (fun _ => ⟨.refl _, rfl, pat37 cars⟩) ?_
    conv => whnf
    refine ⟨rd_bool ?_, rfl⟩
    rw [hsh]
    rw [show (bif (bif out then true else !(headI m == car)) then true else decide (fnd ≤ patI cars)) = false from h]
    rfl
set_option maxRecDepth 100000 in
theorem should33 (car cars : Int) (out any : Bool) (alive ring : List Int) (since fnd : Int) (hl : alive.length ≤ 1000) (hr : ring.length ≤ 100000) : Contract Try.prog G0 33 [cV car cars out any alive ring since fnd] [] (fun r t => r = .d (.bool (shouldI car cars out any alive ring since fnd)) ∧ t = []) := by
  refine run33 0 [] rfl rfl ?_
  conv => whnf
  refine .data [cV car cars out any alive ring since fnd] _ ⟨WkL.refl _, rfl, memb36 car cars out any alive ring since fnd hl⟩ ?_
  have hml := membI_len alive car
  have hne := membI_ne alive car
  have hsh : shouldI car cars out any alive ring since fnd = bif (bif (bif out then true else !(headI (membI alive car) == car)) then true else decide (fnd ≤ patI cars)) then false else (bif (bif !any then true else !(ring == membI alive car)) then true else decide (since > patI cars)) := rfl
  generalize membI alive car = m at hml hne hsh
  conv => whnf
  obtain ⟨x, hx⟩ := list_has m 0 hne
  have hh : headI m = x := by simp [headI, hx]
  refine ⟨rowI x, fun _ => ⟨by decide, by simp [rowsI, hx]⟩, ?_⟩
  rw [← hh]
  conv => whnf
  refine .scal [.d (.int .i64 cars)] _ (fun _ => ⟨.refl _, rfl, pat38 cars⟩) ?_
  conv => whnf
  refine bcase_intro (fun h => ?_) (fun h => ?_) <;> conv => whnf
  · refine ⟨rd_bool ?_, rfl⟩
    rw [hsh]
    rw [show (bif (bif (bif out then true else !(headI m == car)) then true else decide (fnd ≤ patI cars)) then false else (bif (bif !any then true else !(ring == m)) then true else decide (since > patI cars))) = false by
      rw [show (bif (bif out then true else !(headI m == car)) then true else decide (fnd ≤ patI cars)) = true from h]; rfl]
  · refine .scal [.d (.list 1 (rowsI ring)), .d (.list 1 (rowsI m))] _ (fun _ => ⟨.refl _, rfl, sameInts34 ring m (by omega)⟩) ?_
    conv => whnf
    refine .scal [.d (.int .i64 cars)] _ (fun _ => ⟨.refl _, rfl, pat38 cars⟩) ?_
    conv => whnf
    refine ⟨rd_bool ?_, rfl⟩
    rw [hsh]
    rw [show (bif (bif out then true else !(headI m == car)) then true else decide (fnd ≤ patI cars)) = false from h]
    rfl
theorem first31 : Contract Try.prog G0 31 [] [] (fun r t => r = .d (.bool true) ∧ t = []) := by
  refine run31 0 [] rfl rfl ?_
  conv => whnf
  refine .scal [cV 0 0 true false [] [] 0 1000] _ ⟨.a (.s _ (.s _ (.s _ (.s _ (.n 1 (.n 1 (.s _ (.s _ .nil)))))))) .nil, rfl, should32 0 0 true false [] [] 0 1000 (by simp) (by simp)⟩ ?_
  conv => whnf
  refine .scal [.d (.int .i64 1)] _ (fun _ => ⟨.refl _, rfl, pat37 1⟩) ?_
  conv => whnf
  exact ⟨rfl, rfl⟩
set_option maxRecDepth 100000 in
theorem foundSays (car cars : Int) (out any : Bool) (alive ring : List Int) (since fnd : Int) : Contract Try.prog G0 6 [cV car cars out any alive ring since fnd] [] (fun r t => r = .d (.bool true) ∧ t = []) := by
  have hla := rowsI_len alive
  have hlr := rowsI_len ring
  refine run6 0 [] rfl rfl ?_
  conv => whnf
  refine .scal [] _ ⟨.refl _, rfl, first31⟩ ?_
  conv => whnf
  refine bcase_intro (fun h => ?_) (fun h => ?_) <;> conv => whnf
  · exact ⟨rfl, rfl⟩
  have hl : alive.length ≤ 20 ∧ ring.length ≤ 20 := by
    rw [hla, hlr] at h
    rcases Nat.lt_or_ge 20 alive.length with h1 | h1
    · rw [decide_eq_true (show (alive.length : Int) > 20 by omega)] at h
      cases h
    · rcases Nat.lt_or_ge 20 ring.length with h2 | h2
      · rw [decide_eq_true (show (ring.length : Int) > 20 by omega)] at h
        cases hb : decide ((alive.length : Int) > 20) <;> rw [hb] at h <;> cases h
      · exact ⟨h1, h2⟩
  refine .scal [cV car cars out any alive ring since fnd] _ (fun _ => ⟨.refl _, rfl, should32 car cars out any alive ring since fnd (by omega) (by omega)⟩) ?_
  conv => whnf
  refine .scal [cV car cars out any alive ring since fnd] _ (fun _ => ⟨.refl _, rfl, should33 car cars out any alive ring since fnd (by omega) (by omega)⟩) ?_
  conv => whnf
  refine .data [cV car cars out any alive ring since fnd] _ (fun _ => ⟨WkL.refl _, rfl, memb35 car cars out any alive ring since fnd (by omega)⟩) ?_
  conv => whnf
  refine .data [cV car cars out any alive ring since fnd] _ (fun _ => ⟨WkL.refl _, rfl, memb36 car cars out any alive ring since fnd (by omega)⟩) ?_
  conv => whnf
  have := membI_len alive car
  refine .scal [.d (.list 1 (rowsI (membI alive car))), .d (.list 1 (rowsI (membI alive car)))] _ (fun _ => ⟨.refl _, rfl, sameInts34 _ _ (by omega)⟩) ?_
  conv => whnf
  refine .scal [.d (.int .i64 cars)] _ (fun _ => ⟨.refl _, rfl, pat37 cars⟩) ?_
  conv => whnf
  refine .scal [.d (.int .i64 cars)] _ (fun _ => ⟨.refl _, rfl, pat38 cars⟩) ?_
  conv => whnf
  refine ⟨rd_bool ?_, rfl⟩
  simp
end Go.Proofs.Ytkenimmellonjaa
/- Seat r2: the ledger's copies. -/
namespace Go.Proofs.Ytkenimmellonjaa
open Go.Pv Go.RowKit Go.Shelf

structure En where
  fl : Int
  dr : Int
  gn : Int
  bids : List B
  aw : Int
def rowE (e : En) : List DV := [.int .i64 e.fl, .int .i64 e.dr, .int .i64 e.gn, .list 2 (rowsB e.bids), .int .i64 e.aw]
def rowsE (l : List En) : List (List DV) := l.map rowE
theorem rowsE_len (l : List En) : (rowsE l).length = l.length := by simp [rowsE]
theorem rowsB_len (l : List B) : (rowsB l).length = l.length := by simp [rowsB]
theorem cloneD67 (rows : List (List DV)) (hl : rows.length ≤ 100000) : Contract Try.prog G0 67 [.d (.list 1 rows)] [] (fun r t => r = .d (.list 1 rows) ∧ t = []) := by
  refine rung67 0 [] rfl rfl ?_
  cases rows with
  | nil =>
    conv => whnf
    refine ⟨?_, ?_⟩ <;> conv => whnf
    · refine ⟨_, _, GV.wk 2 1, ?_⟩
      conv => whnf
      exact ⟨rfl, rfl⟩
    · refine ⟨⟨by decide, by decide⟩, ?_⟩
      conv => whnf
      refine ⟨_, _, GV.wk 2 1, ?_⟩
      conv => whnf
      exact ⟨rfl, rfl⟩
  | cons r0 rs =>
    have hl : rs.length + 1 ≤ 100000 := by simpa using hl
    conv => whnf
    refine ⟨⟨?_, ?_⟩, ?_⟩
    · show (2 * (rs.length + 1) + 1024) * 8 ≤ 281474976710656; omega
    · show rs.length + 1 ≤ _; omega
    conv => whnf
    intro c hc
    conv => whnf
    refine ⟨_, _, GV.freeze 0 rfl (by simp) (by repeat' first | exact trivial | apply And.intro | decide | (simp; done) | omega) (by repeat' first | exact trivial | apply And.intro), ?_⟩
    conv => whnf
    refine ⟨?_, rfl⟩
    rw [List.drop_zero, List.take_of_length_le (by simp)]
theorem cloneD114 (rows : List (List DV)) (hl : rows.length ≤ 100000) : Contract Try.prog G0 114 [.d (.list 2 rows)] [] (fun r t => r = .d (.list 2 rows) ∧ t = []) := by
  refine rung114 0 [] rfl rfl ?_
  cases rows with
  | nil =>
    conv => whnf
    refine ⟨?_, ?_⟩ <;> conv => whnf
    · refine ⟨_, _, GV.wk 2 2, ?_⟩
      conv => whnf
      exact ⟨rfl, rfl⟩
    · refine ⟨⟨by decide, by decide⟩, ?_⟩
      conv => whnf
      refine ⟨_, _, GV.wk 2 2, ?_⟩
      conv => whnf
      exact ⟨rfl, rfl⟩
  | cons r0 rs =>
    have hl : rs.length + 1 ≤ 100000 := by simpa using hl
    conv => whnf
    refine ⟨⟨?_, ?_⟩, ?_⟩
    · show (2 * (rs.length + 1) + 1024) * 16 ≤ 281474976710656; omega
    · show rs.length + 1 ≤ _; omega
    conv => whnf
    intro c hc
    conv => whnf
    refine ⟨_, _, GV.freeze 0 rfl (by simp) (by repeat' first | exact trivial | apply And.intro | decide | (simp; done) | omega) (by repeat' first | exact trivial | apply And.intro), ?_⟩
    conv => whnf
    refine ⟨?_, rfl⟩
    rw [List.drop_zero, List.take_of_length_le (by simp)]
theorem clone113_nil : Contract Try.prog G0 113 [.d (.list 5 [])] [] (fun r t => (r = .d .nil ∨ r = .d .emp) ∧ t = []) := by
  refine run113 0 [] rfl rfl ?_
  conv => whnf
  refine ⟨?_, ?_⟩ <;> conv => whnf
  · exact ⟨.inl rfl, rfl⟩
  · refine ⟨⟨by decide, by decide⟩, ?_⟩
    conv => whnf
    exact ⟨.inr rfl, rfl⟩
theorem clone113_cons (r0 : List DV) (rs : List (List DV)) (hl : rs.length ≤ 100000) : Contract Try.prog G0 113 [.d (.list 5 (r0 :: rs))] [] (fun r t => ∃ c, rs.length + 1 ≤ c ∧ r = .slc (.g 0) 5 0 (rs.length + 1) c ∧ t = [(0, .row 5 (r0 :: rs))]) := by
  refine run113 0 [] rfl rfl ?_
  conv => whnf
  refine ⟨⟨?_, ?_⟩, ?_⟩
  · show (2 * (rs.length + 1) + 1024) * 56 ≤ 281474976710656; omega
  · show rs.length + 1 ≤ _; omega
  conv => whnf
  intro c hc
  conv => whnf
  exact ⟨c, hc, rfl, rfl⟩
theorem entries_nil : Contract Try.prog G0 83 [.d (.list 5 [])] [] (fun r t => (r = .d .nil ∨ r = .d .emp) ∧ t = []) := by
  refine run83 0 [] rfl rfl ?_
  conv => whnf
  refine .obj rfl ?_
  conv => whnf
  refine ⟨_, _, ⟨WkL.refl _, clone113_nil⟩, fun res s1 h => ?_⟩
  obtain ⟨h, rfl⟩ := h
  rcases h with rfl | rfl
  · conv => whnf
    refine StopG.rounds wk83 [] [0, 3, 8, 9] (fun m env s => m = 0 ∧ env = [(0, .d (.list 5 [])), (3, .d .nil), (8, .d (.int .i64 0)), (9, .d (.int .i64 0))] ∧ s = []) rfl ?_ ?_
    · conv => whnf
      exact ⟨_, rfl, rfl, rfl⟩
    rintro m env s ⟨rfl, rfl, rfl⟩
    conv => whnf
    exact ⟨by simp, rfl⟩
  · conv => whnf
    refine StopG.rounds wk83 [] [0, 3, 8, 9] (fun m env s => m = 0 ∧ env = [(0, .d (.list 5 [])), (3, .d .emp), (8, .d (.int .i64 0)), (9, .d (.int .i64 0))] ∧ s = []) rfl ?_ ?_
    · conv => whnf
      exact ⟨_, rfl, rfl, rfl⟩
    rintro m env s ⟨rfl, rfl, rfl⟩
    conv => whnf
    exact ⟨by simp, rfl⟩
theorem entries_cons (e0 : En) (l0 : List En) (hl : l0.length ≤ 1000) (hb : ∀ e ∈ e0 :: l0, e.bids.length ≤ 100000) : Contract Try.prog G0 83 [.d (.list 5 (rowsE (e0 :: l0)))] [] (fun r t => ∃ c, l0.length + 1 ≤ c ∧ r = .slc (.g 0) 5 0 (l0.length + 1) c ∧ t = [(0, .row 5 (rowsE (e0 :: l0)))]) := by
  have hcl := clone113_cons (rowE e0) (rowsE l0) (by rw [rowsE_len]; omega)
  rw [rowsE_len] at hcl
  refine run83 0 [] rfl rfl ?_
  conv => whnf
  refine .obj rfl ?_
  conv => whnf
  refine ⟨_, _, ⟨WkL.refl _, hcl⟩, fun res s1 h => ?_⟩
  obtain ⟨c, hc, rfl, rfl⟩ := h
  conv => whnf
  rw [show rowE e0 :: rowsE l0 = rowsE (e0 :: l0) from rfl]
  generalize hle : e0 :: l0 = l at hb
  have hll : l.length = l0.length + 1 := by rw [← hle]; rfl
  rw [← hll] at hc ⊢
  have hlen := rowsE_len l
  refine StopG.rounds wk83 [] [3, 8, 9] (fun m env s => ∃ i : Nat, i ≤ l.length ∧ m = l.length - i ∧ env = [(3, .slc (.g 0) 5 0 l.length c), (8, .d (.int .i64 (l.length : Int))), (9, .d (.int .i64 (i : Int)))] ∧ s = [(0, .row 5 (rowsE l))]) rfl ?_ ?_
  · conv => whnf
    exact ⟨_, 0, Nat.zero_le _, rfl, rfl, rfl⟩
  rintro m env s ⟨i, hi, rfl, rfl, rfl⟩
  conv => whnf
  refine bcase_intro (fun h => ?_) (fun h => ?_) <;> conv => whnf
  · have h := lt_of h
    obtain ⟨x, hx, hdrop⟩ := at_i h
    refine ⟨⟨by omega, by omega⟩, ?_⟩
    conv => whnf
    refine ⟨rowE x, row_g hx, rfl, ?_⟩
    conv => whnf
    have hxb := hb x (List.mem_of_getElem? hx)
    refine .data [.d (.list 2 (rowsB x.bids))] _ ⟨WkL.refl _, rfl, cloneD114 _ (by rw [rowsB_len]; exact hxb)⟩ ?_
    conv => whnf
    refine ⟨⟨by omega, by omega⟩, ?_⟩
    conv => whnf
    refine ⟨rowE x, row_g hx, ?_⟩
    conv => whnf
    rw [succ_i h (by omega)]
    refine ⟨_, by omega, i + 1, h, rfl, rfl, ?_⟩
    refine congrArg (fun q => [(0, AB.row 5 q)]) ?_
    rw [show setN (rowE x) 3 [DV.list 2 (rowsB x.bids)] = rowE x from rfl]
    exact (set_row x).trans (by rw [set_same hx]; rfl)
  · exact ⟨c, hc, rfl, rfl⟩
/-- A ring. -/
structure Rg where
  cnt : Int
  fdr : Int
  hop : Int
  mem : List Int
  ents : List En
abbrev rgV (cnt fdr hop : Int) (mem : List Int) (en : AV) : AV := .agg [.d (.int .i64 cnt), .d (.int .i64 fdr), .d (.int .i64 hop), .d (.list 1 (rowsI mem)), en]
theorem own_nil0 (cnt fdr hop : Int) (mem : List Int) (hm : mem.length ≤ 100000) : Contract Try.prog G0 80 [rgV cnt fdr hop mem (.d (.list 5 []))] [] (fun r t => (r = rgV cnt fdr hop mem (.d .nil) ∨ r = rgV cnt fdr hop mem (.d .emp)) ∧ t = []) := by
  refine run80 0 [] rfl rfl ?_
  conv => whnf
  refine .data [.d (.list 1 (rowsI mem))] _ ⟨WkL.refl _, rfl, cloneD67 _ (by rw [rowsI_len]; exact hm)⟩ ?_
  conv => whnf
  refine .obj rfl ?_
  conv => whnf
  refine ⟨_, _, ⟨WkL.refl _, entries_nil⟩, fun res s1 h => ?_⟩
  obtain ⟨h, rfl⟩ := h
  rcases h with rfl | rfl
  · conv => whnf
    exact ⟨.inl rfl, rfl⟩
  · conv => whnf
    exact ⟨.inr rfl, rfl⟩
theorem own_nil (cnt fdr hop : Int) (mem : List Int) (hm : mem.length ≤ 100000) : Contract Try.prog G0 80 [rgV cnt fdr hop mem (.d (.list 5 []))] [] (fun r t => r = rgV cnt fdr hop mem (.d (.list 5 [])) ∧ t = []) :=
  (own_nil0 cnt fdr hop mem hm).weak 5 fun r t h => by
    obtain ⟨h | h, rfl⟩ := h <;> subst h <;> exact ⟨rfl, rfl, rfl, rfl⟩
theorem own_cons (cnt fdr hop : Int) (mem : List Int) (hm : mem.length ≤ 100000) (e0 : En) (l0 : List En) (hl : l0.length ≤ 1000) (hb : ∀ e ∈ e0 :: l0, e.bids.length ≤ 100000) :
    Contract Try.prog G0 80 [rgV cnt fdr hop mem (.d (.list 5 (rowsE (e0 :: l0))))] [] (fun r t => ∃ c, l0.length + 1 ≤ c ∧ r = rgV cnt fdr hop mem (.slc (.g 0) 5 0 (l0.length + 1) c) ∧ t = [(0, .row 5 (rowsE (e0 :: l0)))]) := by
  refine run80 0 [] rfl rfl ?_
  conv => whnf
  refine .data [.d (.list 1 (rowsI mem))] _ ⟨WkL.refl _, rfl, cloneD67 _ (by rw [rowsI_len]; exact hm)⟩ ?_
  conv => whnf
  refine .obj rfl ?_
  conv => whnf
  refine ⟨_, _, ⟨WkL.refl _, entries_cons e0 l0 hl hb⟩, fun res s1 h => ?_⟩
  obtain ⟨c, hc, rfl, rfl⟩ := h
  conv => whnf
  exact ⟨c, hc, rfl, rfl⟩
/-- As data. -/
theorem entriesD (l : List En) (hl : l.length ≤ 1000) (hb : ∀ e ∈ l, e.bids.length ≤ 100000) : Contract Try.prog G0 83 [.d (.list 5 (rowsE l))] [] (fun r t => r = .d (.list 5 (rowsE l)) ∧ t = []) := by
  cases l with
  | nil => exact Contract.as_list (by decide) (entries_nil.mono fun r t ⟨h1, h2⟩ => .inl ⟨h1, rfl, h2⟩)
  | cons e0 l0 =>
    refine Contract.as_list (by decide) ((entries_cons e0 l0 (by simp at hl; omega) hb).mono fun r t ⟨c, h1, h2, h3⟩ => .inr ⟨c, ?_, ?_, h3⟩)
    · rw [rowsE_len]; simpa using h1
    · rw [rowsE_len]; exact h2
/-- Of a list of one's own that is wanted no more. -/
theorem entriesO (l : List En) (hl : l.length ≤ 1000) (hb : ∀ e ∈ l, e.bids.length ≤ 100000) (cap : Nat) : Contract Try.prog G0 83 [.slc (.g 0) 5 0 l.length cap] [(0, .row 5 (rowsE l))] (fun r t => r = .d (.list 5 (rowsE l)) ∧ t = [(0, .dead)]) := by
  have h0 := entriesD l hl hb
  have e : fzL 0 (AB.row 5 (rowsE l)) [.slc (.g 0) 5 0 l.length cap] = [.d (.list 5 ((List.drop 0 (rowsE l)).take l.length))] := rfl
  refine Contract.frz (by simp) ⟨⟨by decide, by rw [rowsE_len]; omega⟩, trivial⟩ rfl ?_
  rw [e, List.drop_zero, List.take_of_length_le (by rw [rowsE_len]; exact Nat.le_refl _)]
  exact h0
def wonE (ms : List Int) (e : En) : Bool := bif bif decide (e.aw < 0) then (leastB e.bids).2 else false then fullB ms e.bids else false
def awE (ms : List Int) (e : En) : En := if wonE ms e then ⟨e.fl, e.dr, e.gn, e.bids, (leastB e.bids).1.1⟩ else e
/-- What is awarded, of some. -/
def wonL (ms : List Int) (l : List En) : List En := (l.filter (wonE ms)).map (awE ms)
abbrev awG (cnt fdr hop : Int) (mem : List Int) (l : List En) : AV := rgV cnt fdr hop mem (.d (.list 5 (rowsE l)))
set_option maxRecDepth 100000 in
theorem award_nil (cnt fdr hop : Int) (mem : List Int) (hm : mem.length ≤ 100000) : Contract Try.prog G0 49 [awG cnt fdr hop mem []] [] (fun r t => r = .tup [awG cnt fdr hop mem [], .d (.list 5 [])] ∧ t = []) := by
  refine run49 0 [] rfl rfl ?_
  conv => whnf
  refine .obj rfl ?_
  conv => whnf
  refine ⟨_, _, ⟨WkL.refl _, own_nil cnt fdr hop mem hm⟩, fun res s1 h => ?_⟩
  obtain ⟨rfl, rfl⟩ := h
  conv => whnf
  refine StopG.rounds wk49 [] [1, 2, 4, 13, 14] (fun m env s => m = 0 ∧ env = [(1, .ref (.g 0) 0), (2, .ref (.g 1) 0), (4, .d .nil), (13, .d (.int .i64 0)), (14, .d (.int .i64 0))] ∧ s = [(0, .cells [.d (.int .i64 cnt), .d (.int .i64 fdr), .d (.int .i64 hop), .d (.list 1 (rowsI mem)), .d (.list 5 [])]), (1, .cells [.d (.int .i64 0), .d (.int .i64 0), .d (.int .i64 0), .d .nil, .d .nil])]) rfl ?_ ?_
  · conv => whnf
    exact ⟨_, rfl, rfl, rfl⟩
  rintro m env s ⟨rfl, rfl, rfl⟩
  conv => whnf
  refine .data [.d (.list 5 [])] _ ⟨.n 5 .nil, rfl, entriesD [] (by simp) (by simp)⟩ ?_
  conv => whnf
  exact ⟨rfl, rfl⟩
end Go.Proofs.Ytkenimmellonjaa
