/- Clone, Insert at bids. -/
import Derived.Test.YtpfmnccocmgfmaaB
namespace Go.Proofs.Ytpfmnccocmgfmaa
open Go.Pv Go.RowKit

theorem clone_nil : Contract Try.prog G0 32 [.d (.list 2 [])] [] (fun r t => (r = .d .nil ∨ r = .d .emp) ∧ t = []) := by
  refine con32 0 rfl rfl ?_
  conv => whnf
  refine ⟨?_, ?_⟩ <;> conv => whnf
  · exact ⟨.inl rfl, rfl⟩
  · refine ⟨⟨by decide, by decide⟩, ?_⟩
    conv => whnf
    exact ⟨.inr rfl, rfl⟩
theorem clone_cons (r0 : List DV) (rs : List (List DV)) (hl : rs.length ≤ 100000) : Contract Try.prog G0 32 [.d (.list 2 (r0 :: rs))] [] (fun r t => ∃ c, rs.length + 1 ≤ c ∧ r = .slc (.g 0) 2 0 (rs.length + 1) c ∧ t = [(0, .row 2 (r0 :: rs))]) := by
  refine con32 0 rfl rfl ?_
  conv => whnf
  refine ⟨⟨?_, ?_⟩, ?_⟩
  · show (2 * (rs.length + 1) + 1024) * 16 ≤ 281474976710656; omega
  · show rs.length + 1 ≤ _; omega
  conv => whnf
  intro c hc
  conv => whnf
  exact ⟨c, hc, rfl, rfl⟩
theorem ov40 (x y : Value) (w : World) : (callFunc 40 #[x, y]).run Try.prog w = ((Extern.SlicesOverlaps.overlaps #[45, 45] #[4] #[x, y]).run Try.prog w).andThen fun v w' => .ok (.value v) w' := by
  rw [run_callFunc_extern Try.func40 (by kernel_rfl) (by kernel_rfl) (by kernel_rfl) (e := Extern.SlicesOverlaps.overlaps #[45, 45] #[4]) (by kernel_rfl)]
theorem ins_a {α : Type} (l : List α) (k : Nat) (hk : k < l.length) (x : α) (m : Nat) (hm : m = l.length - k) (zs : List α) (hz : zs.length = l.length + 1 - k) :
    (((l.take k ++ zs).take k ++ [x] ++ (l.take k ++ zs).drop (k + 1)).take (k + 1) ++ (l.drop k).take m ++ ((l.take k ++ zs).take k ++ [x] ++ (l.take k ++ zs).drop (k + 1)).drop (k + 1 + m)).take (l.length + 1) = l.take k ++ x :: l.drop k := by
  subst hm
  have h1 : (l.take k).length = k := by simp; omega
  have e1 : (l.take k ++ zs).take k = l.take k := by rw [List.take_append_of_le_length (by omega), List.take_of_length_le (by omega)]
  rw [e1]
  have e2 : (l.take k ++ [x] ++ (l.take k ++ zs).drop (k + 1)).take (k + 1) = l.take k ++ [x] := by
    rw [List.take_append_of_le_length (by simp; omega), List.take_of_length_le (by simp; omega)]
  have e3 : (l.drop k).take (l.length - k) = l.drop k := List.take_of_length_le (by simp)
  have e4 : (l.take k ++ [x] ++ (l.take k ++ zs).drop (k + 1)).drop (k + 1 + (l.length - k)) = [] := by
    apply List.drop_eq_nil_of_le
    simp [hz]; omega
  rw [e2, e3, e4, List.append_nil, List.take_of_length_le (by simp; omega)]
  simp
theorem ins_b {α : Type} (l : List α) (k : Nat) (hk : k < l.length) (x : α) (m : Nat) (hm : m = l.length - k) :
    ((l.take (k + 1) ++ (l.drop k).take m ++ l.drop (k + 1 + (l.length - k))).take k ++ [x] ++ (l.take (k + 1) ++ (l.drop k).take m ++ l.drop (k + 1 + (l.length - k))).drop (k + 1)).take (l.length + 1) = l.take k ++ x :: l.drop k := by
  subst hm
  have h1 : (l.take (k + 1)).length = k + 1 := by simp; omega
  have e3 : (l.drop k).take (l.length - k) = l.drop k := List.take_of_length_le (by simp)
  have e4 : l.drop (k + 1 + (l.length - k)) = [] := List.drop_eq_nil_of_le (by omega)
  rw [e3, e4, List.append_nil]
  have e5 : (l.take (k + 1) ++ l.drop k).take k = l.take k := by rw [List.take_append_of_le_length (by omega), List.take_take]; congr 1; omega
  have e6 : (l.take (k + 1) ++ l.drop k).drop (k + 1) = l.drop k := by rw [List.drop_append_of_le_length (by omega), List.drop_of_length_le (by omega)]; rfl
  rw [e5, e6, List.take_of_length_le (by simp; omega)]
  simp
theorem insert_own (rows : List (List DV)) (hl : rows.length ≤ 100000) (k : Nat) (hk : k ≤ rows.length) (c : Nat) (hc : rows.length ≤ c) (x : List DV) :
    Contract Try.prog G0 35 [.slc (.g 0) 2 0 rows.length c, .d (.int .i64 k), .d (.list 2 [x])] [(0, .row 2 rows)] (fun r t => r = .d (.list 2 (rows.take k ++ x :: rows.drop k)) ∧ t = [(0, .dead)]) := by
  refine conG35 1 rfl rfl ?_
  conv => whnf
  refine ⟨⟨by omega, by omega, by omega⟩, ?_⟩
  conv => whnf
  have hw1 : IntKind.i64.wrap ((rows.length : Int) + (([x] : List (List DV)).length : Int)) = ((rows.length + 1 : Nat) : Int) := by
    rw [wrap_id (by simp; omega) (by simp; omega)]
    simp
  have hw2 : IntKind.i64.wrap ((k : Int) + (([x] : List (List DV)).length : Int)) = ((k + 1 : Nat) : Int) := by
    rw [wrap_id (by simp; omega) (by simp; omega)]
    simp
  refine bcase_intro (fun h => ?_) (fun h => ?_) <;> conv => whnf
  · have h : k = rows.length := by simp at h; omega
    subst h
    refine ⟨Nat.le_refl _, ⟨?_, ?_⟩, ?_⟩
    · show (2 * (rows.length + 1) + 1024) * 16 ≤ 281474976710656; omega
    · show rows.length + 1 ≤ _; omega
    conv => whnf
    intro c' hc'
    conv => whnf
    refine ⟨_, _, GV.freeze 1 rfl (by simp) (by repeat' first | exact trivial | apply And.intro | (simp; done) | decide | (simp; omega)) (by repeat' first | exact trivial | apply And.intro), ?_⟩
    conv => whnf
    refine ⟨?_, rfl⟩
    show AV.d (.list 2 ((List.drop 0 (List.take rows.length rows ++ [x])).take (rows.length + 1))) = _
    rw [List.drop_zero, List.take_length, List.drop_length, List.take_of_length_le (by simp)]
  · have h : k < rows.length := by simp at h; omega
    rw [hw1]
    refine bcase_intro (fun h2 => ?_) (fun h2 => ?_) <;> conv => whnf
    · have h2 : c < rows.length + 1 := by simp at h2; omega
      refine ⟨⟨by omega, by omega, by omega⟩, ?_⟩
      conv => whnf
      rw [hw1]
      simp only [Int.toNat_natCast, Int.toNat_zero, Nat.sub_zero, Nat.zero_add]
      have hkn : k + (rows.length + 1 - k) = rows.length + 1 := by omega
      refine ⟨rows.length + 1 - k, ⟨?_, by omega, by omega, by omega, ?_, by omega⟩, ?_⟩
      · rw [wrap_id (by omega) (by omega)]; omega
      · show (2 * _ + 1024) * 16 ≤ 281474976710656; omega
      rw [hkn]
      conv => whnf
      intro c1 hc1
      conv => whnf
      refine ⟨⟨by omega, by omega, by omega⟩, ?_⟩
      conv => whnf
      simp only [Int.toNat_natCast, Int.toNat_zero, Nat.sub_zero, Nat.zero_add]
      refine ⟨by simp; omega, ?_⟩
      conv => whnf
      refine ⟨⟨by omega, by rw [hw2]; omega, by omega⟩, ?_⟩
      conv => whnf
      refine ⟨⟨by omega, by omega, by omega⟩, ?_⟩
      conv => whnf
      rw [hw2]
      simp only [Int.toNat_natCast, Int.toNat_zero, Nat.sub_zero, Nat.zero_add]
      refine ⟨by simp [splice]; omega, ?_⟩
      conv => whnf
      refine ⟨by omega, ?_⟩
      conv => whnf
      refine ⟨_, _, (GV.freeze 1 rfl (by simp) (by repeat' first | exact trivial | apply And.intro | decide | (simp [splice]; omega)) (by repeat' first | exact trivial | apply And.intro)).trans (GV.kill 0 rfl), ?_⟩
      conv => whnf
      refine ⟨?_, rfl⟩
      refine congrArg (fun q => AV.d (.list 2 q)) ?_
      have := ins_a rows k h x (min (rows.length - k) (rows.length + 1 - (k + 1))) (by omega) (List.replicate (rows.length + 1 - k) ti23.zero) (by simp)
      rw [← this]
      have e1 : ([x] : List (List DV)).take (rows.length + 1 - k) = [x] := List.take_of_length_le (by simp; try omega)
      have e2 : ((rows.drop k).take (min (rows.length - k) (rows.length + 1 - (k + 1)))).length = min (rows.length - k) (rows.length + 1 - (k + 1)) := by simp; try omega
      simp only [splice, e1, List.drop_zero, List.length_singleton, e2]
    · have h2 : rows.length + 1 ≤ c := by simp at h2; omega
      refine ⟨⟨by omega, by rw [hw1]; omega, by rw [hw1]; omega⟩, ?_⟩
      conv => whnf
      refine ⟨⟨by rw [hw2]; omega, by rw [hw1, hw2]; omega, by rw [hw1]; omega⟩, ?_⟩
      conv => whnf
      rw [hw1, hw2]
      simp only [Int.toNat_natCast, Int.toNat_zero, Nat.sub_zero, Nat.zero_add]
      refine .inr (.inr ?_)
      have q1 : T 45 = some ti45 := by kernel_rfl
      have q2 : T 23 = some ti23 := by kernel_rfl
      refine ej_overlaps (f := 40) (c := .func 40) (tys := #[45, 45]) (t := 45) (tr := 4) (e := 23) (ti := ti45) (te := ti23) (x := .tmp 61) (y := .tmp 66) (sz := 2) (rows := [x]) (id := 0) (off := k + 1) (len := rows.length + 1 - (k + 1)) (cap := c - (k + 1)) (old := rows) tabOK q1 ?_ q2 ov40 ?_ ?_ ?_ ?_ ?_ ?_ ?_
      · rfl
      · rfl
      · rfl
      · rfl
      · decide
      · rfl
      · rfl
      conv => whnf
      refine ⟨⟨by rw [hw2]; omega, by rw [hw2]; omega, by omega⟩, ?_⟩
      conv => whnf
      refine ⟨⟨by omega, by omega, by omega⟩, ?_⟩
      conv => whnf
      rw [hw2]
      simp only [Int.toNat_natCast, Int.toNat_zero, Nat.sub_zero, Nat.zero_add]
      refine ⟨by omega, ?_⟩
      conv => whnf
      refine ⟨by omega, ?_⟩
      conv => whnf
      refine ⟨⟨by omega, by omega, by omega⟩, ?_⟩
      conv => whnf
      simp only [Int.toNat_natCast, Int.toNat_zero, Nat.sub_zero, Nat.zero_add]
      refine ⟨by simp [splice]; omega, ?_⟩
      conv => whnf
      have e2 : ((rows.drop k).take (min (rows.length + 1 - k) (rows.length + 1 - (k + 1)))).length = rows.length - k := by simp; omega
      have e1 : ([x] : List (List DV)).take (rows.length + 1 - k) = [x] := List.take_of_length_le (by simp; try omega)
      refine ⟨_, _, GV.freeze 0 rfl (by simp) (by repeat' first | exact trivial | apply And.intro | decide | (simp [splice, e1]; omega)) (by repeat' first | exact trivial | apply And.intro), ?_⟩
      conv => whnf
      refine ⟨?_, rfl⟩
      refine congrArg (fun q => AV.d (.list 2 q)) ?_
      rw [← ins_b rows k h x (min (rows.length + 1 - k) (rows.length + 1 - (k + 1))) (by omega)]
      simp only [splice, e1, List.drop_zero, List.length_singleton, e2]
end Go.Proofs.Ytpfmnccocmgfmaa
