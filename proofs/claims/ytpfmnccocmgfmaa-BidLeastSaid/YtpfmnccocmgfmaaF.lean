/- BidFull. -/
import Derived.Test.YtpfmnccocmgfmaaE
import Derived.Test.YtpfmnccocmgfmaaPvW2
namespace Go.Proofs.Ytpfmnccocmgfmaa
open Go.Pv Go.RowKit
theorem list_has {α : Type} (l : List α) (i : Nat) (h : i < l.length) : ∃ x, l[i]? = .some x := ⟨_, List.getElem?_eq_getElem h⟩
theorem insB_len (l : List B) (b : B) : (insB l b).length = l.length + 1 := by
  unfold insB
  split <;> simp <;> omega
theorem putB_len (l : List B) (b : B) : (putB l b).1.length ≤ l.length + 1 := by
  unfold putB
  split
  · simp
  · rw [insB_len]; omega
theorem insB_mem (l : List B) (b x : B) : x ∈ insB l b ↔ x = b ∨ x ∈ l := by
  unfold insB
  split
  · rename_i k _
    rw [List.mem_append, List.mem_cons]
    rw [show (x ∈ l ↔ x ∈ l.take k ++ l.drop k) by rw [List.take_append_drop], List.mem_append]
    constructor <;> (intro h; rcases h with h | h | h <;> simp [h])
  · simp [or_comm]
theorem putB_any (l : List B) (b : B) (m : Int) : (putB l b).1.any (fun x => x.1 == m) = (b.1 == m || l.any fun x => x.1 == m) := by
  rw [Bool.eq_iff_iff]
  unfold putB
  split
  · rename_i b0 h
    have h1 := List.find?_some h
    have h2 := List.mem_of_find?_eq_some h
    simp only [beq_iff_eq] at h1
    constructor
    · intro h; simp [h]
    · intro h
      simp only [Bool.or_eq_true, beq_iff_eq] at h
      rcases h with h | h
      · rw [List.any_eq_true]
        exact ⟨b0, h2, by simp [h1, h]⟩
      · exact h
  · simp only [List.any_eq_true, Bool.or_eq_true, insB_mem]
    constructor
    · rintro ⟨x, rfl | hx, h⟩
      · exact .inl h
      · exact .inr ⟨x, hx, h⟩
    · rintro (h | ⟨x, hx, h⟩)
      · exact ⟨b, .inl rfl, h⟩
      · exact ⟨x, .inr hx, h⟩
theorem ofB_snd (l : List B) (m : Int) : (ofB l m).2 = l.any fun x => x.1 == m := by
  unfold ofB
  split
  · rename_i b h
    have h1 := List.find?_some h
    have h2 := List.mem_of_find?_eq_some h
    symm
    rw [List.any_eq_true]
    exact ⟨b, h2, h1⟩
  · rename_i h
    symm
    rw [List.any_eq_false]
    simpa using h
theorem putB_snd (l : List B) (b : B) : (putB l b).2 = !(ofB l b.1).2 := by
  unfold putB ofB
  split <;> rename_i h <;> simp [h]
/-- How many of the members have no bid. -/
def leftB (l : List B) : List Int → Nat
  | [] => 0
  | m :: r => (if (ofB l m).2 then 0 else 1) + leftB l r
theorem leftB_app (l : List B) : ∀ (a b : List Int), leftB l (a ++ b) = leftB l a + leftB l b
  | [], b => by simp [leftB]
  | x :: r, b => by simp only [List.cons_append, leftB, leftB_app l r b]; omega
theorem leftB_le (l : List B) : ∀ (a : List Int), leftB l a ≤ a.length
  | [] => by simp [leftB]
  | x :: r => by
    have := leftB_le l r
    simp only [leftB, List.length_cons]
    split <;> omega
theorem full_left (ms : List Int) (l : List B) : fullB ms l = (leftB l ms == 0) := by
  induction ms with
  | nil => rfl
  | cons m r ih =>
    simp only [fullB, List.any_cons, leftB] at ih ⊢
    rw [ofB_snd]
    cases h : l.any fun x => x.1 == m with
    | true => simpa using ih
    | false => simp
abbrev EnvF (ms : List Int) (by_ : Int) (k : Nat) (l : List B) (i : Nat) : Env := [(0, .d (.list 1 (rowsI ms))), (1, .d (.int .i64 by_)), (4, .d (.bool false)), (5, .d (.bool true)), (6, .d (.list 2 (rowsB l))), (7, .d (.int .i64 k)), (8, .d (.int .i64 i)), (9, .undef), (10, .undef),
            (11, .undef), (13, .undef), (14, .undef), (15, .undef), (17, .undef), (20, .undef), (23, .undef), (33, .undef), (61, .undef), (66, .undef), (79, .undef), (87, .undef)]
abbrev EnvG (ms : List Int) (by_ : Int) (k : Nat) (l : List B) (i left j : Nat) : Env := [(0, .d (.list 1 (rowsI ms))), (1, .d (.int .i64 by_)), (4, .d (.bool false)), (5, .d (.bool true)), (6, .d (.list 2 (rowsB l))), (7, .d (.int .i64 k)), (8, .d (.int .i64 i)), (9, .undef), (10, .undef),
            (11, .undef), (13, .undef), (14, .d (.int .i64 left)), (15, .d (.int .i64 j)), (17, .undef), (20, .undef), (23, .undef), (33, .undef), (61, .undef), (66, .undef), (79, .undef), (87, .undef)]
theorem lend1 {s : List (Nat × AB)} {l : List AV} : Lend s l l := .refl l
theorem bidFull (ms : List Int) (by_ : Int) : Contract Try.prog G0 7 [.d (.list 1 (rowsI ms)), .d (.int .i64 by_)] [] (fun r t => r = .d (.bool true) ∧ t = []) := by
  have hlen : (rowsI ms).length = ms.length := by simp [rowsI]
  refine con7 0 rfl rfl ?_
  conv => whnf
  refine .inl (.inl ⟨[], _, ⟨.refl _, rfl, first8⟩, ?_⟩)
  conv => whnf
  refine bcase_intro (fun h => ?_) (fun h => ?_) <;> conv => whnf
  · exact ⟨rfl, rfl⟩
  have hle : ms.length ≤ 10 := by have := of_decide_eq_false h; omega
  have hw : IntKind.wrap .i64 ((rowsI ms).length + 1) = ((ms.length + 1 : Nat) : Int) := by
    rw [hlen, wrap_id (by omega) (by omega)]; rfl
  rw [hw]
  refine .inl (.inl ⟨_, _, ⟨.refl _, rfl, number by_ (ms.length + 1) (by omega) (by omega)⟩, ?_⟩)
  conv => whnf
  generalize hk : numB by_ (ms.length + 1) = k
  have hkl : k < ms.length + 1 := by rw [← hk]; exact numB_lt _ (by omega)
  refine V.rounds (fun m env s => ∃ (i : Nat) (l : List B), i ≤ ms.length ∧ m = ms.length - i ∧ l.length ≤ i ∧ (∀ j m, j < i → ms[(j + k) % ms.length]? = .some m → (l.any fun b => b.1 == m) = true) ∧ env = EnvF ms by_ k l i ∧ s = [])
    ⟨_, _, GV.trans (GV.wk 6 2) (GV.drop [0, 1, 4, 5, 6, 7, 8]), _, 0, [], Nat.zero_le _, rfl, Nat.zero_le _, fun j m h => absurd h (Nat.not_lt_zero _), ?_, ?_⟩ ?_
  · rfl
  · rfl
  rintro m env s ⟨i, l, hi, rfl, hl, hall, rfl, rfl⟩
  refine V.of (kt := kt7) tabOK mixed (by kernel_rfl) ?_
  conv => whnf
  refine bcase_intro (fun h => ?_) (fun h => ?_) <;> conv => whnf
  · have h := lt_of h
    rw [hlen] at h
    refine ⟨⟨rfl, by rw [hlen]; omega⟩, ?_⟩
    conv => whnf
    have hw2 : Int.tmod (IntKind.i64.wrap ((i : Int) + (k : Int))) ((rowsI ms).length : Int) = (((i + k) % ms.length : Nat) : Int) := by
      rw [wrap_id (by omega) (by omega), hlen, Int.tmod_eq_emod_of_nonneg (by omega)]
      simp
    rw [hw2]
    obtain ⟨x, hx⟩ := list_has ms ((i + k) % ms.length) (Nat.mod_lt _ (by omega))
    refine ⟨rowI x, ⟨by omega, row_i hx⟩, ?_⟩
    conv => whnf
    refine .inl (.inr ⟨[.d (.list 2 (rowsB l)), bidv (x, (i : Int))], _, ⟨WkL.refl _, rfl, put l (by omega) (x, (i : Int))⟩, ?_⟩)
    conv => whnf
    have hlp := putB_len l (x, (i : Int))
    refine .inl (.inl ⟨[.d (.list 2 (rowsB l)), .d (.int .i64 x)], _, ⟨.refl _, rfl, of_ l (by omega) x⟩, ?_⟩)
    conv => whnf
    refine bcase_intro (fun h2 => ?_) (fun h2 => ?_) <;> conv => whnf
    · rw [putB_snd] at h2
      simp at h2
    generalize hl2 : (putB l (x, (i : Int))).1 = l2 at hlp
    refine V.rounds (fun m env s => ∃ (j left : Nat), j ≤ ms.length ∧ m = ms.length - j ∧ left + leftB l2 (ms.drop j) = leftB l2 ms ∧ env = EnvG ms by_ k l2 i left j ∧ s = [])
      ⟨_, _, GV.trans (GV.gather [] rfl rfl rfl) (GV.drop [0, 1, 4, 5, 6, 7, 8, 14, 15]), _, 0, 0, Nat.zero_le _, rfl, by simp, ?_, ?_⟩ ?_
    · rfl
    · rfl
    rintro m env s ⟨j, left, hj, rfl, hleft, rfl, rfl⟩
    refine V.of (kt := kt7) tabOK mixed (by kernel_rfl) ?_
    conv => whnf
    refine bcase_intro (fun h3 => ?_) (fun h3 => ?_) <;> conv => whnf
    · have h3 := lt_of h3
      rw [hlen] at h3
      obtain ⟨y, hy, hdrop⟩ := at_i h3
      rw [hdrop, leftB] at hleft
      have hle2 := leftB_le l2 ms
      refine ⟨rowI y, ⟨by omega, row_i hy⟩, ?_⟩
      conv => whnf
      refine .inl (.inl ⟨[.d (.list 2 (rowsB l2)), .d (.int .i64 y)], _, ⟨.refl _, rfl, of_ l2 (by omega) y⟩, ?_⟩)
      conv => whnf
      refine bcase_intro (fun h4 => ?_) (fun h4 => ?_) <;> conv => whnf
      · simp only [Bool.not_eq_true'] at h4
        rw [h4] at hleft
        simp only [Bool.false_eq_true, if_false] at hleft
        rw [succ_i (n := left + 1) (by omega) (by omega), succ_i (n := j + 1) (by omega) (by omega)]
        refine ⟨_, _, GV.trans (GV.gather [] rfl rfl rfl) (GV.drop [0, 1, 4, 5, 6, 7, 8, 14, 15]), _, by omega, j + 1, left + 1, h3, rfl, by omega, ?_, ?_⟩
        · rfl
        · rfl
      · simp only [Bool.not_eq_false'] at h4
        rw [h4] at hleft
        simp only [if_true] at hleft
        rw [succ_i (n := j + 1) (by omega) (by omega)]
        refine ⟨_, _, GV.trans (GV.gather [] rfl rfl rfl) (GV.drop [0, 1, 4, 5, 6, 7, 8, 14, 15]), _, by omega, j + 1, left, h3, rfl, by omega, ?_, ?_⟩
        · rfl
        · rfl
    · have h3 := ge_of h3
      rw [hlen] at h3
      rw [List.drop_eq_nil_of_le h3] at hleft
      simp only [leftB, Nat.add_zero] at hleft
      refine .inl (.inl ⟨[.d (.list 1 (rowsI ms)), .d (.list 2 (rowsB l2))], _, ⟨.refl _, rfl, full ms (by omega) l2 (by omega)⟩, ?_⟩)
      conv => whnf
      have hfl : (fullB ms l2 == ((left : Int) == 0)) = true := by
        rw [full_left, hleft]
        cases leftB l2 ms with
        | zero => rfl
        | succ n => simp; omega
      rw [hfl]
      conv => whnf
      rw [succ_i (n := i + 1) (by omega) (by omega)]
      refine ⟨_, _, GV.drop [0, 1, 4, 5, 6, 7, 8], _, by omega, i + 1, l2, h, rfl, by omega, ?_, ?_, ?_⟩
      · intro j m hj hm
        rw [← hl2, putB_any]
        by_cases hji : j = i
        · subst hji
          rw [hx] at hm
          cases hm
          simp
        · rw [hall j m (by omega) hm, Bool.or_true]
      · rfl
      · rfl
  · have h := ge_of h
    rw [hlen] at h
    have hfull : fullB ms l = true := by
      unfold fullB
      rw [Bool.not_eq_true', List.any_eq_false]
      intro m hm
      simp only [Bool.not_eq_true, Bool.not_eq_false']
      obtain ⟨q, hq, hqm⟩ := List.mem_iff_getElem.1 hm
      have hpos : 0 < ms.length := by omega
      refine hall ((q + (ms.length - k % ms.length)) % ms.length) m ?_ ?_
      · exact Nat.lt_of_lt_of_le (Nat.mod_lt _ hpos) h
      · rw [Nat.mod_add_mod]
        have h1 := Nat.div_add_mod k ms.length
        have h2 := Nat.mod_lt k hpos
        have h3 : q + (ms.length - k % ms.length) + k = q + ms.length * (k / ms.length + 1) := by
          rw [Nat.mul_add, Nat.mul_one]; omega
        rw [h3, Nat.add_mul_mod_self_left, Nat.mod_eq_of_lt hq, List.getElem?_eq_getElem hq, hqm]
    refine .inl (.inl ⟨[.d (.list 1 (rowsI ms)), .d (.list 2 (rowsB l))], _, fun _ => ⟨.refl _, rfl, full ms (by omega) l (by omega)⟩, ?_⟩)
    rw [hfull]
    conv => whnf
    refine .inl (.inl ⟨[.d (.list 1 (rowsI [])), .d (.list 2 (rowsB []))], _, fun _ => ⟨.n 1 (.n 2 .nil), rfl, full [] (by simp) [] (by simp)⟩, ?_⟩)
    conv => whnf
    exact ⟨rfl, rfl⟩
end Go.Proofs.Ytpfmnccocmgfmaa
