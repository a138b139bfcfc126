/- Seat r2: the reference's sets, next; OrderSays. -/
import Derived.Test.YtkenimmellonjaaI
import Derived.Test.YtkenimmellonjaaD0
namespace Go.Proofs.Ytkenimmellonjaa
open Go.Pv Go.RowKit Go.Shelf

def set6 (l : List Int) : List Int := l.foldl putI []
theorem putI_mem (l : List Int) (n x : Int) : x ∈ putI l n ↔ x = n ∨ x ∈ l := by
  unfold putI
  split
  · rename_i h
    constructor
    · exact .inr
    · rintro (rfl | h2)
      · exact List.mem_of_getElem? h
      · exact h2
  · rw [List.mem_append, List.mem_cons]
    conv => rhs; rw [← List.take_append_drop (ltN l n) l, List.mem_append]
    constructor
    · rintro (h | h | h)
      · exact .inr (.inl h)
      · exact .inl h
      · exact .inr (.inr h)
    · rintro (h | h | h)
      · exact .inr (.inl h)
      · exact .inl h
      · exact .inr (.inr h)
theorem takeW {p : Int → Bool} {x : Int} : ∀ {l : List Int}, x ∈ l.takeWhile p → p x = true
  | [], h => by simp at h
  | y :: r, h => by
    rw [List.takeWhile_cons] at h
    split at h
    · rename_i hy
      rcases List.mem_cons.1 h with rfl | h
      · exact hy
      · exact takeW h
    · cases h
theorem ltN_take (l : List Int) (n : Int) : ∀ x ∈ l.take (ltN l n), x < n := by
  intro x hx
  have h : l.take (ltN l n) = l.takeWhile fun x => decide (x < n) := by
    unfold ltN
    exact List.prefix_iff_eq_take.1 (List.takeWhile_prefix _) |>.symm
  rw [h] at hx
  exact of_decide_eq_true (takeW hx)
theorem ltN_at (l : List Int) (n : Int) (h : ltN l n < l.length) : n ≤ l[ltN l n] := by
  induction l with
  | nil => simp at h
  | cons x r ih =>
    have e := ltN_cons x r n
    by_cases hx : x < n
    · rw [if_pos hx] at e
      simp only [e] at h ⊢
      simp only [List.length_cons] at h
      have := ih (by omega)
      simpa using this
    · rw [if_neg hx] at e
      simp only [e]
      simp
      omega
theorem putI_inc {l : List Int} (h : IncI l) (n : Int) : IncI (putI l n) := by
  unfold putI
  split
  · exact h
  · rename_i hne
    have h2 : IncI (l.take (ltN l n) ++ l.drop (ltN l n)) := by rw [List.take_append_drop]; exact h
    obtain ⟨q1, q2, q3⟩ := List.pairwise_append.1 h2
    refine List.pairwise_append.2 ⟨q1, List.pairwise_cons.2 ⟨fun y hy => ?_, q2⟩, fun x hx y hy => ?_⟩
    · rcases Nat.lt_or_ge (ltN l n) l.length with hlt | hge
      · have h3 := ltN_at l n hlt
        rw [List.drop_eq_getElem_cons hlt] at hy q2
        have h4 : l[ltN l n] ≠ n := fun e => hne (by rw [List.getElem?_eq_getElem hlt, e])
        rcases List.mem_cons.1 hy with rfl | hy
        · omega
        · have := (List.pairwise_cons.1 q2).1 y hy
          omega
      · rw [List.drop_eq_nil_of_le hge] at hy
        cases hy
    · rcases List.mem_cons.1 hy with rfl | hy
      · exact ltN_take l _ x hx
      · exact q3 x hx y hy
theorem putI_len (l : List Int) (n : Int) : (putI l n).length ≤ l.length + 1 := by
  unfold putI
  have := ltN_le l n
  split
  · omega
  · simp; omega
theorem putI_ne (l : List Int) (n : Int) : putI l n ≠ [] := fun h => by
  have := (putI_mem l n n).2 (.inl rfl)
  rw [h] at this
  cases this
theorem foldPut (l : List Int) : ∀ (acc : List Int), IncI acc → IncI (l.foldl putI acc) ∧ (∀ x, x ∈ l.foldl putI acc ↔ x ∈ acc ∨ x ∈ l) ∧ (l.foldl putI acc).length ≤ acc.length + l.length := by
  induction l with
  | nil => intro acc h; exact ⟨h, fun x => by simp, by simp⟩
  | cons y r ih =>
    intro acc h
    obtain ⟨h1, h2, h3⟩ := ih (putI acc y) (putI_inc h y)
    refine ⟨h1, fun x => ?_, ?_⟩
    · rw [List.foldl_cons, h2, putI_mem, List.mem_cons]
      constructor
      · rintro ((h | h) | h)
        · exact .inr (.inl h)
        · exact .inl h
        · exact .inr (.inr h)
      · rintro (h | h | h)
        · exact .inl (.inr h)
        · exact .inl (.inl h)
        · exact .inr h
    · have := putI_len acc y
      simp only [List.foldl_cons, List.length_cons]
      omega
theorem set6_eq (l : List Int) : set6 l = setI l := by
  obtain ⟨h1, h2, _⟩ := foldPut l [] .nil
  exact inc_eq h1 (setI_inc l) fun x => by rw [show set6 l = l.foldl putI [] from rfl, h2, setI_mem]; simp
theorem set6_len (l : List Int) : (set6 l).length ≤ l.length := by
  have := (foldPut l [] .nil).2.2
  simpa [set6] using this

theorem set40 (l : List Int) (hl : l.length ≤ 10000) : Contract Try.prog G0 40 [.d (.list 1 (rowsI l))] [] (fun r t => r = .d (.list 1 (rowsI (set6 l))) ∧ t = []) := by
  have hlen := rowsI_len l
  refine rung40 0 [] rfl rfl ?_
  conv => whnf
  refine StopG.roundsM wk40 [] [0, 3, 4] (fun m env s => ∃ i : Nat, i ≤ l.length ∧ m = l.length - i ∧
    env = [(0, .d (.list 1 (rowsI l))), (3, .d (.list 1 (rowsI (set6 (l.take i))))), (4, .d (.int .i64 (i : Int)))] ∧ s = []) rfl ?_ ?_
  · refine ⟨_, _, GV.wk 3 1, ?_⟩
    conv => whnf
    exact ⟨_, 0, Nat.zero_le _, rfl, rfl, rfl⟩
  rintro m env s ⟨i, hi, rfl, rfl, rfl⟩
  conv => whnf
  refine bcase_intro (fun h => ?_) (fun h => ?_) <;> conv => whnf
  · have h := lt_of h
    rw [hlen] at h
    obtain ⟨x, hx, hdrop⟩ := at_i h
    refine ⟨rowI x, ⟨by omega, row_i hx⟩, ?_⟩
    conv => whnf
    have h6 := set6_len (l.take i)
    rw [List.length_take] at h6
    refine .data [.d (.list 1 (rowsI (set6 (l.take i)))), .d (.int .i64 x)] _ ⟨WkL.refl _, rfl, put39 _ x (by omega)⟩ ?_
    conv => whnf
    refine ⟨_, _, .refl, ?_⟩
    conv => whnf
    rw [succ_i h (by omega)]
    refine ⟨_, by omega, i + 1, h, rfl, ?_, rfl⟩
    rw [List.take_add_one, hx]
    simp [set6, List.foldl_append]
  · have h := ge_of h
    rw [hlen] at h
    refine ⟨_, _, .refl, ?_⟩
    conv => whnf
    rw [List.take_of_length_le h]
    exact ⟨rfl, rfl⟩

/-- Who comes next in a set, as the reference has it. -/
def next6 (l : List Int) (x : Int) : Int × Bool := if l.any (fun y => y == x) then ((match l.find? fun y => decide (y > x) with
  | some y => y
  | none => (l[0]?).getD 0), true) else (0, false)
theorem next41 (l : List Int) (hl : l.length ≤ 10000) (x : Int) : Contract Try.prog G0 41 [.d (.list 1 (rowsI l)), .d (.int .i64 x)] [] (fun r t => r = .tup [.d (.int .i64 (next6 l x).1), .d (.bool (next6 l x).2)] ∧ t = []) := by
  have hlen := rowsI_len l
  refine run41 0 [] rfl rfl ?_
  conv => whnf
  refine .scal [.d (.list 1 (rowsI l)), .d (.int .i64 x)] _ ⟨.refl _, rfl, among l (by omega) x⟩ ?_
  conv => whnf
  refine bcase_intro (fun h => ?_) (fun h => ?_) <;> conv => whnf
  · refine ⟨?_, rfl⟩
    have h : (l.any fun y => y == x) = false := by simpa using h
    rw [next6, h, if_neg (by simp)]
  have hany : (l.any fun y => y == x) = true := by simpa using h
  have hn6 : next6 l x = ((match l.find? fun y => decide (y > x) with
    | some y => y
    | none => (l[0]?).getD 0), true) := by rw [next6, if_pos hany]
  have hne : 0 < l.length := by
    rw [List.any_eq_true] at hany
    obtain ⟨y, hy, _⟩ := hany
    exact List.length_pos_of_mem hy
  refine StopG.rounds wk41 [] [0, 1, 6] (fun m env s => ∃ i : Nat, i ≤ l.length ∧ m = l.length - i ∧ (l.drop i).find? (fun y => decide (y > x)) = l.find? (fun y => decide (y > x)) ∧
    env = [(0, .d (.list 1 (rowsI l))), (1, .d (.int .i64 x)), (6, .d (.int .i64 (i : Int)))] ∧ s = []) rfl ?_ ?_
  · conv => whnf
    exact ⟨_, 0, Nat.zero_le _, rfl, rfl, rfl, rfl⟩
  rintro m env s ⟨i, hi, rfl, hidx, rfl, rfl⟩
  conv => whnf
  refine bcase_intro (fun h => ?_) (fun h => ?_) <;> conv => whnf
  · have h := lt_of h
    rw [hlen] at h
    obtain ⟨y, hy, hdrop⟩ := at_i h
    refine ⟨rowI y, ⟨by omega, row_i hy⟩, ?_⟩
    conv => whnf
    rw [hdrop, List.find?_cons] at hidx
    refine bcase_intro (fun h2 => ?_) (fun h2 => ?_) <;> conv => whnf
    · refine ⟨rowI y, ⟨by omega, row_i hy⟩, ?_⟩
      conv => whnf
      rw [h2] at hidx
      refine ⟨?_, rfl⟩
      rw [hn6, ← hidx]
    · rw [h2] at hidx
      rw [succ_i h (by omega)]
      exact ⟨_, by omega, i + 1, h, rfl, hidx, rfl, rfl⟩
  · have h := ge_of h
    rw [hlen] at h
    obtain ⟨y, hy⟩ := list_has l 0 hne
    refine ⟨rowI y, ⟨by decide, by simp [rowsI, hy]⟩, ?_⟩
    conv => whnf
    rw [List.drop_eq_nil_of_le h] at hidx
    refine ⟨?_, rfl⟩
    rw [hn6, ← hidx, hy]
    rfl
def nextV (l : List Int) (x : Int) : Int := match idxFrom (fun y => x == y) l 0 with
  | .ofNat k => (l[(k + 1) % l.length]?).getD 0
  | .negSucc _ => 0
theorem next20 (l : List Int) (hl : l.length ≤ 1000000) (x : Int) : Contract Try.prog G0 20 [.d (.list 1 (rowsI l)), .d (.int .i64 x)] [] (fun r t => r = .tup [.d (.int .i64 (nextV l x)), .d (.bool (l.any fun y => x == y))] ∧ t = []) := next l hl x
/-- In a set they are the same. -/
theorem next6_inc {l : List Int} (h : IncI l) (x : Int) : nextV l x = (next6 l x).1 ∧ (l.any fun y => x == y) = (next6 l x).2 := by
  have hs : (l.any fun y => x == y) = l.any fun y => y == x := by
    congr 1
    funext y
    exact Bool.eq_iff_iff.2 ⟨fun h => by simpa using (by simpa using h : x = y).symm, fun h => by simpa using (by simpa using h : y = x).symm⟩
  unfold next6 nextV
  rw [hs]
  cases ha : l.any fun y => y == x with
  | false =>
    rw [if_neg (by simp)]
    refine ⟨?_, rfl⟩
    rcases idx_cases0 (fun y => x == y) l with ⟨h1, _⟩ | ⟨k, y, h1, h2, h3⟩
    · rw [h1]; rfl
    · exfalso
      have h4 : (x == y) = true := by simpa using List.find?_some h3
      have h5 := List.any_eq_false.1 ha y (List.mem_of_getElem? h2)
      exact h5 (by simpa using (by simpa using h4 : x = y).symm)
  | true =>
    rw [if_pos rfl]
    refine ⟨?_, rfl⟩
    obtain ⟨y, hy, he⟩ := List.any_eq_true.1 ha
    have he : y = x := by simpa using he
    subst he
    obtain ⟨i, hi, hiy⟩ := List.mem_iff_getElem.1 hy
    have hget : l[i]? = .some y := by rw [List.getElem?_eq_getElem hi, hiy]
    have h1 := idx_nodup l 0 i y (inc_nodup h) hget
    have h1 : idxFrom (fun z => y == z) l 0 = Int.ofNat i := by rw [Nat.zero_add] at h1; exact h1
    rw [h1]
    simp only
    rcases Nat.lt_or_ge (i + 1) l.length with hlt | hge
    · rw [Nat.mod_eq_of_lt hlt]
      have hgt : y < l[i + 1] := by
        have := List.pairwise_iff_getElem.1 h i (i + 1) hi hlt (by omega)
        rwa [hiy] at this
      have hf : (l.find? fun z => decide (z > y)) = some l[i + 1] := by
        rw [List.find?_eq_some_iff_getElem]
        refine ⟨by simpa using hgt, i + 1, hlt, rfl, fun j hj => ?_⟩
        simp only [gt_iff_lt, Bool.not_eq_true', decide_eq_false_iff_not, Int.not_lt]
        rcases Nat.lt_or_ge j i with hji | hji
        · have := List.pairwise_iff_getElem.1 h j i (by omega) hi hji
          rw [hiy] at this
          omega
        · have : j = i := by omega
          subst this
          rw [hiy]
          exact Int.le_refl _
      rw [hf, List.getElem?_eq_getElem hlt]
      rfl
    · have hil : i + 1 = l.length := by omega
      rw [hil, Nat.mod_self]
      have hf : (l.find? fun z => decide (z > y)) = none := by
        rw [List.find?_eq_none]
        intro z hz
        obtain ⟨j, hj, rfl⟩ := List.mem_iff_getElem.1 hz
        simp only [gt_iff_lt, decide_eq_true_eq, Int.not_lt]
        rcases Nat.lt_or_ge j i with hji | hji
        · have := List.pairwise_iff_getElem.1 h j i (by omega) hi hji
          rw [hiy] at this
          omega
        · have : j = i := by omega
          subst this
          rw [hiy]
          exact Int.le_refl _
      rw [hf]
end Go.Proofs.Ytkenimmellonjaa
