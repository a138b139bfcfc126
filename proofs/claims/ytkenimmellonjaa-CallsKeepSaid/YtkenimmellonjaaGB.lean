/- The seat's texts, part 2: what single functions of the program compute; no statement of its own. -/
import Derived.Test.YtkenimmellonjaaGA
import Derived.Test.YtkenimmellonjaaSp
import Derived.Test.YtkenimmellonjaaFrD
import Derived.Deep.RegionHeld3
import Derived.Sort.Grow
import Derived.Tactics
import Derived.LoopN
import Derived.Shelf.SlSortCmp.WholeK
import Derived.Test.YtkenimmellonjaaProg
/- Seat r2: the reference's sets, next; OrderSays. -/
namespace Go.Proofs.Ytkenimmellonjaa
open Go.Pv Go.RowKit Go.Shelf

def set6 (l : List Int) : List Int := l.foldl putI []
theorem putI_mem (l : List Int) (n x : Int) : x ∈ putI l n ↔ x = n ∨ x ∈ l := by
  unfold putI
  split
  · rename_i h
    constructor
    · exact .inr
    · rintro (rfl | h2)
      · exact List.mem_of_getElem? h
      · exact h2
  · rw [List.mem_append, List.mem_cons]
    conv => rhs; rw [← List.take_append_drop (ltN l n) l, List.mem_append]
    constructor
    · rintro (h | h | h)
      · exact .inr (.inl h)
      · exact .inl h
      · exact .inr (.inr h)
    · rintro (h | h | h)
      · exact .inr (.inl h)
      · exact .inl h
      · exact .inr (.inr h)
theorem takeW {p : Int → Bool} {x : Int} : ∀ {l : List Int}, x ∈ l.takeWhile p → p x = true
  | [], h => by simp at h
  | y :: r, h => by
    rw [List.takeWhile_cons] at h
    split at h
    · rename_i hy
      rcases List.mem_cons.1 h with rfl | h
      · exact hy
      · exact takeW h
    · cases h
theorem ltN_take (l : List Int) (n : Int) : ∀ x ∈ l.take (ltN l n), x < n := by
  intro x hx
  have h : l.take (ltN l n) = l.takeWhile fun x => decide (x < n) := by
    unfold ltN
    exact List.prefix_iff_eq_take.1 (List.takeWhile_prefix _) |>.symm
  rw [h] at hx
  exact of_decide_eq_true (takeW hx)
theorem ltN_at (l : List Int) (n : Int) (h : ltN l n < l.length) : n ≤ l[ltN l n] := by
  induction l with
  | nil => simp at h
  | cons x r ih =>
    have e := ltN_cons x r n
    by_cases hx : x < n
    · rw [if_pos hx] at e
      simp only [e] at h ⊢
      simp only [List.length_cons] at h
      have := ih (by omega)
      simpa using this
    · rw [if_neg hx] at e
      simp only [e]
      simp
      omega
theorem putI_inc {l : List Int} (h : IncI l) (n : Int) : IncI (putI l n) := by
  unfold putI
  split
  · exact h
  · rename_i hne
    have h2 : IncI (l.take (ltN l n) ++ l.drop (ltN l n)) := by rw [List.take_append_drop]; exact h
    obtain ⟨q1, q2, q3⟩ := List.pairwise_append.1 h2
    refine List.pairwise_append.2 ⟨q1, List.pairwise_cons.2 ⟨fun y hy => ?_, q2⟩, fun x hx y hy => ?_⟩
    · rcases Nat.lt_or_ge (ltN l n) l.length with hlt | hge
      · have h3 := ltN_at l n hlt
        rw [List.drop_eq_getElem_cons hlt] at hy q2
        have h4 : l[ltN l n] ≠ n := fun e => hne (by rw [List.getElem?_eq_getElem hlt, e])
        rcases List.mem_cons.1 hy with rfl | hy
        · omega
        · have := (List.pairwise_cons.1 q2).1 y hy
          omega
      · rw [List.drop_eq_nil_of_le hge] at hy
        cases hy
    · rcases List.mem_cons.1 hy with rfl | hy
      · exact ltN_take l _ x hx
      · exact q3 x hx y hy
theorem putI_len (l : List Int) (n : Int) : (putI l n).length ≤ l.length + 1 := by
  unfold putI
  have := ltN_le l n
  split
  · omega
  · simp; omega
theorem putI_ne (l : List Int) (n : Int) : putI l n ≠ [] := fun h => by
  have := (putI_mem l n n).2 (.inl rfl)
  rw [h] at this
  cases this
theorem foldPut (l : List Int) : ∀ (acc : List Int), IncI acc → IncI (l.foldl putI acc) ∧ (∀ x, x ∈ l.foldl putI acc ↔ x ∈ acc ∨ x ∈ l) ∧ (l.foldl putI acc).length ≤ acc.length + l.length := by
  induction l with
  | nil => intro acc h; exact ⟨h, fun x => by simp, by simp⟩
  | cons y r ih =>
    intro acc h
    obtain ⟨h1, h2, h3⟩ := ih (putI acc y) (putI_inc h y)
    refine ⟨h1, fun x => ?_, ?_⟩
    · rw [List.foldl_cons, h2, putI_mem, List.mem_cons]
      constructor
      · rintro ((h | h) | h)
        · exact .inr (.inl h)
        · exact .inl h
        · exact .inr (.inr h)
      · rintro (h | h | h)
        · exact .inl (.inr h)
        · exact .inl (.inl h)
        · exact .inr h
    · have := putI_len acc y
      simp only [List.foldl_cons, List.length_cons]
      omega
theorem set6_eq (l : List Int) : set6 l = setI l := by
  obtain ⟨h1, h2, _⟩ := foldPut l [] .nil
  exact inc_eq h1 (setI_inc l) fun x => by rw [show set6 l = l.foldl putI [] from rfl, h2, setI_mem]; simp
theorem set6_len (l : List Int) : (set6 l).length ≤ l.length := by
  have := (foldPut l [] .nil).2.2
  simpa [set6] using this

theorem set40 (l : List Int) (hl : l.length ≤ 10000) : Contract Try.prog G0 40 [.d (.list 1 (rowsI l))] [] (fun r t => r = .d (.list 1 (rowsI (set6 l))) ∧ t = []) := by
  have hlen := rowsI_len l
  refine rung40 0 [] rfl rfl ?_
  conv => whnf
  refine StopG.roundsM wk40 [] [0, 3, 4] (fun m env s => ∃ i : Nat, i ≤ l.length ∧ m = l.length - i ∧
    env = [(0, .d (.list 1 (rowsI l))), (3, .d (.list 1 (rowsI (set6 (l.take i))))), (4, .d (.int .i64 (i : Int)))] ∧ s = []) rfl ?_ ?_
  · refine ⟨_, _, GV.wk 3 1, ?_⟩
    conv => whnf
    exact ⟨_, 0, Nat.zero_le _, rfl, rfl, rfl⟩
  rintro m env s ⟨i, hi, rfl, rfl, rfl⟩
  conv => whnf
  refine bcase_intro (fun h => ?_) (fun h => ?_) <;> conv => whnf
  · have h := lt_of h
    rw [hlen] at h
    obtain ⟨x, hx, hdrop⟩ := at_i h
    refine ⟨rowI x, ⟨by omega, row_i hx⟩, ?_⟩
    conv => whnf
    have h6 := set6_len (l.take i)
    rw [List.length_take] at h6
    refine .data [.d (.list 1 (rowsI (set6 (l.take i)))), .d (.int .i64 x)] _ ⟨WkL.refl _, rfl, put39 _ x (by omega)⟩ ?_
    conv => whnf
    refine ⟨_, _, .refl, ?_⟩
    conv => whnf
    rw [succ_i h (by omega)]
    refine ⟨_, by omega, i + 1, h, rfl, ?_, rfl⟩
    rw [List.take_add_one, hx]
    simp [set6, List.foldl_append]
  · have h := ge_of h
    rw [hlen] at h
    refine ⟨_, _, .refl, ?_⟩
    conv => whnf
    rw [List.take_of_length_le h]
    exact ⟨rfl, rfl⟩

/-- Who comes next in a set, as the reference has it. -/
def next6 (l : List Int) (x : Int) : Int × Bool := if l.any (fun y => y == x) then ((match l.find? fun y => decide (y > x) with
  | some y => y
  | none => (l[0]?).getD 0), true) else (0, false)
theorem next41 (l : List Int) (hl : l.length ≤ 10000) (x : Int) : Contract Try.prog G0 41 [.d (.list 1 (rowsI l)), .d (.int .i64 x)] [] (fun r t => r = .tup [.d (.int .i64 (next6 l x).1), .d (.bool (next6 l x).2)] ∧ t = []) := by
  have hlen := rowsI_len l
  refine run41 0 [] rfl rfl ?_
  conv => whnf
  refine .scal [.d (.list 1 (rowsI l)), .d (.int .i64 x)] _ ⟨.refl _, rfl, among l (by omega) x⟩ ?_
  conv => whnf
  refine bcase_intro (fun h => ?_) (fun h => ?_) <;> conv => whnf
  · refine ⟨?_, rfl⟩
    have h : (l.any fun y => y == x) = false := by simpa using h
    rw [next6, h, if_neg (by simp)]
  have hany : (l.any fun y => y == x) = true := by simpa using h
  have hn6 : next6 l x = ((match l.find? fun y => decide (y > x) with
    | some y => y
    | none => (l[0]?).getD 0), true) := by rw [next6, if_pos hany]
  have hne : 0 < l.length := by
    rw [List.any_eq_true] at hany
    obtain ⟨y, hy, _⟩ := hany
    exact List.length_pos_of_mem hy
  refine StopG.rounds wk41 [] [0, 1, 6] (fun m env s => ∃ i : Nat, i ≤ l.length ∧ m = l.length - i ∧ (l.drop i).find? (fun y => decide (y > x)) = l.find? (fun y => decide (y > x)) ∧
    env = [(0, .d (.list 1 (rowsI l))), (1, .d (.int .i64 x)), (6, .d (.int .i64 (i : Int)))] ∧ s = []) rfl ?_ ?_
  · conv => whnf
    exact ⟨_, 0, Nat.zero_le _, rfl, rfl, rfl, rfl⟩
  rintro m env s ⟨i, hi, rfl, hidx, rfl, rfl⟩
  conv => whnf
  refine bcase_intro (fun h => ?_) (fun h => ?_) <;> conv => whnf
  · have h := lt_of h
    rw [hlen] at h
    obtain ⟨y, hy, hdrop⟩ := at_i h
    refine ⟨rowI y, ⟨by omega, row_i hy⟩, ?_⟩
    conv => whnf
    rw [hdrop, List.find?_cons] at hidx
    refine bcase_intro (fun h2 => ?_) (fun h2 => ?_) <;> conv => whnf
    · refine ⟨rowI y, ⟨by omega, row_i hy⟩, ?_⟩
      conv => whnf
      rw [h2] at hidx
      refine ⟨?_, rfl⟩
      rw [hn6, ← hidx]
    · rw [h2] at hidx
      rw [succ_i h (by omega)]
      exact ⟨_, by omega, i + 1, h, rfl, hidx, rfl, rfl⟩
  · have h := ge_of h
    rw [hlen] at h
    obtain ⟨y, hy⟩ := list_has l 0 hne
    refine ⟨rowI y, ⟨by decide, by simp [rowsI, hy]⟩, ?_⟩
    conv => whnf
    rw [List.drop_eq_nil_of_le h] at hidx
    refine ⟨?_, rfl⟩
    rw [hn6, ← hidx, hy]
    rfl
def nextV (l : List Int) (x : Int) : Int := match idxFrom (fun y => x == y) l 0 with
  | .ofNat k => (l[(k + 1) % l.length]?).getD 0
  | .negSucc _ => 0
theorem next20 (l : List Int) (hl : l.length ≤ 1000000) (x : Int) : Contract Try.prog G0 20 [.d (.list 1 (rowsI l)), .d (.int .i64 x)] [] (fun r t => r = .tup [.d (.int .i64 (nextV l x)), .d (.bool (l.any fun y => x == y))] ∧ t = []) := next l hl x
/-- In a set they are the same. -/
theorem next6_inc {l : List Int} (h : IncI l) (x : Int) : nextV l x = (next6 l x).1 ∧ (l.any fun y => x == y) = (next6 l x).2 := by
  have hs : (l.any fun y => x == y) = l.any fun y => y == x := by
    congr 1
    funext y
    exact Bool.eq_iff_iff.2 ⟨fun h => by simpa using (by simpa using h : x = y).symm, fun h => by simpa using (by simpa using h : y = x).symm⟩
  unfold next6 nextV
  rw [hs]
  cases ha : l.any fun y => y == x with
  | false =>
    rw [if_neg (by simp)]
    refine ⟨?_, rfl⟩
    rcases idx_cases0 (fun y => x == y) l with ⟨h1, _⟩ | ⟨k, y, h1, h2, h3⟩
    · rw [h1]; rfl
    · exfalso
      have h4 : (x == y) = true := by simpa using List.find?_some h3
      have h5 := List.any_eq_false.1 ha y (List.mem_of_getElem? h2)
      exact h5 (by simpa using (by simpa using h4 : x = y).symm)
  | true =>
    rw [if_pos rfl]
    refine ⟨?_, rfl⟩
    obtain ⟨y, hy, he⟩ := List.any_eq_true.1 ha
    have he : y = x := by simpa using he
    subst he
    obtain ⟨i, hi, hiy⟩ := List.mem_iff_getElem.1 hy
    have hget : l[i]? = .some y := by rw [List.getElem?_eq_getElem hi, hiy]
    have h1 := idx_nodup l 0 i y (inc_nodup h) hget
    have h1 : idxFrom (fun z => y == z) l 0 = Int.ofNat i := by rw [Nat.zero_add] at h1; exact h1
    rw [h1]
    simp only
    rcases Nat.lt_or_ge (i + 1) l.length with hlt | hge
    · rw [Nat.mod_eq_of_lt hlt]
      have hgt : y < l[i + 1] := by
        have := List.pairwise_iff_getElem.1 h i (i + 1) hi hlt (by omega)
        rwa [hiy] at this
      have hf : (l.find? fun z => decide (z > y)) = some l[i + 1] := by
        rw [List.find?_eq_some_iff_getElem]
        refine ⟨by simpa using hgt, i + 1, hlt, rfl, fun j hj => ?_⟩
        simp only [gt_iff_lt, Bool.not_eq_true', decide_eq_false_iff_not, Int.not_lt]
        rcases Nat.lt_or_ge j i with hji | hji
        · have := List.pairwise_iff_getElem.1 h j i (by omega) hi hji
          rw [hiy] at this
          omega
        · have : j = i := by omega
          subst this
          rw [hiy]
          exact Int.le_refl _
      rw [hf, List.getElem?_eq_getElem hlt]
      rfl
    · have hil : i + 1 = l.length := by omega
      rw [hil, Nat.mod_self]
      have hf : (l.find? fun z => decide (z > y)) = none := by
        rw [List.find?_eq_none]
        intro z hz
        obtain ⟨j, hj, rfl⟩ := List.mem_iff_getElem.1 hz
        simp only [gt_iff_lt, decide_eq_true_eq, Int.not_lt]
        rcases Nat.lt_or_ge j i with hji | hji
        · have := List.pairwise_iff_getElem.1 h j i (by omega) hi hji
          rw [hiy] at this
          omega
        · have : j = i := by omega
          subst this
          rw [hiy]
          exact Int.le_refl _
      rw [hf]
end Go.Proofs.Ytkenimmellonjaa
/- Seat r2: when a ring is founded. -/
namespace Go.Proofs.Ytkenimmellonjaa
open Go.Pv Go.RowKit Go.Shelf

abbrev cV (car cars : Int) (out any : Bool) (alive ring : List Int) (since fnd : Int) : AV := .agg [.d (.int .i64 car), .d (.int .i64 cars), .d (.bool out), .d (.bool any), .d (.list 1 (rowsI alive)), .d (.list 1 (rowsI ring)), .d (.int .i64 since), .d (.int .i64 fnd)]
def patI (n : Int) : Int := IntKind.i64.wrap (IntKind.i64.wrap (4 * n) + 8)
def membI (l : List Int) (x : Int) : List Int := setI (l ++ [x])
def headI (l : List Int) : Int := (l[0]?).getD 0
def shouldI (car cars : Int) (out any : Bool) (alive ring : List Int) (since fnd : Int) : Bool :=
  bif (bif (bif out then true else !(headI (membI alive car) == car)) then true else decide (fnd ≤ patI cars)) then false else (bif (bif !any then true else !(ring == membI alive car)) then true else decide (since > patI cars))

theorem pat37 (n : Int) : Contract Try.prog G0 37 [.d (.int .i64 n)] [] (fun r t => r = .d (.int .i64 (patI n)) ∧ t = []) := by
  refine run37 0 [] rfl rfl ?_
  conv => whnf
  exact ⟨rfl, rfl⟩
theorem pat38 (n : Int) : Contract Try.prog G0 38 [.d (.int .i64 n)] [] (fun r t => r = .d (.int .i64 (patI n)) ∧ t = []) := by
  refine run38 0 [] rfl rfl ?_
  conv => whnf
  exact ⟨rfl, rfl⟩
theorem membI_eq (l : List Int) (x : Int) : putI (setI l) x = membI l x :=
  inc_eq (putI_inc (setI_inc l) x) (setI_inc _) fun y => by rw [putI_mem, membI, setI_mem, setI_mem, List.mem_append, List.mem_singleton, or_comm]
theorem membI_len (l : List Int) (x : Int) : (membI l x).length ≤ l.length + 1 := by have := setI_len (l ++ [x]); simpa [membI] using this
theorem membI_ne (l : List Int) (x : Int) : 0 < (membI l x).length := List.length_pos_of_mem (a := x) (by rw [membI, setI_mem]; simp)
theorem memb36 (car cars : Int) (out any : Bool) (alive ring : List Int) (since fnd : Int) (hl : alive.length ≤ 1000) : Contract Try.prog G0 36 [cV car cars out any alive ring since fnd] [] (fun r t => r = .d (.list 1 (rowsI (membI alive car))) ∧ t = []) := by
  refine run36 0 [] rfl rfl ?_
  conv => whnf
  refine .data [.d (.list 1 (rowsI alive))] _ ⟨WkL.refl _, rfl, set40 _ (by omega)⟩ ?_
  rw [set6_eq]
  have := setI_len alive
  conv => whnf
  refine .data [.d (.list 1 (rowsI (setI alive))), .d (.int .i64 car)] _ ⟨WkL.refl _, rfl, put39 _ car (by omega)⟩ ?_
  rw [membI_eq]
  conv => whnf
  exact ⟨rfl, rfl⟩
set_option maxRecDepth 100000 in
theorem memb35 (car cars : Int) (out any : Bool) (alive ring : List Int) (since fnd : Int) (hl : alive.length ≤ 1000) : Contract Try.prog G0 35 [cV car cars out any alive ring since fnd] [] (fun r t => r = .d (.list 1 (rowsI (membI alive car))) ∧ t = []) := by
  refine run35 0 [1] rfl rfl ?_
  conv => whnf
  refine StopG.draw wk35 [] sp35_1 [2] (fun env s => env = [(2, .d (.list 1 (rowsI (membI alive car))))] ∧ s = []) rfl rfl (by kernel_rfl) ?_ ?_
  · cases alive with
    | nil =>
      have hso : ∀ cap, Contract Try.prog G0 19 [.slc (.g 0) 1 0 1 cap] [(0, .row 1 [[.int .i64 car]])] (fun r t => r = .d (.list 1 (rowsI (membI [] car))) ∧ t = [(0, .dead)]) := fun cap => set19_own [car] (by simp) cap
      conv => whnf
      repeat' (first
        | (refine Both.mk ?_ ?_ <;> conv => whnf)
        | (refine .obj rfl ?_; (conv => whnf); refine ⟨_, _, ⟨WkL.refl _, clone_nil⟩, fun res s1 h => ?_⟩; obtain ⟨h, rfl⟩ := h; rcases h with rfl | rfl <;> conv => whnf)
        | (refine .obj rfl ?_; (conv => whnf); refine ⟨_, _, ⟨WkL.refl _, hso _⟩, fun res s1 h => ?_⟩; obtain ⟨rfl, rfl⟩ := h; (conv => whnf); exact ⟨rfl, rfl⟩)
        | (refine ⟨⟨show (2 * 1 + 1024) * 8 ≤ 281474976710656 by omega, show 1 ≤ 4611686018427387904 by omega⟩, ?_⟩; (conv => whnf); intro c2 hc2; conv => whnf))
    | cons x r =>
      have hrl := rowsI_len r
      have hl : r.length + 1 ≤ 1000 := by simpa using hl
      have hcl := clone_cons (rowI x) (rowsI r) (by rw [hrl]; omega)
      have hso : ∀ cap, Contract Try.prog G0 19 [.slc (.g 0) 1 0 ((rowsI r).length + 1 + 1) cap] [(0, .row 1 (List.take ((rowsI r).length + 1) (rowI x :: rowsI r) ++ [[.int .i64 car]]))] (fun q t => q = .d (.list 1 (rowsI (membI (x :: r) car))) ∧ t = [(0, .dead)]) := fun cap => by
        have := set19_own (x :: r ++ [car]) (by simp; omega) cap
        have e1 : List.take ((rowsI r).length + 1) (rowI x :: rowsI r) ++ [[DV.int .i64 car]] = rowsI (x :: r ++ [car]) := by
          rw [List.take_of_length_le (by simp)]
          simp [rowsI, rowI]
        have e2 : (rowsI r).length + 1 + 1 = (x :: r ++ [car]).length := by
          rw [hrl]
          simp
        rw [e1, e2]
        exact this
      conv => whnf
      repeat' (first
        | (refine Both.mk ?_ ?_ <;> conv => whnf)
        | (refine .obj rfl ?_; (conv => whnf); refine ⟨_, _, ⟨WkL.refl _, hcl⟩, fun res s1 h => ?_⟩; obtain ⟨cc, hcc, rfl, rfl⟩ := h; conv => whnf)
        | (refine .obj rfl ?_; (conv => whnf); refine ⟨_, _, ⟨WkL.refl _, hso _⟩, fun res s1 h => ?_⟩; obtain ⟨rfl, rfl⟩ := h; (conv => whnf); exact ⟨rfl, rfl⟩)
        | (refine ⟨by simp, ⟨?_, ?_⟩, ?_⟩; (show (2 * ((rowsI r).length + 1 + 1) + 1024) * 8 ≤ 281474976710656; omega); (show (rowsI r).length + 1 + 1 ≤ _; omega); (conv => whnf); intro c2 hc2; conv => whnf))
  · rintro env s ⟨rfl, rfl⟩
    conv => whnf
    exact ⟨rfl, rfl⟩
theorem head_least {l : List Int} (h : IncI l) (hn : 0 < l.length) : leastI l = (headI l, true) := by
  cases l with
  | nil => simp at hn
  | cons x r =>
    have := least_head (l := x :: r) rfl h (fun _ => Iff.rfl) (a := x) rfl
    simp [leastI, headI, this]
theorem membI_inc (l : List Int) (x : Int) : IncI (membI l x) := setI_inc _
theorem least_memb (l : List Int) (x : Int) : leastI (membI l x) = (headI (membI l x), true) := head_least (membI_inc l x) (membI_ne l x)
set_option maxRecDepth 100000 in
theorem should32 (car cars : Int) (out any : Bool) (alive ring : List Int) (since fnd : Int) (hl : alive.length ≤ 1000) (hr : ring.length ≤ 100000) : Contract Try.prog G0 32 [cV car cars out any alive ring since fnd] [] (fun r t => r = .d (.bool (shouldI car cars out any alive ring since fnd)) ∧ t = []) := by
  refine run32 0 [] rfl rfl ?_
  conv => whnf
  refine .data [cV car cars out any alive ring since fnd] _ ⟨WkL.refl _, rfl, memb35 car cars out any alive ring since fnd hl⟩ ?_
  have hml := membI_len alive car
  have hle := least_memb alive car
  have hsh : shouldI car cars out any alive ring since fnd = bif (bif (bif out then true else !(headI (membI alive car) == car)) then true else decide (fnd ≤ patI cars)) then false else (bif (bif !any then true else !(ring == membI alive car)) then true else decide (since > patI cars)) := rfl
  generalize membI alive car = m at hml hle hsh
  conv => whnf
  refine .scal [.d (.list 1 (rowsI m))] _ ⟨.refl _, rfl, least42 m (by omega)⟩ ?_
  rw [hle]
  conv => whnf
  refine .scal [.d (.int .i64 cars)] _ (fun _ => ⟨.refl _, rfl, pat37 cars⟩) ?_
  conv => whnf
  refine bcase_intro (fun h => ?_) (fun h => ?_) <;> conv => whnf
  · refine ⟨rd_bool ?_, rfl⟩
    rw [hsh]
    rw [show (bif (bif (bif out then true else !(headI m == car)) then true else decide (fnd ≤ patI cars)) then false else (bif (bif !any then true else !(ring == m)) then true else decide (since > patI cars))) = false by
      rw [show (bif (bif out then true else !(headI m == car)) then true else decide (fnd ≤ patI cars)) = true from h]; rfl]
  · refine .scal [.d (.list 1 (rowsI ring)), .d (.list 1 (rowsI m))] _ (fun _ => ⟨.refl _, rfl, same22 ring m (by omega)⟩) ?_
    conv => whnf
    refine .scal [.d (.int .i64 cars)] _ (fun _ => ⟨.refl _, rfl, pat37 cars⟩) ?_
    conv => whnf
    refine ⟨rd_bool ?_, rfl⟩
    rw [hsh]
    rw [show (bif (bif out then true else !(headI m == car)) then true else decide (fnd ≤ patI cars)) = false from h]
    rfl
set_option maxRecDepth 100000 in
theorem should33 (car cars : Int) (out any : Bool) (alive ring : List Int) (since fnd : Int) (hl : alive.length ≤ 1000) (hr : ring.length ≤ 100000) : Contract Try.prog G0 33 [cV car cars out any alive ring since fnd] [] (fun r t => r = .d (.bool (shouldI car cars out any alive ring since fnd)) ∧ t = []) := by
  refine run33 0 [] rfl rfl ?_
  conv => whnf
  refine .data [cV car cars out any alive ring since fnd] _ ⟨WkL.refl _, rfl, memb36 car cars out any alive ring since fnd hl⟩ ?_
  have hml := membI_len alive car
  have hne := membI_ne alive car
  have hsh : shouldI car cars out any alive ring since fnd = bif (bif (bif out then true else !(headI (membI alive car) == car)) then true else decide (fnd ≤ patI cars)) then false else (bif (bif !any then true else !(ring == membI alive car)) then true else decide (since > patI cars)) := rfl
  generalize membI alive car = m at hml hne hsh
  conv => whnf
  obtain ⟨x, hx⟩ := list_has m 0 hne
  have hh : headI m = x := by simp [headI, hx]
  refine ⟨rowI x, fun _ => ⟨by decide, by simp [rowsI, hx]⟩, ?_⟩
  rw [← hh]
  conv => whnf
  refine .scal [.d (.int .i64 cars)] _ (fun _ => ⟨.refl _, rfl, pat38 cars⟩) ?_
  conv => whnf
  refine bcase_intro (fun h => ?_) (fun h => ?_) <;> conv => whnf
  · refine ⟨rd_bool ?_, rfl⟩
    rw [hsh]
    rw [show (bif (bif (bif out then true else !(headI m == car)) then true else decide (fnd ≤ patI cars)) then false else (bif (bif !any then true else !(ring == m)) then true else decide (since > patI cars))) = false by
      rw [show (bif (bif out then true else !(headI m == car)) then true else decide (fnd ≤ patI cars)) = true from h]; rfl]
  · refine .scal [.d (.list 1 (rowsI ring)), .d (.list 1 (rowsI m))] _ (fun _ => ⟨.refl _, rfl, sameInts34 ring m (by omega)⟩) ?_
    conv => whnf
    refine .scal [.d (.int .i64 cars)] _ (fun _ => ⟨.refl _, rfl, pat38 cars⟩) ?_
    conv => whnf
    refine ⟨rd_bool ?_, rfl⟩
    rw [hsh]
    rw [show (bif (bif out then true else !(headI m == car)) then true else decide (fnd ≤ patI cars)) = false from h]
    rfl
theorem first31 : Contract Try.prog G0 31 [] [] (fun r t => r = .d (.bool true) ∧ t = []) := by
  refine run31 0 [] rfl rfl ?_
  conv => whnf
  refine .scal [cV 0 0 true false [] [] 0 1000] _ ⟨.a (.s _ (.s _ (.s _ (.s _ (.n 1 (.n 1 (.s _ (.s _ .nil)))))))) .nil, rfl, should32 0 0 true false [] [] 0 1000 (by simp) (by simp)⟩ ?_
  conv => whnf
  refine .scal [.d (.int .i64 1)] _ (fun _ => ⟨.refl _, rfl, pat37 1⟩) ?_
  conv => whnf
  exact ⟨rfl, rfl⟩
set_option maxRecDepth 100000 in
theorem foundSays (car cars : Int) (out any : Bool) (alive ring : List Int) (since fnd : Int) : Contract Try.prog G0 6 [cV car cars out any alive ring since fnd] [] (fun r t => r = .d (.bool true) ∧ t = []) := by
  have hla := rowsI_len alive
  have hlr := rowsI_len ring
  refine run6 0 [] rfl rfl ?_
  conv => whnf
  refine .scal [] _ ⟨.refl _, rfl, first31⟩ ?_
  conv => whnf
  refine bcase_intro (fun h => ?_) (fun h => ?_) <;> conv => whnf
  · exact ⟨rfl, rfl⟩
  have hl : alive.length ≤ 20 ∧ ring.length ≤ 20 := by
    rw [hla, hlr] at h
    rcases Nat.lt_or_ge 20 alive.length with h1 | h1
    · rw [decide_eq_true (show (alive.length : Int) > 20 by omega)] at h
      cases h
    · rcases Nat.lt_or_ge 20 ring.length with h2 | h2
      · rw [decide_eq_true (show (ring.length : Int) > 20 by omega)] at h
        cases hb : decide ((alive.length : Int) > 20) <;> rw [hb] at h <;> cases h
      · exact ⟨h1, h2⟩
  refine .scal [cV car cars out any alive ring since fnd] _ (fun _ => ⟨.refl _, rfl, should32 car cars out any alive ring since fnd (by omega) (by omega)⟩) ?_
  conv => whnf
  refine .scal [cV car cars out any alive ring since fnd] _ (fun _ => ⟨.refl _, rfl, should33 car cars out any alive ring since fnd (by omega) (by omega)⟩) ?_
  conv => whnf
  refine .data [cV car cars out any alive ring since fnd] _ (fun _ => ⟨WkL.refl _, rfl, memb35 car cars out any alive ring since fnd (by omega)⟩) ?_
  conv => whnf
  refine .data [cV car cars out any alive ring since fnd] _ (fun _ => ⟨WkL.refl _, rfl, memb36 car cars out any alive ring since fnd (by omega)⟩) ?_
  conv => whnf
  have := membI_len alive car
  refine .scal [.d (.list 1 (rowsI (membI alive car))), .d (.list 1 (rowsI (membI alive car)))] _ (fun _ => ⟨.refl _, rfl, sameInts34 _ _ (by omega)⟩) ?_
  conv => whnf
  refine .scal [.d (.int .i64 cars)] _ (fun _ => ⟨.refl _, rfl, pat37 cars⟩) ?_
  conv => whnf
  refine .scal [.d (.int .i64 cars)] _ (fun _ => ⟨.refl _, rfl, pat38 cars⟩) ?_
  conv => whnf
  refine ⟨rd_bool ?_, rfl⟩
  simp
end Go.Proofs.Ytkenimmellonjaa
/- Seat r2: the ledger's copies. -/
namespace Go.Proofs.Ytkenimmellonjaa
open Go.Pv Go.RowKit Go.Shelf

structure En where
  fl : Int
  dr : Int
  gn : Int
  bids : List B
  aw : Int
def rowE (e : En) : List DV := [.int .i64 e.fl, .int .i64 e.dr, .int .i64 e.gn, .list 2 (rowsB e.bids), .int .i64 e.aw]
def rowsE (l : List En) : List (List DV) := l.map rowE
theorem rowsE_len (l : List En) : (rowsE l).length = l.length := by simp [rowsE]
theorem rowsB_len (l : List B) : (rowsB l).length = l.length := by simp [rowsB]
theorem cloneD67 (rows : List (List DV)) (hl : rows.length ≤ 100000) : Contract Try.prog G0 67 [.d (.list 1 rows)] [] (fun r t => r = .d (.list 1 rows) ∧ t = []) := by
  refine rung67 0 [] rfl rfl ?_
  cases rows with
  | nil =>
    conv => whnf
    refine ⟨?_, ?_⟩ <;> conv => whnf
    · refine ⟨_, _, GV.wk 2 1, ?_⟩
      conv => whnf
      exact ⟨rfl, rfl⟩
    · refine ⟨⟨by decide, by decide⟩, ?_⟩
      conv => whnf
      refine ⟨_, _, GV.wk 2 1, ?_⟩
      conv => whnf
      exact ⟨rfl, rfl⟩
  | cons r0 rs =>
    have hl : rs.length + 1 ≤ 100000 := by simpa using hl
    conv => whnf
    refine ⟨⟨?_, ?_⟩, ?_⟩
    · show (2 * (rs.length + 1) + 1024) * 8 ≤ 281474976710656; omega
    · show rs.length + 1 ≤ _; omega
    conv => whnf
    intro c hc
    conv => whnf
    refine ⟨_, _, GV.freeze 0 rfl (by simp) (by repeat' first | exact trivial | apply And.intro | decide | (simp; done) | omega) (by repeat' first | exact trivial | apply And.intro), ?_⟩
    conv => whnf
    refine ⟨?_, rfl⟩
    rw [List.drop_zero, List.take_of_length_le (by simp)]
theorem cloneD114 (rows : List (List DV)) (hl : rows.length ≤ 100000) : Contract Try.prog G0 114 [.d (.list 2 rows)] [] (fun r t => r = .d (.list 2 rows) ∧ t = []) := by
  refine rung114 0 [] rfl rfl ?_
  cases rows with
  | nil =>
    conv => whnf
    refine ⟨?_, ?_⟩ <;> conv => whnf
    · refine ⟨_, _, GV.wk 2 2, ?_⟩
      conv => whnf
      exact ⟨rfl, rfl⟩
    · refine ⟨⟨by decide, by decide⟩, ?_⟩
      conv => whnf
      refine ⟨_, _, GV.wk 2 2, ?_⟩
      conv => whnf
      exact ⟨rfl, rfl⟩
  | cons r0 rs =>
    have hl : rs.length + 1 ≤ 100000 := by simpa using hl
    conv => whnf
    refine ⟨⟨?_, ?_⟩, ?_⟩
    · show (2 * (rs.length + 1) + 1024) * 16 ≤ 281474976710656; omega
    · show rs.length + 1 ≤ _; omega
    conv => whnf
    intro c hc
    conv => whnf
    refine ⟨_, _, GV.freeze 0 rfl (by simp) (by repeat' first | exact trivial | apply And.intro | decide | (simp; done) | omega) (by repeat' first | exact trivial | apply And.intro), ?_⟩
    conv => whnf
    refine ⟨?_, rfl⟩
    rw [List.drop_zero, List.take_of_length_le (by simp)]
theorem clone113_nil : Contract Try.prog G0 113 [.d (.list 5 [])] [] (fun r t => (r = .d .nil ∨ r = .d .emp) ∧ t = []) := by
  refine run113 0 [] rfl rfl ?_
  conv => whnf
  refine ⟨?_, ?_⟩ <;> conv => whnf
  · exact ⟨.inl rfl, rfl⟩
  · refine ⟨⟨by decide, by decide⟩, ?_⟩
    conv => whnf
    exact ⟨.inr rfl, rfl⟩
theorem clone113_cons (r0 : List DV) (rs : List (List DV)) (hl : rs.length ≤ 100000) : Contract Try.prog G0 113 [.d (.list 5 (r0 :: rs))] [] (fun r t => ∃ c, rs.length + 1 ≤ c ∧ r = .slc (.g 0) 5 0 (rs.length + 1) c ∧ t = [(0, .row 5 (r0 :: rs))]) := by
  refine run113 0 [] rfl rfl ?_
  conv => whnf
  refine ⟨⟨?_, ?_⟩, ?_⟩
  · show (2 * (rs.length + 1) + 1024) * 56 ≤ 281474976710656; omega
  · show rs.length + 1 ≤ _; omega
  conv => whnf
  intro c hc
  conv => whnf
  exact ⟨c, hc, rfl, rfl⟩
theorem entries_nil : Contract Try.prog G0 83 [.d (.list 5 [])] [] (fun r t => (r = .d .nil ∨ r = .d .emp) ∧ t = []) := by
  refine run83 0 [] rfl rfl ?_
  conv => whnf
  refine .obj rfl ?_
  conv => whnf
  refine ⟨_, _, ⟨WkL.refl _, clone113_nil⟩, fun res s1 h => ?_⟩
  obtain ⟨h, rfl⟩ := h
  rcases h with rfl | rfl
  · conv => whnf
    refine StopG.rounds wk83 [] [0, 3, 8, 9] (fun m env s => m = 0 ∧ env = [(0, .d (.list 5 [])), (3, .d .nil), (8, .d (.int .i64 0)), (9, .d (.int .i64 0))] ∧ s = []) rfl ?_ ?_
    · conv => whnf
      exact ⟨_, rfl, rfl, rfl⟩
    rintro m env s ⟨rfl, rfl, rfl⟩
    conv => whnf
    exact ⟨by simp, rfl⟩
  · conv => whnf
    refine StopG.rounds wk83 [] [0, 3, 8, 9] (fun m env s => m = 0 ∧ env = [(0, .d (.list 5 [])), (3, .d .emp), (8, .d (.int .i64 0)), (9, .d (.int .i64 0))] ∧ s = []) rfl ?_ ?_
    · conv => whnf
      exact ⟨_, rfl, rfl, rfl⟩
    rintro m env s ⟨rfl, rfl, rfl⟩
    conv => whnf
    exact ⟨by simp, rfl⟩
theorem entries_cons (e0 : En) (l0 : List En) (hl : l0.length ≤ 1000) (hb : ∀ e ∈ e0 :: l0, e.bids.length ≤ 100000) : Contract Try.prog G0 83 [.d (.list 5 (rowsE (e0 :: l0)))] [] (fun r t => ∃ c, l0.length + 1 ≤ c ∧ r = .slc (.g 0) 5 0 (l0.length + 1) c ∧ t = [(0, .row 5 (rowsE (e0 :: l0)))]) := by
  have hcl := clone113_cons (rowE e0) (rowsE l0) (by rw [rowsE_len]; omega)
  rw [rowsE_len] at hcl
  refine run83 0 [] rfl rfl ?_
  conv => whnf
  refine .obj rfl ?_
  conv => whnf
  refine ⟨_, _, ⟨WkL.refl _, hcl⟩, fun res s1 h => ?_⟩
  obtain ⟨c, hc, rfl, rfl⟩ := h
  conv => whnf
  rw [show rowE e0 :: rowsE l0 = rowsE (e0 :: l0) from rfl]
  generalize hle : e0 :: l0 = l at hb
  have hll : l.length = l0.length + 1 := by rw [← hle]; rfl
  rw [← hll] at hc ⊢
  have hlen := rowsE_len l
  refine StopG.rounds wk83 [] [3, 8, 9] (fun m env s => ∃ i : Nat, i ≤ l.length ∧ m = l.length - i ∧ env = [(3, .slc (.g 0) 5 0 l.length c), (8, .d (.int .i64 (l.length : Int))), (9, .d (.int .i64 (i : Int)))] ∧ s = [(0, .row 5 (rowsE l))]) rfl ?_ ?_
  · conv => whnf
    exact ⟨_, 0, Nat.zero_le _, rfl, rfl, rfl⟩
  rintro m env s ⟨i, hi, rfl, rfl, rfl⟩
  conv => whnf
  refine bcase_intro (fun h => ?_) (fun h => ?_) <;> conv => whnf
  · have h := lt_of h
    obtain ⟨x, hx, hdrop⟩ := at_i h
    refine ⟨⟨by omega, by omega⟩, ?_⟩
    conv => whnf
    refine ⟨rowE x, row_g hx, rfl, ?_⟩
    conv => whnf
    have hxb := hb x (List.mem_of_getElem? hx)
    refine .data [.d (.list 2 (rowsB x.bids))] _ ⟨WkL.refl _, rfl, cloneD114 _ (by rw [rowsB_len]; exact hxb)⟩ ?_
    conv => whnf
    refine ⟨⟨by omega, by omega⟩, ?_⟩
    conv => whnf
    refine ⟨rowE x, row_g hx, ?_⟩
    conv => whnf
    rw [succ_i h (by omega)]
    refine ⟨_, by omega, i + 1, h, rfl, rfl, ?_⟩
    refine congrArg (fun q => [(0, AB.row 5 q)]) ?_
    rw [show setN (rowE x) 3 [DV.list 2 (rowsB x.bids)] = rowE x from rfl]
    exact (set_row x).trans (by rw [set_same hx]; rfl)
  · exact ⟨c, hc, rfl, rfl⟩
/-- A ring. -/
structure Rg where
  cnt : Int
  fdr : Int
  hop : Int
  mem : List Int
  ents : List En
abbrev rgV (cnt fdr hop : Int) (mem : List Int) (en : AV) : AV := .agg [.d (.int .i64 cnt), .d (.int .i64 fdr), .d (.int .i64 hop), .d (.list 1 (rowsI mem)), en]
theorem own_nil0 (cnt fdr hop : Int) (mem : List Int) (hm : mem.length ≤ 100000) : Contract Try.prog G0 80 [rgV cnt fdr hop mem (.d (.list 5 []))] [] (fun r t => (r = rgV cnt fdr hop mem (.d .nil) ∨ r = rgV cnt fdr hop mem (.d .emp)) ∧ t = []) := by
  refine run80 0 [] rfl rfl ?_
  conv => whnf
  refine .data [.d (.list 1 (rowsI mem))] _ ⟨WkL.refl _, rfl, cloneD67 _ (by rw [rowsI_len]; exact hm)⟩ ?_
  conv => whnf
  refine .obj rfl ?_
  conv => whnf
  refine ⟨_, _, ⟨WkL.refl _, entries_nil⟩, fun res s1 h => ?_⟩
  obtain ⟨h, rfl⟩ := h
  rcases h with rfl | rfl
  · conv => whnf
    exact ⟨.inl rfl, rfl⟩
  · conv => whnf
    exact ⟨.inr rfl, rfl⟩
theorem own_nil (cnt fdr hop : Int) (mem : List Int) (hm : mem.length ≤ 100000) : Contract Try.prog G0 80 [rgV cnt fdr hop mem (.d (.list 5 []))] [] (fun r t => r = rgV cnt fdr hop mem (.d (.list 5 [])) ∧ t = []) :=
  (own_nil0 cnt fdr hop mem hm).weak 5 fun r t h => by
    obtain ⟨h | h, rfl⟩ := h <;> subst h <;> exact ⟨rfl, rfl, rfl, rfl⟩
theorem own_cons (cnt fdr hop : Int) (mem : List Int) (hm : mem.length ≤ 100000) (e0 : En) (l0 : List En) (hl : l0.length ≤ 1000) (hb : ∀ e ∈ e0 :: l0, e.bids.length ≤ 100000) :
    Contract Try.prog G0 80 [rgV cnt fdr hop mem (.d (.list 5 (rowsE (e0 :: l0))))] [] (fun r t => ∃ c, l0.length + 1 ≤ c ∧ r = rgV cnt fdr hop mem (.slc (.g 0) 5 0 (l0.length + 1) c) ∧ t = [(0, .row 5 (rowsE (e0 :: l0)))]) := by
  refine run80 0 [] rfl rfl ?_
  conv => whnf
  refine .data [.d (.list 1 (rowsI mem))] _ ⟨WkL.refl _, rfl, cloneD67 _ (by rw [rowsI_len]; exact hm)⟩ ?_
  conv => whnf
  refine .obj rfl ?_
  conv => whnf
  refine ⟨_, _, ⟨WkL.refl _, entries_cons e0 l0 hl hb⟩, fun res s1 h => ?_⟩
  obtain ⟨c, hc, rfl, rfl⟩ := h
  conv => whnf
  exact ⟨c, hc, rfl, rfl⟩
/-- As data. -/
theorem entriesD (l : List En) (hl : l.length ≤ 1000) (hb : ∀ e ∈ l, e.bids.length ≤ 100000) : Contract Try.prog G0 83 [.d (.list 5 (rowsE l))] [] (fun r t => r = .d (.list 5 (rowsE l)) ∧ t = []) := by
  cases l with
  | nil => exact Contract.as_list (by decide) (entries_nil.mono fun r t ⟨h1, h2⟩ => .inl ⟨h1, rfl, h2⟩)
  | cons e0 l0 =>
    refine Contract.as_list (by decide) ((entries_cons e0 l0 (by simp at hl; omega) hb).mono fun r t ⟨c, h1, h2, h3⟩ => .inr ⟨c, ?_, ?_, h3⟩)
    · rw [rowsE_len]; simpa using h1
    · rw [rowsE_len]; exact h2
/-- Of a list of one's own that is wanted no more. -/
theorem entriesO (l : List En) (hl : l.length ≤ 1000) (hb : ∀ e ∈ l, e.bids.length ≤ 100000) (cap : Nat) : Contract Try.prog G0 83 [.slc (.g 0) 5 0 l.length cap] [(0, .row 5 (rowsE l))] (fun r t => r = .d (.list 5 (rowsE l)) ∧ t = [(0, .dead)]) := by
  have h0 := entriesD l hl hb
  have e : fzL 0 (AB.row 5 (rowsE l)) [.slc (.g 0) 5 0 l.length cap] = [.d (.list 5 ((List.drop 0 (rowsE l)).take l.length))] := rfl
  refine Contract.frz (by simp) ⟨⟨by decide, by rw [rowsE_len]; omega⟩, trivial⟩ rfl ?_
  rw [e, List.drop_zero, List.take_of_length_le (by rw [rowsE_len]; exact Nat.le_refl _)]
  exact h0
def wonE (ms : List Int) (e : En) : Bool := bif bif decide (e.aw < 0) then (leastB e.bids).2 else false then fullB ms e.bids else false
def awE (ms : List Int) (e : En) : En := if wonE ms e then ⟨e.fl, e.dr, e.gn, e.bids, (leastB e.bids).1.1⟩ else e
/-- What is awarded, of some. -/
def wonL (ms : List Int) (l : List En) : List En := (l.filter (wonE ms)).map (awE ms)
abbrev awG (cnt fdr hop : Int) (mem : List Int) (l : List En) : AV := rgV cnt fdr hop mem (.d (.list 5 (rowsE l)))
set_option maxRecDepth 100000 in
theorem award_nil (cnt fdr hop : Int) (mem : List Int) (hm : mem.length ≤ 100000) : Contract Try.prog G0 49 [awG cnt fdr hop mem []] [] (fun r t => r = .tup [awG cnt fdr hop mem [], .d (.list 5 [])] ∧ t = []) := by
  refine run49 0 [] rfl rfl ?_
  conv => whnf
  refine .obj rfl ?_
  conv => whnf
  refine ⟨_, _, ⟨WkL.refl _, own_nil cnt fdr hop mem hm⟩, fun res s1 h => ?_⟩
  obtain ⟨rfl, rfl⟩ := h
  conv => whnf
  refine StopG.rounds wk49 [] [1, 2, 4, 13, 14] (fun m env s => m = 0 ∧ env = [(1, .ref (.g 0) 0), (2, .ref (.g 1) 0), (4, .d .nil), (13, .d (.int .i64 0)), (14, .d (.int .i64 0))] ∧ s = [(0, .cells [.d (.int .i64 cnt), .d (.int .i64 fdr), .d (.int .i64 hop), .d (.list 1 (rowsI mem)), .d (.list 5 [])]), (1, .cells [.d (.int .i64 0), .d (.int .i64 0), .d (.int .i64 0), .d .nil, .d .nil])]) rfl ?_ ?_
  · conv => whnf
    exact ⟨_, rfl, rfl, rfl⟩
  rintro m env s ⟨rfl, rfl, rfl⟩
  conv => whnf
  refine .data [.d (.list 5 [])] _ ⟨.n 5 .nil, rfl, entriesD [] (by simp) (by simp)⟩ ?_
  conv => whnf
  exact ⟨rfl, rfl⟩
end Go.Proofs.Ytkenimmellonjaa
/- Seat r2: what is awarded. -/
namespace Go.Proofs.Ytkenimmellonjaa
open Go.Pv Go.RowKit Go.Shelf
theorem mid_at {l : List En} {ms : List Int} {i : Nat} {x : En} (hx : l[i]? = some x) : ((l.take i).map (awE ms) ++ l.drop i)[i]? = some x := by
  have hi : i < l.length := (List.getElem?_eq_some_iff.1 hx).1
  rw [List.getElem?_append_right (by simp; omega)]
  simp only [List.length_map, List.length_take, Nat.min_eq_left (Nat.le_of_lt hi), Nat.sub_self, List.getElem?_drop, Nat.add_zero]
  exact hx
theorem mid_set {l : List En} {ms : List Int} {i : Nat} {x : En} (hx : l[i]? = some x) : ((l.take i).map (awE ms) ++ l.drop i).set i (awE ms x) = (l.take (i + 1)).map (awE ms) ++ l.drop (i + 1) := by
  have hi : i < l.length := (List.getElem?_eq_some_iff.1 hx).1
  rw [List.set_append_right _ _ (by simp; omega), List.take_add_one, hx]
  simp only [List.length_map, List.length_take, Nat.min_eq_left (Nat.le_of_lt hi), Nat.sub_self, List.map_append]
  have : l.drop i = x :: l.drop (i + 1) := by
    obtain ⟨y, h1, h2⟩ := at_i hi
    rw [hx] at h1; cases h1; exact h2
  rw [this]
  simp
theorem wonL_snoc {l : List En} {ms : List Int} {i : Nat} {x : En} (hx : l[i]? = some x) : wonL ms (l.take (i + 1)) = wonL ms (l.take i) ++ (match wonE ms x with | true => [awE ms x] | false => []) := by
  rw [List.take_add_one, hx]
  simp only [wonL, List.filter_append, List.map_append, Option.toList]
  cases h : wonE ms x <;> simp [h]
theorem awE_won {ms : List Int} {x : En} (h : wonE ms x = true) : setN (rowE x) 4 [DV.int .i64 (leastB x.bids).1.1] = rowE (awE ms x) := by
  rw [awE, if_pos h]; rfl
theorem awE_not {ms : List Int} {x : En} (h : wonE ms x = false) : awE ms x = x := by
  rw [awE, if_neg (by simp [h])]
theorem set_get {α : Type} {row : α → List DV} {l : List α} {i : Nat} {y x : α} (h : l[i]? = some x) : ((l.map row).set (0 + (i : Int).toNat) (row y))[0 + (i : Int).toNat]? = some (row y) := by
  rw [set_row]
  refine row_g ?_
  rw [List.getElem?_set]
  simp [(List.getElem?_eq_some_iff.1 h).1]
set_option maxRecDepth 100000 in
theorem award_cons (cnt fdr hop : Int) (mem : List Int) (hm : mem.length ≤ 100000) (e0 : En) (l0 : List En) (hl : l0.length + 1 ≤ 1000) (hb : ∀ e ∈ e0 :: l0, e.bids.length ≤ 100000) : Contract Try.prog G0 49 [awG cnt fdr hop mem (e0 :: l0)] [] (fun r t => ∃ c, l0.length + 1 ≤ c ∧ r = .tup [rgV cnt fdr hop mem (.slc (.g 0) 5 0 (l0.length + 1) c), .d (.list 5 (rowsE (wonL mem (e0 :: l0))))] ∧ t = [(0, .row 5 (rowsE ((e0 :: l0).map (awE mem))))]) := by
  refine run49 0 [] rfl rfl ?_
  conv => whnf
  refine .obj rfl ?_
  conv => whnf
  refine ⟨_, _, ⟨WkL.refl _, own_cons cnt fdr hop mem hm e0 l0 (by omega) hb⟩, fun res s1 h => ?_⟩
  obtain ⟨c, hc, rfl, rfl⟩ := h
  conv => whnf
  generalize hle : e0 :: l0 = l at hb
  have hll : l.length = l0.length + 1 := by rw [← hle]; rfl
  rw [← hll] at hc ⊢
  refine StopG.roundsS wk49 [] [1, 2, 4, 13, 14] (fun m env s => ∃ i : Nat, ∃ w, wonL mem (l.take i) = w ∧ i ≤ l.length ∧ m = l.length - i ∧ ((w = [] ∧ env = [(1, .ref (.g 0) 0), (2, .ref (.g 1) 0), (4, .d .nil), (13, .d (.int .i64 (l.length : Int))), (14, .d (.int .i64 (i : Int)))] ∧ s = [(0, .cells [.d (.int .i64 cnt), .d (.int .i64 fdr), .d (.int .i64 hop), .d (.list 1 (rowsI mem)), .slc (.g 2) 5 0 l.length c]), (1, .cells [.d (.int .i64 0), .d (.int .i64 0), .d (.int .i64 0), .d .nil, .d .nil]), (2, .row 5 (rowsE ((l.take i).map (awE mem) ++ l.drop i)))]) ∨ ∃ wc, w.length ≤ wc ∧ env = [(1, .ref (.g 0) 0), (2, .ref (.g 1) 0), (4, .slc (.g 2) 5 0 w.length wc), (13, .d (.int .i64 (l.length : Int))), (14, .d (.int .i64 (i : Int)))] ∧ s = [(0, .cells [.d (.int .i64 cnt), .d (.int .i64 fdr), .d (.int .i64 hop), .d (.list 1 (rowsI mem)), .slc (.g 3) 5 0 l.length c]), (1, .cells [.d (.int .i64 0), .d (.int .i64 0), .d (.int .i64 0), .d .nil, .d .nil]), (2, .row 5 (rowsE w)), (3, .row 5 (rowsE ((l.take i).map (awE mem) ++ l.drop i)))])) rfl ?_ ?_
  · conv => whnf
    exact ⟨_, 0, [], rfl, Nat.zero_le _, rfl, .inl ⟨rfl, rfl, rfl⟩⟩
  rintro m env s ⟨i, w, hw, hi, rfl, hout⟩
  rcases Nat.lt_or_ge i l.length with hil | hil
  · rcases hout with ⟨rfl, rfl, rfl⟩ | ⟨wc, hwc, rfl, rfl⟩
    · refine .go wk49 [] ?_
      conv => whnf
      refine bcase_intro (fun h => ?_) (fun h => ?_) <;> conv => whnf
      · refine ⟨⟨by omega, by omega⟩, ?_⟩
        conv => whnf
        obtain ⟨x, hx, hdrop⟩ := at_i hil
        have hrow := row_g (row := rowE) (mid_at (ms := mem) hx)
        have hxb := hb x (List.mem_of_getElem? hx)
        refine ⟨rowE x, hrow, rfl, ?_⟩
        conv => whnf
        refine .data [.d (.list 2 (rowsB x.bids))] _ ⟨WkL.refl _, rfl, least x.bids (by omega)⟩ ?_
        conv => whnf
        refine ⟨rowE x, hrow, rfl, ?_⟩
        conv => whnf
        refine ⟨rowE x, fun _ => hrow, rfl, ?_⟩
        conv => whnf
        refine .scal [.d (.list 1 (rowsI mem)), .d (.list 2 (rowsB x.bids))] _ (fun _ => ⟨.refl _, rfl, full mem (by omega) x.bids (by omega)⟩) ?_
        conv => whnf
        refine bcase_intro (fun hg => ?_) (fun hg => ?_) <;> conv => whnf
        · have hwon : wonE mem x = true := hg
          have e4 := awE_won hwon
          refine ⟨rowE x, hrow, ?_⟩
          conv => whnf
          refine ⟨rowE (awE mem x), (by rw [show (fun x_1 => DV.int IntKind.i64 (leastB x.bids).fst.fst :: x_1) [] = [DV.int .i64 (leastB x.bids).1.1] from rfl, e4]; exact set_get (mid_at hx)), rfl, ?_⟩
          rw [show (fun x_1 => DV.int IntKind.i64 (leastB x.bids).fst.fst :: x_1) [] = [DV.int .i64 (leastB x.bids).1.1] from rfl, e4]
          conv => whnf
          refine ⟨⟨?_, ?_⟩, ?_⟩
          · show (2 * 1 + 1024) * 56 ≤ 281474976710656; omega
          · show 1 ≤ _; omega
          conv => whnf
          intro c2 hc2
          conv => whnf
          rw [succ_i hil (by omega)]
          refine ⟨_, by omega, i + 1, [awE mem x], ?_, hil, rfl, .inr ⟨c2, hc2, rfl, ?_⟩⟩
          · rw [wonL_snoc hx, hw, hwon]; rfl
          · rw [← mid_set hx]
            exact congrArg (fun q => [(0, .cells [.d (.int .i64 cnt), .d (.int .i64 fdr), .d (.int .i64 hop), .d (.list 1 (rowsI mem)), .slc (.g 3) 5 0 l.length c]), (1, .cells [.d (.int .i64 0), .d (.int .i64 0), .d (.int .i64 0), .d .nil, .d .nil]), (2, .row 5 [rowE (awE mem x)]), (3, AB.row 5 q)]) (set_row (awE mem x))
        · have hwon : wonE mem x = false := hg
          rw [succ_i hil (by omega)]
          refine ⟨_, by omega, i + 1, [], ?_, hil, rfl, .inl ⟨rfl, rfl, ?_⟩⟩
          · rw [wonL_snoc hx, hw, hwon]; rfl
          · rw [← mid_set hx, awE_not hwon, set_same (mid_at hx)]
      · exact absurd hil (Nat.not_lt.2 (ge_of h))
    · refine .go wk49 [] ?_
      conv => whnf
      refine bcase_intro (fun h => ?_) (fun h => ?_) <;> conv => whnf
      · refine ⟨⟨by omega, by omega⟩, ?_⟩
        conv => whnf
        obtain ⟨x, hx, hdrop⟩ := at_i hil
        have hrow := row_g (row := rowE) (mid_at (ms := mem) hx)
        have hxb := hb x (List.mem_of_getElem? hx)
        refine ⟨rowE x, hrow, rfl, ?_⟩
        conv => whnf
        refine .data [.d (.list 2 (rowsB x.bids))] _ ⟨WkL.refl _, rfl, least x.bids (by omega)⟩ ?_
        conv => whnf
        refine ⟨rowE x, hrow, rfl, ?_⟩
        conv => whnf
        refine ⟨rowE x, fun _ => hrow, rfl, ?_⟩
        conv => whnf
        refine .scal [.d (.list 1 (rowsI mem)), .d (.list 2 (rowsB x.bids))] _ (fun _ => ⟨.refl _, rfl, full mem (by omega) x.bids (by omega)⟩) ?_
        conv => whnf
        refine bcase_intro (fun hg => ?_) (fun hg => ?_) <;> conv => whnf
        · have hwon : wonE mem x = true := hg
          have e4 := awE_won hwon
          refine ⟨rowE x, hrow, ?_⟩
          conv => whnf
          refine ⟨rowE (awE mem x), (by rw [show (fun x_1 => DV.int IntKind.i64 (leastB x.bids).fst.fst :: x_1) [] = [DV.int .i64 (leastB x.bids).1.1] from rfl, e4]; exact set_get (mid_at hx)), rfl, ?_⟩
          rw [show (fun x_1 => DV.int IntKind.i64 (leastB x.bids).fst.fst :: x_1) [] = [DV.int .i64 (leastB x.bids).1.1] from rfl, e4]
          conv => whnf
          have hwl : w.length ≤ 1001 := by
            rw [← hw]
            refine Nat.le_trans ?_ (show l.length ≤ 1001 by omega)
            rw [wonL, List.length_map]
            exact Nat.le_trans (List.length_filter_le _ _) (by simp; omega)
          have hrl := rowsE_len w
          refine ⟨by omega, ⟨?_, ?_⟩, ?_⟩
          · show (2 * (w.length + 1) + 1024) * 56 ≤ 281474976710656; omega
          · show w.length + 1 ≤ _; omega
          conv => whnf
          intro c2 hc2
          conv => whnf
          rw [succ_i hil (by omega), List.take_of_length_le (by omega)]
          refine ⟨_, by omega, i + 1, w ++ [awE mem x], ?_, hil, rfl, .inr ⟨c2, by simpa using hc2, ?_, ?_⟩⟩
          · rw [wonL_snoc hx, hw, hwon]
          · rw [List.length_append]; rfl
          · rw [← mid_set hx, show rowsE (w ++ [awE mem x]) = rowsE w ++ [rowE (awE mem x)] by simp [rowsE]]
            exact congrArg (fun q => [(0, .cells [.d (.int .i64 cnt), .d (.int .i64 fdr), .d (.int .i64 hop), .d (.list 1 (rowsI mem)), .slc (.g 3) 5 0 l.length c]), (1, .cells [.d (.int .i64 0), .d (.int .i64 0), .d (.int .i64 0), .d .nil, .d .nil]), (2, .row 5 (rowsE w ++ [rowE (awE mem x)])), (3, AB.row 5 q)]) (set_row (awE mem x))
        · have hwon : wonE mem x = false := hg
          rw [succ_i hil (by omega)]
          refine ⟨_, by omega, i + 1, w, ?_, hil, rfl, .inr ⟨wc, hwc, rfl, ?_⟩⟩
          · rw [wonL_snoc hx, hw, hwon, List.append_nil]
          · rw [← mid_set hx, awE_not hwon, set_same (mid_at hx)]
      · exact absurd hil (Nat.not_lt.2 (ge_of h))
  · refine .ghost (env' := [(1, .ref (.g 0) 0), (2, .ref (.g 1) 0), (4, .d (.list 5 (rowsE w))), (13, .d (.int .i64 (l.length : Int))), (14, .d (.int .i64 (i : Int)))]) (s' := [(0, .cells [.d (.int .i64 cnt), .d (.int .i64 fdr), .d (.int .i64 hop), .d (.list 1 (rowsI mem)), .slc (.g 2) 5 0 l.length c]), (1, .cells [.d (.int .i64 0), .d (.int .i64 0), .d (.int .i64 0), .d .nil, .d .nil]), (2, .row 5 (rowsE (l.map (awE mem))))]) ?_ (.go wk49 [] ?_)
    · have hil2 : i = l.length := by omega
      subst hil2
      have hrl := rowsE_len w
      rcases hout with ⟨rfl, rfl, rfl⟩ | ⟨wc, hwc, rfl, rfl⟩
      · rw [List.take_length, List.drop_length, List.append_nil]
        exact GV.wk 4 5
      · rw [List.take_length, List.drop_length, List.append_nil]
        refine GV.trans (GV.freeze 2 rfl (by simp) (by repeat' first | exact trivial | apply And.intro | decide | (simp; done) | omega) (by repeat' first | exact trivial | apply And.intro)) (GV.tidied [1, 2, 4, 13, 14] ?_)
        conv => whnf
        rw [List.drop_zero, List.take_of_length_le (by omega)]
        exact ⟨rfl, rfl⟩
    conv => whnf
    refine bcase_intro (fun h => ?_) (fun h => ?_) <;> conv => whnf
    · exact absurd (lt_of h) (Nat.not_lt.2 hil)
    have hil2 : i = l.length := by omega
    have hwb : ∀ e ∈ w, e.bids.length ≤ 100000 := by
      intro e he
      rw [← hw] at he
      obtain ⟨y, hy, rfl⟩ := List.mem_map.1 he
      have h1 := hb y (List.mem_of_mem_take (List.mem_filter.1 hy).1)
      rw [awE]; split <;> exact h1
    have hwl : w.length ≤ 1000 := by
      rw [← hw, wonL, List.length_map]
      refine Nat.le_trans (List.length_filter_le _ _) ?_
      simp; omega
    refine .data [.d (.list 5 (rowsE w))] _ ⟨WkL.refl _, rfl, entriesD w hwl hwb⟩ ?_
    conv => whnf
    rw [hil2, List.take_length] at hw
    exact ⟨c, hc, by rw [hw], rfl⟩
/-- As data. -/
theorem award (cnt fdr hop : Int) (mem : List Int) (hm : mem.length ≤ 100000) (l : List En) (hl : l.length ≤ 1000) (hb : ∀ e ∈ l, e.bids.length ≤ 100000) : Contract Try.prog G0 49 [awG cnt fdr hop mem l] [] (fun r t => r = .tup [awG cnt fdr hop mem (l.map (awE mem)), .d (.list 5 (rowsE (wonL mem l)))] ∧ t = []) := by
  cases l with
  | nil => exact award_nil cnt fdr hop mem hm
  | cons e0 l0 =>
    refine (award_cons cnt fdr hop mem hm e0 l0 (by simpa using hl) hb).told fun r t hr => ?_
    obtain ⟨c, hc, rfl, rfl⟩ := hr
    refine ⟨.tup [awG cnt fdr hop mem ((e0 :: l0).map (awE mem)), .d (.list 5 (rowsE (wonL mem (e0 :: l0))))], ?_, rfl, rfl, rfl⟩
    have hrl := rowsE_len ((e0 :: l0).map (awE mem))
    have hrl2 : ((e0 :: l0).map (awE mem)).length = l0.length + 1 := by simp
    refine GV.trans (GV.freeze 0 rfl (by simp) (by repeat' first | exact trivial | apply And.intro | decide | (simp; done) | omega) (by repeat' first | exact trivial | apply And.intro)) (GV.tidied [0] ?_)
    conv => whnf
    rw [List.drop_zero, List.take_of_length_le (by omega)]
    exact ⟨rfl, rfl⟩
end Go.Proofs.Ytkenimmellonjaa
/- Seat r2: whose it is. -/
namespace Go.Proofs.Ytkenimmellonjaa
open Go.Pv Go.RowKit Go.Shelf
/-- The latch of an entry. -/
def rowK (e : Int × Int × Int) : List DV := [.int .i64 e.1, .int .i64 e.2.1, .int .i64 e.2.2]
def rowsK (l : List (Int × Int × Int)) : List (List DV) := l.map rowK
theorem rowsK_len (l : List (Int × Int × Int)) : (rowsK l).length = l.length := by simp [rowsK]
def keyE (e : En) : Int × Int × Int := (e.fl, e.dr, e.gn)
def hisE (who : Int) (e : En) : Bool := bif decide (0 ≤ e.aw) then decide (e.aw = who) else false
def mineL (who : Int) (l : List En) : List (Int × Int × Int) := (l.filter (hisE who)).map keyE
theorem mineL_snoc {l : List En} {who : Int} {i : Nat} {x : En} (hx : l[i]? = some x) : mineL who (l.take (i + 1)) = mineL who (l.take i) ++ (match hisE who x with | true => [keyE x] | false => []) := by
  rw [List.take_add_one, hx]
  simp only [mineL, List.filter_append, List.map_append, Option.toList]
  cases h : hisE who x <;> simp [h]
theorem mineL_len (who : Int) (l : List En) : (mineL who l).length ≤ l.length := by
  rw [mineL, List.length_map]; exact List.length_filter_le _ _
set_option maxRecDepth 100000 in
theorem mine (cnt fdr hop : Int) (mem : List Int) (l : List En) (hl : l.length ≤ 1000) (who : Int) : Contract Try.prog G0 50 [awG cnt fdr hop mem l, .d (.int .i64 who)] [] (fun r t => r = .d (.list 3 (rowsK (mineL who l))) ∧ t = []) := by
  have hlen := rowsE_len l
  refine Contract.as_list (by decide) ?_
  refine run50 0 [] rfl rfl ?_
  conv => whnf
  refine StopG.rounds wk50 [] [1, 5, 9, 10, 11] (fun m env s => ∃ i : Nat, ∃ w, mineL who (l.take i) = w ∧ i ≤ l.length ∧ m = l.length - i ∧ ((w = [] ∧ env = [(1, .d (.int .i64 who)), (5, .d .nil), (9, .d (.list 5 (rowsE l))), (10, .d (.int .i64 ((rowsE l).length : Int))), (11, .d (.int .i64 (i : Int)))] ∧ s = []) ∨ ∃ wc, w.length ≤ wc ∧ env = [(1, .d (.int .i64 who)), (5, .slc (.g 0) 3 0 w.length wc), (9, .d (.list 5 (rowsE l))), (10, .d (.int .i64 ((rowsE l).length : Int))), (11, .d (.int .i64 (i : Int)))] ∧ s = [(0, .row 3 (rowsK w))])) rfl ?_ ?_
  · conv => whnf
    exact ⟨_, 0, [], rfl, Nat.zero_le _, rfl, .inl ⟨rfl, rfl, rfl⟩⟩
  rintro m env s ⟨i, w, hw, hi, rfl, hout⟩
  rcases hout with ⟨rfl, rfl, rfl⟩ | ⟨wc, hwc, rfl, rfl⟩
  · conv => whnf
    refine bcase_intro (fun h => ?_) (fun h => ?_) <;> conv => whnf
    · have hil := lt_of h
      rw [hlen] at hil
      obtain ⟨x, hx, hdrop⟩ := at_i hil
      refine ⟨rowE x, ⟨by omega, row_i hx⟩, ?_⟩
      conv => whnf
      refine bcase_intro (fun hg => ?_) (fun hg => ?_) <;> conv => whnf
      · have hwon : hisE who x = true := hg
        refine ⟨⟨?_, ?_⟩, ?_⟩
        · show (2 * 1 + 1024) * 24 ≤ 281474976710656; omega
        · show 1 ≤ _; omega
        conv => whnf
        intro c2 hc2
        conv => whnf
        rw [succ_i hil (by omega)]
        refine ⟨_, by omega, i + 1, [keyE x], ?_, hil, rfl, .inr ⟨c2, hc2, rfl, rfl⟩⟩
        rw [mineL_snoc hx, hw, hwon]; rfl
      · have hwon : hisE who x = false := hg
        rw [succ_i hil (by omega)]
        refine ⟨_, by omega, i + 1, [], ?_, hil, rfl, .inl ⟨rfl, rfl, rfl⟩⟩
        rw [mineL_snoc hx, hw, hwon]; rfl
    · have hil := ge_of h
      rw [hlen] at hil
      rw [show i = l.length by omega, List.take_length] at hw
      rw [hw]
      exact .inl ⟨.inl rfl, rfl, rfl⟩
  · conv => whnf
    refine bcase_intro (fun h => ?_) (fun h => ?_) <;> conv => whnf
    · have hil := lt_of h
      rw [hlen] at hil
      obtain ⟨x, hx, hdrop⟩ := at_i hil
      refine ⟨rowE x, ⟨by omega, row_i hx⟩, ?_⟩
      conv => whnf
      refine bcase_intro (fun hg => ?_) (fun hg => ?_) <;> conv => whnf
      · have hwon : hisE who x = true := hg
        have hwl : w.length ≤ 1000 := by
          rw [← hw]
          refine Nat.le_trans (mineL_len _ _) ?_
          simp; omega
        have hrl := rowsK_len w
        refine ⟨by omega, ⟨?_, ?_⟩, ?_⟩
        · show (2 * (w.length + 1) + 1024) * 24 ≤ 281474976710656; omega
        · show w.length + 1 ≤ _; omega
        conv => whnf
        intro c2 hc2
        conv => whnf
        rw [succ_i hil (by omega), List.take_of_length_le (by omega)]
        refine ⟨_, by omega, i + 1, w ++ [keyE x], ?_, hil, rfl, .inr ⟨c2, by simpa using hc2, ?_, ?_⟩⟩
        · rw [mineL_snoc hx, hw, hwon]
        · rw [List.length_append]; rfl
        · rw [show rowsK (w ++ [keyE x]) = rowsK w ++ [rowK (keyE x)] by simp [rowsK]]; rfl
      · have hwon : hisE who x = false := hg
        rw [succ_i hil (by omega)]
        refine ⟨_, by omega, i + 1, w, ?_, hil, rfl, .inr ⟨wc, hwc, rfl, rfl⟩⟩
        rw [mineL_snoc hx, hw, hwon, List.append_nil]
    · have hil := ge_of h
      rw [hlen] at hil
      rw [show i = l.length by omega, List.take_length] at hw
      rw [hw]
      exact .inr ⟨wc, by rw [rowsK_len]; exact hwc, by rw [rowsK_len], rfl⟩
end Go.Proofs.Ytkenimmellonjaa
/- Seat r2: the values of a map, collected: what the call comes to. -/
namespace Go.Proofs.Ytkenimmellonjaa
open Go.Pv Go.RowKit Go.Shelf
abbrev Kl := Int × Int × Int
def keyC (k : Kl) : Int × Int := (k.1, k.2.1)
def dxC (c : Int × Int) : DX := .agg [.int .i64 c.1, .int .i64 c.2]
def dxK (k : Kl) : DX := .agg [.int .i64 k.1, .int .i64 k.2.1, .int .i64 k.2.2]
def encL (l : List Kl) : List (DX × DX) := encM keyC dxC dxK l
theorem rv_ints {M : Mp} {F : Nat → Prop} {w : World} {xs : List Int} {v : Value} (h : RV M F w (.agg (xs.map fun x => .d (.int .i64 x))) v) : v = .agg (xs.map (Value.int .i64)).toArray := by
  cases h with
  | agg _ vs hl h1 h =>
    congr 2
    refine List.ext_getElem? fun i => ?_
    rw [List.getElem?_map]
    cases hx : xs[i]? with
    | none =>
      rw [List.getElem?_eq_none (by rw [hl, List.length_map]; exact List.getElem?_eq_none_iff.1 hx)]; rfl
    | some x =>
      have hi := (List.getElem?_eq_some_iff.1 hx).1
      have hvi : vs[i]? = some (vs[i]'(by rw [hl, List.length_map]; exact hi)) := List.getElem?_eq_getElem _
      have h2 := h i (.d (.int .i64 x)) _ (by rw [List.getElem?_map, hx]; rfl) hvi
      rw [hvi]
      generalize vs[i]'(by rw [hl, List.length_map]; exact hi) = u at h2
      cases h2 with
      | d h2 => cases h2; rfl
theorem shape_below {w w' : World} (h : Below w.heap.size w w') {b : Nat} (hb : b < w.heap.size) : w'.shape? b = w.shape? b := by
  unfold World.shape?
  rw [h.block b hb]
theorem ext_below {w w' : World} (h : Below w.heap.size w w') {U : Nat → Prop} (hU : ∀ b, U b → b < w.heap.size) : Ext U w w' :=
  ⟨h.os, h.tape, h.output, h.size, fun b hb => h.block b (hU b hb), fun _ hb => shape_below h hb⟩
/-- Nothing that was told has turned. -/
theorem St.later {M : Mp} {F U : Nat → Prop} {L : List AB} {s : List (Nat × AB)} {w w' : World} (hS : St M F U L s w) (h : Below w.heap.size w w') : St M F U L s w' :=
  ⟨fun r ab b hr hm => (hS.rb r ab b hr hm).mono (.refl _) (fun _ h => h) (fun b hb => hS.FU b hb) (ext_below h hS.Ult) (fun hd => h.block b (RB.lt (hS.rb r ab b hr hm) hd)),
   hS.inj, hS.nU, hS.nd, hS.FU, fun b hb => Nat.lt_of_lt_of_le (hS.Ult b hb) h.size, hS.dom, hS.tot, hS.gdom⟩
/-- One block more is told. -/
theorem St.add {g : Nat → Option Nat} {F U : Nat → Prop} {s : List (Nat × AB)} {w : World} {B : Nat} (hS : St ⟨fun _ => none, g⟩ F U [] s w) (hUB : ∀ b, U b → b < B) (hgB : ∀ i ab b, (i, ab) ∈ s → ab ≠ .dead → g i = some b → b < B) {n b : Nat} {ab : AB} (hn : ∀ ab, (n, ab) ∉ s) (hb : B ≤ b)
    (hab : RB ⟨fun _ => none, fun i => if i = n then some b else g i⟩ F w b ab) : St ⟨fun _ => none, fun i => if i = n then some b else g i⟩ F U [] (s ++ [(n, ab)]) w := by
  have hgn := hS.gdom n hn
  have hgn : g n = none := hgn
  have hle : Mp.Le ⟨fun _ => none, g⟩ ⟨fun _ => none, fun i => if i = n then some b else g i⟩ := by
    intro r x hx
    cases r with
    | l k => cases hx
    | g i =>
      simp only [Mp.at_] at hx ⊢
      rw [if_neg (fun e => by rw [e, hgn] at hx; cases hx)]; exact hx
  have hc : ∀ i ab', (i, ab') ∈ s ++ [(n, ab)] → ((i, ab') ∈ s ∧ i ≠ n) ∨ (i = n ∧ ab' = ab) := by
    intro i ab' h
    rcases List.mem_append.1 h with h | h
    · exact .inl ⟨h, fun e => hn ab' (e ▸ h)⟩
    · cases List.mem_singleton.1 h; exact .inr ⟨rfl, rfl⟩
  refine ⟨fun r ab' x hr hm => ?_, fun r r' a1 a2 x h1 h2 d1 d2 m1 m2 => ?_, fun r a1 x h1 d1 m1 hu => ?_, ?_, hS.FU, hS.Ult, fun _ _ => rfl, fun i ab' h => ?_, fun i h => ?_⟩
  · cases r with
    | l k => cases hm
    | g i =>
      rcases hc i ab' hr with ⟨h1, h2⟩ | ⟨rfl, rfl⟩
      · simp only [Mp.at_, if_neg h2] at hm
        exact (hS.rb (.g i) ab' x h1 hm).mono (hle.sub (.g i)) (fun _ h => h) (fun b hb => hS.FU b hb) (.refl _ _) (fun _ => rfl)
      · simp only [Mp.at_] at hm
        cases hm
        exact hab.mono (.refl _) (fun _ h => h) (fun b hb => hS.FU b hb) (.refl _ _) (fun _ => rfl)
  · cases r with
    | l k => cases m1
    | g i =>
      cases r' with
      | l k => cases m2
      | g j =>
        rcases hc i a1 h1 with ⟨k1, q1⟩ | ⟨rfl, rfl⟩ <;> rcases hc j a2 h2 with ⟨k2, q2⟩ | ⟨rfl, rfl⟩
        · simp only [Mp.at_, if_neg q1] at m1
          simp only [Mp.at_, if_neg q2] at m2
          exact hS.inj (.g i) (.g j) a1 a2 x k1 k2 d1 d2 m1 m2
        · simp only [Mp.at_, if_neg q1] at m1
          simp only [Mp.at_] at m2
          cases m2
          have := hgB i a1 _ k1 d1 m1
          omega
        · simp only [Mp.at_, if_neg q2] at m2
          simp only [Mp.at_] at m1
          cases m1
          have := hgB j a2 _ k2 d2 m2
          omega
        · rfl
  · cases r with
    | l k => cases m1
    | g i =>
      rcases hc i a1 h1 with ⟨k1, q1⟩ | ⟨rfl, rfl⟩
      · simp only [Mp.at_, if_neg q1] at m1
        exact hS.nU (.g i) a1 x k1 d1 m1 hu
      · simp only [Mp.at_] at m1
        cases m1
        have := hUB _ hu
        omega
  · rw [List.map_append, List.nodup_append]
    refine ⟨hS.nd, by simp, fun x hx y hy => ?_⟩
    simp at hy
    subst hy
    obtain ⟨p, hp, rfl⟩ := List.mem_map.1 hx
    exact fun e => hn p.2 (e ▸ hp)
  · rcases hc i ab' h with ⟨h1, h2⟩ | ⟨rfl, _⟩
    · obtain ⟨x, hx⟩ := hS.tot i ab' h1
      exact ⟨x, by show (if i = n then some b else g i) = some x; rw [if_neg h2]; exact hx⟩
    · exact ⟨b, by show (if i = i then some b else g i) = some b; rw [if_pos rfl]⟩
  · have h1 : i ≠ n := fun e => h ab (by rw [e]; simp)
    show (if i = n then some b else g i) = none
    rw [if_neg h1]
    exact hS.gdom i fun ab' h2 => h ab' (List.mem_append_left _ h2)
theorem vals_of {M : Mp} {F : Nat → Prop} {w : World} {ents : Array MapEntry} {l : List Kl} (h2 : ents.size = (encL l).length)
    (h3 : ∀ (i : Nat) (e : MapEntry) (x : DX × DX), ents[i]? = some e → (encL l)[i]? = some x → RV M F w x.1.av e.key ∧ RV M F w x.2.av e.val) : ents.toList.map (·.val) = l.map encK := by
  refine List.ext_getElem? fun i => ?_
  rw [List.getElem?_map, List.getElem?_map]
  cases hx : l[i]? with
  | none =>
    have := List.getElem?_eq_none_iff.1 hx
    rw [List.getElem?_eq_none (by simp [encL, encM] at h2 ⊢; omega)]; rfl
  | some x =>
    have hi := (List.getElem?_eq_some_iff.1 hx).1
    have hlt : i < ents.size := by simp [encL, encM] at h2; omega
    have he : ents[i]? = some ents[i] := Array.getElem?_eq_getElem hlt
    have := (h3 i _ (dxC (keyC x), dxK x) he (by simp [encL, encM, hx])).2
    have h4 := rv_ints (xs := [x.1, x.2.1, x.2.2]) this
    rw [Array.getElem?_toList, he]
    simp only [Option.map_some, h4]
    rfl
theorem keys_of {M : Mp} {F : Nat → Prop} {w : World} {ents : Array MapEntry} {l : List Kl} (h2 : ents.size = (encL l).length)
    (h3 : ∀ (i : Nat) (e : MapEntry) (x : DX × DX), ents[i]? = some e → (encL l)[i]? = some x → RV M F w x.1.av e.key ∧ RV M F w x.2.av e.val) : ents.toList.map (·.key) = l.map fun k => Value.agg #[.int .i64 k.1, .int .i64 k.2.1] := by
  refine List.ext_getElem? fun i => ?_
  rw [List.getElem?_map, List.getElem?_map]
  cases hx : l[i]? with
  | none =>
    have := List.getElem?_eq_none_iff.1 hx
    rw [List.getElem?_eq_none (by simp [encL, encM] at h2 ⊢; omega)]; rfl
  | some x =>
    have hi := (List.getElem?_eq_some_iff.1 hx).1
    have hlt : i < ents.size := by simp [encL, encM] at h2; omega
    have he : ents[i]? = some ents[i] := Array.getElem?_eq_getElem hlt
    have := (h3 i _ (dxC (keyC x), dxK x) he (by simp [encL, encM, hx])).1
    have h4 := rv_ints (xs := [x.1, x.2.1]) this
    rw [Array.getElem?_toList, he]
    simp only [Option.map_some, h4]
    rfl
theorem borns_of {ents : Array MapEntry} (h5 : ∀ (i j : Nat) (e e' : MapEntry), ents[i]? = some e → ents[j]? = some e' → e.born = e'.born → i = j) : (ents.toList.map (·.born)).Nodup := by
  refine List.pairwise_iff_getElem.2 fun i j hi hj hij e => ?_
  simp only [List.length_map, Array.length_toList] at hi hj
  have := h5 i j _ _ (Array.getElem?_eq_getElem hi) (Array.getElem?_eq_getElem hj) (by simpa using e)
  omega
theorem perm_encK {a b : List Kl} (h : (a.map encK).Perm (b.map encK)) : a.Perm b := by
  obtain ⟨f, hf⟩ : ∃ f : Value → Kl, ∀ k, f (encK k) = k := ⟨fun v => match v with
    | .agg #[.int _ x, .int _ y, .int _ z] => (x, y, z)
    | _ => (0, 0, 0), fun k => rfl⟩
  have := h.map f
  simpa [List.map_map, Function.comp_def, hf] using this
theorem flat_get : ∀ (ss : List Kl) (i j : Nat), j < 3 → (ss.flatMap cellsK)[i * 3 + j]? = (ss[i]?).bind fun k => (cellsK k)[j]?
  | [], i, j, _ => by simp
  | k :: r, i, j, hj => by
    rw [List.flatMap_cons]
    cases i with
    | zero =>
      rw [List.getElem?_append_left (by simp [cellsK]; omega)]
      simp
    | succ i =>
      rw [List.getElem?_append_right (by simp [cellsK]; omega), show (i + 1) * 3 + j - (cellsK k).length = i * 3 + j from by simp [cellsK]; omega, flat_get r i j hj]
      simp
/-- The values of a map, in some order, as a row of one's own. -/
theorem collectC (l : List Kl) (hl : l.length ≤ 100000) : Contract Try.prog G0 102 [.fn 104 [.ref (.g 0) 0]] [(0, .cells [.mp (.g 1)]), (1, .dmap (encL l))] (fun r t => ∃ ss : List Kl, ss.Perm l ∧
    ((ss = [] ∧ r = .d .nil ∧ t = [(0, .cells [.mp (.g 1)]), (1, .dmap (encL l))]) ∨ ∃ c, ss.length ≤ c ∧ r = .slc (.g 2) 3 0 ss.length c ∧ t = [(0, .cells [.mp (.g 1)]), (1, .dmap (encL l)), (2, .row 3 (rowsK ss))])) := by
  refine ⟨enters_of Try.func102 (by kernel_rfl) rfl, fun g F U w vals hS hG hlv hv => ?_⟩
  obtain ⟨v, rfl⟩ : ∃ v, vals = [v] := by
    match vals, hlv with
    | [v], _ => exact ⟨v, rfl⟩
  have hrv := hv 0 _ v rfl rfl
  obtain ⟨B, hgB, rfl⟩ : ∃ B, g 0 = some B ∧ v = .func (.func 104) #[] #[.pointer (some ⟨B, 0, none⟩)] := by
    cases hrv with
    | fn _ _ vs hl h =>
      obtain ⟨u, rfl⟩ : ∃ u, vs = [u] := by
        match vs, hl with
        | [u], _ => exact ⟨u, rfl⟩
      have := h 0 _ u rfl rfl
      cases this with
      | ref _ _ b hb => exact ⟨b, hb, rfl⟩
  obtain ⟨arr, tt, hb1, hsz, hc1⟩ := hS.rb (.g 0) (.cells [.mp (.g 1)]) B (by simp [Here]) hgB
  obtain ⟨u, hu⟩ : ∃ u, arr[0]? = some u := ⟨_, Array.getElem?_eq_getElem (by simp at hsz; omega)⟩
  have hru := (hc1 0 _ u rfl hu).2
  obtain ⟨b, hgb, rfl⟩ : ∃ b, g 1 = some b ∧ u = .map (some b) := by
    cases hru with
    | mp _ b h => exact ⟨b, h, rfl⟩
  obtain ⟨ents, clock, hb, h2, h3, h4, h5⟩ := hS.rb (.g 1) (.dmap (encL l)) b (by simp [Here]) hgb
  have hvals := vals_of h2 h3
  have hlen : ents.size = l.length := by simpa [encL, encM] using h2
  have hm : w.cell? ⟨B, 0, none⟩ = some (.map (some b)) := by simp [World.cell?, hb1, hu]
  have hBl := (Array.getElem?_eq_some_iff.1 hb1).1
  have hnd := borns_of h5
  have hold : ∀ x ∈ ents.toList, x.born < clock := fun x hx => by
    obtain ⟨i, hi⟩ := List.mem_iff_getElem?.1 hx
    exact h4 i x (by simpa using hi)
  have hval : ∀ x ∈ ents.toList, ∃ k, x.val = encK k := fun x hx => by
    have : x.val ∈ ents.toList.map (·.val) := List.mem_map_of_mem hx
    rw [hvals] at this
    obtain ⟨k, _, hk⟩ := List.mem_map.1 this
    exact ⟨k, hk.symm⟩
  have e104 : ∀ args w, (callFunc 104 args).run Try.prog w = .ok (.enter 104 args) w := enters_of Try.func104 (by kernel_rfl) rfl
  have hco := collect Fence.wide 5 trivial trivial rfl (by decide) 104 #[.pointer (some ⟨B, 0, none⟩)] trivial e104 (fun ss => (ss.map encK).Perm (ents.toList.map (·.val))) (fun _ => True) ents.size (by omega) w
    (fun w' hB => values_stops Fence.wide 3 trivial rfl (by decide) B b ents clock hold hval hnd w' (Nat.lt_of_lt_of_le hBl hB.size) ((hB.cell (p := ⟨B, 0, none⟩) hBl).trans hm) ((hB.block b (Array.getElem?_eq_some_iff.1 hb).1).trans hb))
  refine (callsIn_wide.1 hco).mono ?_
  rintro e w' ⟨v, ss, rfl, hp, hrow, hone, hBe⟩
  rw [hvals] at hp
  have hp := perm_encK hp
  have hS2 := St.later hS hBe
  have hUl := hS.Ult
  have hgl : ∀ i ab x, (i, ab) ∈ [(0, AB.cells [.mp (.g 1)]), (1, .dmap (encL l))] → ab ≠ .dead → g i = some x → x < w.heap.size := fun i ab x hi hd hx => RB.lt (hS.rb (.g i) ab x hi hx) hd
  rcases hrow.2 with ⟨rfl, h0⟩ | ⟨nb, cap, cur, rfl, hbase, hnb, hcap, hmax, hcur, htk⟩
  · have hss : ss = [] := List.eq_nil_of_length_eq_zero h0
    exact ⟨_, .d .nil, _, g, F, U, rfl, ⟨ss, hp, .inl ⟨hss, rfl, rfl⟩⟩, fun _ _ h => h, fun id ab h => .inl ⟨ab, h⟩, fun _ h => h, fun _ h => h, fun _ h => .inl h, ext_below hBe hUl, hS2, .d .nil⟩
  · have hRB : RB ⟨fun _ => none, fun i => if i = 2 then some nb else g i⟩ F w' nb (.row 3 (rowsK ss)) := by
      refine ⟨cur, 38, hnb, ?_, ?_, ?_, ?_⟩
      · rw [hcur]
        simp only [rowsK, List.length_map]
        exact Nat.mul_le_mul_right 3 hcap
      · intro i r hr
        simp only [rowsK, List.getElem?_map, Option.map_eq_some_iff] at hr
        obtain ⟨k, _, rfl⟩ := hr
        rfl
      · intro j v hv
        exact hone nb cur 38 (0, 0) (by simp [Value.ownBlock]) hnb v (Array.mem_toList_iff.2 (Array.mem_of_getElem? hv))
      · intro i r j x v hr hx hv
        simp only [rowsK, List.getElem?_map, Option.map_eq_some_iff] at hr
        obtain ⟨k, hk, rfl⟩ := hr
        have hi := (List.getElem?_eq_some_iff.1 hk).1
        have hj : j < 3 := by
          have := (List.getElem?_eq_some_iff.1 hx).1
          simpa [rowK] using this
        have h1 : (cur.toList.take (ss.length * 3))[i * 3 + j]? = some v := by
          rw [List.getElem?_take_of_lt (by omega), Array.getElem?_toList]; exact hv
        rw [htk, flat_get ss i j hj, hk] at h1
        match j, hj with
        | 0, _ => simp [cellsK] at h1; simp [rowK] at hx; subst h1; subst hx; exact .int _ _
        | 1, _ => simp [cellsK] at h1; simp [rowK] at hx; subst h1; subst hx; exact .int _ _
        | 2, _ => simp [cellsK] at h1; simp [rowK] at hx; subst h1; subst hx; exact .int _ _
    refine ⟨_, .slc (.g 2) 3 0 ss.length cap, _, fun i => if i = 2 then some nb else g i, F, U, rfl, ⟨ss, hp, .inr ⟨cap, hcap, rfl, rfl⟩⟩, fun i x hx => ?_, fun id ab h => ?_, fun _ h => h, fun _ h => h, fun _ h => .inl h, ext_below hBe hUl, ?_, ?_⟩
    · show (if i = 2 then some nb else g i) = some x
      have h2 : g 2 = none := hS.gdom 2 (by simp)
      rw [if_neg (fun e => by rw [e, h2] at hx; cases hx)]; exact hx
    · rcases List.mem_append.1 (show (id, ab) ∈ [(0, AB.cells [.mp (.g 1)]), (1, .dmap (encL l))] ++ [(2, .row 3 (rowsK ss))] from h) with h | h
      · exact .inl ⟨ab, h⟩
      · cases List.mem_singleton.1 h
        exact .inr (hS.gdom 2 (by simp))
    · exact St.add (B := w.heap.size) hS2 hUl hgl (by simp) hbase hRB
    · exact .slc (.g 2) 3 0 ss.length cap nb (by simp [Mp.at_]) hcap ⟨38, cap * 3, by simp [World.shape?, hnb, hcur], by omega⟩
end Go.Proofs.Ytkenimmellonjaa
/- Seat r2: how calls are held against one another, told to the world. -/
namespace Go.Proofs.Ytkenimmellonjaa
open Go.RowKit Go.Shelf
def cmpW (a b : Int) : Int := if a < b then -1 else if a > b then 1 else 0
set_option maxHeartbeats 1000000 in
theorem nan121 (x : Int) (W : World) : Calls Try.prog 121 #[.int .i64 x] W fun e w' => e = .returned (.bool false) ∧ w' = W := by
  go_enter Try.func121, Try.ntmps121
  go_wp2
  go_ret
  exact ⟨by simp, rfl⟩
set_option maxHeartbeats 1000000 in
theorem compare95 (x y : Int) (W : World) : Calls Try.prog 95 #[.int .i64 x, .int .i64 y] W fun e w' => e = .returned (.int .i64 (cmpW x y)) ∧ w' = W := by
  go_enter Try.func95, Try.ntmps95
  go_wp2_with (go_at_call 121; refine (nan121 _ _).mono ?_; rintro e w' ⟨rfl, rfl⟩)
  · go_ret
    have e : cmpW x y = -1 := by rw [cmpW, if_pos (by assumption)]
    rw [e]
    exact ⟨rfl, rfl⟩
  · go_ret
    have e : cmpW x y = 1 := by rw [cmpW, if_neg (by omega), if_pos (by omega)]
    rw [e]
    exact ⟨rfl, rfl⟩
  · go_ret
    have e : cmpW x y = 0 := by rw [cmpW, if_neg (by omega), if_neg (by omega)]
    rw [e]
    exact ⟨rfl, rfl⟩
def orW (p q : Int) : Int := if p = 0 then q else p
set_option maxHeartbeats 1000000 in
theorem or94 (b : Nat) (p q : Int) (W : World) (h0 : W.cell? ⟨b, 0, none⟩ = some (.int .i64 p)) (h1 : W.cell? ⟨b, 1, none⟩ = some (.int .i64 q)) :
    Calls Try.prog 94 #[.slice (some ⟨b, 0, none⟩) 2 2] W fun e w' => e = .returned (.int .i64 (orW p q)) ∧ w' = W := by
  go_enter Try.func94, Try.ntmps94
  go_wp2
  refine wp_loop_rounds 3 ?_
  rw [rounds_succ]
  go_wp2
  · go_ret
    have e : orW p q = p := by simp_all [orW]
    rw [e]
    exact ⟨rfl, rfl⟩
  rw [rounds_succ]
  go_wp2
  · go_ret
    have e : orW p q = q := by simp_all [orW]
    rw [e]
    exact ⟨rfl, rfl⟩
  rw [rounds_succ]
  go_wp2
  go_ret
  have e : orW p q = 0 := by simp_all [orW]
  rw [e]
  exact ⟨rfl, rfl⟩
theorem or94b (A : World) (b : Nat) (p q : Int) (hb : b = A.heap.size) : Calls Try.prog 94 #[.slice (some ⟨b, 0, none⟩) 2 2] (A.alloc (.cells #[.int .i64 p, .int .i64 q] 3)).drew fun e w' => e = .returned (.int .i64 (orW p q)) ∧ w' = (A.alloc (.cells #[.int .i64 p, .int .i64 q] 3)).drew := by
  subst hb
  exact or94 _ p q _ (by simp) (by simp)
set_option maxHeartbeats 2000000 in
theorem compare76 (x y : Int × Int) (W : World) : Calls Try.prog 76 #[.agg #[.int .i64 x.1, .int .i64 x.2], .agg #[.int .i64 y.1, .int .i64 y.2]] W fun e w' => e = .returned (.int .i64 (orW (cmpW x.1 y.1) (cmpW x.2 y.2))) ∧ ∃ k os', w' = Sort.grow (W.drewN k) os' := by
  go_enter Try.func76, Try.ntmps76
  go_wp2
  go_region_held3 (fun w' => w'.cell? ⟨W.heap.size, 0, none⟩ = some (.int .i64 x.1) ∧ w'.cell? ⟨W.heap.size, 1, none⟩ = some (.int .i64 x.2) ∧ w'.cell? ⟨W.heap.size + 1, 0, none⟩ = some (.int .i64 y.1) ∧ w'.cell? ⟨W.heap.size + 1, 1, none⟩ = some (.int .i64 y.2)) (go_keep)
    (first
      | (go_at_call 95; refine (compare95 _ _ _).mono ?_; rintro e w' ⟨rfl, rfl⟩)
      | (go_at_call 94; refine (or94b _ _ _ _ (by simp)).mono ?_; rintro e w' ⟨rfl, rfl⟩))
  all_goals
    go_wp2
    go_ret
    exact ⟨rfl, 1, _, by rw [Sort.alloc_eq_grow, Sort.alloc_eq_grow, Sort.alloc_eq_grow, Sort.grow_grow, Sort.grow_grow]; rfl⟩
set_option maxHeartbeats 2000000 in
theorem compare75 (x y : Int × Int × Int) (W : World) : Calls Try.prog 75 #[.agg #[.int .i64 x.1, .int .i64 x.2.1, .int .i64 x.2.2], .agg #[.int .i64 y.1, .int .i64 y.2.1, .int .i64 y.2.2]] W fun e w' => e = .returned (.int .i64 (orW (cmpW x.1 y.1) (cmpW x.2.1 y.2.1))) ∧ ∃ k os', w' = Sort.grow (W.drewN k) os' := by
  have hcon := fun W' => compare76 (x.1, x.2.1) (y.1, y.2.1) W'
  go_enter Try.func75, Try.ntmps75
  go_wp2_with (go_at_call 76; refine (hcon _).mono ?_; rintro e w' ⟨rfl, k, os, rfl⟩)
  go_ret
  exact ⟨rfl, k, _, by rw [Sort.alloc_eq_grow, Sort.alloc_eq_grow, Sort.grow_grow]; exact Sort.grow_grow (W.drewN k) _ _⟩
end Go.Proofs.Ytkenimmellonjaa
/- The library that this program reaches, as the kit's shelf wants it laid: printed by a program. -/
namespace Go.Proofs.Ytkenimmellonjaa
open Go.Shelf
def laysF_ren : Ren :=
  {
    f := fun x =>
      match x with
      | 6 => 103
      | 15 => 101
      | 14 => 137
      | 28 => 134
      | 29 => 135
      | 20 => 142
      | 21 => 150
      | 22 => 151
      | 23 => 152
      | 24 => 153
      | 25 => 154
      | 26 => 155
      | 27 => 156
      | 46 => 161
      | 47 => 146
      | 48 => 147
      | 49 => 162
      | 50 => 163
      | 57 => 166
      | n => n,
    t := fun x =>
      match x with
      | 22 => 30
      | 24 => 38
      | 25 => 106
      | 3 => 3
      | 39 => 130
      | 0 => 0
      | 53 => 155
      | 55 => 157
      | 4 => 4
      | 46 => 149
      | 45 => 148
      | 50 => 25
      | 5 => 5
      | 9 => 9
      | 66 => 163
      | 70 => 167
      | 76 => 174
      | 77 => 175
      | n => n,
    g := fun x =>
      have n := x;
      n }
theorem laysF : SlLaysF0.n6 Try.prog laysF_ren :=
  { mixed := Eq.refl true,
    f6 :=
      Exists.intro "slices.SortFunc[[]paternoster/api.Latch,paternoster/api.Latch]"
        ⟨of_decide_eq_true (id (Eq.refl true)),
          Eq.trans Try.func103
            (congrArg some
              (Eq.refl (α := Go.Func)
                { name := "slices.SortFunc[[]paternoster/api.Latch,paternoster/api.Latch]",
                  origin := (SlBodyF.n6 laysF_ren).origin, targs := (SlBodyF.n6 laysF_ren).targs,
                  params := (SlBodyF.n6 laysF_ren).params, resultTypes := (SlBodyF.n6 laysF_ren).resultTypes,
                  nfree := (SlBodyF.n6 laysF_ren).nfree, ntmps := (SlBodyF.n6 laysF_ren).ntmps,
                  results := (SlBodyF.n6 laysF_ren).results, body := (SlBodyF.n6 laysF_ren).body,
                  norace := (SlBodyF.n6 laysF_ren).norace, ours := (SlBodyF.n6 laysF_ren).ours,
                  file := (SlBodyF.n6 laysF_ren).file, endLine := (SlBodyF.n6 laysF_ren).endLine,
                  litNo := (SlBodyF.n6 laysF_ren).litNo, met := (SlBodyF.n6 laysF_ren).met,
                  tmpNames := (SlBodyF.n6 laysF_ren).tmpNames }))⟩,
    f14 :=
      Exists.intro "slices.pdqsortCmpFunc[paternoster/api.Latch]"
        ⟨of_decide_eq_true (id (Eq.refl true)),
          Eq.trans Try.func137
            (congrArg some
              (Eq.refl (α := Go.Func)
                { name := "slices.pdqsortCmpFunc[paternoster/api.Latch]", origin := (SlBodyF.n14 laysF_ren).origin,
                  targs := (SlBodyF.n14 laysF_ren).targs, params := (SlBodyF.n14 laysF_ren).params,
                  resultTypes := (SlBodyF.n14 laysF_ren).resultTypes, nfree := (SlBodyF.n14 laysF_ren).nfree,
                  ntmps := (SlBodyF.n14 laysF_ren).ntmps, results := (SlBodyF.n14 laysF_ren).results,
                  body := (SlBodyF.n14 laysF_ren).body, norace := (SlBodyF.n14 laysF_ren).norace,
                  ours := (SlBodyF.n14 laysF_ren).ours, file := (SlBodyF.n14 laysF_ren).file,
                  endLine := (SlBodyF.n14 laysF_ren).endLine, litNo := (SlBodyF.n14 laysF_ren).litNo,
                  met := (SlBodyF.n14 laysF_ren).met, tmpNames := (SlBodyF.n14 laysF_ren).tmpNames }))⟩,
    f15 := Eq.trans Try.func101 (congrArg some (Eq.refl (SlBodyF.n15 laysF_ren))),
    f20 :=
      Exists.intro "slices.insertionSortCmpFunc[paternoster/api.Latch]"
        ⟨of_decide_eq_true (id (Eq.refl true)),
          Eq.trans Try.func142
            (congrArg some
              (Eq.refl (α := Go.Func)
                { name := "slices.insertionSortCmpFunc[paternoster/api.Latch]",
                  origin := (SlBodyF.n20 laysF_ren).origin, targs := (SlBodyF.n20 laysF_ren).targs,
                  params := (SlBodyF.n20 laysF_ren).params, resultTypes := (SlBodyF.n20 laysF_ren).resultTypes,
                  nfree := (SlBodyF.n20 laysF_ren).nfree, ntmps := (SlBodyF.n20 laysF_ren).ntmps,
                  results := (SlBodyF.n20 laysF_ren).results, body := (SlBodyF.n20 laysF_ren).body,
                  norace := (SlBodyF.n20 laysF_ren).norace, ours := (SlBodyF.n20 laysF_ren).ours,
                  file := (SlBodyF.n20 laysF_ren).file, endLine := (SlBodyF.n20 laysF_ren).endLine,
                  litNo := (SlBodyF.n20 laysF_ren).litNo, met := (SlBodyF.n20 laysF_ren).met,
                  tmpNames := (SlBodyF.n20 laysF_ren).tmpNames }))⟩,
    f21 :=
      Exists.intro "slices.heapSortCmpFunc[paternoster/api.Latch]"
        ⟨of_decide_eq_true (id (Eq.refl true)),
          Eq.trans Try.func150
            (congrArg some
              (Eq.refl (α := Go.Func)
                { name := "slices.heapSortCmpFunc[paternoster/api.Latch]", origin := (SlBodyF.n21 laysF_ren).origin,
                  targs := (SlBodyF.n21 laysF_ren).targs, params := (SlBodyF.n21 laysF_ren).params,
                  resultTypes := (SlBodyF.n21 laysF_ren).resultTypes, nfree := (SlBodyF.n21 laysF_ren).nfree,
                  ntmps := (SlBodyF.n21 laysF_ren).ntmps, results := (SlBodyF.n21 laysF_ren).results,
                  body := (SlBodyF.n21 laysF_ren).body, norace := (SlBodyF.n21 laysF_ren).norace,
                  ours := (SlBodyF.n21 laysF_ren).ours, file := (SlBodyF.n21 laysF_ren).file,
                  endLine := (SlBodyF.n21 laysF_ren).endLine, litNo := (SlBodyF.n21 laysF_ren).litNo,
                  met := (SlBodyF.n21 laysF_ren).met, tmpNames := (SlBodyF.n21 laysF_ren).tmpNames }))⟩,
    f22 :=
      Exists.intro "slices.breakPatternsCmpFunc[paternoster/api.Latch]"
        ⟨of_decide_eq_true (id (Eq.refl true)),
          Eq.trans Try.func151
            (congrArg some
              (Eq.refl (α := Go.Func)
                { name := "slices.breakPatternsCmpFunc[paternoster/api.Latch]",
                  origin := (SlBodyF.n22 laysF_ren).origin, targs := (SlBodyF.n22 laysF_ren).targs,
                  params := (SlBodyF.n22 laysF_ren).params, resultTypes := (SlBodyF.n22 laysF_ren).resultTypes,
                  nfree := (SlBodyF.n22 laysF_ren).nfree, ntmps := (SlBodyF.n22 laysF_ren).ntmps,
                  results := (SlBodyF.n22 laysF_ren).results, body := (SlBodyF.n22 laysF_ren).body,
                  norace := (SlBodyF.n22 laysF_ren).norace, ours := (SlBodyF.n22 laysF_ren).ours,
                  file := (SlBodyF.n22 laysF_ren).file, endLine := (SlBodyF.n22 laysF_ren).endLine,
                  litNo := (SlBodyF.n22 laysF_ren).litNo, met := (SlBodyF.n22 laysF_ren).met,
                  tmpNames := (SlBodyF.n22 laysF_ren).tmpNames }))⟩,
    f23 :=
      Exists.intro "slices.choosePivotCmpFunc[paternoster/api.Latch]"
        ⟨of_decide_eq_true (id (Eq.refl true)),
          Eq.trans Try.func152
            (congrArg some
              (Eq.refl (α := Go.Func)
                { name := "slices.choosePivotCmpFunc[paternoster/api.Latch]",
                  origin := (SlBodyF.n23 laysF_ren).origin, targs := (SlBodyF.n23 laysF_ren).targs,
                  params := (SlBodyF.n23 laysF_ren).params, resultTypes := (SlBodyF.n23 laysF_ren).resultTypes,
                  nfree := (SlBodyF.n23 laysF_ren).nfree, ntmps := (SlBodyF.n23 laysF_ren).ntmps,
                  results := (SlBodyF.n23 laysF_ren).results, body := (SlBodyF.n23 laysF_ren).body,
                  norace := (SlBodyF.n23 laysF_ren).norace, ours := (SlBodyF.n23 laysF_ren).ours,
                  file := (SlBodyF.n23 laysF_ren).file, endLine := (SlBodyF.n23 laysF_ren).endLine,
                  litNo := (SlBodyF.n23 laysF_ren).litNo, met := (SlBodyF.n23 laysF_ren).met,
                  tmpNames := (SlBodyF.n23 laysF_ren).tmpNames }))⟩,
    f24 :=
      Exists.intro "slices.reverseRangeCmpFunc[paternoster/api.Latch]"
        ⟨of_decide_eq_true (id (Eq.refl true)),
          Eq.trans Try.func153
            (congrArg some
              (Eq.refl (α := Go.Func)
                { name := "slices.reverseRangeCmpFunc[paternoster/api.Latch]",
                  origin := (SlBodyF.n24 laysF_ren).origin, targs := (SlBodyF.n24 laysF_ren).targs,
                  params := (SlBodyF.n24 laysF_ren).params, resultTypes := (SlBodyF.n24 laysF_ren).resultTypes,
                  nfree := (SlBodyF.n24 laysF_ren).nfree, ntmps := (SlBodyF.n24 laysF_ren).ntmps,
                  results := (SlBodyF.n24 laysF_ren).results, body := (SlBodyF.n24 laysF_ren).body,
                  norace := (SlBodyF.n24 laysF_ren).norace, ours := (SlBodyF.n24 laysF_ren).ours,
                  file := (SlBodyF.n24 laysF_ren).file, endLine := (SlBodyF.n24 laysF_ren).endLine,
                  litNo := (SlBodyF.n24 laysF_ren).litNo, met := (SlBodyF.n24 laysF_ren).met,
                  tmpNames := (SlBodyF.n24 laysF_ren).tmpNames }))⟩,
    f25 :=
      Exists.intro "slices.partialInsertionSortCmpFunc[paternoster/api.Latch]"
        ⟨of_decide_eq_true (id (Eq.refl true)),
          Eq.trans Try.func154
            (congrArg some
              (Eq.refl (α := Go.Func)
                { name := "slices.partialInsertionSortCmpFunc[paternoster/api.Latch]",
                  origin := (SlBodyF.n25 laysF_ren).origin, targs := (SlBodyF.n25 laysF_ren).targs,
                  params := (SlBodyF.n25 laysF_ren).params, resultTypes := (SlBodyF.n25 laysF_ren).resultTypes,
                  nfree := (SlBodyF.n25 laysF_ren).nfree, ntmps := (SlBodyF.n25 laysF_ren).ntmps,
                  results := (SlBodyF.n25 laysF_ren).results, body := (SlBodyF.n25 laysF_ren).body,
                  norace := (SlBodyF.n25 laysF_ren).norace, ours := (SlBodyF.n25 laysF_ren).ours,
                  file := (SlBodyF.n25 laysF_ren).file, endLine := (SlBodyF.n25 laysF_ren).endLine,
                  litNo := (SlBodyF.n25 laysF_ren).litNo, met := (SlBodyF.n25 laysF_ren).met,
                  tmpNames := (SlBodyF.n25 laysF_ren).tmpNames }))⟩,
    f26 :=
      Exists.intro "slices.partitionEqualCmpFunc[paternoster/api.Latch]"
        ⟨of_decide_eq_true (id (Eq.refl true)),
          Eq.trans Try.func155
            (congrArg some
              (Eq.refl (α := Go.Func)
                { name := "slices.partitionEqualCmpFunc[paternoster/api.Latch]",
                  origin := (SlBodyF.n26 laysF_ren).origin, targs := (SlBodyF.n26 laysF_ren).targs,
                  params := (SlBodyF.n26 laysF_ren).params, resultTypes := (SlBodyF.n26 laysF_ren).resultTypes,
                  nfree := (SlBodyF.n26 laysF_ren).nfree, ntmps := (SlBodyF.n26 laysF_ren).ntmps,
                  results := (SlBodyF.n26 laysF_ren).results, body := (SlBodyF.n26 laysF_ren).body,
                  norace := (SlBodyF.n26 laysF_ren).norace, ours := (SlBodyF.n26 laysF_ren).ours,
                  file := (SlBodyF.n26 laysF_ren).file, endLine := (SlBodyF.n26 laysF_ren).endLine,
                  litNo := (SlBodyF.n26 laysF_ren).litNo, met := (SlBodyF.n26 laysF_ren).met,
                  tmpNames := (SlBodyF.n26 laysF_ren).tmpNames }))⟩,
    f27 :=
      Exists.intro "slices.partitionCmpFunc[paternoster/api.Latch]"
        ⟨of_decide_eq_true (id (Eq.refl true)),
          Eq.trans Try.func156
            (congrArg some
              (Eq.refl (α := Go.Func)
                { name := "slices.partitionCmpFunc[paternoster/api.Latch]", origin := (SlBodyF.n27 laysF_ren).origin,
                  targs := (SlBodyF.n27 laysF_ren).targs, params := (SlBodyF.n27 laysF_ren).params,
                  resultTypes := (SlBodyF.n27 laysF_ren).resultTypes, nfree := (SlBodyF.n27 laysF_ren).nfree,
                  ntmps := (SlBodyF.n27 laysF_ren).ntmps, results := (SlBodyF.n27 laysF_ren).results,
                  body := (SlBodyF.n27 laysF_ren).body, norace := (SlBodyF.n27 laysF_ren).norace,
                  ours := (SlBodyF.n27 laysF_ren).ours, file := (SlBodyF.n27 laysF_ren).file,
                  endLine := (SlBodyF.n27 laysF_ren).endLine, litNo := (SlBodyF.n27 laysF_ren).litNo,
                  met := (SlBodyF.n27 laysF_ren).met, tmpNames := (SlBodyF.n27 laysF_ren).tmpNames }))⟩,
    f28 := Eq.trans Try.func134 (congrArg some (Eq.refl (SlBodyF.n28 laysF_ren))),
    f29 := Eq.trans Try.func135 (congrArg some (Eq.refl (SlBodyF.n29 laysF_ren))),
    f46 :=
      Exists.intro "slices.siftDownCmpFunc[paternoster/api.Latch]"
        ⟨of_decide_eq_true (id (Eq.refl true)),
          Eq.trans Try.func161
            (congrArg some
              (Eq.refl (α := Go.Func)
                { name := "slices.siftDownCmpFunc[paternoster/api.Latch]", origin := (SlBodyF.n46 laysF_ren).origin,
                  targs := (SlBodyF.n46 laysF_ren).targs, params := (SlBodyF.n46 laysF_ren).params,
                  resultTypes := (SlBodyF.n46 laysF_ren).resultTypes, nfree := (SlBodyF.n46 laysF_ren).nfree,
                  ntmps := (SlBodyF.n46 laysF_ren).ntmps, results := (SlBodyF.n46 laysF_ren).results,
                  body := (SlBodyF.n46 laysF_ren).body, norace := (SlBodyF.n46 laysF_ren).norace,
                  ours := (SlBodyF.n46 laysF_ren).ours, file := (SlBodyF.n46 laysF_ren).file,
                  endLine := (SlBodyF.n46 laysF_ren).endLine, litNo := (SlBodyF.n46 laysF_ren).litNo,
                  met := (SlBodyF.n46 laysF_ren).met, tmpNames := (SlBodyF.n46 laysF_ren).tmpNames }))⟩,
    f47 := Eq.trans Try.func146 (congrArg some (Eq.refl (SlBodyF.n47 laysF_ren))),
    f48 := Eq.trans Try.func147 (congrArg some (Eq.refl (SlBodyF.n48 laysF_ren))),
    f49 :=
      Exists.intro "slices.medianAdjacentCmpFunc[paternoster/api.Latch]"
        ⟨of_decide_eq_true (id (Eq.refl true)),
          Eq.trans Try.func162
            (congrArg some
              (Eq.refl (α := Go.Func)
                { name := "slices.medianAdjacentCmpFunc[paternoster/api.Latch]",
                  origin := (SlBodyF.n49 laysF_ren).origin, targs := (SlBodyF.n49 laysF_ren).targs,
                  params := (SlBodyF.n49 laysF_ren).params, resultTypes := (SlBodyF.n49 laysF_ren).resultTypes,
                  nfree := (SlBodyF.n49 laysF_ren).nfree, ntmps := (SlBodyF.n49 laysF_ren).ntmps,
                  results := (SlBodyF.n49 laysF_ren).results, body := (SlBodyF.n49 laysF_ren).body,
                  norace := (SlBodyF.n49 laysF_ren).norace, ours := (SlBodyF.n49 laysF_ren).ours,
                  file := (SlBodyF.n49 laysF_ren).file, endLine := (SlBodyF.n49 laysF_ren).endLine,
                  litNo := (SlBodyF.n49 laysF_ren).litNo, met := (SlBodyF.n49 laysF_ren).met,
                  tmpNames := (SlBodyF.n49 laysF_ren).tmpNames }))⟩,
    f50 :=
      Exists.intro "slices.medianCmpFunc[paternoster/api.Latch]"
        ⟨of_decide_eq_true (id (Eq.refl true)),
          Eq.trans Try.func163
            (congrArg some
              (Eq.refl (α := Go.Func)
                { name := "slices.medianCmpFunc[paternoster/api.Latch]", origin := (SlBodyF.n50 laysF_ren).origin,
                  targs := (SlBodyF.n50 laysF_ren).targs, params := (SlBodyF.n50 laysF_ren).params,
                  resultTypes := (SlBodyF.n50 laysF_ren).resultTypes, nfree := (SlBodyF.n50 laysF_ren).nfree,
                  ntmps := (SlBodyF.n50 laysF_ren).ntmps, results := (SlBodyF.n50 laysF_ren).results,
                  body := (SlBodyF.n50 laysF_ren).body, norace := (SlBodyF.n50 laysF_ren).norace,
                  ours := (SlBodyF.n50 laysF_ren).ours, file := (SlBodyF.n50 laysF_ren).file,
                  endLine := (SlBodyF.n50 laysF_ren).endLine, litNo := (SlBodyF.n50 laysF_ren).litNo,
                  met := (SlBodyF.n50 laysF_ren).met, tmpNames := (SlBodyF.n50 laysF_ren).tmpNames }))⟩,
    f57 :=
      Exists.intro "slices.order2CmpFunc[paternoster/api.Latch]"
        ⟨of_decide_eq_true (id (Eq.refl true)),
          Eq.trans Try.func166
            (congrArg some
              (Eq.refl (α := Go.Func)
                { name := "slices.order2CmpFunc[paternoster/api.Latch]", origin := (SlBodyF.n57 laysF_ren).origin,
                  targs := (SlBodyF.n57 laysF_ren).targs, params := (SlBodyF.n57 laysF_ren).params,
                  resultTypes := (SlBodyF.n57 laysF_ren).resultTypes, nfree := (SlBodyF.n57 laysF_ren).nfree,
                  ntmps := (SlBodyF.n57 laysF_ren).ntmps, results := (SlBodyF.n57 laysF_ren).results,
                  body := (SlBodyF.n57 laysF_ren).body, norace := (SlBodyF.n57 laysF_ren).norace,
                  ours := (SlBodyF.n57 laysF_ren).ours, file := (SlBodyF.n57 laysF_ren).file,
                  endLine := (SlBodyF.n57 laysF_ren).endLine, litNo := (SlBodyF.n57 laysF_ren).litNo,
                  met := (SlBodyF.n57 laysF_ren).met, tmpNames := (SlBodyF.n57 laysF_ren).tmpNames }))⟩,
    t0 := Try.underlying0, a0 := Try.isAgg0, z0 := Try.sizeOf0, v0 := Try.zeroValue0, t3 := Try.underlying3,
    a3 := Try.isAgg3, z3 := Try.sizeOf3, v3 := Try.zeroValue3, t4 := Try.underlying4, a4 := Try.isAgg4, z4 := Try.sizeOf4,
    v4 := Try.zeroValue4, t5 := Try.underlying5, a5 := Try.isAgg5, z5 := Try.sizeOf5, v5 := Try.zeroValue5,
    t9 := Try.underlying9, a9 := Try.isAgg9, z9 := Try.sizeOf9, v9 := Try.zeroValue9, t22 := Try.underlying30,
    a22 := Try.isAgg30, z22 := Try.sizeOf30, v22 := Try.zeroValue30, t25 := Try.underlying106, a25 := Try.isAgg106,
    z25 := Try.sizeOf106, v25 := Try.zeroValue106, t39 := Try.underlying130, a39 := Try.isAgg130, z39 := Try.sizeOf130,
    v39 := Try.zeroValue130, t45 := Try.underlying148, a45 := Try.isAgg148, z45 := Try.sizeOf148, v45 := Try.zeroValue148,
    t46 := Try.underlying149, a46 := Try.isAgg149, z46 := Try.sizeOf149, v46 := Try.zeroValue149, t50 := Try.underlying25,
    a50 := Try.isAgg25, z50 := Try.sizeOf25, v50 := Try.zeroValue25, t53 := Try.underlying155, a53 := Try.isAgg155,
    z53 := Try.sizeOf155, v53 := Try.zeroValue155, t55 := Try.underlying157, a55 := Try.isAgg157, z55 := Try.sizeOf157,
    v55 := Try.zeroValue157, t66 := Try.underlying163, a66 := Try.isAgg163, z66 := Try.sizeOf163, v66 := Try.zeroValue163,
    t70 := Try.underlying167, a70 := Try.isAgg167, z70 := Try.sizeOf167, v70 := Try.zeroValue167,
    t76 := Try.underlying174, a76 := Try.isAgg174, z76 := Try.sizeOf174, v76 := Try.zeroValue174,
    t77 := Try.underlying175, a77 := Try.isAgg175, z77 := Try.sizeOf175, v77 := Try.zeroValue175 }
end Go.Proofs.Ytkenimmellonjaa
/- Seat r2: latches sorted by their calls. -/
namespace Go.Proofs.Ytkenimmellonjaa
open Go.Pv Go.RowKit Go.Shelf
def cmpK (a b : Kl) : Int := orW (cmpW a.1 b.1) (cmpW a.2.1 b.2.1)
theorem cmpK_lt (a b : Kl) : cmpK a b < 0 ↔ a.1 < b.1 ∨ (a.1 = b.1 ∧ a.2.1 < b.2.1) := by
  unfold cmpK orW cmpW
  by_cases h1 : a.1 < b.1
  · simp [h1]
  · by_cases h2 : a.1 > b.1
    · have : a.1 ≠ b.1 := by omega
      simp [h1, h2, this]
    · have h3 : a.1 = b.1 := by omega
      by_cases h4 : a.2.1 < b.2.1
      · simp [h3, h4]
      · by_cases h5 : a.2.1 > b.2.1
        · simp [h3, h4, h5]
        · simp [h3, h4, h5]
theorem swoK : Sort.SWO (ltOf cmpK) where
  irrefl x := by
    unfold ltOf
    rw [decide_eq_false_iff_not, cmpK_lt]
    omega
  trans x y z h1 h2 := by
    unfold ltOf at *
    rw [decide_eq_true_iff, cmpK_lt] at *
    omega
  ntrans x y z h1 h2 := by
    unfold ltOf at *
    rw [decide_eq_false_iff_not, cmpK_lt] at *
    omega
/-- A call that lays a row anew, by what another function says. -/
theorem turnE {P : Program} {G : Gl} {f g2 sz : Nat} (hcal : Go.Pv.Callee P f) {rows : List (List DV)} {cap : Nat} (Rr : List (List DV) → Prop) (hR0 : rows = [] → Rr [])
    (h0 : ∀ A w, Calls P f #[.slice A 0 0, .func (.func g2) #[] #[]] w fun e w' => e = .returned (.tuple #[]) ∧ w' = w)
    (h1 : ∀ (F : Nat → Prop) (w : World) (b : Nat) (arr : Array Value) (tt : TypeId), w.heap[b]? = some (.cells arr tt (0, 0)) → RowV F w sz rows arr.toList →
      Calls P f #[.slice (some ⟨b, 0, none⟩) rows.length cap, .func (.func g2) #[] #[]] w fun e w' => e = .returned (.tuple #[]) ∧ ∃ rows', rows'.length = rows.length ∧ Rr rows' ∧ ∃ k os nv, nv.length = rows'.length * sz ∧ RowV F (Sort.ahead w k) sz rows' nv ∧ w' = Sort.grow ((Sort.ahead w k).setRow b (setN arr.toList 0 nv).toArray) os) :
    Contract P G f [.slc (.g 0) sz 0 rows.length cap, .fn g2 []] [(0, .row sz rows)] (fun r t => r = .tup [] ∧ ∃ rows', rows'.length = rows.length ∧ Rr rows' ∧ t = [(0, .row sz rows')]) := by
  refine ⟨hcal, fun g F U w vals hS hG hlv hv => ?_⟩
  obtain ⟨v, u, rfl⟩ : ∃ v u, vals = [v, u] := by
    match vals, hlv with
    | [v, u], _ => exact ⟨v, u, rfl⟩
  have hrv := hv 0 _ v rfl rfl
  have hru := hv 1 _ u rfl rfl
  obtain rfl : u = .func (.func g2) #[] #[] := by
    cases hru with
    | fn _ _ vs hl _ =>
      have : vs = [] := List.eq_nil_of_length_eq_zero (by simpa using hl)
      rw [this]
  have htup : ∀ (M : Mp) (F : Nat → Prop) (w : World), RV M F w (.tup []) (.tuple #[]) := fun M F w => .tup [] [] rfl (fun j x v hx => by simp at hx)
  generalize hn : rows.length = n at hrv h1
  cases hrv with
  | slc0 _ _ _ A =>
    have hr : rows = [] := List.eq_nil_of_length_eq_zero hn
    refine (h0 A w).mono fun e w' he => ?_
    obtain ⟨rfl, rfl⟩ := he
    exact ⟨_, _, _, g, F, U, rfl, ⟨rfl, [], by simp, hR0 hr, by rw [hr]⟩, fun _ _ h => h, fun id ab h => .inl ⟨ab, h⟩, fun _ h => h, fun _ h => h, fun _ h => .inl h, .refl _ _, hS, htup _ _ _⟩
  | slc _ _ _ _ _ b hm hc hs =>
    obtain ⟨arr, tt, hbk, hold⟩ := (hS.rb (.g 0) (.row sz rows) b (by simp [Here]) hm).row_of
    rw [Nat.zero_mul]
    refine (h1 F w b arr tt hbk hold).mono fun e w' he => ?_
    obtain ⟨rfl, rows', hl, hR, k, os, nv, hnl, hrow, rfl⟩ := he
    have hspl : splice rows 0 rows' = rows' := by simp [splice, hl, hn]
    have hSa := St.ahead hS k
    have hle := hold.le
    have hE := eff_rows (p := 0) hSa (id := 0) (rows := rows) (by rfl) hm (Nat.zero_le _) hrow hnl (arr := arr) (tt := tt) hbk (by rw [Nat.zero_mul, Nat.zero_add, hnl, hl, ← hn]; simpa using hle) (hold.mono (fun _ h => h) (fun _ _ => rfl))
    rw [hspl, Nat.zero_mul] at hE
    refine ⟨_, _, _, g, F, U, rfl, ⟨rfl, rows', hl, hR, ?_⟩, fun _ _ h => h, fun id ab h => ?_, fun _ h => h, fun _ h => h, fun _ h => .inl h, ?_, St.grow hE.st os, htup _ _ _⟩
    · rfl
    · exact hE.ids id ab h
    · exact ((ahead_ext w k U).trans hE.ext (fun _ h => h)).trans (grow_ext _ os hE.st.Ult) (fun _ h => h)
set_option maxHeartbeats 2000000 in
theorem ins142_none (p : Option Addr) (cap : Nat) (fv : Value) (w : World) : Calls Try.prog 142 #[.slice p 0 cap, .int .i64 0, .int .i64 0, fv] w fun e w' => e = .returned (.tuple #[]) ∧ w' = w := by
  go_enter Try.func142, Try.ntmps142
  go_wp2
  refine wp_loop_rounds 1 ?_
  rw [rounds_succ]
  go_wp2
  go_end0
  exact ⟨rfl, rfl⟩
set_option maxHeartbeats 2000000 in
theorem pdq137_none (p : Option Addr) (cap : Nat) (lim : Int) (fv : Value) (w : World) : Calls Try.prog 137 #[.slice p 0 cap, .int .i64 0, .int .i64 0, .int .i64 lim, fv] w fun e w' => e = .returned (.tuple #[]) ∧ w' = w := by
  have hi := fun W => ins142_none p cap fv W
  go_enter Try.func137, Try.ntmps137
  go_wp2
  refine wp_loop_rounds 1 ?_
  rw [rounds_succ]
  go_wp2_with (go_at_call 142; refine (hi _).mono ?_; rintro e w' ⟨rfl, rfl⟩)
  (try simp only [Exit.inBlock, Exit.then])
  refine bodyPost_ret (results_none rfl _ _ _) rfl ?_
  exact ⟨rfl, rfl⟩
theorem bits101 (n : Nat) (hn : n < 4611686018427387904) (W : World) : Calls Try.prog 101 #[.int .u64 (n : Int)] W fun e w' => e = .returned (.int .i64 (Lib.bitLen n : Nat)) ∧ w' = W := by
  have h := Any.bits_Len (SlLaysF0.n15.bits (P := Try.prog) (ρ := laysF_ren) { laysF with }) (n : Int) W (by omega) (by omega)
  rwa [Int.toNat_natCast] at h
set_option maxHeartbeats 2000000 in
theorem sortF_none (p : Option Addr) (cap : Nat) (fv : Value) (w : World) : Calls Try.prog 103 #[.slice p 0 cap, fv] w fun e w' => e = .returned (.tuple #[]) ∧ w' = w := by
  have hl := fun W => bits101 0 (by omega) W
  have hp := fun lim W => pdq137_none p cap lim fv W
  go_enter Try.func103, Try.ntmps103
  go_wp2_with (first | (go_at_call 101; refine (hl _).mono ?_; rintro e w' ⟨rfl, rfl⟩) | (go_at_call 137; refine (hp _ _).mono ?_; rintro e w' ⟨rfl, rfl⟩))
  go_end0
  exact ⟨rfl, rfl⟩
theorem cmpLays (blk off size : Nat) (w : World) : CmpLays Try.prog 75 #[] cellsK 3 cmpK blk off size w := fun _ _ _ _ x y => compare75 x y _
theorem flat_at (d : Array Kl) (i j : Nat) (hj : j < 3) (hi : i < d.size) : (Sort.flatK cellsK 3 d)[i * 3 + j]? = (cellsK d[i]!)[j]? := by
  have hlt : i * 3 + j < d.size * 3 := by omega
  have h1 := Sort.get_flatK cellsK 3 d (i * 3 + j) hlt
  have h2 : (Sort.flatK cellsK 3 d)[i * 3 + j]? = some (Sort.flatK cellsK 3 d)[i * 3 + j]! := by
    rw [Array.getElem?_eq_getElem (by rw [Sort.size_flatK]; exact hlt), getElem!_pos]
  rw [h2, h1, show (i * 3 + j) / 3 = i by omega, show (i * 3 + j) % 3 = j by omega]
  rw [List.getElem?_eq_getElem (show j < (cellsK d[i]!).length by simpa [cellsK] using hj), getElem!_pos]
theorem sort103 (ss : List Kl) (hs : ss.length ≤ 100000) (cap : Nat) : Contract Try.prog G0 103 [.slc (.g 0) 3 0 ss.length cap, .fn 75 []] [(0, .row 3 (rowsK ss))] (fun r t => r = .tup [] ∧ ∃ q : List Kl, q.Perm ss ∧ q.Pairwise (fun a b => ¬ cmpK b a < 0) ∧ t = [(0, .row 3 (rowsK q))]) := by
  have hrl := rowsK_len ss
  have := turnE (P := Try.prog) (G := G0) (f := 103) (g2 := 75) (sz := 3) (enters_of Try.func103 (by kernel_rfl) rfl) (rows := rowsK ss) (cap := cap)
    (fun rows' => ∃ q : List Kl, q.Perm ss ∧ q.Pairwise (fun a b => ¬ cmpK b a < 0) ∧ rows' = rowsK q) ?_ (fun A w => sortF_none A 0 _ w) ?_
  · rw [hrl] at this
    refine this.mono fun r t h => ?_
    obtain ⟨rfl, rows', _, ⟨q, h1, h2, rfl⟩, rfl⟩ := h
    exact ⟨rfl, q, h1, h2, rfl⟩
  · intro h
    have : ss = [] := List.eq_nil_of_length_eq_zero (by rw [← hrl, h]; rfl)
    subst this
    exact ⟨[], .nil, .nil, rfl⟩
  intro F w b arr tt hbk hrow
  rw [hrl]
  have hle : ss.length * 3 ≤ arr.size := by
    have := hrow.le
    rw [hrl] at this
    simpa using this
  have e75 : ∀ args w, (callFunc 75 args).run Try.prog w = .ok (.enter 75 args) w := enters_of Try.func75 (by kernel_rfl) rfl
  have cell3 : ∀ (k : Kl) (j : Nat) (x : DV) (v : Value), (rowK k)[j]? = some x → (cellsK k)[j]? = some v → ∃ z, x = .int .i64 z ∧ v = .int .i64 z := by
    intro k j x v hx hv
    match j with
    | 0 => simp [rowK] at hx; simp [cellsK] at hv; exact ⟨_, hx.symm, hv.symm⟩
    | 1 => simp [rowK] at hx; simp [cellsK] at hv; exact ⟨_, hx.symm, hv.symm⟩
    | 2 => simp [rowK] at hx; simp [cellsK] at hv; exact ⟨_, hx.symm, hv.symm⟩
    | j + 3 => simp [rowK] at hx
  have hH : Sort.HoldsK cellsK 3 w b 0 ss.toArray := by
    intro j hj
    have hj : j < ss.length * 3 := by simpa using hj
    have hi : j / 3 < ss.length := by omega
    have hr : j % 3 < 3 := Nat.mod_lt _ (by decide)
    have he : j / 3 * 3 + j % 3 = j := by omega
    have hf := flat_at ss.toArray (j / 3) (j % 3) hr (by simpa using hi)
    rw [he] at hf
    have hk : ss.toArray[j / 3]! = ss[j / 3] := by simp [hi]
    rw [hk] at hf
    obtain ⟨v, hv⟩ : ∃ v, arr[j]? = some v := ⟨_, Array.getElem?_eq_getElem (by omega)⟩
    obtain ⟨u, hu⟩ : ∃ u, (cellsK ss[j / 3])[j % 3]? = some u := ⟨_, List.getElem?_eq_getElem (l := cellsK ss[j / 3]) (by simpa [cellsK] using hr)⟩
    obtain ⟨x, hx⟩ : ∃ x, (rowK ss[j / 3])[j % 3]? = some x := ⟨_, List.getElem?_eq_getElem (l := rowK ss[j / 3]) (by simpa [rowK] using hr)⟩
    have hrd := hrow.rd (j / 3) (rowK ss[j / 3]) (j % 3) x v (by simp [rowsK, hi]) hx (by rw [he, Array.getElem?_toList]; exact hv)
    obtain ⟨z, rfl, rfl⟩ := cell3 _ _ _ _ hx hu
    rw [hu] at hf
    have hb : (Sort.flatK cellsK 3 ss.toArray)[j]! = .int .i64 z := by
      rw [getElem!_def, hf]
    refine ⟨?_, by simp [World.frozen?, hbk]⟩
    rw [hb]
    simp only [World.cell?, hbk, Nat.zero_add, Option.isSome_none, Bool.false_eq_true, if_false]
    rw [hv]
    cases hrd with
    | int => rfl
  have hcon := AnyQ.slices_SortFunc laysF 3 Try.isAgg38 Try.sizeOf38 cellsK (fun _ => rfl) (fun x v hv => by simp [cellsK] at hv; rcases hv with rfl | rfl | rfl <;> rfl) cmpK swoK 75 #[] b 0 cap ss.toArray w e75 (cmpLays b 0 ss.toArray.size w) hH ((Array.getElem?_eq_some_iff.1 hbk).1) (by rw [List.size_toArray]; omega)
  refine hcon.mono fun e w' he => ?_
  obtain ⟨rfl, d', n, os, ⟨hsz, _, hp⟩, hsr, rfl⟩ := he
  have hsz : d'.size = ss.length := by simpa using hsz
  have hdl : d'.toList.length = ss.length := by simpa using hsz
  have hq : d'.toList.Perm ss := by
    have h1 : d'.extract 0 ss.toArray.size = d' := by
      rw [List.size_toArray, ← hsz]; simp
    have h2 : ss.toArray.extract 0 ss.toArray.size = ss.toArray := by simp
    rw [h1, h2] at hp
    simpa using hp
  have hfl : (Sort.flatK cellsK 3 d').toList.length = ss.length * 3 := by simp [hsz]
  refine ⟨rfl, rowsK d'.toList, by rw [rowsK_len]; exact hdl, ⟨d'.toList, hq, ?_, rfl⟩, n, os, (Sort.flatK cellsK 3 d').toList, ?_, ⟨?_, ?_, ?_, ?_⟩, ?_⟩
  · refine List.pairwise_iff_getElem.2 fun i j hi hj hij => ?_
    have h1 := hsr i j (Nat.zero_le _) hij (by rw [List.size_toArray]; omega)
    unfold ltOf at h1
    rw [decide_eq_false_iff_not] at h1
    have hi2 : i < d'.size := by simpa using hi
    have hj2 : j < d'.size := by simpa using hj
    rw [getElem!_pos d' i hi2, getElem!_pos d' j hj2] at h1
    simpa using h1
  · rw [rowsK_len, hdl, hfl]
  · rw [rowsK_len, hdl, hfl]
    exact Nat.le_refl _
  · intro i r hr
    simp only [rowsK, List.getElem?_map, Option.map_eq_some_iff] at hr
    obtain ⟨k, _, rfl⟩ := hr
    rfl
  · intro v hv
    obtain ⟨j, hj⟩ := List.mem_iff_getElem?.1 hv
    have hlt : j < ss.length * 3 := by
      have := (List.getElem?_eq_some_iff.1 hj).1
      rw [hfl] at this
      exact this
    have hf := flat_at d' (j / 3) (j % 3) (Nat.mod_lt _ (by decide)) (by omega)
    rw [show j / 3 * 3 + j % 3 = j by omega, ← Array.getElem?_toList, hj] at hf
    have := List.mem_of_getElem? hf.symm
    simp [cellsK] at this
    rcases this with rfl | rfl | rfl <;> rfl
  · intro i r j x v hr hx hv
    simp only [rowsK, List.getElem?_map, Option.map_eq_some_iff] at hr
    obtain ⟨k, hk, rfl⟩ := hr
    have hi : i < d'.size := by
      have := (List.getElem?_eq_some_iff.1 hk).1
      simpa using this
    have hj : j < 3 := by
      have := (List.getElem?_eq_some_iff.1 hx).1
      simpa [rowK] using this
    rw [Array.getElem?_toList, flat_at d' i j hj hi, getElem!_pos d' i hi] at hv
    have hk2 : d'[i] = k := by
      have := (List.getElem?_eq_some_iff.1 hk).2
      simpa using this
    rw [hk2] at hv
    obtain ⟨z, rfl, rfl⟩ := cell3 _ _ _ _ hx hv
    exact .int _ _
  · have hbk' : (Sort.ahead w n).heap[b]? = some (.cells arr tt (0, 0)) := hbk
    have := putRow_eq (id : Value → Value) hbk' (Sort.flatK cellsK 3 d') (by rw [Sort.size_flatK, hsz]; exact hle)
    rw [List.map_id] at this
    rw [← this]
    rfl
theorem sort103_nil : Contract Try.prog G0 103 [.d .nil, .fn 75 []] [] (fun r t => r = .tup [] ∧ t = []) := by
  refine ⟨enters_of Try.func103 (by kernel_rfl) rfl, fun g F U w vals hS hG hlv hv => ?_⟩
  obtain ⟨v, u, rfl⟩ : ∃ v u, vals = [v, u] := by
    match vals, hlv with
    | [v, u], _ => exact ⟨v, u, rfl⟩
  have hrv := hv 0 _ v rfl rfl
  obtain ⟨p, c, rfl⟩ : ∃ p c, v = .slice p 0 c := by
    cases hrv with
    | d h =>
      cases h with
      | nil => exact ⟨_, _, rfl⟩
  refine (sortF_none p c u w).mono fun e w' he => ?_
  obtain ⟨rfl, rfl⟩ := he
  exact ⟨_, _, _, g, F, U, rfl, ⟨rfl, rfl⟩, fun _ _ h => h, fun id ab h => .inl ⟨ab, h⟩, fun _ h => h, fun _ h => h, fun _ h => .inl h, .refl _ _, hS, .tup [] [] rfl (fun j x v hx => by simp at hx)⟩
end Go.Proofs.Ytkenimmellonjaa
/- Seat r2: latches and calls told apart. -/
namespace Go.Proofs.Ytkenimmellonjaa
open Go.Pv Go.RowKit Go.Shelf
abbrev calV (fl dr : Int) : AV := .agg [.d (.int .i64 fl), .d (.int .i64 dr)]
abbrev latV (fl dr gn : Int) : AV := .agg [.d (.int .i64 fl), .d (.int .i64 dr), .d (.int .i64 gn)]
set_option maxRecDepth 100000 in
theorem sameCall (a b a' b' : Int) : Contract Try.prog G0 57 [calV a b, calV a' b'] [] (fun r t => r = .d (.bool (bif a == a' then b == b' else false)) ∧ t = []) := by
  refine run57 0 [] rfl rfl ?_
  conv => whnf
  exact ⟨rfl, rfl⟩
set_option maxRecDepth 100000 in
theorem sameLatch (a b c a' b' c' : Int) : Contract Try.prog G0 58 [latV a b c, latV a' b' c'] [] (fun r t => r = .d (.bool (bif (bif a == a' then b == b' else false) then c == c' else false)) ∧ t = []) := by
  refine run58 0 [] rfl rfl ?_
  conv => whnf
  refine .scal [calV a b, calV a' b'] _ ⟨.refl _, rfl, sameCall a b a' b'⟩ ?_
  conv => whnf
  exact ⟨rfl, rfl⟩
set_option maxRecDepth 100000 in
theorem lessCall (a b a' b' : Int) : Contract Try.prog G0 59 [calV a b, calV a' b'] [] (fun r t => r = .d (.bool (bif decide (a < a') then true else bif a == a' then decide (b < b') else false)) ∧ t = []) := by
  refine run59 0 [] rfl rfl ?_
  conv => whnf
  exact ⟨rfl, rfl⟩
def carB (x : Int) : Bool := bif decide (x ≥ 0) then decide (x < 16) else false
set_option maxRecDepth 100000 in
theorem car107 (x : Int) : Contract Try.prog G0 107 [.d (.int .i64 x)] [] (fun r t => r = .d (.bool (carB x)) ∧ t = []) := by
  refine run107 0 [] rfl rfl ?_
  conv => whnf
  exact ⟨rfl, rfl⟩
def epoB (cnt fdr : Int) : Bool := bif bif bif decide (cnt ≥ 1) then decide (cnt ≤ 4294967295) else false then decide (fdr ≥ 0) else false then decide (fdr < 16) else false
set_option maxRecDepth 100000 in
theorem epoch106 (cnt fdr : Int) : Contract Try.prog G0 106 [.agg [.d (.int .i64 cnt), .d (.int .i64 fdr)]] [] (fun r t => r = .d (.bool (epoB cnt fdr)) ∧ t = []) := by
  refine run106 0 [] rfl rfl ?_
  conv => whnf
  exact ⟨rfl, rfl⟩
def sameK (x y : Int × Int × Int) : Bool := bif (bif x.1 == y.1 then x.2.1 == y.2.1 else false) then x.2.2 == y.2.2 else false
def hasK (l : List (Int × Int × Int)) (y : Int × Int × Int) : Bool := l.any fun x => sameK x y
set_option maxRecDepth 100000 in
theorem hasLatch (l : List (Int × Int × Int)) (hl : l.length ≤ 100000) (a b c : Int) : Contract Try.prog G0 45 [.d (.list 3 (rowsK l)), latV a b c] [] (fun r t => r = .d (.bool (hasK l (a, b, c))) ∧ t = []) := by
  have hlen := rowsK_len l
  refine run45 0 [] rfl rfl ?_
  conv => whnf
  refine StopG.rounds wk45 [] [0, 3, 5] (fun m env s => ∃ i : Nat, i ≤ l.length ∧ (hasK l (a, b, c) = hasK (l.drop i) (a, b, c)) ∧ m = l.length - i ∧ env = [(0, .d (.list 3 (rowsK l))), (3, .ref (.g 0) 0), (5, .d (.int .i64 (i : Int)))] ∧ s = [(0, .cells [.d (.int .i64 a), .d (.int .i64 b), .d (.int .i64 c)])]) rfl ?_ ?_
  · conv => whnf
    exact ⟨_, 0, Nat.zero_le _, rfl, rfl, rfl, rfl⟩
  rintro m env s ⟨i, hi, hh, rfl, rfl, rfl⟩
  conv => whnf
  refine bcase_intro (fun h => ?_) (fun h => ?_) <;> conv => whnf
  · have hil := lt_of h
    rw [hlen] at hil
    obtain ⟨x, hx, hdrop⟩ := at_i hil
    refine ⟨rowK x, ⟨by omega, row_i hx⟩, ?_⟩
    conv => whnf
    refine .scal [latV x.1 x.2.1 x.2.2, latV a b c] _ ⟨.refl _, rfl, sameLatch _ _ _ _ _ _⟩ ?_
    conv => whnf
    rw [hdrop] at hh
    refine bcase_intro (fun hg => ?_) (fun hg => ?_) <;> conv => whnf
    · have hs : sameK x (a, b, c) = true := hg
      rw [hh, hasK, List.any_cons, hs]
      exact ⟨rfl, rfl⟩
    · have hs : sameK x (a, b, c) = false := hg
      rw [succ_i hil (by omega)]
      refine ⟨_, by omega, i + 1, hil, ?_, rfl, rfl, rfl⟩
      rw [hh, hasK, List.any_cons, hs, Bool.false_or]; rfl
  · have hil := ge_of h
    rw [hlen] at hil
    rw [hh, show l.drop i = [] from List.drop_of_length_le hil]
    exact ⟨rfl, rfl⟩
end Go.Proofs.Ytkenimmellonjaa
