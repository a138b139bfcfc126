/- Plain laws that many texts want. -/
import Derived.Test.YtkenimmellonjaaPvW2
import Derived.Test.YtkenimmellonjaaPvSo
namespace Go.Pv
open Go.RowKit
theorem rd_bool {a b : Bool} (h : a = b) : AV.d (.bool a) = .d (.bool b) := by rw [h]
theorem rd_int {a b : Int} (h : a = b) : AV.d (.int .i64 a) = .d (.int .i64 b) := by rw [h]
theorem bif_or (a b : Bool) : (bif a then true else b) = (a || b) := by cases a <;> rfl
theorem bif_and (a b : Bool) : (bif a then b else false) = (a && b) := by cases a <;> rfl
theorem wrap_id {n : Int} (h0 : -9223372036854775808 ≤ n) (h1 : n ≤ 9223372036854775807) : IntKind.wrap .i64 n = n := by
  unfold IntKind.wrap
  simp [IntKind.signed, IntKind.bits]
  omega
theorem at_i {α : Type} {l : List α} {i : Nat} (h : i < l.length) : ∃ x, l[i]? = some x ∧ l.drop i = x :: l.drop (i + 1) := by
  refine ⟨l[i], List.getElem?_eq_getElem h, ?_⟩
  rw [List.drop_eq_getElem_cons h]
theorem row_i {α : Type} {row : α → List DV} {l : List α} {i : Nat} {x : α} (h : l[i]? = some x) : (l.map row)[(i : Int).toNat]? = some (row x) := by simp [h]
theorem succ_i {i n : Nat} (h : i < n) (hn : n ≤ 4611686018427387904) : IntKind.wrap .i64 ((i : Int) + 1) = ((i + 1 : Nat) : Int) := by
  rw [wrap_id (by omega) (by omega)]
  rfl
theorem pred_i {i : Nat} (h : 0 < i) (hn : i ≤ 4611686018427387904) : IntKind.wrap .i64 ((i : Int) - 1) = ((i - 1 : Nat) : Int) := by
  rw [wrap_id (by omega) (by omega)]
  omega
theorem lt_of {i n : Nat} (h : decide ((i : Int) < (n : Int)) = true) : i < n := by simpa using h
theorem ge_of {i n : Nat} (h : decide ((i : Int) < (n : Int)) = false) : n ≤ i := by simpa using h
theorem list_has {α : Type} (l : List α) (i : Nat) (h : i < l.length) : ∃ x, l[i]? = .some x := ⟨_, List.getElem?_eq_getElem h⟩
/-- Where the first one is of which p holds, from i on. -/
def idxFrom {α : Type} (p : α → Bool) : List α → Int → Int
  | [], _ => -1
  | x :: r, i => if p x then i else idxFrom p r (i + 1)
theorem idx_cases {α : Type} (p : α → Bool) : ∀ (l : List α) (i : Nat), (idxFrom p l i = -1 ∧ l.find? p = .none) ∨ ∃ k x, idxFrom p l i = ((i + k : Nat) : Int) ∧ l[k]? = .some x ∧ l.find? p = .some x
  | [], i => .inl ⟨rfl, rfl⟩
  | y :: r, i => by
    simp only [idxFrom, List.find?]
    cases h : p y with
    | true => exact .inr ⟨0, y, by simp, rfl, rfl⟩
    | false =>
      simp only [Bool.false_eq_true, if_false]
      rcases idx_cases p r (i + 1) with ⟨h1, h2⟩ | ⟨k, x, h1, h2, h3⟩
      · exact .inl ⟨by simpa using h1, h2⟩
      · exact .inr ⟨k + 1, x, by rw [show (i : Int) + 1 = ((i + 1 : Nat) : Int) by simp, h1]; congr 1; omega, by simpa using h2, h3⟩
theorem idx_cases0 {α : Type} (p : α → Bool) (l : List α) : (idxFrom p l 0 = -1 ∧ l.find? p = .none) ∨ ∃ k x, idxFrom p l 0 = ((k : Nat) : Int) ∧ l[k]? = .some x ∧ l.find? p = .some x := by
  have := idx_cases p l 0
  simpa using this
theorem idx_any {α : Type} (p : α → Bool) (l : List α) : decide (idxFrom p l 0 ≥ 0) = l.any p := by
  rcases idx_cases0 p l with ⟨h, k⟩ | ⟨k, x, h, _, g⟩
  · rw [h]
    simp only [List.find?_eq_none] at k
    symm; rw [show decide ((-1 : Int) ≥ 0) = false from rfl, List.any_eq_false]
    exact k
  · rw [h]
    have h1 := List.find?_some g
    have h2 := List.mem_of_find?_eq_some g
    symm; rw [show decide ((k : Int) ≥ 0) = true by simp, List.any_eq_true]
    exact ⟨x, h2, h1⟩
/-- The i-th is found at i where no other is like it. -/
theorem idx_nodup : ∀ (l : List Int) (j : Nat) (i : Nat) (x : Int), l.Nodup → l[i]? = .some x → idxFrom (fun y => x == y) l j = ((j + i : Nat) : Int)
  | [], _, i, x, _, h => by simp at h
  | y :: r, j, 0, x, _, h => by
    simp at h
    subst h
    simp [idxFrom]
  | y :: r, j, i + 1, x, hn, h => by
    simp at h
    have hn' := List.nodup_cons.1 hn
    have : (x == y) = false := by
      rw [beq_eq_false_iff_ne]
      rintro rfl
      exact hn'.1 (List.mem_of_getElem? h)
    simp only [idxFrom, this, Bool.false_eq_true, if_false]
    rw [show (j : Int) + 1 = ((j + 1 : Nat) : Int) from rfl, idx_nodup r (j + 1) i x hn'.2 h]
    congr 1
    omega
def rowI (n : Int) : List DV := [.int .i64 n]
def rowsI (l : List Int) : List (List DV) := l.map rowI
theorem rowsI_len (l : List Int) : (rowsI l).length = l.length := by simp [rowsI]
/-- A number below, of a number. -/
def numB (n : Int) (m : Nat) : Nat := (if n.tmod m < 0 then n.tmod m + m else n.tmod m).toNat
theorem numB_lt (n : Int) {m : Nat} (hm : 0 < m) : numB n m < m := by
  have h1 := Int.lt_tmod_of_pos n (show (0 : Int) < (m : Int) by omega)
  have h2 := Int.tmod_lt_of_pos n (show (0 : Int) < (m : Int) by omega)
  unfold numB
  split <;> omega

/-! ### A set of ints: sorted, each once -/
def dd : List Int → List Int
  | [] => []
  | [x] => [x]
  | x :: y :: r => if x = y then dd (y :: r) else x :: dd (y :: r)
theorem dd_snoc : ∀ (a : List Int) (x y : Int), dd (a ++ [x, y]) = dd (a ++ [x]) ++ (if x = y then [] else [y])
  | [], x, y => by simp only [List.nil_append, dd]; split <;> rename_i h <;> simp [h]
  | [z], x, y => by
    have := dd_snoc [] x y
    simp only [List.nil_append] at this
    simp only [List.cons_append, List.nil_append, dd]
    split <;> split <;> simp_all [dd]
  | z :: z' :: r, x, y => by
    have := dd_snoc (z' :: r) x y
    simp only [List.cons_append] at this ⊢
    simp only [dd]
    split
    · exact this
    · rw [List.cons_append, this]
theorem dd_mem : ∀ (l : List Int) (x : Int), x ∈ dd l ↔ x ∈ l
  | [], x => by simp [dd]
  | [y], x => by simp [dd]
  | a :: b :: r, x => by
    have := dd_mem (b :: r) x
    simp only [dd]
    split
    · rename_i h; subst h; rw [this]; simp
    · rw [List.mem_cons, this]; simp
abbrev IncI (l : List Int) : Prop := l.Pairwise (· < ·)
theorem dd_inc : ∀ (l : List Int), l.Pairwise (· ≤ ·) → IncI (dd l)
  | [], _ => by simp [dd]
  | [y], _ => by simp [dd]
  | a :: b :: r, h => by
    have h1 := List.pairwise_cons.1 h
    have ih := dd_inc (b :: r) h1.2
    simp only [dd]
    split
    · exact ih
    · rename_i hab
      refine List.pairwise_cons.2 ⟨fun x hx => ?_, ih⟩
      have hx' := (dd_mem _ _).1 hx
      have hb := h1.1 b (by simp)
      rcases List.mem_cons.1 hx' with rfl | hx'
      · omega
      · have := (List.pairwise_cons.1 h1.2).1 x hx'
        omega
theorem dd_id : ∀ (l : List Int), IncI l → dd l = l
  | [], _ => rfl
  | [y], _ => rfl
  | a :: b :: r, h => by
    have h1 := List.pairwise_cons.1 h
    have := h1.1 b (by simp)
    simp only [dd]
    rw [if_neg (by omega), dd_id (b :: r) h1.2]
def sortI (l : List Int) : List Int := l.mergeSort fun x y => decide (x ≤ y)
theorem sortI_len (l : List Int) : (sortI l).length = l.length := List.length_mergeSort l
theorem sortI_perm (l : List Int) : (sortI l).Perm l := List.mergeSort_perm l _
theorem sortI_sorted (l : List Int) : (sortI l).Pairwise (· ≤ ·) := by
  have := List.pairwise_mergeSort (le := fun x y : Int => decide (x ≤ y)) (fun a b c h1 h2 => by simp at *; omega) (fun a b => by simp; omega) l
  exact this.imp fun h => by simpa using h
def setI (l : List Int) : List Int := dd (sortI l)
theorem setI_inc (l : List Int) : IncI (setI l) := dd_inc _ (sortI_sorted l)
theorem setI_mem (l : List Int) (x : Int) : x ∈ setI l ↔ x ∈ l := by
  unfold setI
  rw [dd_mem, (sortI_perm l).mem_iff]
theorem inc_nodup {l : List Int} (h : IncI l) : l.Nodup := h.imp fun h => by omega
theorem dd_len : ∀ (l : List Int), (dd l).length ≤ l.length
  | [] => Nat.le_refl _
  | [_] => Nat.le_refl _
  | a :: b :: r => by
    have := dd_len (b :: r)
    simp only [dd]
    split
    · simp at this ⊢; omega
    · simp at this ⊢; omega
theorem setI_len (l : List Int) : (setI l).length ≤ l.length := by
  have := dd_len (sortI l)
  rw [sortI_len] at this
  exact this
theorem sorted_eq : ∀ {a b : List Int}, a.Perm b → a.Pairwise (· ≤ ·) → b.Pairwise (· ≤ ·) → a = b := by
  intro a b hp ha hb
  exact hp.eq_of_pairwise (fun x y _ _ h1 h2 => by omega) ha hb
theorem setI_perm {l s : List Int} (hp : l.Perm s) (hs : IncI s) : setI l = s := by
  have h1 : sortI l = s := sorted_eq ((sortI_perm l).trans hp) (sortI_sorted l) (hs.imp fun h => by omega)
  rw [setI, h1, dd_id s hs]
end Go.Pv
