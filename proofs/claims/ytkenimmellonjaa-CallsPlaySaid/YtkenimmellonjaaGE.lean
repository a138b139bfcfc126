/- The seat's texts, part 5: what single functions of the program compute; no statement of its own. -/
import Derived.Test.YtkenimmellonjaaGD
/- Seat r2: sets of calls played: what comes in. -/
namespace Go.Proofs.Ytkenimmellonjaa
open Go.Pv Go.RowKit
theorem dat_do {n : Nat} {r : List DV} (h : Dat T (n + 5) 76 r) : ∃ (e : Dt) (x : DV), r = [.int .i64 e.kind, .int .i64 e.lt.1, .int .i64 e.lt.2.1, .int .i64 e.lt.2.2, x] ∧ WkD x (.list 3 (rowsK e.kp)) := by
  obtain ⟨_, _, rfl, ⟨kd, _, _, rfl⟩, _, _, rfl, hl, _, _, rfl, hk, rfl⟩ := h
  obtain ⟨k, rfl⟩ := dat_lat (n := n + 1) hl
  obtain ⟨x, l, rfl, _, hw⟩ := dat_lats hk
  exact ⟨⟨kd, k, l⟩, x, rfl, hw⟩
theorem dat_dos {n : Nat} {r : List DV} (h : Dat T (n + 6) 73 r) : ∃ (x : DV) (l : List Dt), r = [x] ∧ l.length ≤ maxLen ∧ WkD x (.list 5 (rowsD l)) := by
  rcases h with h | ⟨rows, h1, h2, h⟩
  · exact ⟨.nil, [], h, by simp, WkD.nil 5⟩
  · have : ∃ l : List Dt, rows.length = l.length ∧ ∀ (i : Nat) (r r' : List DV), rows[i]? = some r → (rowsD l)[i]? = some r' → r'.length = r.length ∧ ∀ (j : Nat) (x y : DV), r[j]? = some x → r'[j]? = some y → WkD x y := by
      clear h1 h
      induction rows with
      | nil => exact ⟨[], rfl, by simp⟩
      | cons r rs ih =>
        obtain ⟨l, h3, h4⟩ := ih fun x hx => h2 x (List.mem_cons_of_mem _ hx)
        obtain ⟨e, z, h5, hw⟩ := dat_do (h2 r (List.mem_cons_self ..))
        refine ⟨e :: l, by simp [h3], fun i a a' ha ha' => ?_⟩
        cases i with
        | succ i => exact h4 i a a' ha ha'
        | zero =>
          cases ha
          cases ha'
          subst h5
          refine ⟨rfl, fun j x y hx hy => ?_⟩
          match j, hx, hy with
          | 0, hx, hy => cases hx; cases hy; exact WkD.refl _
          | 1, hx, hy => cases hx; cases hy; exact WkD.refl _
          | 2, hx, hy => cases hx; cases hy; exact WkD.refl _
          | 3, hx, hy => cases hx; cases hy; exact WkD.refl _
          | 4, hx, hy => cases hx; cases hy; exact hw
          | j + 5, hx, hy => cases hx
    obtain ⟨l, h3, h4⟩ := this
    exact ⟨_, l, h, by rw [← h3]; exact h1, WkD.list (by rw [rowsD_len, h3]) h4⟩
theorem arg_dos {n : Nat} {x : AV} (h : ArgD T (n + 6) 73 x) : ∃ l : List Dt, l.length ≤ maxLen ∧ ∀ {r r' : List AV}, WkL r r' → WkL (x :: r) (.d (.list 5 (rowsD l)) :: r') := by
  obtain ⟨y, h, rfl⟩ := h
  obtain ⟨z, l, hz, hl, hw⟩ := dat_dos h
  cases hz
  exact ⟨l, hl, fun h => .w hw h⟩
theorem arg_call {n : Nat} {x : AV} (h : ArgD T (n + 2) 36 x) : ∃ a : Int × Int, x = calC a := by
  obtain ⟨xs, h, rfl⟩ := h
  obtain ⟨_, _, rfl, ⟨fl, _, _, rfl⟩, _, _, rfl, ⟨dr, _, _, rfl⟩, rfl⟩ := h
  exact ⟨(fl, dr), rfl⟩
end Go.Proofs.Ytkenimmellonjaa
