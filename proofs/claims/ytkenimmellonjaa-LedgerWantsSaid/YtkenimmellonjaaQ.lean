/- Seat r2: what comes in. -/
import Derived.Test.YtkenimmellonjaaTab
import Derived.Test.YtkenimmellonjaaFrC
import Derived.Test.YtkenimmellonjaaFrD
namespace Go.Proofs.Ytkenimmellonjaa
open Go.Pv Go.RowKit
theorem dat_int {n : Nat} {r : List DV} (h : Dat T (n + 1) 3 r) : ∃ m : Int, IntKind.min .i64 ≤ m ∧ m ≤ IntKind.max .i64 ∧ r = [.int .i64 m] := by
  obtain ⟨m, h1, h2, rfl⟩ := h
  exact ⟨m, h1, h2, rfl⟩
theorem dat_ints {n : Nat} {r : List DV} (h : Dat T (n + 2) 22 r) : ∃ (x : DV) (l : List Int), r = [x] ∧ l.length ≤ maxLen ∧ (∀ m ∈ l, IntKind.min .i64 ≤ m ∧ m ≤ IntKind.max .i64) ∧ ∀ {r r' : List AV}, WkL r r' → WkL (.d x :: r) (.d (.list 1 (rowsI l)) :: r') := by
  rcases h with h | ⟨rows, h1, h2, h⟩
  · exact ⟨.nil, [], h, by simp, by simp, fun hw => .n 1 hw⟩
  · have : ∃ ms : List Int, rows = rowsI ms ∧ ∀ m ∈ ms, IntKind.min .i64 ≤ m ∧ m ≤ IntKind.max .i64 := by
      clear h1 h
      induction rows with
      | nil => exact ⟨[], rfl, by simp⟩
      | cons r rs ih =>
        obtain ⟨ms, h3, h4⟩ := ih fun x hx => h2 x (List.mem_cons_of_mem _ hx)
        obtain ⟨m, h6, h7, h8⟩ := dat_int (h2 r (List.mem_cons_self ..))
        refine ⟨m :: ms, by rw [h3, h8]; rfl, ?_⟩
        intro x hx
        rcases List.mem_cons.1 hx with rfl | hx
        · exact ⟨h6, h7⟩
        · exact h4 x hx
    obtain ⟨ms, rfl, h3⟩ := this
    exact ⟨.list 1 (rowsI ms), ms, h, by simpa [rowsI] using h1, h3, fun hw => .s _ hw⟩
theorem arg_case {n : Nat} {x : AV} (h : ArgD T (n + 4) 45 x) : ∃ (car cars : Int) (out any : Bool) (alive ring : List Int) (since fnd : Int), ∀ {r r' : List AV}, WkL r r' → WkL (x :: r) (.agg [.d (.int .i64 car), .d (.int .i64 cars), .d (.bool out), .d (.bool any), .d (.list 1 (rowsI alive)), .d (.list 1 (rowsI ring)), .d (.int .i64 since), .d (.int .i64 fnd)] :: r') := by
  obtain ⟨xs, h, rfl⟩ := h
  obtain ⟨_, _, rfl, ⟨car, _, _, rfl⟩, _, _, rfl, ⟨cars, _, _, rfl⟩, _, _, rfl, ⟨out, rfl⟩, _, _, rfl, ⟨any, rfl⟩, _, _, rfl, hal, _, _, rfl, hri, _, _, rfl, ⟨since, _, _, rfl⟩, _, _, rfl, ⟨fnd, _, _, rfl⟩, rfl⟩ := h
  obtain ⟨x1, l1, rfl, _, _, hw1⟩ := dat_ints hal
  obtain ⟨x2, l2, rfl, _, _, hw2⟩ := dat_ints hri
  exact ⟨car, cars, out, any, l1, l2, since, fnd, fun hw => .a (.s _ (.s _ (.s _ (.s _ (hw1 (hw2 (.s _ (.s _ .nil)))))))) hw⟩
end Go.Proofs.Ytkenimmellonjaa
