/- The seat's texts, part 5: what single functions of the program compute; no statement of its own. -/
import Derived.Test.YtkenimmellonjaaGA
import Derived.Test.YtkenimmellonjaaGD
/- Seat r2: rings that come in. -/
namespace Go.Proofs.Ytkenimmellonjaa
open Go.Pv Go.RowKit
theorem dat_bid {n : Nat} {r : List DV} (h : Dat T (n + 2) 89 r) : ∃ b : B, r = rowB b := by
  obtain ⟨_, _, rfl, ⟨c, _, _, rfl⟩, _, _, rfl, ⟨p, _, _, rfl⟩, rfl⟩ := h
  exact ⟨(c, p), rfl⟩
theorem dat_bids {n : Nat} {r : List DV} (h : Dat T (n + 3) 70 r) : ∃ (x : DV) (l : List B), r = [x] ∧ l.length ≤ maxLen ∧ WkD x (.list 2 (rowsB l)) := by
  rcases h with h | ⟨rows, h1, h2, h⟩
  · exact ⟨.nil, [], h, by simp, WkD.nil 2⟩
  · have : ∃ l : List B, rows = rowsB l := by
      clear h1 h
      induction rows with
      | nil => exact ⟨[], rfl⟩
      | cons r rs ih =>
        obtain ⟨l, h3⟩ := ih fun x hx => h2 x (List.mem_cons_of_mem _ hx)
        obtain ⟨b, h4⟩ := dat_bid (h2 r (List.mem_cons_self ..))
        exact ⟨b :: l, by rw [h3, h4]; rfl⟩
    obtain ⟨l, rfl⟩ := this
    exact ⟨_, l, h, by simpa [rowsB] using h1, WkD.refl _⟩
theorem dat_entry {n : Nat} {r : List DV} (h : Dat T (n + 4) 72 r) : ∃ (e : En) (x : DV), r = [.int .i64 e.fl, .int .i64 e.dr, .int .i64 e.gn, x, .int .i64 e.aw] ∧ WkD x (.list 2 (rowsB e.bids)) := by
  obtain ⟨_, _, rfl, ⟨_, _, rfl, ⟨_, _, rfl, ⟨fl, _, _, rfl⟩, _, _, rfl, ⟨dr, _, _, rfl⟩, rfl⟩, _, _, rfl, ⟨gn, _, _, rfl⟩, rfl⟩, _, _, rfl, hb, _, _, rfl, ⟨aw, _, _, rfl⟩, rfl⟩ := h
  obtain ⟨x, l, rfl, _, hw⟩ := dat_bids hb
  exact ⟨⟨fl, dr, gn, l, aw⟩, x, rfl, hw⟩
theorem dat_ents {n : Nat} {r : List DV} (h : Dat T (n + 5) 63 r) : ∃ (x : DV) (l : List En), r = [x] ∧ l.length ≤ maxLen ∧ WkD x (.list 5 (rowsE l)) := by
  rcases h with h | ⟨rows, h1, h2, h⟩
  · exact ⟨.nil, [], h, by simp, WkD.nil 5⟩
  · have : ∃ l : List En, rows.length = l.length ∧ ∀ (i : Nat) (r r' : List DV), rows[i]? = some r → (rowsE l)[i]? = some r' → r'.length = r.length ∧ ∀ (j : Nat) (x y : DV), r[j]? = some x → r'[j]? = some y → WkD x y := by
      clear h1 h
      induction rows with
      | nil => exact ⟨[], rfl, by simp⟩
      | cons r rs ih =>
        obtain ⟨l, h3, h4⟩ := ih fun x hx => h2 x (List.mem_cons_of_mem _ hx)
        obtain ⟨e, z, h5, hw⟩ := dat_entry (h2 r (List.mem_cons_self ..))
        refine ⟨e :: l, by simp [h3], fun i a a' ha ha' => ?_⟩
        cases i with
        | succ i => exact h4 i a a' ha ha'
        | zero =>
          cases ha
          cases ha'
          subst h5
          refine ⟨rfl, fun j x y hx hy => ?_⟩
          match j, hx, hy with
          | 0, hx, hy => cases hx; cases hy; exact WkD.refl _
          | 1, hx, hy => cases hx; cases hy; exact WkD.refl _
          | 2, hx, hy => cases hx; cases hy; exact WkD.refl _
          | 3, hx, hy => cases hx; cases hy; exact hw
          | 4, hx, hy => cases hx; cases hy; exact WkD.refl _
          | j + 5, hx, hy => cases hx
    obtain ⟨l, h3, h4⟩ := this
    exact ⟨_, l, h, by rw [← h3]; exact h1, WkD.list (by rw [rowsE_len, h3]) h4⟩
theorem arg_ring {n : Nat} {x : AV} (h : ArgD T (n + 6) 65 x) : ∃ (cnt fdr hop : Int) (mem : List Int) (l : List En), mem.length ≤ maxLen ∧ l.length ≤ maxLen ∧ ∀ {r r' : List AV}, WkL r r' → WkL (x :: r) (rgV cnt fdr hop mem (.d (.list 5 (rowsE l))) :: r') := by
  obtain ⟨xs, h, rfl⟩ := h
  obtain ⟨_, _, rfl, ⟨_, _, rfl, ⟨cnt, _, _, rfl⟩, _, _, rfl, ⟨fdr, _, _, rfl⟩, rfl⟩, _, _, rfl, ⟨hop, _, _, rfl⟩, _, _, rfl, hm, _, _, rfl, he, rfl⟩ := h
  obtain ⟨x1, mem, rfl, hml, _, hw1⟩ := dat_ints hm
  obtain ⟨x2, l, rfl, hll, hw2⟩ := dat_ents he
  exact ⟨cnt, fdr, hop, mem, l, hml, hll, fun hw => .a (.s _ (.s _ (.s _ (hw1 (.w hw2 .nil))))) hw⟩
end Go.Proofs.Ytkenimmellonjaa
