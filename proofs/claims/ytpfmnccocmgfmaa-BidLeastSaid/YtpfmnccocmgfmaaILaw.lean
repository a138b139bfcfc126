/- BidLeast: whatever the input, it returns true; each argument reads as it did. -/
import Derived.Test.YtpfmnccocmgfmaaI
import Derived.Test.YtpfmnccocmgfmaaPvW2
import Derived.Test.YtpfmnccocmgfmaaRows
namespace Go.Proofs.Ytpfmnccocmgfmaa
open Go.Pv Go.RowKit Go.ChangeShapes Go.WideShapes

theorem Try.ownL : ownKnob Try.prog.godebug = .none := by kernel_rfl
theorem Try.laidOutL : laidOutB Try.prog = true := by kernel_rfl
theorem bid_row {n : Nat} {r : List DV} (h : Dat T (n + 2) 23 r) : ∃ b : B, r = rowB b := by
  obtain ⟨_, _, rfl, ⟨c, _, _, rfl⟩, _, _, rfl, ⟨t, _, _, rfl⟩, rfl⟩ := h
  exact ⟨(c, t), rfl⟩
theorem bid_arg {n : Nat} {x : AV} (h : ArgD T (n + 2) 23 x) : ∃ b : B, x = bidv b := by
  obtain ⟨xs, h, rfl⟩ := h
  obtain ⟨_, _, rfl, ⟨c, _, _, rfl⟩, _, _, rfl, ⟨t, _, _, rfl⟩, rfl⟩ := h
  exact ⟨(c, t), rfl⟩
theorem bids_arg {n : Nat} {x : AV} (h : ArgD T (n + 3) 45 x) : ∃ l : List B, l.length ≤ maxLen ∧ ∀ {r r' : List AV}, WkL r r' → WkL (x :: r) (.d (.list 2 (rowsB l)) :: r') := by
  obtain ⟨y, h, rfl⟩ := h
  rcases h with h | ⟨rows, h1, h2, h⟩
  · cases h
    exact ⟨[], by simp, fun hw => .n 2 hw⟩
  · cases h
    have : ∃ l : List B, rows = rowsB l := by
      clear h1
      induction rows with
      | nil => exact ⟨[], rfl⟩
      | cons r rs ih =>
        obtain ⟨l, h3⟩ := ih fun x hx => h2 x (List.mem_cons_of_mem _ hx)
        obtain ⟨b, h4⟩ := bid_row (h2 r (List.mem_cons_self ..))
        exact ⟨b :: l, by rw [h3, h4]; rfl⟩
    obtain ⟨l, rfl⟩ := this
    exact ⟨l, by simpa [rowsB] using h1, fun hw => .s _ hw⟩
theorem bidLeast_lifted (os : Os) (started : os.Started) (H : Type) (enc : TypeId × Value → H) :
    ReturnsInHanded {} Try.checked os 5 .any (Rows.bidLeastSpec.pre6 enc Try.prog Try.f5 Rows.bidLeastRow.domain false) (Rows.bidLeastSpec.post enc Try.prog Try.f5 false true false false) := by
  refine returnsInHanded_of_change (C := Try.checked) Try.ownL started (by kernel_rfl) Try.func5
    (ChangeSpec.witness6 (enc := enc) (C := Try.checked) false ⟨#[], #[.slice .none 0 0, .agg #[.int .i64 0, .int .i64 0]], []⟩ 8 (by kernel_rfl) (by kernel_rfl) (by kernel_rfl) (by kernel_rfl)) ?_
  intro W base args ds gs before hval hW _ _
  refine law_calls (P := Try.prog) (n := 8) tabOK (G := G0) (fun _ => rfl) Try.laidOutL (tb := 4) rfl Try.underlying4 (by kernel_rfl) (by kernel_rfl) rfl ?_ ?_ hval hW
  · intro ds hds
    match ds, hds with
    | [d1, d2], _ => rfl
  · intro xs hx
    obtain ⟨x1, _, rfl, h1, x2, _, rfl, h2, rfl⟩ := hx
    obtain ⟨l, _, hw⟩ := bids_arg h1
    obtain ⟨b, rfl⟩ := bid_arg h2
    exact (bidLeast l b).wk (hw (WkL.refl _))

theorem bidLeast_holds : Rows.BidLeastSaid :=
  OpenClaim.holds_of_wide 5 Try.f5 rfl rfl rfl rfl rfl rfl rfl ⟨rfl, rfl, rfl, rfl, rfl⟩ rfl rfl rfl rfl rfl (by kernel_rfl) Try.func5 (by kernel_rfl)
    (of_decide_eq_true (by kernel_rfl)) (by unfold Func.isWrapper; first | (rw [if_pos (by decide +kernel)]; kernel_rfl) | (rw [if_neg (by decide +kernel)]; exact ⟨rfl, rfl⟩))
    (fun os started H enc _ => bidLeast_lifted os started H enc)
#print axioms bidLeast_holds
end Go.Proofs.Ytpfmnccocmgfmaa
