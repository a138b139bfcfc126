/- BidFull: whatever the input, it returns true; each argument reads as it did. -/
import Derived.Test.YtpfmnccocmgfmaaF
import Derived.Test.YtpfmnccocmgfmaaPvY
import Derived.Test.YtpfmnccocmgfmaaRows
namespace Go.Proofs.Ytpfmnccocmgfmaa
open Go.Pv Go.RowKit Go.ChangeShapes Go.WideShapes

theorem Try.ownF : ownKnob Try.prog.godebug = .none := by kernel_rfl
theorem Try.laidOutF : laidOutB Try.prog = true := by kernel_rfl
theorem bidFull_lifted (os : Os) (started : os.Started) (H : Type) (enc : TypeId × Value → H) :
    ReturnsInHanded {} Try.checked os 7 .any (Rows.bidFullSpec.pre6 enc Try.prog Try.f7 Rows.bidFullRow.domain false) (Rows.bidFullSpec.post enc Try.prog Try.f7 false true false false) := by
  refine returnsInHanded_of_change (C := Try.checked) Try.ownF started (by kernel_rfl) Try.func7
    (ChangeSpec.witness6 (enc := enc) (C := Try.checked) false ⟨#[], #[.slice .none 0 0, .int .i64 0], []⟩ 8 (by kernel_rfl) (by kernel_rfl) (by kernel_rfl) (by kernel_rfl)) ?_
  intro W base args ds gs before hval hW _ _
  refine law_calls (P := Try.prog) (n := 8) tabOK (G := G0) (fun _ => rfl) Try.laidOutF (tb := 4) rfl Try.underlying4 (by kernel_rfl) (by kernel_rfl) rfl ?_ ?_ hval hW
  · intro ds hds
    match ds, hds with
    | [d1, d2], _ => rfl
  · intro xs hx
    obtain ⟨x1, _, rfl, h1, x2, _, rfl, h2, rfl⟩ := hx
    obtain ⟨ms, _, _, hw⟩ := arg_ints (n := 6) (T := T) (t := 50) (e := 3) (ti := ti50) (te := ti3) (by kernel_rfl) rfl rfl (by kernel_rfl) rfl rfl h1
    obtain ⟨_, ⟨m, _, _, hm⟩, rfl⟩ := h2
    cases hm
    exact (bidFull ms m).wk (hw (WkL.refl _))

theorem bidFull_holds : Rows.BidFullSaid :=
  OpenClaim.holds_of_wide 7 Try.f7 rfl rfl rfl rfl rfl rfl rfl ⟨rfl, rfl, rfl, rfl, rfl⟩ rfl rfl rfl rfl rfl (by kernel_rfl) Try.func7 (by kernel_rfl)
    (of_decide_eq_true (by kernel_rfl)) (by unfold Func.isWrapper; first | (rw [if_pos (by decide +kernel)]; kernel_rfl) | (rw [if_neg (by decide +kernel)]; exact ⟨rfl, rfl⟩))
    (fun os started H enc _ => bidFull_lifted os started H enc)
#print axioms bidFull_holds
end Go.Proofs.Ytpfmnccocmgfmaa
