/- OrderSets: what it returns, wherever it is called. -/
import Derived.Test.YtkenimmellonjaaH
import Derived.Test.YtkenimmellonjaaFrC
import Derived.Test.YtkenimmellonjaaRows
namespace Go.Proofs.Ytkenimmellonjaa
open Go.Pv Go.RowKit Go.ChangeShapes Go.WideShapes

theorem Try.ownS : ownKnob Try.prog.godebug = .none := by kernel_rfl
theorem Try.laidOutS : laidOutB Try.prog = true := by kernel_rfl
set_option maxRecDepth 100000 in
theorem orderSets_lifted (os : Os) (started : os.Started) (H : Type) (enc : TypeId × Value → H) :
    ReturnsInHanded {} Try.checked os 10 .any (Rows.orderSetsSpec.pre6 enc Try.prog Try.f10 Rows.orderSetsRow.domain false) (Rows.orderSetsSpec.post enc Try.prog Try.f10 false true false false) := by
  refine returnsInHanded_of_change (C := Try.checked) Try.ownS started (by kernel_rfl) Try.func10
    (ChangeSpec.witness6 (enc := enc) (C := Try.checked) false ⟨#[], #[.slice .none 0 0, .int .i64 0], []⟩ 8 (by kernel_rfl) (by kernel_rfl) (by kernel_rfl) (by kernel_rfl)) ?_
  intro W base args ds gs before hval hW _ _
  refine law_calls (P := Try.prog) (n := 8) tabOK (G := G0) (fun _ => rfl) Try.laidOutS (tb := 4) (by kernel_rfl) Try.underlying4 (by kernel_rfl) (by kernel_rfl) (by kernel_rfl) ?_ ?_ hval hW
  · intro ds hds
    match ds, hds with
    | [d1, d2], _ => rfl
  · intro xs hx
    obtain ⟨x1, _, rfl, h1, x2, _, rfl, h2, rfl⟩ := hx
    obtain ⟨ms, _, _, hw⟩ := arg_ints (n := 6) (T := T) (t := 22) (e := 3) (ti := ti22) (te := ti3) (by kernel_rfl) rfl rfl (by kernel_rfl) rfl rfl h1
    obtain ⟨_, ⟨m, _, _, hm⟩, rfl⟩ := h2
    cases hm
    exact (orderSets ms m).wk (hw (WkL.refl _))

end Go.Proofs.Ytkenimmellonjaa
