/- CallsOrder: what it returns, wherever it is called. -/
import Derived.Test.YtkenimmellonjaaGC
import Derived.Test.YtkenimmellonjaaRows
namespace Go.Proofs.Ytkenimmellonjaa
open Go.Pv Go.RowKit Go.ChangeShapes Go.WideShapes

theorem Try.ownCallsOrder : ownKnob Try.prog.godebug = .none := by kernel_rfl
theorem Try.laidOutCallsOrder : laidOutB Try.prog = true := by kernel_rfl
set_option maxRecDepth 100000 in
theorem callsOrder_lifted (os : Os) (started : os.Started) (H : Type) (enc : TypeId × Value → H) :
    ReturnsInHanded {} Try.checked os 5 .any (Rows.callsOrderSpec.pre6 enc Try.prog Try.f5 Rows.callsOrderRow.domain false) (Rows.callsOrderSpec.post enc Try.prog Try.f5 false true false false) := by
  refine returnsInHanded_of_change (C := Try.checked) Try.ownCallsOrder started (by kernel_rfl) Try.func5
    (ChangeSpec.witness6 (enc := enc) (C := Try.checked) false ⟨#[], #[.slice .none 0 0, .int .i64 0], []⟩ 8 (by kernel_rfl) (by kernel_rfl) (by kernel_rfl) (by kernel_rfl)) ?_
  intro W base args ds gs before hval hW _ _
  refine law_calls (P := Try.prog) (n := 8) tabOK (G := G0) (fun _ => rfl) Try.laidOutCallsOrder (tb := 4) (by kernel_rfl) Try.underlying4 (by kernel_rfl) (by kernel_rfl) (by kernel_rfl) ?_ ?_ hval hW
  · intro ds hds
    match ds, hds with
    | [d1, d2], _ => rfl
  · intro xs hx
    obtain ⟨x1, _, rfl, h1, x2, _, rfl, h2, rfl⟩ := hx
    obtain ⟨l, hl, hw1⟩ := arg_lats h1
    obtain ⟨_, ⟨a, _, _, ha⟩, rfl⟩ := h2
    cases ha
    exact (callsOrder l hl a).wk (hw1 (WkL.refl _))

end Go.Proofs.Ytkenimmellonjaa
