/- CallsKeep: what it returns, wherever it is called. -/
import Derived.Test.YtkenimmellonjaaGD
import Derived.Test.YtkenimmellonjaaRows
namespace Go.Proofs.Ytkenimmellonjaa
open Go.Pv Go.RowKit Go.ChangeShapes Go.WideShapes

theorem Try.ownCallsKeep : ownKnob Try.prog.godebug = .none := by kernel_rfl
theorem Try.laidOutCallsKeep : laidOutB Try.prog = true := by kernel_rfl
set_option maxRecDepth 100000 in
theorem callsKeep_lifted (os : Os) (started : os.Started) (H : Type) (enc : TypeId × Value → H) :
    ReturnsInHanded {} Try.checked os 11 .any (Rows.callsKeepSpec.pre6 enc Try.prog Try.f11 Rows.callsKeepRow.domain false) (Rows.callsKeepSpec.post enc Try.prog Try.f11 false true false false) := by
  refine returnsInHanded_of_change (C := Try.checked) Try.ownCallsKeep started (by kernel_rfl) Try.func11
    (ChangeSpec.witness6 (enc := enc) (C := Try.checked) false ⟨#[], #[.slice .none 0 0, .slice .none 0 0], []⟩ 8 (by kernel_rfl) (by kernel_rfl) (by kernel_rfl) (by kernel_rfl)) ?_
  intro W base args ds gs before hval hW _ _
  refine law_calls (P := Try.prog) (n := 8) tabOK (G := G0) (fun _ => rfl) Try.laidOutCallsKeep (tb := 4) (by kernel_rfl) Try.underlying4 (by kernel_rfl) (by kernel_rfl) (by kernel_rfl) ?_ ?_ hval hW
  · intro ds hds
    match ds, hds with
    | [d1, d2], _ => rfl
  · intro xs hx
    obtain ⟨x1, _, rfl, h1, x2, _, rfl, h2, rfl⟩ := hx
    obtain ⟨l, _, hw1⟩ := arg_lats h1
    obtain ⟨ks, _, hw2⟩ := arg_lats h2
    exact (callsKeep l ks).wk (hw1 (hw2 (WkL.refl _)))

end Go.Proofs.Ytkenimmellonjaa
