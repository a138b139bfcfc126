/- CallsPlay: what it returns, wherever it is called. -/
import Derived.Test.YtkenimmellonjaaGE
import Derived.Test.YtkenimmellonjaaRows
namespace Go.Proofs.Ytkenimmellonjaa
open Go.Pv Go.RowKit Go.ChangeShapes Go.WideShapes

theorem Try.ownCallsPlay : ownKnob Try.prog.godebug = .none := by kernel_rfl
theorem Try.laidOutCallsPlay : laidOutB Try.prog = true := by kernel_rfl
set_option maxRecDepth 100000 in
theorem callsPlay_lifted (os : Os) (started : os.Started) (H : Type) (enc : TypeId × Value → H) :
    ReturnsInHanded {} Try.checked os 13 .any (Rows.callsPlaySpec.pre6 enc Try.prog Try.f13 Rows.callsPlayRow.domain false) (Rows.callsPlaySpec.post enc Try.prog Try.f13 false true false false) := by
  refine returnsInHanded_of_change (C := Try.checked) Try.ownCallsPlay started (by kernel_rfl) Try.func13
    (ChangeSpec.witness6 (enc := enc) (C := Try.checked) false ⟨#[], #[.slice .none 0 0, .agg #[.int .i64 0, .int .i64 0], .agg #[.int .i64 0, .int .i64 0]], []⟩ 8 (by kernel_rfl) (by kernel_rfl) (by kernel_rfl) (by kernel_rfl)) ?_
  intro W base args ds gs before hval hW _ _
  refine law_calls (P := Try.prog) (n := 8) tabOK (G := G0) (fun _ => rfl) Try.laidOutCallsPlay (tb := 4) (by kernel_rfl) Try.underlying4 (by kernel_rfl) (by kernel_rfl) (by kernel_rfl) ?_ ?_ hval hW
  · intro ds hds
    match ds, hds with
    | [d1, d2, d3], _ => rfl
  · intro xs hx
    obtain ⟨x1, _, rfl, h1, x2, _, rfl, h2, x3, _, rfl, h3, rfl⟩ := hx
    obtain ⟨l, _, hw1⟩ := arg_dos h1
    obtain ⟨a, rfl⟩ := arg_call h2
    obtain ⟨b, rfl⟩ := arg_call h3
    exact (callsPlay l a b).wk (hw1 (WkL.refl _))

end Go.Proofs.Ytkenimmellonjaa
