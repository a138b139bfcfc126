/- FoundSays: what it returns, wherever it is called. -/
import Derived.Test.YtkenimmellonjaaM
import Derived.Test.YtkenimmellonjaaQ
import Derived.Test.YtkenimmellonjaaRows
namespace Go.Proofs.Ytkenimmellonjaa
open Go.Pv Go.RowKit Go.ChangeShapes Go.WideShapes

theorem Try.ownFoundSays : ownKnob Try.prog.godebug = .none := by kernel_rfl
theorem Try.laidOutFoundSays : laidOutB Try.prog = true := by kernel_rfl
set_option maxRecDepth 100000 in
theorem foundSays_lifted (os : Os) (started : os.Started) (H : Type) (enc : TypeId × Value → H) :
    ReturnsInHanded {} Try.checked os 6 .any (Rows.foundSaysSpec.pre6 enc Try.prog Try.f6 Rows.foundSaysRow.domain false) (Rows.foundSaysSpec.post enc Try.prog Try.f6 false true false false) := by
  refine returnsInHanded_of_change (C := Try.checked) Try.ownFoundSays started (by kernel_rfl) Try.func6
    (ChangeSpec.witness6 (enc := enc) (C := Try.checked) false ⟨#[], #[.agg #[.int .i64 0, .int .i64 0, .bool false, .bool false, .slice .none 0 0, .slice .none 0 0, .int .i64 0, .int .i64 0]], []⟩ 8 (by kernel_rfl) (by kernel_rfl) (by kernel_rfl) (by kernel_rfl)) ?_
  intro W base args ds gs before hval hW _ _
  refine law_calls (P := Try.prog) (n := 8) tabOK (G := G0) (fun _ => rfl) Try.laidOutFoundSays (tb := 4) (by kernel_rfl) Try.underlying4 (by kernel_rfl) (by kernel_rfl) (by kernel_rfl) ?_ ?_ hval hW
  · intro ds hds
    match ds, hds with
    | [d1], _ => rfl
  · intro xs hx
    obtain ⟨x1, _, rfl, h1, rfl⟩ := hx
    obtain ⟨car, cars, out, any, alive, ring, since, fnd, hw⟩ := arg_case (n := 4) h1
    exact (foundSays car cars out any alive ring since fnd).wk (hw (WkL.refl _))

end Go.Proofs.Ytkenimmellonjaa
