/- OrderSays: what it returns, wherever it is called. -/
import Derived.Test.YtkenimmellonjaaN
import Derived.Test.YtkenimmellonjaaRows
namespace Go.Proofs.Ytkenimmellonjaa
open Go.Pv Go.RowKit Go.ChangeShapes Go.WideShapes

theorem Try.ownOrderSays : ownKnob Try.prog.godebug = .none := by kernel_rfl
theorem Try.laidOutOrderSays : laidOutB Try.prog = true := by kernel_rfl
set_option maxRecDepth 100000 in
theorem orderSays_lifted (os : Os) (started : os.Started) (H : Type) (enc : TypeId × Value → H) :
    ReturnsInHanded {} Try.checked os 9 .any (Rows.orderSaysSpec.pre6 enc Try.prog Try.f9 Rows.orderSaysRow.domain false) (Rows.orderSaysSpec.post enc Try.prog Try.f9 false true false false) := by
  refine returnsInHanded_of_change (C := Try.checked) Try.ownOrderSays started (by kernel_rfl) Try.func9
    (ChangeSpec.witness6 (enc := enc) (C := Try.checked) false ⟨#[], #[.slice .none 0 0, .slice .none 0 0, .int .i64 0], []⟩ 8 (by kernel_rfl) (by kernel_rfl) (by kernel_rfl) (by kernel_rfl)) ?_
  intro W base args ds gs before hval hW _ _
  refine law_calls (P := Try.prog) (n := 8) tabOK (G := G0) (fun _ => rfl) Try.laidOutOrderSays (tb := 4) (by kernel_rfl) Try.underlying4 (by kernel_rfl) (by kernel_rfl) (by kernel_rfl) ?_ ?_ hval hW
  · intro ds hds
    match ds, hds with
    | [d1, d2, d3], _ => rfl
  · intro xs hx
    obtain ⟨x1, _, rfl, h1, x2, _, rfl, h2, x3, _, rfl, h3, rfl⟩ := hx
    obtain ⟨l, _, _, hw1⟩ := arg_ints (n := 6) (T := T) (t := 22) (e := 3) (ti := ti22) (te := ti3) (by kernel_rfl) rfl rfl (by kernel_rfl) rfl rfl h1
    obtain ⟨l2, _, _, hw2⟩ := arg_ints (n := 6) (T := T) (t := 22) (e := 3) (ti := ti22) (te := ti3) (by kernel_rfl) rfl rfl (by kernel_rfl) rfl rfl h2
    obtain ⟨_, ⟨m, _, _, hm⟩, rfl⟩ := h3
    cases hm
    exact (orderSays l l2 m).wk (hw1 (hw2 (WkL.refl _)))

end Go.Proofs.Ytkenimmellonjaa
