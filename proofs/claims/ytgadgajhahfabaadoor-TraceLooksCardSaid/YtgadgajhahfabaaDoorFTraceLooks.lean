/- TraceLooks: what it returns, wherever it is called. -/
import Derived.Test.YtgadgajhahfabaaDoorGD
import Derived.Lay
namespace Go.Proofs.YtgadgajhahfabaaDoor
open Go.Pv Go.RowKit Go.ChangeShapes Go.WideShapes
theorem Tryd.ownTraceLooks : ownKnob Tryd.prog.godebug = .none := by kernel_rfl
theorem Tryd.laidOutTraceLooks : laidOutB Tryd.prog = true := by kernel_rfl
set_option maxRecDepth 100000 in
theorem traceLooks_lifted (os : Os) (started : os.Started) (H : Type) (enc : TypeId × Value → H) :
    ReturnsInHanded {} Tryd.checked os 3 .any (fun w args => (Rows.traceLooksSpec.pre enc Tryd.prog Tryd.f3 [] false w args ∧ laidMet Tryd.prog Rows.traceLooksRow.laid w) ∧ sizedMet enc Tryd.prog Tryd.f3 (OpenSpec.ofChange Rows.traceLooksSpec) false w args) (Rows.traceLooksSpec.post enc Tryd.prog Tryd.f3 false true false false) := by
  refine returnsInHanded_of_change_and (C := Tryd.checked) (X := fun w _ => laidMet Tryd.prog Rows.traceLooksRow.laid w) (fun _ _ _ hh h => h.of_heap hh) Tryd.ownTraceLooks started (by kernel_rfl) Tryd.func3
    (ChangeSpec.witness_at (enc := enc) (C := Tryd.checked) (os := os) (X := fun w _ => laidMet Tryd.prog Rows.traceLooksRow.laid w) false (World.laidAll Tryd.prog os Rows.traceLooksRow.laid) #[.int .i64 0, .int .i64 0, .int .i64 0] 8 (World.laidAll_os _ _ _) (by kernel_rfl) (by kernel_rfl) (by kernel_rfl) (by kernel_rfl) (by kernel_rfl) (laidMet_laidAll _ (by kernel_rfl) (by kernel_rfl))) ?_
  intro W base args ds gs before hval hW _ _ hL _
  obtain ⟨bs, ha, hG⟩ := errs13 hL
  refine law_callsG (P := Tryd.prog) (n := 8) tabOK (G := G0 bs) Tryd.laidOutTraceLooks (tb := 4) (by kernel_rfl) Tryd.underlying4 (by kernel_rfl) (by kernel_rfl) (by kernel_rfl) ?_ ?_ hval hW hG
  · intro ds hds
    match ds, hds with
    | [d1, d2, d3], _ => rfl
  · intro xs hx
    obtain ⟨x1, _, rfl, h1, x2, _, rfl, h2, x3, _, rfl, h3, rfl⟩ := hx
    obtain ⟨a, _, _, rfl⟩ := arg_i64 h1
    obtain ⟨b, _, _, rfl⟩ := arg_i64 h2
    obtain ⟨c, _, _, rfl⟩ := arg_i64 h3
    exact traceLooks ha a b c

end Go.Proofs.YtgadgajhahfabaaDoor
