/- TraceGoes: what it returns, wherever it is called. -/
import Derived.Test.YtpfmnccocmgfmaaDoorGB
import Derived.Lay
namespace Go.Proofs.YtpfmnccocmgfmaaDoor
open Go.Pv Go.RowKit Go.ChangeShapes Go.WideShapes
theorem Tryd.ownTraceGoes : ownKnob Tryd.prog.godebug = .none := by kernel_rfl
theorem Tryd.laidOutTraceGoes : laidOutB Tryd.prog = true := by kernel_rfl
set_option maxRecDepth 100000 in
theorem traceGoes_lifted (os : Os) (started : os.Started) (H : Type) (enc : TypeId × Value → H) :
    ReturnsInHanded {} Tryd.checked os 4 .any (fun w args => (Rows.traceGoesSpec.pre enc Tryd.prog Tryd.f4 [] false w args ∧ laidMet Tryd.prog Rows.traceGoesRow.laid w) ∧ sizedMet enc Tryd.prog Tryd.f4 (OpenSpec.ofChange Rows.traceGoesSpec) false w args) (Rows.traceGoesSpec.post enc Tryd.prog Tryd.f4 false true false false) := by
  refine returnsInHanded_of_change_and (C := Tryd.checked) (X := fun w _ => laidMet Tryd.prog Rows.traceGoesRow.laid w) (fun _ _ _ hh h => h.of_heap hh) Tryd.ownTraceGoes started (by kernel_rfl) Tryd.func4
    (ChangeSpec.witness_at (enc := enc) (C := Tryd.checked) (os := os) (X := fun w _ => laidMet Tryd.prog Rows.traceGoesRow.laid w) false (World.laidAll Tryd.prog os Rows.traceGoesRow.laid) #[.slice .none 0 0] 8 (World.laidAll_os _ _ _) (by kernel_rfl) (by kernel_rfl) (by kernel_rfl) (by kernel_rfl) (by kernel_rfl) (laidMet_laidAll _ (by kernel_rfl) (by kernel_rfl))) ?_
  intro W base args ds gs before hval hW _ _ hL _
  obtain ⟨bs, ha, hG⟩ := errs13 hL
  refine law_callsG (P := Tryd.prog) (n := 8) tabOK (G := G0 bs) Tryd.laidOutTraceGoes (tb := 4) (by kernel_rfl) Tryd.underlying4 (by kernel_rfl) (by kernel_rfl) (by kernel_rfl) ?_ ?_ hval hW hG
  · intro ds hds
    match ds, hds with
    | [d1], _ => rfl
  · intro xs hx
    obtain ⟨x1, _, rfl, h1, rfl⟩ := hx
    obtain ⟨l, hl, hw⟩ := arg_evs h1
    exact (traceGoes ha l).wk (hw (.refl _))

end Go.Proofs.YtpfmnccocmgfmaaDoor
