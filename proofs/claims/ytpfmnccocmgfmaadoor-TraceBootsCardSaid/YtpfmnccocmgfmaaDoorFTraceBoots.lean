/- TraceBoots: what it returns, wherever it is called. -/
import Derived.Test.YtpfmnccocmgfmaaDoorGB
import Derived.Lay
namespace Go.Proofs.YtpfmnccocmgfmaaDoor
open Go.Pv Go.RowKit Go.ChangeShapes Go.WideShapes
theorem Tryd.ownTraceBoots : ownKnob Tryd.prog.godebug = .none := by kernel_rfl
theorem Tryd.laidOutTraceBoots : laidOutB Tryd.prog = true := by kernel_rfl
set_option maxRecDepth 100000 in
theorem traceBoots_lifted (os : Os) (started : os.Started) (H : Type) (enc : TypeId × Value → H) :
    ReturnsInHanded {} Tryd.checked os 6 .any (fun w args => (Rows.traceBootsSpec.pre enc Tryd.prog Tryd.f6 [] false w args ∧ laidMet Tryd.prog Rows.traceBootsRow.laid w) ∧ sizedMet enc Tryd.prog Tryd.f6 (OpenSpec.ofChange Rows.traceBootsSpec) false w args) (Rows.traceBootsSpec.post enc Tryd.prog Tryd.f6 false true false false) := by
  refine returnsInHanded_of_change_and (C := Tryd.checked) (X := fun w _ => laidMet Tryd.prog Rows.traceBootsRow.laid w) (fun _ _ _ hh h => h.of_heap hh) Tryd.ownTraceBoots started (by kernel_rfl) Tryd.func6
    (ChangeSpec.witness_at (enc := enc) (C := Tryd.checked) (os := os) (X := fun w _ => laidMet Tryd.prog Rows.traceBootsRow.laid w) false (World.laidAll Tryd.prog os Rows.traceBootsRow.laid) #[.int .i64 0, .int .i64 0, .int .i64 0] 8 (World.laidAll_os _ _ _) (by kernel_rfl) (by kernel_rfl) (by kernel_rfl) (by kernel_rfl) (by kernel_rfl) (laidMet_laidAll _ (by kernel_rfl) (by kernel_rfl))) ?_
  intro W base args ds gs before hval hW _ _ hL _
  obtain ⟨bs, ha, hG⟩ := errs13 hL
  refine law_callsG (P := Tryd.prog) (n := 8) tabOK (G := G0 bs) Tryd.laidOutTraceBoots (tb := 4) (by kernel_rfl) Tryd.underlying4 (by kernel_rfl) (by kernel_rfl) (by kernel_rfl) ?_ ?_ hval hW hG
  · intro ds hds
    match ds, hds with
    | [d1, d2, d3], _ => rfl
  · intro xs hx
    obtain ⟨x1, _, rfl, h1, x2, _, rfl, h2, x3, _, rfl, h3, rfl⟩ := hx
    obtain ⟨a, _, _, rfl⟩ := arg_i64 h1
    obtain ⟨b, _, _, rfl⟩ := arg_i64 h2
    obtain ⟨c, _, _, rfl⟩ := arg_i64 h3
    exact traceBoots ha a b c

end Go.Proofs.YtpfmnccocmgfmaaDoor
