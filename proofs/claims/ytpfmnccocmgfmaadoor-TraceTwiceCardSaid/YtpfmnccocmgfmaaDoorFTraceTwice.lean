/- TraceTwice: what it returns, wherever it is called. -/
import Derived.Test.YtpfmnccocmgfmaaDoorGD
import Derived.Lay
namespace Go.Proofs.YtpfmnccocmgfmaaDoor
open Go.Pv Go.RowKit Go.ChangeShapes Go.WideShapes
theorem Tryd.ownTraceTwice : ownKnob Tryd.prog.godebug = .none := by kernel_rfl
theorem Tryd.laidOutTraceTwice : laidOutB Tryd.prog = true := by kernel_rfl
set_option maxRecDepth 100000 in
theorem traceTwice_lifted (os : Os) (started : os.Started) (H : Type) (enc : TypeId × Value → H) :
    ReturnsInHanded {} Tryd.checked os 5 .any (fun w args => (Rows.traceTwiceSpec.pre enc Tryd.prog Tryd.f5 [] false w args ∧ laidMet Tryd.prog Rows.traceTwiceRow.laid w) ∧ sizedMet enc Tryd.prog Tryd.f5 (OpenSpec.ofChange Rows.traceTwiceSpec) false w args) (Rows.traceTwiceSpec.post enc Tryd.prog Tryd.f5 false true false false) := by
  refine returnsInHanded_of_change_and (C := Tryd.checked) (X := fun w _ => laidMet Tryd.prog Rows.traceTwiceRow.laid w) (fun _ _ _ hh h => h.of_heap hh) Tryd.ownTraceTwice started (by kernel_rfl) Tryd.func5
    (ChangeSpec.witness_at (enc := enc) (C := Tryd.checked) (os := os) (X := fun w _ => laidMet Tryd.prog Rows.traceTwiceRow.laid w) false (World.laidAll Tryd.prog os Rows.traceTwiceRow.laid) #[.int .i64 0, .int .i64 0] 8 (World.laidAll_os _ _ _) (by kernel_rfl) (by kernel_rfl) (by kernel_rfl) (by kernel_rfl) (by kernel_rfl) (laidMet_laidAll _ (by kernel_rfl) (by kernel_rfl))) ?_
  intro W base args ds gs before hval hW _ _ hL _
  obtain ⟨bs, ha, hG⟩ := errs13 hL
  refine law_callsG (P := Tryd.prog) (n := 8) tabOK (G := G0 bs) Tryd.laidOutTraceTwice (tb := 4) (by kernel_rfl) Tryd.underlying4 (by kernel_rfl) (by kernel_rfl) (by kernel_rfl) ?_ ?_ hval hW hG
  · intro ds hds
    match ds, hds with
    | [d1, d2], _ => rfl
  · intro xs hx
    obtain ⟨x1, _, rfl, h1, x2, _, rfl, h2, rfl⟩ := hx
    obtain ⟨a, _, _, rfl⟩ := arg_i64 h1
    obtain ⟨b, _, _, rfl⟩ := arg_i64 h2
    exact traceTwice ha a b

end Go.Proofs.YtpfmnccocmgfmaaDoor
