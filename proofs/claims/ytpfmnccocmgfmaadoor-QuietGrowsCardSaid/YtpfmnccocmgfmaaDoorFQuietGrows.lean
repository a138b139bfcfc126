/- QuietGrows: what it returns, wherever it is called. -/
import Derived.Test.YtpfmnccocmgfmaaDoorGA
import Derived.Test.YtpfmnccocmgfmaaDoorRows
import Derived.LaidLaws
import Derived.ChangeSame
import Derived.ChangeVars
import Derived.Lay
namespace Go.Proofs.YtpfmnccocmgfmaaDoor
open Go.Pv Go.RowKit Go.ChangeShapes Go.WideShapes
theorem Tryd.ownQuietGrows : ownKnob Tryd.prog.godebug = .none := by kernel_rfl
theorem Tryd.laidOutQuietGrows : laidOutB Tryd.prog = true := by kernel_rfl
set_option maxRecDepth 100000 in
theorem quietGrows_lifted (os : Os) (started : os.Started) (H : Type) (enc : TypeId × Value → H) :
    ReturnsInHanded {} Tryd.checked os 8 .any (fun w args => (Rows.quietGrowsSpec.pre enc Tryd.prog Tryd.f8 [] false w args ∧ laidMet Tryd.prog Rows.quietGrowsRow.laid w) ∧ sizedMet enc Tryd.prog Tryd.f8 (OpenSpec.ofChange Rows.quietGrowsSpec) false w args) (Rows.quietGrowsSpec.post enc Tryd.prog Tryd.f8 false true false false) := by
  refine returnsInHanded_of_change_and (C := Tryd.checked) (X := fun w _ => laidMet Tryd.prog Rows.quietGrowsRow.laid w) (fun _ _ _ hh h => h.of_heap hh) Tryd.ownQuietGrows started (by kernel_rfl) Tryd.func8
    (ChangeSpec.witness_at (enc := enc) (C := Tryd.checked) (os := os) (X := fun w _ => laidMet Tryd.prog Rows.quietGrowsRow.laid w) false (World.laidAll Tryd.prog os Rows.quietGrowsRow.laid) #[.agg #[.int .i64 0, .int .i64 0, .int .i64 0, .int .i64 0], .agg #[.int .i64 0, .int .i64 0, .int .i64 0, .int .i64 0]] 8 (World.laidAll_os _ _ _) (by kernel_rfl) (by kernel_rfl) (by kernel_rfl) (by kernel_rfl) (by kernel_rfl) (laidMet_laidAll _ (by kernel_rfl) (by kernel_rfl))) ?_
  intro W base args ds gs before hval hW _ _ _ _
  refine law_callsG (P := Tryd.prog) (n := 8) tabOK (G := GN) Tryd.laidOutQuietGrows (tb := 4) (by kernel_rfl) Tryd.underlying4 (by kernel_rfl) (by kernel_rfl) (by kernel_rfl) ?_ ?_ hval hW (fun g cs h => by cases h)
  · intro ds hds
    match ds, hds with
    | [d1, d2], _ => rfl
  · intro xs hx
    obtain ⟨x1, _, rfl, h1, x2, _, rfl, h2, rfl⟩ := hx
    obtain ⟨a, b, c, d, rfl⟩ := arg_house h1
    obtain ⟨a2, b2, c2, d2, rfl⟩ := arg_house h2
    exact quietGrows a b c d a2 b2 c2 d2

end Go.Proofs.YtpfmnccocmgfmaaDoor
