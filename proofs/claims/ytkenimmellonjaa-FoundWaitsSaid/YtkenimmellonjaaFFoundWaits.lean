/- FoundWaits: what it returns, wherever it is called. -/
import Derived.Test.YtkenimmellonjaaP
import Derived.Test.YtkenimmellonjaaRows
namespace Go.Proofs.Ytkenimmellonjaa
open Go.Pv Go.RowKit Go.ChangeShapes Go.WideShapes

theorem Try.ownFoundWaits : ownKnob Try.prog.godebug = .none := by kernel_rfl
theorem Try.laidOutFoundWaits : laidOutB Try.prog = true := by kernel_rfl
set_option maxRecDepth 100000 in
theorem foundWaits_lifted (os : Os) (started : os.Started) (H : Type) (enc : TypeId × Value → H) :
    ReturnsInHanded {} Try.checked os 8 .any (Rows.foundWaitsSpec.pre6 enc Try.prog Try.f8 Rows.foundWaitsRow.domain false) (Rows.foundWaitsSpec.post enc Try.prog Try.f8 false true false false) := by
  refine returnsInHanded_of_change (C := Try.checked) Try.ownFoundWaits started (by kernel_rfl) Try.func8
    (ChangeSpec.witness6 (enc := enc) (C := Try.checked) false ⟨#[], #[.int .i64 0, .int .i64 0, .int .i64 0, .bool false], []⟩ 8 (by kernel_rfl) (by kernel_rfl) (by kernel_rfl) (by kernel_rfl)) ?_
  intro W base args ds gs before hval hW _ _
  refine law_calls (P := Try.prog) (n := 8) tabOK (G := G0) (fun _ => rfl) Try.laidOutFoundWaits (tb := 4) (by kernel_rfl) Try.underlying4 (by kernel_rfl) (by kernel_rfl) (by kernel_rfl) ?_ ?_ hval hW
  · intro ds hds
    match ds, hds with
    | [d1, d2, d3, d4], _ => rfl
  · intro xs hx
    obtain ⟨x1, _, rfl, h1, x2, _, rfl, h2, x3, _, rfl, h3, x4, _, rfl, h4, rfl⟩ := hx
    obtain ⟨_, ⟨a, _, _, ha⟩, rfl⟩ := h1
    cases ha
    obtain ⟨_, ⟨b, _, _, hb⟩, rfl⟩ := h2
    cases hb
    obtain ⟨_, ⟨c, _, _, hc⟩, rfl⟩ := h3
    cases hc
    obtain ⟨_, ⟨d, hd⟩, rfl⟩ := h4
    cases hd
    exact foundWaits a b c d

end Go.Proofs.Ytkenimmellonjaa
