/- LedgerFull: what it returns, wherever it is called. -/
import Derived.Test.YtkenimmellonjaaGD
import Derived.Test.YtkenimmellonjaaRows
namespace Go.Proofs.Ytkenimmellonjaa
open Go.Pv Go.RowKit Go.ChangeShapes Go.WideShapes

theorem Try.ownLedgerFull : ownKnob Try.prog.godebug = .none := by kernel_rfl
theorem Try.laidOutLedgerFull : laidOutB Try.prog = true := by kernel_rfl
set_option maxRecDepth 100000 in
theorem ledgerFull_lifted (os : Os) (started : os.Started) (H : Type) (enc : TypeId × Value → H) :
    ReturnsInHanded {} Try.checked os 16 .any (Rows.ledgerFullSpec.pre6 enc Try.prog Try.f16 Rows.ledgerFullRow.domain false) (Rows.ledgerFullSpec.post enc Try.prog Try.f16 false true false false) := by
  refine returnsInHanded_of_change (C := Try.checked) Try.ownLedgerFull started (by kernel_rfl) Try.func16
    (ChangeSpec.witness6 (enc := enc) (C := Try.checked) false ⟨#[], #[.int .i64 0, .int .i64 0], []⟩ 8 (by kernel_rfl) (by kernel_rfl) (by kernel_rfl) (by kernel_rfl)) ?_
  intro W base args ds gs before hval hW _ _
  refine law_calls (P := Try.prog) (n := 8) tabOK (G := G0) (fun _ => rfl) Try.laidOutLedgerFull (tb := 4) (by kernel_rfl) Try.underlying4 (by kernel_rfl) (by kernel_rfl) (by kernel_rfl) ?_ ?_ hval hW
  · intro ds hds
    match ds, hds with
    | [d1, d2], _ => rfl
  · intro xs hx
    obtain ⟨x1, _, rfl, h1, x2, _, rfl, h2, rfl⟩ := hx
    obtain ⟨_, ⟨a, _, _, ha⟩, rfl⟩ := h1
    cases ha
    obtain ⟨_, ⟨b, _, _, hb⟩, rfl⟩ := h2
    cases hb
    exact ledgerFull a b

end Go.Proofs.Ytkenimmellonjaa
