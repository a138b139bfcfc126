/- LedgerPurges: what it returns, wherever it is called. -/
import Derived.Test.YtkenimmellonjaaGD
import Derived.Test.YtkenimmellonjaaGE
import Derived.Test.YtkenimmellonjaaRows
namespace Go.Proofs.Ytkenimmellonjaa
open Go.Pv Go.RowKit Go.ChangeShapes Go.WideShapes

theorem Try.ownLedgerPurges : ownKnob Try.prog.godebug = .none := by kernel_rfl
theorem Try.laidOutLedgerPurges : laidOutB Try.prog = true := by kernel_rfl
set_option maxRecDepth 100000 in
theorem ledgerPurges_lifted (os : Os) (started : os.Started) (H : Type) (enc : TypeId × Value → H) :
    ReturnsInHanded {} Try.checked os 15 .any (Rows.ledgerPurgesSpec.pre6 enc Try.prog Try.f15 Rows.ledgerPurgesRow.domain false) (Rows.ledgerPurgesSpec.post enc Try.prog Try.f15 false true false false) := by
  refine returnsInHanded_of_change (C := Try.checked) Try.ownLedgerPurges started (by kernel_rfl) Try.func15
    (ChangeSpec.witness6 (enc := enc) (C := Try.checked) false ⟨#[], #[.agg #[.int .i64 0, .int .i64 0, .int .i64 0, .slice .none 0 0, .slice .none 0 0], .int .i64 0], []⟩ 8 (by kernel_rfl) (by kernel_rfl) (by kernel_rfl) (by kernel_rfl)) ?_
  intro W base args ds gs before hval hW _ _
  refine law_calls (P := Try.prog) (n := 8) tabOK (G := G0) (fun _ => rfl) Try.laidOutLedgerPurges (tb := 4) (by kernel_rfl) Try.underlying4 (by kernel_rfl) (by kernel_rfl) (by kernel_rfl) ?_ ?_ hval hW
  · intro ds hds
    match ds, hds with
    | [d1, d2], _ => rfl
  · intro xs hx
    obtain ⟨x1, _, rfl, h1, x2, _, rfl, h2, rfl⟩ := hx
    obtain ⟨cnt, fdr, hop, mem, l, _, hl, hw⟩ := arg_ring h1
    obtain ⟨_, ⟨a, _, _, ha⟩, rfl⟩ := h2
    cases ha
    exact (ledgerPurges cnt fdr hop mem l hl a).wk (hw (WkL.refl _))

end Go.Proofs.Ytkenimmellonjaa
