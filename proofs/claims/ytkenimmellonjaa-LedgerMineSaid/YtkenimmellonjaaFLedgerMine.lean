/- LedgerMine: what it returns, wherever it is called. -/
import Derived.Test.YtkenimmellonjaaAA
import Derived.Test.YtkenimmellonjaaAQ
import Derived.Test.YtkenimmellonjaaRows
namespace Go.Proofs.Ytkenimmellonjaa
open Go.Pv Go.RowKit Go.ChangeShapes Go.WideShapes

theorem Try.ownLedgerMine : ownKnob Try.prog.godebug = .none := by kernel_rfl
theorem Try.laidOutLedgerMine : laidOutB Try.prog = true := by kernel_rfl
set_option maxRecDepth 100000 in
theorem ledgerMine_lifted (os : Os) (started : os.Started) (H : Type) (enc : TypeId × Value → H) :
    ReturnsInHanded {} Try.checked os 12 .any (Rows.ledgerMineSpec.pre6 enc Try.prog Try.f12 Rows.ledgerMineRow.domain false) (Rows.ledgerMineSpec.post enc Try.prog Try.f12 false true false false) := by
  refine returnsInHanded_of_change (C := Try.checked) Try.ownLedgerMine started (by kernel_rfl) Try.func12
    (ChangeSpec.witness6 (enc := enc) (C := Try.checked) false ⟨#[], #[.agg #[.int .i64 0, .int .i64 0, .int .i64 0, .slice .none 0 0, .slice .none 0 0]], []⟩ 8 (by kernel_rfl) (by kernel_rfl) (by kernel_rfl) (by kernel_rfl)) ?_
  intro W base args ds gs before hval hW _ _
  refine law_calls (P := Try.prog) (n := 8) tabOK (G := G0) (fun _ => rfl) Try.laidOutLedgerMine (tb := 4) (by kernel_rfl) Try.underlying4 (by kernel_rfl) (by kernel_rfl) (by kernel_rfl) ?_ ?_ hval hW
  · intro ds hds
    match ds, hds with
    | [d1], _ => rfl
  · intro xs hx
    obtain ⟨x1, _, rfl, h1, rfl⟩ := hx
    obtain ⟨cnt, fdr, hop, mem, l, _, hl, hw⟩ := arg_ring h1
    exact (ledgerMine cnt fdr hop mem l hl).wk (hw (WkL.refl _))

end Go.Proofs.Ytkenimmellonjaa
