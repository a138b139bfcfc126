/- LedgerOnce: what it returns, wherever it is called. -/
import Derived.Test.YtkenimmellonjaaGD
import Derived.Test.YtkenimmellonjaaRows
namespace Go.Proofs.Ytkenimmellonjaa
open Go.Pv Go.RowKit Go.ChangeShapes Go.WideShapes

theorem Try.ownLedgerOnce : ownKnob Try.prog.godebug = .none := by kernel_rfl
theorem Try.laidOutLedgerOnce : laidOutB Try.prog = true := by kernel_rfl
set_option maxRecDepth 100000 in
theorem ledgerOnce_lifted (os : Os) (started : os.Started) (H : Type) (enc : TypeId × Value → H) :
    ReturnsInHanded {} Try.checked os 17 .any (Rows.ledgerOnceSpec.pre6 enc Try.prog Try.f17 Rows.ledgerOnceRow.domain false) (Rows.ledgerOnceSpec.post enc Try.prog Try.f17 false true false false) := by
  refine returnsInHanded_of_change (C := Try.checked) Try.ownLedgerOnce started (by kernel_rfl) Try.func17
    (ChangeSpec.witness6 (enc := enc) (C := Try.checked) false ⟨#[], #[.slice .none 0 0, .slice .none 0 0, .slice .none 0 0, .int .i64 0], []⟩ 8 (by kernel_rfl) (by kernel_rfl) (by kernel_rfl) (by kernel_rfl)) ?_
  intro W base args ds gs before hval hW _ _
  refine law_calls (P := Try.prog) (n := 8) tabOK (G := G0) (fun _ => rfl) Try.laidOutLedgerOnce (tb := 4) (by kernel_rfl) Try.underlying4 (by kernel_rfl) (by kernel_rfl) (by kernel_rfl) ?_ ?_ hval hW
  · intro ds hds
    match ds, hds with
    | [d1, d2, d3, d4], _ => rfl
  · intro xs hx
    obtain ⟨x1, _, rfl, h1, x2, _, rfl, h2, x3, _, rfl, h3, x4, _, rfl, h4, rfl⟩ := hx
    obtain ⟨ms, _, _, hw1⟩ := arg_ints (n := 6) (T := T) (t := 22) (e := 3) (ti := ti22) (te := ti3) (by kernel_rfl) rfl rfl (by kernel_rfl) rfl rfl h1
    obtain ⟨lit, _, hw2⟩ := arg_lats h2
    obtain ⟨ticks, _, _, hw3⟩ := arg_ints (n := 6) (T := T) (t := 22) (e := 3) (ti := ti22) (te := ti3) (by kernel_rfl) rfl rfl (by kernel_rfl) rfl rfl h3
    obtain ⟨_, ⟨a, _, _, ha⟩, rfl⟩ := h4
    cases ha
    exact (ledgerOnce ms lit ticks a).wk (hw1 (hw2 (hw3 (WkL.refl _))))

end Go.Proofs.Ytkenimmellonjaa
