/- LedgerSays: what it returns, wherever it is called. -/
import Derived.Test.YtkenimmellonjaaGreatGE
import Derived.Test.YtkenimmellonjaaGreatRows
namespace Go.Proofs.YtkenimmellonjaaGreat
open Go.Pv Go.RowKit Go.ChangeShapes Go.WideShapes

theorem Tryz.ownLedgerSays : ownKnob Tryz.prog.godebug = .none := by kernel_rfl
theorem Tryz.laidOutLedgerSays : laidOutB Tryz.prog = true := by kernel_rfl
set_option maxRecDepth 100000 in
theorem ledgerSays_lifted (os : Os) (started : os.Started) (H : Type) (enc : TypeId × Value → H) :
    ReturnsInHanded {} Tryz.checked os 3 .any (Rows.ledgerSaysSpec.pre6 enc Tryz.prog Tryz.f3 Rows.ledgerSaysRow.domain false) (Rows.ledgerSaysSpec.post enc Tryz.prog Tryz.f3 false true false false) := by
  refine returnsInHanded_of_change (C := Tryz.checked) Tryz.ownLedgerSays started (by kernel_rfl) Tryz.func3
    (ChangeSpec.witness6 (enc := enc) (C := Tryz.checked) false ⟨#[], #[.agg #[.int .i64 0, .int .i64 0, .int .i64 0, .slice .none 0 0, .slice .none 0 0], .agg #[.int .i64 0, .int .i64 0, .int .i64 0, .slice .none 0 0, .slice .none 0 0], .slice .none 0 0, .int .i64 0, .agg #[.int .i64 0, .int .i64 0], .agg #[.int .i64 0, .int .i64 0], .slice .none 0 0], []⟩ 8 (by kernel_rfl) (by kernel_rfl) (by kernel_rfl) (by kernel_rfl)) ?_
  intro W base args ds gs before hval hW _ _
  refine law_calls (P := Tryz.prog) (n := 8) tabOK (G := G0) (fun _ => rfl) Tryz.laidOutLedgerSays (tb := 4) (by kernel_rfl) Tryz.underlying4 (by kernel_rfl) (by kernel_rfl) (by kernel_rfl) ?_ ?_ hval hW
  · intro ds hds
    match ds, hds with
    | [d1, d2, d3, d4, d5, d6, d7], _ => rfl
  · intro xs hx
    obtain ⟨x1, _, rfl, h1, x2, _, rfl, h2, x3, _, rfl, h3, x4, _, rfl, h4, x5, _, rfl, h5, x6, _, rfl, h6, x7, _, rfl, h7, rfl⟩ := hx
    obtain ⟨cnt, fdr, hop, mem, l, _, hl, hw1⟩ := arg_ring h1
    obtain ⟨cnt', fdr', hop', mem', l', _, hl', hw2⟩ := arg_ring h2
    obtain ⟨lit, _, hw3⟩ := arg_lats h3
    obtain ⟨_, ⟨a, _, _, ha⟩, rfl⟩ := h4
    cases ha
    obtain ⟨b, rfl⟩ := arg_bid h5
    obtain ⟨c, rfl⟩ := arg_call h6
    obtain ⟨ms, _, _, hw7⟩ := arg_ints (n := 6) (T := T) (t := 24) (e := 3) (ti := ti24) (te := ti3) (by kernel_rfl) rfl rfl (by kernel_rfl) rfl rfl h7
    exact (ledgerSays cnt fdr hop mem l cnt' fdr' hop' mem' l' hl hl' lit a b c ms).wk (hw1 (hw2 (hw3 (.s _ (.s _ (.s _ (hw7 (WkL.refl _))))))))

end Go.Proofs.YtkenimmellonjaaGreat
