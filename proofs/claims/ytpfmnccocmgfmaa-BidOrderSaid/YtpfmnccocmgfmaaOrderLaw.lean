/- BidOrder: whatever the input, it returns true; each argument reads as it did. -/
import Derived.Test.YtpfmnccocmgfmaaOrder
import Derived.Test.YtpfmnccocmgfmaaPvY
import Derived.Test.YtpfmnccocmgfmaaRows
namespace Go.Proofs.Ytpfmnccocmgfmaa
open Go.Pv Go.RowKit Go.ChangeShapes Go.WideShapes

theorem Try.own : ownKnob Try.prog.godebug = .none := by kernel_rfl
theorem Try.laidOut : laidOutB Try.prog = true := by kernel_rfl

theorem bid_arg {n : Nat} {x : AV} (h : ArgD T (n + 2) 23 x) : ∃ b : B, x = bidv b := by
  obtain ⟨xs, h, rfl⟩ := h
  obtain ⟨_, _, rfl, ⟨c, _, _, rfl⟩, _, _, rfl, ⟨t, _, _, rfl⟩, rfl⟩ := h
  exact ⟨(c, t), rfl⟩

theorem bidOrder_lifted (os : Os) (started : os.Started) (H : Type) (enc : TypeId × Value → H) :
    ReturnsInHanded {} Try.checked os 3 .any (Rows.bidOrderSpec.pre6 enc Try.prog Try.f3 Rows.bidOrderRow.domain false) (Rows.bidOrderSpec.post enc Try.prog Try.f3 false true false false) := by
  refine returnsInHanded_of_change (C := Try.checked) Try.own started (by kernel_rfl) Try.func3
    (ChangeSpec.witness6 (enc := enc) (C := Try.checked) false ⟨#[], #[.agg #[.int .i64 0, .int .i64 0], .agg #[.int .i64 0, .int .i64 0], .agg #[.int .i64 0, .int .i64 0]], []⟩ 8 (by kernel_rfl) (by kernel_rfl) (by kernel_rfl) (by kernel_rfl)) ?_
  intro W base args ds gs before hval hW _ _
  refine law_calls (P := Try.prog) (n := 8) tabOK (G := G0) (fun _ => rfl) Try.laidOut (tb := 4) rfl Try.underlying4 (by kernel_rfl) (by kernel_rfl) rfl ?_ ?_ hval hW
  · intro ds hds
    match ds, hds with
    | [d1, d2, d3], _ => rfl
  · intro xs hx
    obtain ⟨x1, _, rfl, h1, x2, _, rfl, h2, x3, _, rfl, h3, rfl⟩ := hx
    obtain ⟨a, rfl⟩ := bid_arg h1
    obtain ⟨b, rfl⟩ := bid_arg h2
    obtain ⟨c, rfl⟩ := bid_arg h3
    exact bidOrder a b c

theorem bidOrder_holds : Rows.BidOrderSaid :=
  OpenClaim.holds_of_wide 3 Try.f3 rfl rfl rfl rfl rfl rfl rfl ⟨rfl, rfl, rfl, rfl, rfl⟩ rfl rfl rfl rfl rfl (by kernel_rfl) Try.func3 (by kernel_rfl)
    (of_decide_eq_true (by kernel_rfl)) (by unfold Func.isWrapper; first | (rw [if_pos (by decide +kernel)]; kernel_rfl) | (rw [if_neg (by decide +kernel)]; exact ⟨rfl, rfl⟩))
    (fun os started H enc _ => bidOrder_lifted os started H enc)
#print axioms bidOrder_holds
end Go.Proofs.Ytpfmnccocmgfmaa
