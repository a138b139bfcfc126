/- CallsGens: whatever the input, it returns true; each argument reads as it did. -/
import Derived.Test.YtpfmnccocmgfmaaGens
import Derived.Test.YtpfmnccocmgfmaaPvY
import Derived.Test.YtpfmnccocmgfmaaRows
namespace Go.Proofs.Ytpfmnccocmgfmaa
open Go.Pv Go.RowKit Go.ChangeShapes Go.WideShapes

theorem Try.own2 : ownKnob Try.prog.godebug = .none := by kernel_rfl
theorem Try.laidOut2 : laidOutB Try.prog = true := by kernel_rfl
theorem call_arg {n : Nat} {x : AV} (h : ArgD T (n + 2) 30 x) : ∃ c : Ct, x = callv c := by
  obtain ⟨xs, h, rfl⟩ := h
  obtain ⟨_, _, rfl, ⟨c, _, _, rfl⟩, _, _, rfl, ⟨t, _, _, rfl⟩, rfl⟩ := h
  exact ⟨(c, t), rfl⟩
theorem latch_arg {n : Nat} {x : AV} (h : ArgD T (n + 3) 32 x) : ∃ c : Lt, x = latchv c := by
  obtain ⟨xs, h, rfl⟩ := h
  obtain ⟨_, _, rfl, ⟨_, _, rfl, ⟨f, _, _, rfl⟩, _, _, rfl, ⟨d, _, _, rfl⟩, rfl⟩, _, _, rfl, ⟨g, _, _, rfl⟩, rfl⟩ := h
  exact ⟨((f, d), g), rfl⟩

theorem callsGens_lifted (os : Os) (started : os.Started) (H : Type) (enc : TypeId × Value → H) :
    ReturnsInHanded {} Try.checked os 4 .any (Rows.callsGensSpec.pre6 enc Try.prog Try.f4 Rows.callsGensRow.domain false) (Rows.callsGensSpec.post enc Try.prog Try.f4 false true false false) := by
  refine returnsInHanded_of_change (C := Try.checked) Try.own2 started (by kernel_rfl) Try.func4
    (ChangeSpec.witness6 (enc := enc) (C := Try.checked) false ⟨#[], #[.agg #[.int .i64 0, .int .i64 0, .int .i64 0], .agg #[.int .i64 0, .int .i64 0, .int .i64 0], .agg #[.int .i64 0, .int .i64 0]], []⟩ 8 (by kernel_rfl) (by kernel_rfl) (by kernel_rfl) (by kernel_rfl)) ?_
  intro W base args ds gs before hval hW _ _
  refine law_calls (P := Try.prog) (n := 8) tabOK (G := G0) (fun _ => rfl) Try.laidOut2 (tb := 4) rfl Try.underlying4 (by kernel_rfl) (by kernel_rfl) rfl ?_ ?_ hval hW
  · intro ds hds
    match ds, hds with
    | [d1, d2, d3], _ => rfl
  · intro xs hx
    obtain ⟨x1, _, rfl, h1, x2, _, rfl, h2, x3, _, rfl, h3, rfl⟩ := hx
    obtain ⟨a, rfl⟩ := latch_arg h1
    obtain ⟨b, rfl⟩ := latch_arg h2
    obtain ⟨c, rfl⟩ := call_arg h3
    by_cases hc : c = a.1
    · subst hc; exact gens_some a b
    · exact gens_none a b c hc

theorem callsGens_holds : Rows.CallsGensSaid :=
  OpenClaim.holds_of_wide 4 Try.f4 rfl rfl rfl rfl rfl rfl rfl ⟨rfl, rfl, rfl, rfl, rfl⟩ rfl rfl rfl rfl rfl (by kernel_rfl) Try.func4 (by kernel_rfl)
    (of_decide_eq_true (by kernel_rfl)) (by unfold Func.isWrapper; first | (rw [if_pos (by decide +kernel)]; kernel_rfl) | (rw [if_neg (by decide +kernel)]; exact ⟨rfl, rfl⟩))
    (fun os started H enc _ => callsGens_lifted os started H enc)
#print axioms callsGens_holds
end Go.Proofs.Ytpfmnccocmgfmaa
