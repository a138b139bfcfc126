/- The law's first input. -/
import Derived.Test.YtkenimmellonjaaC
namespace Go.Proofs.Ytkenimmellonjaa
open Go.Pv Go.RowKit Go.Shelf
theorem first18 : Contract Try.prog G0 18 [] [] (fun r t => r = .d (.bool true) ∧ t = []) := by
  refine con18 0 rfl rfl ?_
  conv => whnf
  refine .inl (.inl ⟨[.d (.list 1 (rowsI [1, 4, 6])), .d (.int .i64 6)], _, ⟨.refl _, rfl, next [1, 4, 6] (by decide) 6⟩, ?_⟩)
  conv => whnf
  exact ⟨rfl, rfl⟩
end Go.Proofs.Ytkenimmellonjaa
