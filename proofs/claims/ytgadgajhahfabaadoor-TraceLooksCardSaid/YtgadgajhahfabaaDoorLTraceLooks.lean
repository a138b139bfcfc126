/- TraceLooks: whatever the input, it returns true; each argument reads as it did. What it reads of the listed variables is tied to the program's text. -/
import Derived.Test.YtgadgajhahfabaaDoorFTraceLooks
import Derived.Test.YtgadgajhahfabaaDoorJTraceLooks
import Derived.Test.YtgadgajhahfabaaDoorTie
import Derived.Test.YtgadgajhahfabaaDoorCards
namespace Go.Proofs.YtgadgajhahfabaaDoor
open Go.Pv Go.RowKit Go.ChangeShapes Go.WideShapes
theorem traceLooks_holds : Rows.TraceLooksSaid :=
  OpenClaim.holds_of_wide 3 Tryd.f3 rfl rfl rfl rfl rfl rfl rfl ⟨rfl, rfl, rfl, rfl, rfl⟩ rfl rfl rfl rfl rfl (by kernel_rfl) Tryd.func3 traceLooks_closed
    (of_decide_eq_true (by kernel_rfl)) (by unfold Func.isWrapper; first | (rw [if_pos (by decide +kernel)]; kernel_rfl) | (rw [if_neg (by decide +kernel)]; exact ⟨rfl, rfl⟩))
    (fun os started H enc _ => traceLooks_lifted os started H enc)
theorem traceLooks_card : Rows.TraceLooksCardSaid :=
  Claim7.holds_tied_plain_at .later [] Rows.traceLooksCard.laidKinds true (true, "673782efea5f0f8e6f84c33acf8a9a5b87749afb8f2d7ebe4a0bfb366a1728ed") true
    traceLooks_holds (fun _ h => by cases h) (by kernel_rfl) (fun _ h => by cases h) traceLooks_row_tie rfl ⟨rfl, rfl⟩ (by kernel_rfl) rfl
    (fun f fn hf hfn => by
      obtain rfl : f = 3 := Option.some.inj ((show Tryd.prog.funcNamed Rows.traceLooksRow.func = some 3 by kernel_rfl).symm.trans hf) |>.symm
      obtain rfl : fn = Tryd.f3 := (Option.some.inj (Tryd.func3.symm.trans hfn)).symm
      exact ⟨by kernel_rfl, fun j t ht => by
        have hall : (Tryd.f3.params.toList.all fun t => !Tryd.prog.wantsStandIn t) = true := by kernel_rfl
        have := List.all_eq_true.1 hall t (by
          have := List.mem_of_getElem? (l := Tryd.f3.params.toList) (i := j) (a := t) (by simpa using ht)
          exact this)
        exact (show Tryd.prog.wantsStandIn t = false by simpa using this)⟩)
    (by kernel_rfl)
#print axioms traceLooks_card
end Go.Proofs.YtgadgajhahfabaaDoor
