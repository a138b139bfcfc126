/- TraceTwice: whatever the input, it returns true; each argument reads as it did. What it reads of the listed variables is tied to the program's text. -/
import Derived.Test.YtpfmnccocmgfmaaDoorFTraceTwice
import Derived.Test.YtpfmnccocmgfmaaDoorJTraceTwice
import Derived.Test.YtpfmnccocmgfmaaDoorTie
import Derived.Test.YtpfmnccocmgfmaaDoorCards
namespace Go.Proofs.YtpfmnccocmgfmaaDoor
open Go.Pv Go.RowKit Go.ChangeShapes Go.WideShapes
theorem traceTwice_holds : Rows.TraceTwiceSaid :=
  OpenClaim.holds_of_wide 5 Tryd.f5 rfl rfl rfl rfl rfl rfl rfl ⟨rfl, rfl, rfl, rfl, rfl⟩ rfl rfl rfl rfl rfl (by kernel_rfl) Tryd.func5 traceTwice_closed
    (of_decide_eq_true (by kernel_rfl)) (by unfold Func.isWrapper; first | (rw [if_pos (by decide +kernel)]; kernel_rfl) | (rw [if_neg (by decide +kernel)]; exact ⟨rfl, rfl⟩))
    (fun os started H enc _ => traceTwice_lifted os started H enc)
theorem traceTwice_card : Rows.TraceTwiceCardSaid :=
  Claim7.holds_tied_plain_at .later [] Rows.traceTwiceCard.laidKinds true (true, "78c5332ada0ff66e8cbb225a7fb10ac0615c53953b2fa5a80840102059d2181f") true
    traceTwice_holds (fun _ h => by cases h) (by kernel_rfl) (fun _ h => by cases h) traceTwice_row_tie rfl ⟨rfl, rfl⟩ (by kernel_rfl) rfl
    (fun f fn hf hfn => by
      obtain rfl : f = 5 := Option.some.inj ((show Tryd.prog.funcNamed Rows.traceTwiceRow.func = some 5 by kernel_rfl).symm.trans hf) |>.symm
      obtain rfl : fn = Tryd.f5 := (Option.some.inj (Tryd.func5.symm.trans hfn)).symm
      exact ⟨by kernel_rfl, fun j t ht => by
        have hall : (Tryd.f5.params.toList.all fun t => !Tryd.prog.wantsStandIn t) = true := by kernel_rfl
        have := List.all_eq_true.1 hall t (by
          have := List.mem_of_getElem? (l := Tryd.f5.params.toList) (i := j) (a := t) (by simpa using ht)
          exact this)
        exact (show Tryd.prog.wantsStandIn t = false by simpa using this)⟩)
    (by kernel_rfl)
#print axioms traceTwice_card
end Go.Proofs.YtpfmnccocmgfmaaDoor
