/- QuietGrows: whatever the input, it returns true; each argument reads as it did. What it reads of the listed variables is tied to the program's text. -/
import Derived.Test.YtpfmnccocmgfmaaDoorFQuietGrows
import Derived.Test.YtpfmnccocmgfmaaDoorJQuietGrows
import Derived.Test.YtpfmnccocmgfmaaDoorTie
import Derived.Test.YtpfmnccocmgfmaaDoorCards
namespace Go.Proofs.YtpfmnccocmgfmaaDoor
open Go.Pv Go.RowKit Go.ChangeShapes Go.WideShapes
theorem quietGrows_holds : Rows.QuietGrowsSaid :=
  OpenClaim.holds_of_wide 8 Tryd.f8 rfl rfl rfl rfl rfl rfl rfl ⟨rfl, rfl, rfl, rfl, rfl⟩ rfl rfl rfl rfl rfl (by kernel_rfl) Tryd.func8 quietGrows_closed
    (of_decide_eq_true (by kernel_rfl)) (by unfold Func.isWrapper; first | (rw [if_pos (by decide +kernel)]; kernel_rfl) | (rw [if_neg (by decide +kernel)]; exact ⟨rfl, rfl⟩))
    (fun os started H enc _ => quietGrows_lifted os started H enc)
theorem quietGrows_card : Rows.QuietGrowsCardSaid :=
  Claim7.holds_tied_plain_at .later [] Rows.quietGrowsCard.laidKinds true (true, "78c5332ada0ff66e8cbb225a7fb10ac0615c53953b2fa5a80840102059d2181f") true
    quietGrows_holds (fun _ h => by cases h) (by kernel_rfl) (fun _ h => by cases h) quietGrows_row_tie rfl ⟨rfl, rfl⟩ (by kernel_rfl) rfl
    (fun f fn hf hfn => by
      obtain rfl : f = 8 := Option.some.inj ((show Tryd.prog.funcNamed Rows.quietGrowsRow.func = some 8 by kernel_rfl).symm.trans hf) |>.symm
      obtain rfl : fn = Tryd.f8 := (Option.some.inj (Tryd.func8.symm.trans hfn)).symm
      exact ⟨by kernel_rfl, fun j t ht => by
        have hall : (Tryd.f8.params.toList.all fun t => !Tryd.prog.wantsStandIn t) = true := by kernel_rfl
        have := List.all_eq_true.1 hall t (by
          have := List.mem_of_getElem? (l := Tryd.f8.params.toList) (i := j) (a := t) (by simpa using ht)
          exact this)
        exact (show Tryd.prog.wantsStandIn t = false by simpa using this)⟩)
    (by kernel_rfl)
#print axioms quietGrows_card
end Go.Proofs.YtpfmnccocmgfmaaDoor
