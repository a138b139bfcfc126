/-
  DERIVED. GIVEN WITH THE SEED: THE CARDS: each row of YtgadgajhahfabaaDoorRows.lean that lists a variable, with what it lists TIED to the program's text (the seventh form; the later family's looks); each row that meets fmt, with fmt's text TOLD by the authors' own Lean function (tested against real Go, not proved from fmt's source: count such statements apart). THE CARD IS WHAT COUNTS. Prove the row's statement (the work); the ties are given (YtgadgajhahfabaaDoorTie.lean); close each card by the builder's one call (the guide's Derived/Test/ToyasCard.lean, 'card_holds'). Laid BY PROGRAM, IN A SANDBOX (cutbox-door.mjs). By AI agents, Wed Nov 11 2026. No macro, syntax, notation, axiom, sorry.
-/
import Derived.Test.YtgadgajhahfabaaDoorRows
import GoSem.ClaimSeven
namespace Go.Proofs.YtgadgajhahfabaaDoor
namespace Rows

/-- THE TIED CARD OF 'paternosterlaw24.TraceLooks'. -/
def traceLooksCard : Claim7 := { stood := { row := traceLooksRow, standIns := [], harness := (true, "673782efea5f0f8e6f84c33acf8a9a5b87749afb8f2d7ebe4a0bfb366a1728ed"), looks := true }, kinds := [], alts := [], laidByText := true, laidKinds := [.sentinel, .sentinel, .sentinel, .sentinel, .sentinel, .sentinel, .sentinel, .sentinel, .sentinel, .sentinel, .sentinel, .sentinel, .sentinel], laidTests := true, laidLooks := .later }
def TraceLooksCardSaid : Prop := Claim7.holds Tryd.pinned (.plain (OpenSpec.ofChange traceLooksSpec)) traceLooksCard

/-- THE SECOND FORM's CARD OF 'paternosterlaw24.TraceLooks'. -/
def traceLooksUptoCard : Claim7 := { stood := { row := traceLooksUptoRow, standIns := [], harness := (true, "673782efea5f0f8e6f84c33acf8a9a5b87749afb8f2d7ebe4a0bfb366a1728ed"), looks := true }, kinds := [], alts := [], laidByText := true, laidKinds := [.sentinel, .sentinel, .sentinel, .sentinel, .sentinel, .sentinel, .sentinel, .sentinel, .sentinel, .sentinel, .sentinel, .sentinel, .sentinel], laidTests := true, laidLooks := .later }
def TraceLooksUptoCardSaid : Prop := Claim7.holds Tryd.pinned (.plain (OpenSpec.upto traceLooksSpec)) traceLooksUptoCard
end Rows
end Go.Proofs.YtgadgajhahfabaaDoor
