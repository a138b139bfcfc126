/-
  DERIVED. GIVEN WITH THE SEED: THE CARDS: each row of YtpfmnccocmgfmaaDoorRows.lean that lists a variable, with what it lists TIED to the program's text (the seventh form; the later family's looks); each row that meets fmt, with fmt's text TOLD by the authors' own Lean function (tested against real Go, not proved from fmt's source: count such statements apart). THE CARD IS WHAT COUNTS. Prove the row's statement (the work); the ties are given (YtpfmnccocmgfmaaDoorTie.lean); close each card by the builder's one call (the guide's Derived/Test/ToyasCard.lean, 'card_holds'). Laid BY PROGRAM, IN A SANDBOX (cutbox-door.mjs). By AI agents, Wed Nov 11 2026. No macro, syntax, notation, axiom, sorry.
-/
import Derived.Test.YtpfmnccocmgfmaaDoorRows
import GoSem.ClaimSeven
namespace Go.Proofs.YtpfmnccocmgfmaaDoor
namespace Rows

/-- THE TIED CARD OF 'paternosterlaw24.TraceKinds'. -/
def traceKindsCard : Claim7 := { stood := { row := traceKindsRow, standIns := [], harness := (true, "78c5332ada0ff66e8cbb225a7fb10ac0615c53953b2fa5a80840102059d2181f"), looks := true }, kinds := [], alts := [], laidByText := true, laidKinds := [.sentinel, .sentinel, .sentinel, .sentinel, .sentinel, .sentinel, .sentinel, .sentinel, .sentinel, .sentinel, .sentinel, .sentinel, .sentinel], laidTests := true, laidLooks := .later }
def TraceKindsCardSaid : Prop := Claim7.holds Tryd.pinned (.plain (OpenSpec.ofChange traceKindsSpec)) traceKindsCard

/-- THE TIED CARD OF 'paternosterlaw24.TraceGoes'. -/
def traceGoesCard : Claim7 := { stood := { row := traceGoesRow, standIns := [], harness := (true, "78c5332ada0ff66e8cbb225a7fb10ac0615c53953b2fa5a80840102059d2181f"), looks := true }, kinds := [], alts := [], laidByText := true, laidKinds := [.sentinel, .sentinel, .sentinel, .sentinel, .sentinel, .sentinel, .sentinel, .sentinel, .sentinel, .sentinel, .sentinel, .sentinel, .sentinel], laidTests := true, laidLooks := .later }
def TraceGoesCardSaid : Prop := Claim7.holds Tryd.pinned (.plain (OpenSpec.ofChange traceGoesSpec)) traceGoesCard

/-- THE TIED CARD OF 'paternosterlaw24.TraceTwice'. -/
def traceTwiceCard : Claim7 := { stood := { row := traceTwiceRow, standIns := [], harness := (true, "78c5332ada0ff66e8cbb225a7fb10ac0615c53953b2fa5a80840102059d2181f"), looks := true }, kinds := [], alts := [], laidByText := true, laidKinds := [.sentinel, .sentinel, .sentinel, .sentinel, .sentinel, .sentinel, .sentinel, .sentinel, .sentinel, .sentinel, .sentinel, .sentinel, .sentinel], laidTests := true, laidLooks := .later }
def TraceTwiceCardSaid : Prop := Claim7.holds Tryd.pinned (.plain (OpenSpec.ofChange traceTwiceSpec)) traceTwiceCard

/-- THE TIED CARD OF 'paternosterlaw24.TraceBoots'. -/
def traceBootsCard : Claim7 := { stood := { row := traceBootsRow, standIns := [], harness := (true, "78c5332ada0ff66e8cbb225a7fb10ac0615c53953b2fa5a80840102059d2181f"), looks := true }, kinds := [], alts := [], laidByText := true, laidKinds := [.sentinel, .sentinel, .sentinel, .sentinel, .sentinel, .sentinel, .sentinel, .sentinel, .sentinel, .sentinel, .sentinel, .sentinel, .sentinel], laidTests := true, laidLooks := .later }
def TraceBootsCardSaid : Prop := Claim7.holds Tryd.pinned (.plain (OpenSpec.ofChange traceBootsSpec)) traceBootsCard

/-- THE TIED CARD OF 'paternosterlaw25.QuietSays'. -/
def quietSaysCard : Claim7 := { stood := { row := quietSaysRow, standIns := [], harness := (true, "78c5332ada0ff66e8cbb225a7fb10ac0615c53953b2fa5a80840102059d2181f"), looks := true }, kinds := [], alts := [], laidByText := true, laidKinds := [.sentinel, .sentinel, .sentinel, .sentinel], laidTests := true, laidLooks := .later }
def QuietSaysCardSaid : Prop := Claim7.holds Tryd.pinned (.plain (OpenSpec.ofChange quietSaysSpec)) quietSaysCard

/-- THE TIED CARD OF 'paternosterlaw25.QuietGrows'. -/
def quietGrowsCard : Claim7 := { stood := { row := quietGrowsRow, standIns := [], harness := (true, "78c5332ada0ff66e8cbb225a7fb10ac0615c53953b2fa5a80840102059d2181f"), looks := true }, kinds := [], alts := [], laidByText := true, laidKinds := [.sentinel, .sentinel, .sentinel, .sentinel], laidTests := true, laidLooks := .later }
def QuietGrowsCardSaid : Prop := Claim7.holds Tryd.pinned (.plain (OpenSpec.ofChange quietGrowsSpec)) quietGrowsCard

/-- THE SECOND FORM's CARD OF 'paternosterlaw24.TraceKinds'. -/
def traceKindsUptoCard : Claim7 := { stood := { row := traceKindsUptoRow, standIns := [], harness := (true, "78c5332ada0ff66e8cbb225a7fb10ac0615c53953b2fa5a80840102059d2181f"), looks := true }, kinds := [], alts := [], laidByText := true, laidKinds := [.sentinel, .sentinel, .sentinel, .sentinel, .sentinel, .sentinel, .sentinel, .sentinel, .sentinel, .sentinel, .sentinel, .sentinel, .sentinel], laidTests := true, laidLooks := .later }
def TraceKindsUptoCardSaid : Prop := Claim7.holds Tryd.pinned (.plain (OpenSpec.upto traceKindsSpec)) traceKindsUptoCard

/-- THE SECOND FORM's CARD OF 'paternosterlaw24.TraceGoes'. -/
def traceGoesUptoCard : Claim7 := { stood := { row := traceGoesUptoRow, standIns := [], harness := (true, "78c5332ada0ff66e8cbb225a7fb10ac0615c53953b2fa5a80840102059d2181f"), looks := true }, kinds := [], alts := [], laidByText := true, laidKinds := [.sentinel, .sentinel, .sentinel, .sentinel, .sentinel, .sentinel, .sentinel, .sentinel, .sentinel, .sentinel, .sentinel, .sentinel, .sentinel], laidTests := true, laidLooks := .later }
def TraceGoesUptoCardSaid : Prop := Claim7.holds Tryd.pinned (.plain (OpenSpec.upto traceGoesSpec)) traceGoesUptoCard

/-- THE SECOND FORM's CARD OF 'paternosterlaw24.TraceTwice'. -/
def traceTwiceUptoCard : Claim7 := { stood := { row := traceTwiceUptoRow, standIns := [], harness := (true, "78c5332ada0ff66e8cbb225a7fb10ac0615c53953b2fa5a80840102059d2181f"), looks := true }, kinds := [], alts := [], laidByText := true, laidKinds := [.sentinel, .sentinel, .sentinel, .sentinel, .sentinel, .sentinel, .sentinel, .sentinel, .sentinel, .sentinel, .sentinel, .sentinel, .sentinel], laidTests := true, laidLooks := .later }
def TraceTwiceUptoCardSaid : Prop := Claim7.holds Tryd.pinned (.plain (OpenSpec.upto traceTwiceSpec)) traceTwiceUptoCard

/-- THE SECOND FORM's CARD OF 'paternosterlaw24.TraceBoots'. -/
def traceBootsUptoCard : Claim7 := { stood := { row := traceBootsUptoRow, standIns := [], harness := (true, "78c5332ada0ff66e8cbb225a7fb10ac0615c53953b2fa5a80840102059d2181f"), looks := true }, kinds := [], alts := [], laidByText := true, laidKinds := [.sentinel, .sentinel, .sentinel, .sentinel, .sentinel, .sentinel, .sentinel, .sentinel, .sentinel, .sentinel, .sentinel, .sentinel, .sentinel], laidTests := true, laidLooks := .later }
def TraceBootsUptoCardSaid : Prop := Claim7.holds Tryd.pinned (.plain (OpenSpec.upto traceBootsSpec)) traceBootsUptoCard

/-- THE SECOND FORM's CARD OF 'paternosterlaw25.QuietSays'. -/
def quietSaysUptoCard : Claim7 := { stood := { row := quietSaysUptoRow, standIns := [], harness := (true, "78c5332ada0ff66e8cbb225a7fb10ac0615c53953b2fa5a80840102059d2181f"), looks := true }, kinds := [], alts := [], laidByText := true, laidKinds := [.sentinel, .sentinel, .sentinel, .sentinel], laidTests := true, laidLooks := .later }
def QuietSaysUptoCardSaid : Prop := Claim7.holds Tryd.pinned (.plain (OpenSpec.upto quietSaysSpec)) quietSaysUptoCard

/-- THE SECOND FORM's CARD OF 'paternosterlaw25.QuietGrows'. -/
def quietGrowsUptoCard : Claim7 := { stood := { row := quietGrowsUptoRow, standIns := [], harness := (true, "78c5332ada0ff66e8cbb225a7fb10ac0615c53953b2fa5a80840102059d2181f"), looks := true }, kinds := [], alts := [], laidByText := true, laidKinds := [.sentinel, .sentinel, .sentinel, .sentinel], laidTests := true, laidLooks := .later }
def QuietGrowsUptoCardSaid : Prop := Claim7.holds Tryd.pinned (.plain (OpenSpec.upto quietGrowsSpec)) quietGrowsUptoCard
end Rows
end Go.Proofs.YtpfmnccocmgfmaaDoor
