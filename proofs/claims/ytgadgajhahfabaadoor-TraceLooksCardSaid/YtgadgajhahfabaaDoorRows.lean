/-
  NARROWER THAN 'FOR EVERY INPUT', by the rows' own cells (each row's printed sentence says how): TraceLooks: laid.
  DERIVED. THE GIVEN ROWS OF THIS SEAT. 1 by the template 'for every input the law returns true; each argument reads behind the call as it read before'; 0 by the template 'total and deterministic' (their statements: YtgadgajhahfabaaDoorTotals.lean).
  GIVEN WITH THE SEED: the statements are not yours to turn. If you find one false, say at which input.
  Laid BY PROGRAM, IN A SANDBOX (cutbox-rows.mjs): the forced cells as the released guide's own fill.sh prints them over the translation 77bfc19f558a05a4… (all of the seat's roots in one cut). By AI agents, Wed Nov 11 2026. No macro, syntax, notation, axiom, sorry.
-/
import Derived.Test.YtgadgajhahfabaaDoorChecked
import GoSem.Claim
import GoSem.ClaimJoined
import GoSem.ClaimMapViews
import Derived.JoinedTies
import Derived.KernelRfl
namespace Go.Proofs.YtgadgajhahfabaaDoor
/- THE CELL 'sum', in the pinned program and in every row, IS THE sha256 OF THE DUMP (.gsa) THAT YtgadgajhahfabaaDoorProg.lean LOADS. Nothing in Lean hashes anything: it is a label: what it is worth is what the hold of that sum in a sandbox is worth. -/
noncomputable def Tryd.pinned : Pinned := { name := "ytgadgajhahfabaadoor", sum := "77bfc19f558a05a47d71f41e0fd8a9901d70f992a36432840663145ad84db5f9", checked := Tryd.checked }
namespace Rows
def none {H : Type} : Left H := { results := [], args := [] }

/- WHAT THE LISTED PACKAGE-LEVEL VARIABLES READ AS WHEN THE CALL BEGINS. Each datum BY PROGRAM (the guide's laid-datum.mjs) off the statement by which the dump's own 'gosem.cut.vars' lays the variable. In a bare row this is a premise. The card (YtgadgajhahfabaaDoorCards.lean) ties it to the program's text. -/
def laid_paternoster_api_ErrEnd {H : Type} : DataW H := .iface "*errors.errorString" (.ptr (.agg [.lit (.string [105, 116, 32, 101, 110, 100, 115, 32, 116, 111, 111, 32, 101, 97, 114, 108, 121])]))
def laid_paternoster_api_ErrShape {H : Type} : DataW H := .iface "*errors.errorString" (.ptr (.agg [.lit (.string [110, 111, 116, 32, 97, 115, 32, 105, 116, 32, 104, 97, 115, 32, 116, 111, 32, 98, 101])]))
def laid_paternoster_api_ErrRange {H : Type} : DataW H := .iface "*errors.errorString" (.ptr (.agg [.lit (.string [97, 32, 110, 117, 109, 98, 101, 114, 32, 111, 117, 116, 32, 111, 102, 32, 105, 116, 115, 32, 114, 97, 110, 103, 101])]))
def laid_paternoster_api_ErrMany {H : Type} : DataW H := .iface "*errors.errorString" (.ptr (.agg [.lit (.string [116, 111, 111, 32, 109, 97, 110, 121])]))
def laid_paternoster_api_ErrPower {H : Type} : DataW H := .iface "*errors.errorString" (.ptr (.agg [.lit (.string [116, 104, 101, 32, 112, 111, 119, 101, 114, 32, 105, 115, 32, 103, 111, 110, 101])]))
def laid_paternoster_api_ErrNone {H : Type} : DataW H := .iface "*errors.errorString" (.ptr (.agg [.lit (.string [116, 104, 101, 114, 101, 32, 105, 115, 32, 110, 111, 110, 101])]))
def laid_paternoster_api_ErrKind {H : Type} : DataW H := .iface "*errors.errorString" (.ptr (.agg [.lit (.string [110, 111, 116, 32, 111, 102, 32, 116, 104, 97, 116, 32, 107, 105, 110, 100])]))
def laid_paternoster_api_ErrOrder {H : Type} : DataW H := .iface "*errors.errorString" (.ptr (.agg [.lit (.string [110, 111, 116, 32, 105, 110, 32, 116, 104, 97, 116, 32, 111, 114, 100, 101, 114])]))
def laid_paternoster_api_ErrDoor {H : Type} : DataW H := .iface "*errors.errorString" (.ptr (.agg [.lit (.string [110, 111, 116, 32, 119, 105, 116, 104, 32, 116, 104, 101, 32, 100, 111, 111, 114, 32, 115, 111])]))
def laid_paternoster_api_ErrFloor {H : Type} : DataW H := .iface "*errors.errorString" (.ptr (.agg [.lit (.string [110, 111, 116, 32, 97, 116, 32, 116, 104, 97, 116, 32, 102, 108, 111, 111, 114])]))
def laid_paternoster_api_ErrTwice {H : Type} : DataW H := .iface "*errors.errorString" (.ptr (.agg [.lit (.string [116, 104, 101, 114, 101, 32, 105, 115, 32, 111, 110, 101])]))
def laid_paternoster_api_ErrWord {H : Type} : DataW H := .iface "*errors.errorString" (.ptr (.agg [.lit (.string [110, 111, 32, 115, 117, 99, 104, 32, 119, 111, 114, 100])]))
def laid_paternoster_api_ErrNumber {H : Type} : DataW H := .iface "*errors.errorString" (.ptr (.agg [.lit (.string [110, 111, 116, 32, 97, 32, 110, 117, 109, 98, 101, 114])]))

/-- 'paternosterlaw24.TraceLooks': WHATEVER THE INPUT: true; the input reads as it did. -/
def traceLooksSpec : ChangeSpec := { name := "traceLooks", fn := fun _ => fun
  | [d1, d2, d3] => { results := [.lit (.bool true)], args := [d1, d2, d3] }
  | _ => none }
def traceLooksRow : OpenClaim := { program := "ytgadgajhahfabaadoor", sum := "77bfc19f558a05a47d71f41e0fd8a9901d70f992a36432840663145ad84db5f9", func := "paternoster/paternosterlaw24.TraceLooks", spec := "traceLooks", unfollowed := true, recurses := true, named := ["paternoster/api.ErrKind", "paternoster/api.ErrRange", "paternoster/api.ErrDoor", "paternoster/api.ErrTwice", "paternoster/api.ErrOrder", "paternoster/api.ErrFloor", "paternoster/api.ErrNone", "paternoster/api.ErrEnd", "paternoster/api.ErrShape", "paternoster/api.ErrMany", "paternoster/api.ErrPower", "paternoster/api.ErrWord", "paternoster/api.ErrNumber"], plainKeys := false, apart := false, laid := [("paternoster/api.ErrEnd", laid_paternoster_api_ErrEnd), ("paternoster/api.ErrShape", laid_paternoster_api_ErrShape), ("paternoster/api.ErrRange", laid_paternoster_api_ErrRange), ("paternoster/api.ErrMany", laid_paternoster_api_ErrMany), ("paternoster/api.ErrPower", laid_paternoster_api_ErrPower), ("paternoster/api.ErrNone", laid_paternoster_api_ErrNone), ("paternoster/api.ErrKind", laid_paternoster_api_ErrKind), ("paternoster/api.ErrOrder", laid_paternoster_api_ErrOrder), ("paternoster/api.ErrDoor", laid_paternoster_api_ErrDoor), ("paternoster/api.ErrFloor", laid_paternoster_api_ErrFloor), ("paternoster/api.ErrTwice", laid_paternoster_api_ErrTwice), ("paternoster/api.ErrWord", laid_paternoster_api_ErrWord), ("paternoster/api.ErrNumber", laid_paternoster_api_ErrNumber)] }
def TraceLooksSaid : Prop := traceLooksRow.holds Tryd.pinned (OpenSpec.ofChange traceLooksSpec)

/-- ITS FALSE NEIGHBOUR: 'it returns false'. Refute it at one input. -/
def traceLooksWrong : ChangeSpec := { name := "traceLooks", fn := fun _ => fun
  | [d1, d2, d3] => { results := [.lit (.bool false)], args := [d1, d2, d3] }
  | _ => none }
def TraceLooksWrongFalsely : Prop := traceLooksRow.holds Tryd.pinned (OpenSpec.ofChange traceLooksWrong)

/- THE SECOND FORM. 'bulk': how many values and letters a reading holds, each counted each time it is reached (what is shared counts as often as it is met; a slice's spare places count too). A statement '..UptoSaid' is the law's where the arguments, and the package variables that the reading takes, are together of bulk at most 1048576: NARROWER than '..Said'. Prove '..Said' where nothing that the law and all that it calls make is longer than what came in: it says more and counts as full. Else prove '..UptoSaid'. A law counts once. -/
mutual
def uptoBulk {H : Type} : DataW H → Nat
  | .lit (.string bytes) => bytes.length + 1
  | .lit _ => 1
  | .nil => 1
  | .ptr d => uptoBulk d + 1
  | .slice elems spare => uptoBulkAll elems + uptoBulkAll spare + 1
  | .agg parts => uptoBulkAll parts + 1
  | .iface _ d => uptoBulk d + 1
  | .map entries => uptoBulkEntries entries + 1
  | .held _ => 1
def uptoBulkAll {H : Type} : List (DataW H) → Nat
  | [] => 0
  | d :: r => uptoBulk d + uptoBulkAll r
def uptoBulkEntries {H : Type} : List (Lit × DataW H) → Nat
  | [] => 0
  | x :: r => uptoBulkEntry x + uptoBulkEntries r
def uptoBulkEntry {H : Type} : Lit × DataW H → Nat
  | (.string bytes, d) => bytes.length + uptoBulk d + 1
  | (_, d) => uptoBulk d + 1
 end
def uptoSmall : (H : Type) → List (DataW H) → Bool := fun _ ds => decide (uptoBulkAll ds ≤ 1048576)
def OpenSpec.upto (s : _root_.Go.ChangeSpec) : _root_.Go.OpenSpec := { _root_.Go.OpenSpec.ofChange s with cond := some uptoSmall }

/-- 'paternosterlaw24.TraceLooks', WHERE WHAT IT READS IS OF BULK AT MOST 1048576: true; the input reads as it did. -/
def traceLooksUptoRow : OpenClaim := { program := "ytgadgajhahfabaadoor", sum := "77bfc19f558a05a47d71f41e0fd8a9901d70f992a36432840663145ad84db5f9", func := "paternoster/paternosterlaw24.TraceLooks", spec := "traceLooks", unfollowed := true, recurses := true, named := ["paternoster/api.ErrKind", "paternoster/api.ErrRange", "paternoster/api.ErrDoor", "paternoster/api.ErrTwice", "paternoster/api.ErrOrder", "paternoster/api.ErrFloor", "paternoster/api.ErrNone", "paternoster/api.ErrEnd", "paternoster/api.ErrShape", "paternoster/api.ErrMany", "paternoster/api.ErrPower", "paternoster/api.ErrWord", "paternoster/api.ErrNumber"], plainKeys := false, apart := false, laid := [("paternoster/api.ErrEnd", laid_paternoster_api_ErrEnd), ("paternoster/api.ErrShape", laid_paternoster_api_ErrShape), ("paternoster/api.ErrRange", laid_paternoster_api_ErrRange), ("paternoster/api.ErrMany", laid_paternoster_api_ErrMany), ("paternoster/api.ErrPower", laid_paternoster_api_ErrPower), ("paternoster/api.ErrNone", laid_paternoster_api_ErrNone), ("paternoster/api.ErrKind", laid_paternoster_api_ErrKind), ("paternoster/api.ErrOrder", laid_paternoster_api_ErrOrder), ("paternoster/api.ErrDoor", laid_paternoster_api_ErrDoor), ("paternoster/api.ErrFloor", laid_paternoster_api_ErrFloor), ("paternoster/api.ErrTwice", laid_paternoster_api_ErrTwice), ("paternoster/api.ErrWord", laid_paternoster_api_ErrWord), ("paternoster/api.ErrNumber", laid_paternoster_api_ErrNumber)], narrowed := true }
def TraceLooksUptoSaid : Prop := traceLooksUptoRow.holds Tryd.pinned (OpenSpec.upto traceLooksSpec)

end Rows
end Go.Proofs.YtgadgajhahfabaaDoor
