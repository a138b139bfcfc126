/-
  NARROWER THAN 'FOR EVERY INPUT', by the rows' own cells (each row's printed sentence says how): TraceKinds: laid · TraceGoes: laid · TraceTwice: laid · TraceBoots: laid · QuietSays: laid · QuietGrows: laid.
  DERIVED. THE GIVEN ROWS OF THIS SEAT. 6 by the template 'for every input the law returns true; each argument reads behind the call as it read before'; 0 by the template 'total and deterministic' (their statements: YtpfmnccocmgfmaaDoorTotals.lean).
  GIVEN WITH THE SEED: the statements are not yours to turn. If you find one false, say at which input.
  Laid BY PROGRAM, IN A SANDBOX (cutbox-rows.mjs): the forced cells as the released guide's own fill.sh prints them over the translation bc58af78eef975e8… (all of the seat's roots in one cut). By AI agents, Wed Nov 11 2026. No macro, syntax, notation, axiom, sorry.
-/
import Derived.Test.YtpfmnccocmgfmaaDoorChecked
import GoSem.Claim
import GoSem.ClaimJoined
import GoSem.ClaimMapViews
import Derived.JoinedTies
import Derived.KernelRfl
namespace Go.Proofs.YtpfmnccocmgfmaaDoor
/- THE CELL 'sum', in the pinned program and in every row, IS THE sha256 OF THE DUMP (.gsa) THAT YtpfmnccocmgfmaaDoorProg.lean LOADS. Nothing in Lean hashes anything: it is a label: what it is worth is what the hold of that sum in a sandbox is worth. -/
noncomputable def Tryd.pinned : Pinned := { name := "ytpfmnccocmgfmaadoor", sum := "bc58af78eef975e8e2113785ff844b512ec44362b057fd7f24e68344375ac8ef", checked := Tryd.checked }
namespace Rows
def none {H : Type} : Left H := { results := [], args := [] }

/- WHAT THE LISTED PACKAGE-LEVEL VARIABLES READ AS WHEN THE CALL BEGINS. Each datum BY PROGRAM (the guide's laid-datum.mjs) off the statement by which the dump's own 'gosem.cut.vars' lays the variable. In a bare row this is a premise. The card (YtpfmnccocmgfmaaDoorCards.lean) ties it to the program's text. -/
def laid_paternoster_api_ErrEnd {H : Type} : DataW H := .iface "*errors.errorString" (.ptr (.agg [.lit (.string [105, 116, 32, 101, 110, 100, 115, 32, 116, 111, 111, 32, 101, 97, 114, 108, 121])]))
def laid_paternoster_api_ErrShape {H : Type} : DataW H := .iface "*errors.errorString" (.ptr (.agg [.lit (.string [110, 111, 116, 32, 97, 115, 32, 105, 116, 32, 104, 97, 115, 32, 116, 111, 32, 98, 101])]))
def laid_paternoster_api_ErrRange {H : Type} : DataW H := .iface "*errors.errorString" (.ptr (.agg [.lit (.string [97, 32, 110, 117, 109, 98, 101, 114, 32, 111, 117, 116, 32, 111, 102, 32, 105, 116, 115, 32, 114, 97, 110, 103, 101])]))
def laid_paternoster_api_ErrMany {H : Type} : DataW H := .iface "*errors.errorString" (.ptr (.agg [.lit (.string [116, 111, 111, 32, 109, 97, 110, 121])]))
def laid_paternoster_api_ErrPower {H : Type} : DataW H := .iface "*errors.errorString" (.ptr (.agg [.lit (.string [116, 104, 101, 32, 112, 111, 119, 101, 114, 32, 105, 115, 32, 103, 111, 110, 101])]))
def laid_paternoster_api_ErrNone {H : Type} : DataW H := .iface "*errors.errorString" (.ptr (.agg [.lit (.string [116, 104, 101, 114, 101, 32, 105, 115, 32, 110, 111, 110, 101])]))
def laid_paternoster_api_ErrKind {H : Type} : DataW H := .iface "*errors.errorString" (.ptr (.agg [.lit (.string [110, 111, 116, 32, 111, 102, 32, 116, 104, 97, 116, 32, 107, 105, 110, 100])]))
def laid_paternoster_api_ErrOrder {H : Type} : DataW H := .iface "*errors.errorString" (.ptr (.agg [.lit (.string [110, 111, 116, 32, 105, 110, 32, 116, 104, 97, 116, 32, 111, 114, 100, 101, 114])]))
def laid_paternoster_api_ErrDoor {H : Type} : DataW H := .iface "*errors.errorString" (.ptr (.agg [.lit (.string [110, 111, 116, 32, 119, 105, 116, 104, 32, 116, 104, 101, 32, 100, 111, 111, 114, 32, 115, 111])]))
def laid_paternoster_api_ErrFloor {H : Type} : DataW H := .iface "*errors.errorString" (.ptr (.agg [.lit (.string [110, 111, 116, 32, 97, 116, 32, 116, 104, 97, 116, 32, 102, 108, 111, 111, 114])]))
def laid_paternoster_api_ErrTwice {H : Type} : DataW H := .iface "*errors.errorString" (.ptr (.agg [.lit (.string [116, 104, 101, 114, 101, 32, 105, 115, 32, 111, 110, 101])]))
def laid_paternoster_api_ErrWord {H : Type} : DataW H := .iface "*errors.errorString" (.ptr (.agg [.lit (.string [110, 111, 32, 115, 117, 99, 104, 32, 119, 111, 114, 100])]))
def laid_paternoster_api_ErrNumber {H : Type} : DataW H := .iface "*errors.errorString" (.ptr (.agg [.lit (.string [110, 111, 116, 32, 97, 32, 110, 117, 109, 98, 101, 114])]))

/-- 'paternosterlaw24.TraceKinds': WHATEVER THE INPUT: true; the input reads as it did. -/
def traceKindsSpec : ChangeSpec := { name := "traceKinds", fn := fun _ => fun
  | [d1, d2, d3] => { results := [.lit (.bool true)], args := [d1, d2, d3] }
  | _ => none }
def traceKindsRow : OpenClaim := { program := "ytpfmnccocmgfmaadoor", sum := "bc58af78eef975e8e2113785ff844b512ec44362b057fd7f24e68344375ac8ef", func := "paternoster/paternosterlaw24.TraceKinds", spec := "traceKinds", named := ["paternoster/api.ErrKind", "paternoster/api.ErrRange", "paternoster/api.ErrDoor", "paternoster/api.ErrTwice", "paternoster/api.ErrOrder", "paternoster/api.ErrFloor", "paternoster/api.ErrNone", "paternoster/api.ErrEnd", "paternoster/api.ErrShape", "paternoster/api.ErrMany", "paternoster/api.ErrPower", "paternoster/api.ErrWord", "paternoster/api.ErrNumber"], plainKeys := false, apart := false, laid := [("paternoster/api.ErrEnd", laid_paternoster_api_ErrEnd), ("paternoster/api.ErrShape", laid_paternoster_api_ErrShape), ("paternoster/api.ErrRange", laid_paternoster_api_ErrRange), ("paternoster/api.ErrMany", laid_paternoster_api_ErrMany), ("paternoster/api.ErrPower", laid_paternoster_api_ErrPower), ("paternoster/api.ErrNone", laid_paternoster_api_ErrNone), ("paternoster/api.ErrKind", laid_paternoster_api_ErrKind), ("paternoster/api.ErrOrder", laid_paternoster_api_ErrOrder), ("paternoster/api.ErrDoor", laid_paternoster_api_ErrDoor), ("paternoster/api.ErrFloor", laid_paternoster_api_ErrFloor), ("paternoster/api.ErrTwice", laid_paternoster_api_ErrTwice), ("paternoster/api.ErrWord", laid_paternoster_api_ErrWord), ("paternoster/api.ErrNumber", laid_paternoster_api_ErrNumber)] }
def TraceKindsSaid : Prop := traceKindsRow.holds Tryd.pinned (OpenSpec.ofChange traceKindsSpec)

/-- ITS FALSE NEIGHBOUR: 'it returns false'. Refute it at one input. -/
def traceKindsWrong : ChangeSpec := { name := "traceKinds", fn := fun _ => fun
  | [d1, d2, d3] => { results := [.lit (.bool false)], args := [d1, d2, d3] }
  | _ => none }
def TraceKindsWrongFalsely : Prop := traceKindsRow.holds Tryd.pinned (OpenSpec.ofChange traceKindsWrong)

/-- 'paternosterlaw24.TraceGoes': WHATEVER THE INPUT: true; the input reads as it did. -/
def traceGoesSpec : ChangeSpec := { name := "traceGoes", fn := fun _ => fun
  | [d] => { results := [.lit (.bool true)], args := [d] }
  | _ => none }
def traceGoesRow : OpenClaim := { program := "ytpfmnccocmgfmaadoor", sum := "bc58af78eef975e8e2113785ff844b512ec44362b057fd7f24e68344375ac8ef", func := "paternoster/paternosterlaw24.TraceGoes", spec := "traceGoes", named := ["paternoster/api.ErrKind", "paternoster/api.ErrRange", "paternoster/api.ErrDoor", "paternoster/api.ErrTwice", "paternoster/api.ErrOrder", "paternoster/api.ErrFloor", "paternoster/api.ErrNone", "paternoster/api.ErrEnd", "paternoster/api.ErrShape", "paternoster/api.ErrMany", "paternoster/api.ErrPower", "paternoster/api.ErrWord", "paternoster/api.ErrNumber"], plainKeys := false, apart := false, laid := [("paternoster/api.ErrEnd", laid_paternoster_api_ErrEnd), ("paternoster/api.ErrShape", laid_paternoster_api_ErrShape), ("paternoster/api.ErrRange", laid_paternoster_api_ErrRange), ("paternoster/api.ErrMany", laid_paternoster_api_ErrMany), ("paternoster/api.ErrPower", laid_paternoster_api_ErrPower), ("paternoster/api.ErrNone", laid_paternoster_api_ErrNone), ("paternoster/api.ErrKind", laid_paternoster_api_ErrKind), ("paternoster/api.ErrOrder", laid_paternoster_api_ErrOrder), ("paternoster/api.ErrDoor", laid_paternoster_api_ErrDoor), ("paternoster/api.ErrFloor", laid_paternoster_api_ErrFloor), ("paternoster/api.ErrTwice", laid_paternoster_api_ErrTwice), ("paternoster/api.ErrWord", laid_paternoster_api_ErrWord), ("paternoster/api.ErrNumber", laid_paternoster_api_ErrNumber)] }
def TraceGoesSaid : Prop := traceGoesRow.holds Tryd.pinned (OpenSpec.ofChange traceGoesSpec)

/-- ITS FALSE NEIGHBOUR: 'it returns false'. Refute it at one input. -/
def traceGoesWrong : ChangeSpec := { name := "traceGoes", fn := fun _ => fun
  | [d] => { results := [.lit (.bool false)], args := [d] }
  | _ => none }
def TraceGoesWrongFalsely : Prop := traceGoesRow.holds Tryd.pinned (OpenSpec.ofChange traceGoesWrong)

/-- 'paternosterlaw24.TraceTwice': WHATEVER THE INPUT: true; the input reads as it did. -/
def traceTwiceSpec : ChangeSpec := { name := "traceTwice", fn := fun _ => fun
  | [d1, d2] => { results := [.lit (.bool true)], args := [d1, d2] }
  | _ => none }
def traceTwiceRow : OpenClaim := { program := "ytpfmnccocmgfmaadoor", sum := "bc58af78eef975e8e2113785ff844b512ec44362b057fd7f24e68344375ac8ef", func := "paternoster/paternosterlaw24.TraceTwice", spec := "traceTwice", named := ["paternoster/api.ErrKind", "paternoster/api.ErrRange", "paternoster/api.ErrDoor", "paternoster/api.ErrTwice", "paternoster/api.ErrOrder", "paternoster/api.ErrFloor", "paternoster/api.ErrNone", "paternoster/api.ErrEnd", "paternoster/api.ErrShape", "paternoster/api.ErrMany", "paternoster/api.ErrPower", "paternoster/api.ErrWord", "paternoster/api.ErrNumber"], plainKeys := false, apart := false, laid := [("paternoster/api.ErrEnd", laid_paternoster_api_ErrEnd), ("paternoster/api.ErrShape", laid_paternoster_api_ErrShape), ("paternoster/api.ErrRange", laid_paternoster_api_ErrRange), ("paternoster/api.ErrMany", laid_paternoster_api_ErrMany), ("paternoster/api.ErrPower", laid_paternoster_api_ErrPower), ("paternoster/api.ErrNone", laid_paternoster_api_ErrNone), ("paternoster/api.ErrKind", laid_paternoster_api_ErrKind), ("paternoster/api.ErrOrder", laid_paternoster_api_ErrOrder), ("paternoster/api.ErrDoor", laid_paternoster_api_ErrDoor), ("paternoster/api.ErrFloor", laid_paternoster_api_ErrFloor), ("paternoster/api.ErrTwice", laid_paternoster_api_ErrTwice), ("paternoster/api.ErrWord", laid_paternoster_api_ErrWord), ("paternoster/api.ErrNumber", laid_paternoster_api_ErrNumber)] }
def TraceTwiceSaid : Prop := traceTwiceRow.holds Tryd.pinned (OpenSpec.ofChange traceTwiceSpec)

/-- ITS FALSE NEIGHBOUR: 'it returns false'. Refute it at one input. -/
def traceTwiceWrong : ChangeSpec := { name := "traceTwice", fn := fun _ => fun
  | [d1, d2] => { results := [.lit (.bool false)], args := [d1, d2] }
  | _ => none }
def TraceTwiceWrongFalsely : Prop := traceTwiceRow.holds Tryd.pinned (OpenSpec.ofChange traceTwiceWrong)

/-- 'paternosterlaw24.TraceBoots': WHATEVER THE INPUT: true; the input reads as it did. -/
def traceBootsSpec : ChangeSpec := { name := "traceBoots", fn := fun _ => fun
  | [d1, d2, d3] => { results := [.lit (.bool true)], args := [d1, d2, d3] }
  | _ => none }
def traceBootsRow : OpenClaim := { program := "ytpfmnccocmgfmaadoor", sum := "bc58af78eef975e8e2113785ff844b512ec44362b057fd7f24e68344375ac8ef", func := "paternoster/paternosterlaw24.TraceBoots", spec := "traceBoots", named := ["paternoster/api.ErrKind", "paternoster/api.ErrRange", "paternoster/api.ErrDoor", "paternoster/api.ErrTwice", "paternoster/api.ErrOrder", "paternoster/api.ErrFloor", "paternoster/api.ErrNone", "paternoster/api.ErrEnd", "paternoster/api.ErrShape", "paternoster/api.ErrMany", "paternoster/api.ErrPower", "paternoster/api.ErrWord", "paternoster/api.ErrNumber"], plainKeys := false, apart := false, laid := [("paternoster/api.ErrEnd", laid_paternoster_api_ErrEnd), ("paternoster/api.ErrShape", laid_paternoster_api_ErrShape), ("paternoster/api.ErrRange", laid_paternoster_api_ErrRange), ("paternoster/api.ErrMany", laid_paternoster_api_ErrMany), ("paternoster/api.ErrPower", laid_paternoster_api_ErrPower), ("paternoster/api.ErrNone", laid_paternoster_api_ErrNone), ("paternoster/api.ErrKind", laid_paternoster_api_ErrKind), ("paternoster/api.ErrOrder", laid_paternoster_api_ErrOrder), ("paternoster/api.ErrDoor", laid_paternoster_api_ErrDoor), ("paternoster/api.ErrFloor", laid_paternoster_api_ErrFloor), ("paternoster/api.ErrTwice", laid_paternoster_api_ErrTwice), ("paternoster/api.ErrWord", laid_paternoster_api_ErrWord), ("paternoster/api.ErrNumber", laid_paternoster_api_ErrNumber)] }
def TraceBootsSaid : Prop := traceBootsRow.holds Tryd.pinned (OpenSpec.ofChange traceBootsSpec)

/-- ITS FALSE NEIGHBOUR: 'it returns false'. Refute it at one input. -/
def traceBootsWrong : ChangeSpec := { name := "traceBoots", fn := fun _ => fun
  | [d1, d2, d3] => { results := [.lit (.bool false)], args := [d1, d2, d3] }
  | _ => none }
def TraceBootsWrongFalsely : Prop := traceBootsRow.holds Tryd.pinned (OpenSpec.ofChange traceBootsWrong)

/-- 'paternosterlaw25.QuietSays': WHATEVER THE INPUT: true; the input reads as it did. -/
def quietSaysSpec : ChangeSpec := { name := "quietSays", fn := fun _ => fun
  | [d] => { results := [.lit (.bool true)], args := [d] }
  | _ => none }
def quietSaysRow : OpenClaim := { program := "ytpfmnccocmgfmaadoor", sum := "bc58af78eef975e8e2113785ff844b512ec44362b057fd7f24e68344375ac8ef", func := "paternoster/paternosterlaw25.QuietSays", spec := "quietSays", inPlace := ["sync/atomic.AddInt64"], unfollowed := true, recurses := true, named := ["paternoster/api.ErrRange", "paternoster/api.ErrPower", "paternoster/api.ErrNone", "paternoster/api.ErrOrder"], plainKeys := false, apart := false, laid := [("paternoster/api.ErrRange", laid_paternoster_api_ErrRange), ("paternoster/api.ErrPower", laid_paternoster_api_ErrPower), ("paternoster/api.ErrNone", laid_paternoster_api_ErrNone), ("paternoster/api.ErrOrder", laid_paternoster_api_ErrOrder)] }
def QuietSaysSaid : Prop := quietSaysRow.holds Tryd.pinned (OpenSpec.ofChange quietSaysSpec)

/-- ITS FALSE NEIGHBOUR: 'it returns false'. Refute it at one input. -/
def quietSaysWrong : ChangeSpec := { name := "quietSays", fn := fun _ => fun
  | [d] => { results := [.lit (.bool false)], args := [d] }
  | _ => none }
def QuietSaysWrongFalsely : Prop := quietSaysRow.holds Tryd.pinned (OpenSpec.ofChange quietSaysWrong)

/-- 'paternosterlaw25.QuietGrows': WHATEVER THE INPUT: true; the input reads as it did. -/
def quietGrowsSpec : ChangeSpec := { name := "quietGrows", fn := fun _ => fun
  | [d1, d2] => { results := [.lit (.bool true)], args := [d1, d2] }
  | _ => none }
def quietGrowsRow : OpenClaim := { program := "ytpfmnccocmgfmaadoor", sum := "bc58af78eef975e8e2113785ff844b512ec44362b057fd7f24e68344375ac8ef", func := "paternoster/paternosterlaw25.QuietGrows", spec := "quietGrows", inPlace := ["sync/atomic.AddInt64"], unfollowed := true, recurses := true, named := ["paternoster/api.ErrRange", "paternoster/api.ErrPower", "paternoster/api.ErrNone", "paternoster/api.ErrOrder"], plainKeys := false, apart := false, laid := [("paternoster/api.ErrRange", laid_paternoster_api_ErrRange), ("paternoster/api.ErrPower", laid_paternoster_api_ErrPower), ("paternoster/api.ErrNone", laid_paternoster_api_ErrNone), ("paternoster/api.ErrOrder", laid_paternoster_api_ErrOrder)] }
def QuietGrowsSaid : Prop := quietGrowsRow.holds Tryd.pinned (OpenSpec.ofChange quietGrowsSpec)

/-- ITS FALSE NEIGHBOUR: 'it returns false'. Refute it at one input. -/
def quietGrowsWrong : ChangeSpec := { name := "quietGrows", fn := fun _ => fun
  | [d1, d2] => { results := [.lit (.bool false)], args := [d1, d2] }
  | _ => none }
def QuietGrowsWrongFalsely : Prop := quietGrowsRow.holds Tryd.pinned (OpenSpec.ofChange quietGrowsWrong)

/- THE SECOND FORM. 'bulk': how many values and letters a reading holds, each counted each time it is reached (what is shared counts as often as it is met; a slice's spare places count too). A statement '..UptoSaid' is the law's where the arguments, and the package variables that the reading takes, are together of bulk at most 1048576: NARROWER than '..Said'. Prove '..Said' where nothing that the law and all that it calls make is longer than what came in: it says more and counts as full. Else prove '..UptoSaid'. A law counts once. -/
mutual
def uptoBulk {H : Type} : DataW H → Nat
  | .lit (.string bytes) => bytes.length + 1
  | .lit _ => 1
  | .nil => 1
  | .ptr d => uptoBulk d + 1
  | .slice elems spare => uptoBulkAll elems + uptoBulkAll spare + 1
  | .agg parts => uptoBulkAll parts + 1
  | .iface _ d => uptoBulk d + 1
  | .map entries => uptoBulkEntries entries + 1
  | .held _ => 1
def uptoBulkAll {H : Type} : List (DataW H) → Nat
  | [] => 0
  | d :: r => uptoBulk d + uptoBulkAll r
def uptoBulkEntries {H : Type} : List (Lit × DataW H) → Nat
  | [] => 0
  | x :: r => uptoBulkEntry x + uptoBulkEntries r
def uptoBulkEntry {H : Type} : Lit × DataW H → Nat
  | (.string bytes, d) => bytes.length + uptoBulk d + 1
  | (_, d) => uptoBulk d + 1
 end
def uptoSmall : (H : Type) → List (DataW H) → Bool := fun _ ds => decide (uptoBulkAll ds ≤ 1048576)
def OpenSpec.upto (s : _root_.Go.ChangeSpec) : _root_.Go.OpenSpec := { _root_.Go.OpenSpec.ofChange s with cond := some uptoSmall }

/-- 'paternosterlaw24.TraceKinds', WHERE WHAT IT READS IS OF BULK AT MOST 1048576: true; the input reads as it did. -/
def traceKindsUptoRow : OpenClaim := { program := "ytpfmnccocmgfmaadoor", sum := "bc58af78eef975e8e2113785ff844b512ec44362b057fd7f24e68344375ac8ef", func := "paternoster/paternosterlaw24.TraceKinds", spec := "traceKinds", named := ["paternoster/api.ErrKind", "paternoster/api.ErrRange", "paternoster/api.ErrDoor", "paternoster/api.ErrTwice", "paternoster/api.ErrOrder", "paternoster/api.ErrFloor", "paternoster/api.ErrNone", "paternoster/api.ErrEnd", "paternoster/api.ErrShape", "paternoster/api.ErrMany", "paternoster/api.ErrPower", "paternoster/api.ErrWord", "paternoster/api.ErrNumber"], plainKeys := false, apart := false, laid := [("paternoster/api.ErrEnd", laid_paternoster_api_ErrEnd), ("paternoster/api.ErrShape", laid_paternoster_api_ErrShape), ("paternoster/api.ErrRange", laid_paternoster_api_ErrRange), ("paternoster/api.ErrMany", laid_paternoster_api_ErrMany), ("paternoster/api.ErrPower", laid_paternoster_api_ErrPower), ("paternoster/api.ErrNone", laid_paternoster_api_ErrNone), ("paternoster/api.ErrKind", laid_paternoster_api_ErrKind), ("paternoster/api.ErrOrder", laid_paternoster_api_ErrOrder), ("paternoster/api.ErrDoor", laid_paternoster_api_ErrDoor), ("paternoster/api.ErrFloor", laid_paternoster_api_ErrFloor), ("paternoster/api.ErrTwice", laid_paternoster_api_ErrTwice), ("paternoster/api.ErrWord", laid_paternoster_api_ErrWord), ("paternoster/api.ErrNumber", laid_paternoster_api_ErrNumber)], narrowed := true }
def TraceKindsUptoSaid : Prop := traceKindsUptoRow.holds Tryd.pinned (OpenSpec.upto traceKindsSpec)

/-- 'paternosterlaw24.TraceGoes', WHERE WHAT IT READS IS OF BULK AT MOST 1048576: true; the input reads as it did. -/
def traceGoesUptoRow : OpenClaim := { program := "ytpfmnccocmgfmaadoor", sum := "bc58af78eef975e8e2113785ff844b512ec44362b057fd7f24e68344375ac8ef", func := "paternoster/paternosterlaw24.TraceGoes", spec := "traceGoes", named := ["paternoster/api.ErrKind", "paternoster/api.ErrRange", "paternoster/api.ErrDoor", "paternoster/api.ErrTwice", "paternoster/api.ErrOrder", "paternoster/api.ErrFloor", "paternoster/api.ErrNone", "paternoster/api.ErrEnd", "paternoster/api.ErrShape", "paternoster/api.ErrMany", "paternoster/api.ErrPower", "paternoster/api.ErrWord", "paternoster/api.ErrNumber"], plainKeys := false, apart := false, laid := [("paternoster/api.ErrEnd", laid_paternoster_api_ErrEnd), ("paternoster/api.ErrShape", laid_paternoster_api_ErrShape), ("paternoster/api.ErrRange", laid_paternoster_api_ErrRange), ("paternoster/api.ErrMany", laid_paternoster_api_ErrMany), ("paternoster/api.ErrPower", laid_paternoster_api_ErrPower), ("paternoster/api.ErrNone", laid_paternoster_api_ErrNone), ("paternoster/api.ErrKind", laid_paternoster_api_ErrKind), ("paternoster/api.ErrOrder", laid_paternoster_api_ErrOrder), ("paternoster/api.ErrDoor", laid_paternoster_api_ErrDoor), ("paternoster/api.ErrFloor", laid_paternoster_api_ErrFloor), ("paternoster/api.ErrTwice", laid_paternoster_api_ErrTwice), ("paternoster/api.ErrWord", laid_paternoster_api_ErrWord), ("paternoster/api.ErrNumber", laid_paternoster_api_ErrNumber)], narrowed := true }
def TraceGoesUptoSaid : Prop := traceGoesUptoRow.holds Tryd.pinned (OpenSpec.upto traceGoesSpec)

/-- 'paternosterlaw24.TraceTwice', WHERE WHAT IT READS IS OF BULK AT MOST 1048576: true; the input reads as it did. -/
def traceTwiceUptoRow : OpenClaim := { program := "ytpfmnccocmgfmaadoor", sum := "bc58af78eef975e8e2113785ff844b512ec44362b057fd7f24e68344375ac8ef", func := "paternoster/paternosterlaw24.TraceTwice", spec := "traceTwice", named := ["paternoster/api.ErrKind", "paternoster/api.ErrRange", "paternoster/api.ErrDoor", "paternoster/api.ErrTwice", "paternoster/api.ErrOrder", "paternoster/api.ErrFloor", "paternoster/api.ErrNone", "paternoster/api.ErrEnd", "paternoster/api.ErrShape", "paternoster/api.ErrMany", "paternoster/api.ErrPower", "paternoster/api.ErrWord", "paternoster/api.ErrNumber"], plainKeys := false, apart := false, laid := [("paternoster/api.ErrEnd", laid_paternoster_api_ErrEnd), ("paternoster/api.ErrShape", laid_paternoster_api_ErrShape), ("paternoster/api.ErrRange", laid_paternoster_api_ErrRange), ("paternoster/api.ErrMany", laid_paternoster_api_ErrMany), ("paternoster/api.ErrPower", laid_paternoster_api_ErrPower), ("paternoster/api.ErrNone", laid_paternoster_api_ErrNone), ("paternoster/api.ErrKind", laid_paternoster_api_ErrKind), ("paternoster/api.ErrOrder", laid_paternoster_api_ErrOrder), ("paternoster/api.ErrDoor", laid_paternoster_api_ErrDoor), ("paternoster/api.ErrFloor", laid_paternoster_api_ErrFloor), ("paternoster/api.ErrTwice", laid_paternoster_api_ErrTwice), ("paternoster/api.ErrWord", laid_paternoster_api_ErrWord), ("paternoster/api.ErrNumber", laid_paternoster_api_ErrNumber)], narrowed := true }
def TraceTwiceUptoSaid : Prop := traceTwiceUptoRow.holds Tryd.pinned (OpenSpec.upto traceTwiceSpec)

/-- 'paternosterlaw24.TraceBoots', WHERE WHAT IT READS IS OF BULK AT MOST 1048576: true; the input reads as it did. -/
def traceBootsUptoRow : OpenClaim := { program := "ytpfmnccocmgfmaadoor", sum := "bc58af78eef975e8e2113785ff844b512ec44362b057fd7f24e68344375ac8ef", func := "paternoster/paternosterlaw24.TraceBoots", spec := "traceBoots", named := ["paternoster/api.ErrKind", "paternoster/api.ErrRange", "paternoster/api.ErrDoor", "paternoster/api.ErrTwice", "paternoster/api.ErrOrder", "paternoster/api.ErrFloor", "paternoster/api.ErrNone", "paternoster/api.ErrEnd", "paternoster/api.ErrShape", "paternoster/api.ErrMany", "paternoster/api.ErrPower", "paternoster/api.ErrWord", "paternoster/api.ErrNumber"], plainKeys := false, apart := false, laid := [("paternoster/api.ErrEnd", laid_paternoster_api_ErrEnd), ("paternoster/api.ErrShape", laid_paternoster_api_ErrShape), ("paternoster/api.ErrRange", laid_paternoster_api_ErrRange), ("paternoster/api.ErrMany", laid_paternoster_api_ErrMany), ("paternoster/api.ErrPower", laid_paternoster_api_ErrPower), ("paternoster/api.ErrNone", laid_paternoster_api_ErrNone), ("paternoster/api.ErrKind", laid_paternoster_api_ErrKind), ("paternoster/api.ErrOrder", laid_paternoster_api_ErrOrder), ("paternoster/api.ErrDoor", laid_paternoster_api_ErrDoor), ("paternoster/api.ErrFloor", laid_paternoster_api_ErrFloor), ("paternoster/api.ErrTwice", laid_paternoster_api_ErrTwice), ("paternoster/api.ErrWord", laid_paternoster_api_ErrWord), ("paternoster/api.ErrNumber", laid_paternoster_api_ErrNumber)], narrowed := true }
def TraceBootsUptoSaid : Prop := traceBootsUptoRow.holds Tryd.pinned (OpenSpec.upto traceBootsSpec)

/-- 'paternosterlaw25.QuietSays', WHERE WHAT IT READS IS OF BULK AT MOST 1048576: true; the input reads as it did. -/
def quietSaysUptoRow : OpenClaim := { program := "ytpfmnccocmgfmaadoor", sum := "bc58af78eef975e8e2113785ff844b512ec44362b057fd7f24e68344375ac8ef", func := "paternoster/paternosterlaw25.QuietSays", spec := "quietSays", inPlace := ["sync/atomic.AddInt64"], unfollowed := true, recurses := true, named := ["paternoster/api.ErrRange", "paternoster/api.ErrPower", "paternoster/api.ErrNone", "paternoster/api.ErrOrder"], plainKeys := false, apart := false, laid := [("paternoster/api.ErrRange", laid_paternoster_api_ErrRange), ("paternoster/api.ErrPower", laid_paternoster_api_ErrPower), ("paternoster/api.ErrNone", laid_paternoster_api_ErrNone), ("paternoster/api.ErrOrder", laid_paternoster_api_ErrOrder)], narrowed := true }
def QuietSaysUptoSaid : Prop := quietSaysUptoRow.holds Tryd.pinned (OpenSpec.upto quietSaysSpec)

/-- 'paternosterlaw25.QuietGrows', WHERE WHAT IT READS IS OF BULK AT MOST 1048576: true; the input reads as it did. -/
def quietGrowsUptoRow : OpenClaim := { program := "ytpfmnccocmgfmaadoor", sum := "bc58af78eef975e8e2113785ff844b512ec44362b057fd7f24e68344375ac8ef", func := "paternoster/paternosterlaw25.QuietGrows", spec := "quietGrows", inPlace := ["sync/atomic.AddInt64"], unfollowed := true, recurses := true, named := ["paternoster/api.ErrRange", "paternoster/api.ErrPower", "paternoster/api.ErrNone", "paternoster/api.ErrOrder"], plainKeys := false, apart := false, laid := [("paternoster/api.ErrRange", laid_paternoster_api_ErrRange), ("paternoster/api.ErrPower", laid_paternoster_api_ErrPower), ("paternoster/api.ErrNone", laid_paternoster_api_ErrNone), ("paternoster/api.ErrOrder", laid_paternoster_api_ErrOrder)], narrowed := true }
def QuietGrowsUptoSaid : Prop := quietGrowsUptoRow.holds Tryd.pinned (OpenSpec.upto quietGrowsSpec)

end Rows
end Go.Proofs.YtpfmnccocmgfmaaDoor
