/-
  No cell of these rows narrows 'for every input' (looked for: loops, veiled, ifaces, maps, wideKeys, modest, calm, conditions, laid).
  DERIVED. THE GIVEN ROWS OF THIS SEAT. 15 by the template 'for every input the law returns true; each argument reads behind the call as it read before'; 0 by the template 'total and deterministic' (their statements: YtkenimmellonjaaTotals.lean).
  GIVEN WITH THE SEED: the statements are not yours to turn. If you find one false, say at which input.
  Laid BY PROGRAM, IN A SANDBOX (cutbox-rows.mjs): the forced cells as the released guide's own fill.sh prints them over the translation ce63c5c4117b7eb2… (all of the seat's roots in one cut). By AI agents, Wed Nov 11 2026. No macro, syntax, notation, axiom, sorry.
-/
import Derived.Test.YtkenimmellonjaaChecked
import GoSem.Claim
import GoSem.ClaimJoined
import GoSem.ClaimMapViews
import Derived.JoinedTies
import Derived.KernelRfl
namespace Go.Proofs.Ytkenimmellonjaa
/- THE CELL 'sum', in the pinned program and in every row, IS THE sha256 OF THE DUMP (.gsa) THAT YtkenimmellonjaaProg.lean LOADS. Nothing in Lean hashes anything: it is a label: what it is worth is what the hold of that sum in a sandbox is worth. -/
noncomputable def Try.pinned : Pinned := { name := "ytkenimmellonjaa", sum := "ce63c5c4117b7eb238576736d1e0ca9b53b3481f46cc23a5c7bf6e0708c01560", checked := Try.checked }
namespace Rows
def none {H : Type} : Left H := { results := [], args := [] }

/-- 'paternosterlaw8.OrderTurns': WHATEVER THE INPUT: true; the input reads as it did. -/
def orderTurnsSpec : ChangeSpec := { name := "orderTurns", fn := fun _ => fun
  | [d1, d2] => { results := [.lit (.bool true)], args := [d1, d2] }
  | _ => none }
def orderTurnsRow : OpenClaim := { program := "ytkenimmellonjaa", sum := "ce63c5c4117b7eb238576736d1e0ca9b53b3481f46cc23a5c7bf6e0708c01560", func := "paternoster/paternosterlaw8.OrderTurns", spec := "orderTurns", recurses := true, plainKeys := false, apart := false }
def OrderTurnsSaid : Prop := orderTurnsRow.holds Try.pinned (OpenSpec.ofChange orderTurnsSpec)

/-- ITS FALSE NEIGHBOUR: 'it returns false'. Refute it at one input. -/
def orderTurnsWrong : ChangeSpec := { name := "orderTurns", fn := fun _ => fun
  | [d1, d2] => { results := [.lit (.bool false)], args := [d1, d2] }
  | _ => none }
def OrderTurnsWrongFalsely : Prop := orderTurnsRow.holds Try.pinned (OpenSpec.ofChange orderTurnsWrong)

/-- 'paternosterlaw8.OrderRing': WHATEVER THE INPUT: true; the input reads as it did. -/
def orderRingSpec : ChangeSpec := { name := "orderRing", fn := fun _ => fun
  | [d1, d2] => { results := [.lit (.bool true)], args := [d1, d2] }
  | _ => none }
def orderRingRow : OpenClaim := { program := "ytkenimmellonjaa", sum := "ce63c5c4117b7eb238576736d1e0ca9b53b3481f46cc23a5c7bf6e0708c01560", func := "paternoster/paternosterlaw8.OrderRing", spec := "orderRing", recurses := true, plainKeys := false, apart := false }
def OrderRingSaid : Prop := orderRingRow.holds Try.pinned (OpenSpec.ofChange orderRingSpec)

/-- ITS FALSE NEIGHBOUR: 'it returns false'. Refute it at one input. -/
def orderRingWrong : ChangeSpec := { name := "orderRing", fn := fun _ => fun
  | [d1, d2] => { results := [.lit (.bool false)], args := [d1, d2] }
  | _ => none }
def OrderRingWrongFalsely : Prop := orderRingRow.holds Try.pinned (OpenSpec.ofChange orderRingWrong)

/-- 'paternosterlaw11.CallsOrder': WHATEVER THE INPUT: true; the input reads as it did. -/
def callsOrderSpec : ChangeSpec := { name := "callsOrder", fn := fun _ => fun
  | [d1, d2] => { results := [.lit (.bool true)], args := [d1, d2] }
  | _ => none }
def callsOrderRow : OpenClaim := { program := "ytkenimmellonjaa", sum := "ce63c5c4117b7eb238576736d1e0ca9b53b3481f46cc23a5c7bf6e0708c01560", func := "paternoster/paternosterlaw11.CallsOrder", spec := "callsOrder", unfollowed := true, recurses := true, plainKeys := false, apart := false }
def CallsOrderSaid : Prop := callsOrderRow.holds Try.pinned (OpenSpec.ofChange callsOrderSpec)

/-- ITS FALSE NEIGHBOUR: 'it returns false'. Refute it at one input. -/
def callsOrderWrong : ChangeSpec := { name := "callsOrder", fn := fun _ => fun
  | [d1, d2] => { results := [.lit (.bool false)], args := [d1, d2] }
  | _ => none }
def CallsOrderWrongFalsely : Prop := callsOrderRow.holds Try.pinned (OpenSpec.ofChange callsOrderWrong)

/-- 'paternosterlaw21.FoundSays': WHATEVER THE INPUT: true; the input reads as it did. -/
def foundSaysSpec : ChangeSpec := { name := "foundSays", fn := fun _ => fun
  | [d] => { results := [.lit (.bool true)], args := [d] }
  | _ => none }
def foundSaysRow : OpenClaim := { program := "ytkenimmellonjaa", sum := "ce63c5c4117b7eb238576736d1e0ca9b53b3481f46cc23a5c7bf6e0708c01560", func := "paternoster/paternosterlaw21.FoundSays", spec := "foundSays", recurses := true, plainKeys := false, apart := false }
def FoundSaysSaid : Prop := foundSaysRow.holds Try.pinned (OpenSpec.ofChange foundSaysSpec)

/-- ITS FALSE NEIGHBOUR: 'it returns false'. Refute it at one input. -/
def foundSaysWrong : ChangeSpec := { name := "foundSays", fn := fun _ => fun
  | [d] => { results := [.lit (.bool false)], args := [d] }
  | _ => none }
def FoundSaysWrongFalsely : Prop := foundSaysRow.holds Try.pinned (OpenSpec.ofChange foundSaysWrong)

/-- 'paternosterlaw21.FoundLeast': WHATEVER THE INPUT: true; the input reads as it did. -/
def foundLeastSpec : ChangeSpec := { name := "foundLeast", fn := fun _ => fun
  | [d1, d2, d3, d4] => { results := [.lit (.bool true)], args := [d1, d2, d3, d4] }
  | _ => none }
def foundLeastRow : OpenClaim := { program := "ytkenimmellonjaa", sum := "ce63c5c4117b7eb238576736d1e0ca9b53b3481f46cc23a5c7bf6e0708c01560", func := "paternoster/paternosterlaw21.FoundLeast", spec := "foundLeast", recurses := true, plainKeys := false, apart := false }
def FoundLeastSaid : Prop := foundLeastRow.holds Try.pinned (OpenSpec.ofChange foundLeastSpec)

/-- ITS FALSE NEIGHBOUR: 'it returns false'. Refute it at one input. -/
def foundLeastWrong : ChangeSpec := { name := "foundLeast", fn := fun _ => fun
  | [d1, d2, d3, d4] => { results := [.lit (.bool false)], args := [d1, d2, d3, d4] }
  | _ => none }
def FoundLeastWrongFalsely : Prop := foundLeastRow.holds Try.pinned (OpenSpec.ofChange foundLeastWrong)

/-- 'paternosterlaw21.FoundWaits': WHATEVER THE INPUT: true; the input reads as it did. -/
def foundWaitsSpec : ChangeSpec := { name := "foundWaits", fn := fun _ => fun
  | [d1, d2, d3, d4] => { results := [.lit (.bool true)], args := [d1, d2, d3, d4] }
  | _ => none }
def foundWaitsRow : OpenClaim := { program := "ytkenimmellonjaa", sum := "ce63c5c4117b7eb238576736d1e0ca9b53b3481f46cc23a5c7bf6e0708c01560", func := "paternoster/paternosterlaw21.FoundWaits", spec := "foundWaits", recurses := true, plainKeys := false, apart := false }
def FoundWaitsSaid : Prop := foundWaitsRow.holds Try.pinned (OpenSpec.ofChange foundWaitsSpec)

/-- ITS FALSE NEIGHBOUR: 'it returns false'. Refute it at one input. -/
def foundWaitsWrong : ChangeSpec := { name := "foundWaits", fn := fun _ => fun
  | [d1, d2, d3, d4] => { results := [.lit (.bool false)], args := [d1, d2, d3, d4] }
  | _ => none }
def FoundWaitsWrongFalsely : Prop := foundWaitsRow.holds Try.pinned (OpenSpec.ofChange foundWaitsWrong)

/-- 'paternosterlaw8.OrderSays': WHATEVER THE INPUT: true; the input reads as it did. -/
def orderSaysSpec : ChangeSpec := { name := "orderSays", fn := fun _ => fun
  | [d1, d2, d3] => { results := [.lit (.bool true)], args := [d1, d2, d3] }
  | _ => none }
def orderSaysRow : OpenClaim := { program := "ytkenimmellonjaa", sum := "ce63c5c4117b7eb238576736d1e0ca9b53b3481f46cc23a5c7bf6e0708c01560", func := "paternoster/paternosterlaw8.OrderSays", spec := "orderSays", recurses := true, plainKeys := false, apart := false }
def OrderSaysSaid : Prop := orderSaysRow.holds Try.pinned (OpenSpec.ofChange orderSaysSpec)

/-- ITS FALSE NEIGHBOUR: 'it returns false'. Refute it at one input. -/
def orderSaysWrong : ChangeSpec := { name := "orderSays", fn := fun _ => fun
  | [d1, d2, d3] => { results := [.lit (.bool false)], args := [d1, d2, d3] }
  | _ => none }
def OrderSaysWrongFalsely : Prop := orderSaysRow.holds Try.pinned (OpenSpec.ofChange orderSaysWrong)

/-- 'paternosterlaw8.OrderSets': WHATEVER THE INPUT: true; the input reads as it did. -/
def orderSetsSpec : ChangeSpec := { name := "orderSets", fn := fun _ => fun
  | [d1, d2] => { results := [.lit (.bool true)], args := [d1, d2] }
  | _ => none }
def orderSetsRow : OpenClaim := { program := "ytkenimmellonjaa", sum := "ce63c5c4117b7eb238576736d1e0ca9b53b3481f46cc23a5c7bf6e0708c01560", func := "paternoster/paternosterlaw8.OrderSets", spec := "orderSets", recurses := true, plainKeys := false, apart := false }
def OrderSetsSaid : Prop := orderSetsRow.holds Try.pinned (OpenSpec.ofChange orderSetsSpec)

/-- ITS FALSE NEIGHBOUR: 'it returns false'. Refute it at one input. -/
def orderSetsWrong : ChangeSpec := { name := "orderSets", fn := fun _ => fun
  | [d1, d2] => { results := [.lit (.bool false)], args := [d1, d2] }
  | _ => none }
def OrderSetsWrongFalsely : Prop := orderSetsRow.holds Try.pinned (OpenSpec.ofChange orderSetsWrong)

/-- 'paternosterlaw11.CallsKeep': WHATEVER THE INPUT: true; the input reads as it did. -/
def callsKeepSpec : ChangeSpec := { name := "callsKeep", fn := fun _ => fun
  | [d1, d2] => { results := [.lit (.bool true)], args := [d1, d2] }
  | _ => none }
def callsKeepRow : OpenClaim := { program := "ytkenimmellonjaa", sum := "ce63c5c4117b7eb238576736d1e0ca9b53b3481f46cc23a5c7bf6e0708c01560", func := "paternoster/paternosterlaw11.CallsKeep", spec := "callsKeep", unfollowed := true, recurses := true, plainKeys := false, apart := false }
def CallsKeepSaid : Prop := callsKeepRow.holds Try.pinned (OpenSpec.ofChange callsKeepSpec)

/-- ITS FALSE NEIGHBOUR: 'it returns false'. Refute it at one input. -/
def callsKeepWrong : ChangeSpec := { name := "callsKeep", fn := fun _ => fun
  | [d1, d2] => { results := [.lit (.bool false)], args := [d1, d2] }
  | _ => none }
def CallsKeepWrongFalsely : Prop := callsKeepRow.holds Try.pinned (OpenSpec.ofChange callsKeepWrong)

/-- 'paternosterlaw19.LedgerMine': WHATEVER THE INPUT: true; the input reads as it did. -/
def ledgerMineSpec : ChangeSpec := { name := "ledgerMine", fn := fun _ => fun
  | [d] => { results := [.lit (.bool true)], args := [d] }
  | _ => none }
def ledgerMineRow : OpenClaim := { program := "ytkenimmellonjaa", sum := "ce63c5c4117b7eb238576736d1e0ca9b53b3481f46cc23a5c7bf6e0708c01560", func := "paternoster/paternosterlaw19.LedgerMine", spec := "ledgerMine", unfollowed := true, recurses := true, plainKeys := false, apart := false }
def LedgerMineSaid : Prop := ledgerMineRow.holds Try.pinned (OpenSpec.ofChange ledgerMineSpec)

/-- ITS FALSE NEIGHBOUR: 'it returns false'. Refute it at one input. -/
def ledgerMineWrong : ChangeSpec := { name := "ledgerMine", fn := fun _ => fun
  | [d] => { results := [.lit (.bool false)], args := [d] }
  | _ => none }
def LedgerMineWrongFalsely : Prop := ledgerMineRow.holds Try.pinned (OpenSpec.ofChange ledgerMineWrong)

/-- 'paternosterlaw11.CallsPlay': WHATEVER THE INPUT: true; the input reads as it did. -/
def callsPlaySpec : ChangeSpec := { name := "callsPlay", fn := fun _ => fun
  | [d1, d2, d3] => { results := [.lit (.bool true)], args := [d1, d2, d3] }
  | _ => none }
def callsPlayRow : OpenClaim := { program := "ytkenimmellonjaa", sum := "ce63c5c4117b7eb238576736d1e0ca9b53b3481f46cc23a5c7bf6e0708c01560", func := "paternoster/paternosterlaw11.CallsPlay", spec := "callsPlay", inPlace := ["maps.clone"], unfollowed := true, recurses := true, plainKeys := false, apart := false }
def CallsPlaySaid : Prop := callsPlayRow.holds Try.pinned (OpenSpec.ofChange callsPlaySpec)

/-- ITS FALSE NEIGHBOUR: 'it returns false'. Refute it at one input. -/
def callsPlayWrong : ChangeSpec := { name := "callsPlay", fn := fun _ => fun
  | [d1, d2, d3] => { results := [.lit (.bool false)], args := [d1, d2, d3] }
  | _ => none }
def CallsPlayWrongFalsely : Prop := callsPlayRow.holds Try.pinned (OpenSpec.ofChange callsPlayWrong)

/-- 'paternosterlaw19.LedgerWants': WHATEVER THE INPUT: true; the input reads as it did. -/
def ledgerWantsSpec : ChangeSpec := { name := "ledgerWants", fn := fun _ => fun
  | [d1, d2] => { results := [.lit (.bool true)], args := [d1, d2] }
  | _ => none }
def ledgerWantsRow : OpenClaim := { program := "ytkenimmellonjaa", sum := "ce63c5c4117b7eb238576736d1e0ca9b53b3481f46cc23a5c7bf6e0708c01560", func := "paternoster/paternosterlaw19.LedgerWants", spec := "ledgerWants", inPlace := ["slices.overlaps[paternoster/api.Bid]"], unfollowed := true, recurses := true, plainKeys := false, apart := false }
def LedgerWantsSaid : Prop := ledgerWantsRow.holds Try.pinned (OpenSpec.ofChange ledgerWantsSpec)

/-- ITS FALSE NEIGHBOUR: 'it returns false'. Refute it at one input. -/
def ledgerWantsWrong : ChangeSpec := { name := "ledgerWants", fn := fun _ => fun
  | [d1, d2] => { results := [.lit (.bool false)], args := [d1, d2] }
  | _ => none }
def LedgerWantsWrongFalsely : Prop := ledgerWantsRow.holds Try.pinned (OpenSpec.ofChange ledgerWantsWrong)

/-- 'paternosterlaw19.LedgerPurges': WHATEVER THE INPUT: true; the input reads as it did. -/
def ledgerPurgesSpec : ChangeSpec := { name := "ledgerPurges", fn := fun _ => fun
  | [d1, d2] => { results := [.lit (.bool true)], args := [d1, d2] }
  | _ => none }
def ledgerPurgesRow : OpenClaim := { program := "ytkenimmellonjaa", sum := "ce63c5c4117b7eb238576736d1e0ca9b53b3481f46cc23a5c7bf6e0708c01560", func := "paternoster/paternosterlaw19.LedgerPurges", spec := "ledgerPurges", inPlace := ["slices.overlaps[paternoster/api.Entry]"], unfollowed := true, recurses := true, plainKeys := false, apart := false }
def LedgerPurgesSaid : Prop := ledgerPurgesRow.holds Try.pinned (OpenSpec.ofChange ledgerPurgesSpec)

/-- ITS FALSE NEIGHBOUR: 'it returns false'. Refute it at one input. -/
def ledgerPurgesWrong : ChangeSpec := { name := "ledgerPurges", fn := fun _ => fun
  | [d1, d2] => { results := [.lit (.bool false)], args := [d1, d2] }
  | _ => none }
def LedgerPurgesWrongFalsely : Prop := ledgerPurgesRow.holds Try.pinned (OpenSpec.ofChange ledgerPurgesWrong)

/-- 'paternosterlaw19.LedgerFull': WHATEVER THE INPUT: true; the input reads as it did. -/
def ledgerFullSpec : ChangeSpec := { name := "ledgerFull", fn := fun _ => fun
  | [d1, d2] => { results := [.lit (.bool true)], args := [d1, d2] }
  | _ => none }
def ledgerFullRow : OpenClaim := { program := "ytkenimmellonjaa", sum := "ce63c5c4117b7eb238576736d1e0ca9b53b3481f46cc23a5c7bf6e0708c01560", func := "paternoster/paternosterlaw19.LedgerFull", spec := "ledgerFull", inPlace := ["slices.overlaps[paternoster/api.Entry]"], unfollowed := true, recurses := true, plainKeys := false, apart := false }
def LedgerFullSaid : Prop := ledgerFullRow.holds Try.pinned (OpenSpec.ofChange ledgerFullSpec)

/-- ITS FALSE NEIGHBOUR: 'it returns false'. Refute it at one input. -/
def ledgerFullWrong : ChangeSpec := { name := "ledgerFull", fn := fun _ => fun
  | [d1, d2] => { results := [.lit (.bool false)], args := [d1, d2] }
  | _ => none }
def LedgerFullWrongFalsely : Prop := ledgerFullRow.holds Try.pinned (OpenSpec.ofChange ledgerFullWrong)

/-- 'paternosterlaw19.LedgerOnce': WHATEVER THE INPUT: true; the input reads as it did. -/
def ledgerOnceSpec : ChangeSpec := { name := "ledgerOnce", fn := fun _ => fun
  | [d1, d2, d3, d4] => { results := [.lit (.bool true)], args := [d1, d2, d3, d4] }
  | _ => none }
def ledgerOnceRow : OpenClaim := { program := "ytkenimmellonjaa", sum := "ce63c5c4117b7eb238576736d1e0ca9b53b3481f46cc23a5c7bf6e0708c01560", func := "paternoster/paternosterlaw19.LedgerOnce", spec := "ledgerOnce", inPlace := ["slices.overlaps[paternoster/api.Entry]", "slices.overlaps[paternoster/api.Bid]"], unfollowed := true, recurses := true, plainKeys := false, apart := false }
def LedgerOnceSaid : Prop := ledgerOnceRow.holds Try.pinned (OpenSpec.ofChange ledgerOnceSpec)

/-- ITS FALSE NEIGHBOUR: 'it returns false'. Refute it at one input. -/
def ledgerOnceWrong : ChangeSpec := { name := "ledgerOnce", fn := fun _ => fun
  | [d1, d2, d3, d4] => { results := [.lit (.bool false)], args := [d1, d2, d3, d4] }
  | _ => none }
def LedgerOnceWrongFalsely : Prop := ledgerOnceRow.holds Try.pinned (OpenSpec.ofChange ledgerOnceWrong)

/- THE SECOND FORM. 'bulk': how many values and letters a reading holds, each counted each time it is reached (what is shared counts as often as it is met; a slice's spare places count too). A statement '..UptoSaid' is the law's where the arguments, and the package variables that the reading takes, are together of bulk at most 1048576: NARROWER than '..Said'. Prove '..Said' where nothing that the law and all that it calls make is longer than what came in: it says more and counts as full. Else prove '..UptoSaid'. A law counts once. -/
mutual
def uptoBulk {H : Type} : DataW H → Nat
  | .lit (.string bytes) => bytes.length + 1
  | .lit _ => 1
  | .nil => 1
  | .ptr d => uptoBulk d + 1
  | .slice elems spare => uptoBulkAll elems + uptoBulkAll spare + 1
  | .agg parts => uptoBulkAll parts + 1
  | .iface _ d => uptoBulk d + 1
  | .map entries => uptoBulkEntries entries + 1
  | .held _ => 1
def uptoBulkAll {H : Type} : List (DataW H) → Nat
  | [] => 0
  | d :: r => uptoBulk d + uptoBulkAll r
def uptoBulkEntries {H : Type} : List (Lit × DataW H) → Nat
  | [] => 0
  | x :: r => uptoBulkEntry x + uptoBulkEntries r
def uptoBulkEntry {H : Type} : Lit × DataW H → Nat
  | (.string bytes, d) => bytes.length + uptoBulk d + 1
  | (_, d) => uptoBulk d + 1
 end
def uptoSmall : (H : Type) → List (DataW H) → Bool := fun _ ds => decide (uptoBulkAll ds ≤ 1048576)
def OpenSpec.upto (s : _root_.Go.ChangeSpec) : _root_.Go.OpenSpec := { _root_.Go.OpenSpec.ofChange s with cond := some uptoSmall }

/-- 'paternosterlaw8.OrderTurns', WHERE WHAT IT READS IS OF BULK AT MOST 1048576: true; the input reads as it did. -/
def orderTurnsUptoRow : OpenClaim := { program := "ytkenimmellonjaa", sum := "ce63c5c4117b7eb238576736d1e0ca9b53b3481f46cc23a5c7bf6e0708c01560", func := "paternoster/paternosterlaw8.OrderTurns", spec := "orderTurns", recurses := true, plainKeys := false, apart := false, narrowed := true }
def OrderTurnsUptoSaid : Prop := orderTurnsUptoRow.holds Try.pinned (OpenSpec.upto orderTurnsSpec)

/-- 'paternosterlaw8.OrderRing', WHERE WHAT IT READS IS OF BULK AT MOST 1048576: true; the input reads as it did. -/
def orderRingUptoRow : OpenClaim := { program := "ytkenimmellonjaa", sum := "ce63c5c4117b7eb238576736d1e0ca9b53b3481f46cc23a5c7bf6e0708c01560", func := "paternoster/paternosterlaw8.OrderRing", spec := "orderRing", recurses := true, plainKeys := false, apart := false, narrowed := true }
def OrderRingUptoSaid : Prop := orderRingUptoRow.holds Try.pinned (OpenSpec.upto orderRingSpec)

/-- 'paternosterlaw11.CallsOrder', WHERE WHAT IT READS IS OF BULK AT MOST 1048576: true; the input reads as it did. -/
def callsOrderUptoRow : OpenClaim := { program := "ytkenimmellonjaa", sum := "ce63c5c4117b7eb238576736d1e0ca9b53b3481f46cc23a5c7bf6e0708c01560", func := "paternoster/paternosterlaw11.CallsOrder", spec := "callsOrder", unfollowed := true, recurses := true, plainKeys := false, apart := false, narrowed := true }
def CallsOrderUptoSaid : Prop := callsOrderUptoRow.holds Try.pinned (OpenSpec.upto callsOrderSpec)

/-- 'paternosterlaw21.FoundSays', WHERE WHAT IT READS IS OF BULK AT MOST 1048576: true; the input reads as it did. -/
def foundSaysUptoRow : OpenClaim := { program := "ytkenimmellonjaa", sum := "ce63c5c4117b7eb238576736d1e0ca9b53b3481f46cc23a5c7bf6e0708c01560", func := "paternoster/paternosterlaw21.FoundSays", spec := "foundSays", recurses := true, plainKeys := false, apart := false, narrowed := true }
def FoundSaysUptoSaid : Prop := foundSaysUptoRow.holds Try.pinned (OpenSpec.upto foundSaysSpec)

/-- 'paternosterlaw21.FoundLeast', WHERE WHAT IT READS IS OF BULK AT MOST 1048576: true; the input reads as it did. -/
def foundLeastUptoRow : OpenClaim := { program := "ytkenimmellonjaa", sum := "ce63c5c4117b7eb238576736d1e0ca9b53b3481f46cc23a5c7bf6e0708c01560", func := "paternoster/paternosterlaw21.FoundLeast", spec := "foundLeast", recurses := true, plainKeys := false, apart := false, narrowed := true }
def FoundLeastUptoSaid : Prop := foundLeastUptoRow.holds Try.pinned (OpenSpec.upto foundLeastSpec)

/-- 'paternosterlaw21.FoundWaits', WHERE WHAT IT READS IS OF BULK AT MOST 1048576: true; the input reads as it did. -/
def foundWaitsUptoRow : OpenClaim := { program := "ytkenimmellonjaa", sum := "ce63c5c4117b7eb238576736d1e0ca9b53b3481f46cc23a5c7bf6e0708c01560", func := "paternoster/paternosterlaw21.FoundWaits", spec := "foundWaits", recurses := true, plainKeys := false, apart := false, narrowed := true }
def FoundWaitsUptoSaid : Prop := foundWaitsUptoRow.holds Try.pinned (OpenSpec.upto foundWaitsSpec)

/-- 'paternosterlaw8.OrderSays', WHERE WHAT IT READS IS OF BULK AT MOST 1048576: true; the input reads as it did. -/
def orderSaysUptoRow : OpenClaim := { program := "ytkenimmellonjaa", sum := "ce63c5c4117b7eb238576736d1e0ca9b53b3481f46cc23a5c7bf6e0708c01560", func := "paternoster/paternosterlaw8.OrderSays", spec := "orderSays", recurses := true, plainKeys := false, apart := false, narrowed := true }
def OrderSaysUptoSaid : Prop := orderSaysUptoRow.holds Try.pinned (OpenSpec.upto orderSaysSpec)

/-- 'paternosterlaw8.OrderSets', WHERE WHAT IT READS IS OF BULK AT MOST 1048576: true; the input reads as it did. -/
def orderSetsUptoRow : OpenClaim := { program := "ytkenimmellonjaa", sum := "ce63c5c4117b7eb238576736d1e0ca9b53b3481f46cc23a5c7bf6e0708c01560", func := "paternoster/paternosterlaw8.OrderSets", spec := "orderSets", recurses := true, plainKeys := false, apart := false, narrowed := true }
def OrderSetsUptoSaid : Prop := orderSetsUptoRow.holds Try.pinned (OpenSpec.upto orderSetsSpec)

/-- 'paternosterlaw11.CallsKeep', WHERE WHAT IT READS IS OF BULK AT MOST 1048576: true; the input reads as it did. -/
def callsKeepUptoRow : OpenClaim := { program := "ytkenimmellonjaa", sum := "ce63c5c4117b7eb238576736d1e0ca9b53b3481f46cc23a5c7bf6e0708c01560", func := "paternoster/paternosterlaw11.CallsKeep", spec := "callsKeep", unfollowed := true, recurses := true, plainKeys := false, apart := false, narrowed := true }
def CallsKeepUptoSaid : Prop := callsKeepUptoRow.holds Try.pinned (OpenSpec.upto callsKeepSpec)

/-- 'paternosterlaw19.LedgerMine', WHERE WHAT IT READS IS OF BULK AT MOST 1048576: true; the input reads as it did. -/
def ledgerMineUptoRow : OpenClaim := { program := "ytkenimmellonjaa", sum := "ce63c5c4117b7eb238576736d1e0ca9b53b3481f46cc23a5c7bf6e0708c01560", func := "paternoster/paternosterlaw19.LedgerMine", spec := "ledgerMine", unfollowed := true, recurses := true, plainKeys := false, apart := false, narrowed := true }
def LedgerMineUptoSaid : Prop := ledgerMineUptoRow.holds Try.pinned (OpenSpec.upto ledgerMineSpec)

/-- 'paternosterlaw11.CallsPlay', WHERE WHAT IT READS IS OF BULK AT MOST 1048576: true; the input reads as it did. -/
def callsPlayUptoRow : OpenClaim := { program := "ytkenimmellonjaa", sum := "ce63c5c4117b7eb238576736d1e0ca9b53b3481f46cc23a5c7bf6e0708c01560", func := "paternoster/paternosterlaw11.CallsPlay", spec := "callsPlay", inPlace := ["maps.clone"], unfollowed := true, recurses := true, plainKeys := false, apart := false, narrowed := true }
def CallsPlayUptoSaid : Prop := callsPlayUptoRow.holds Try.pinned (OpenSpec.upto callsPlaySpec)

/-- 'paternosterlaw19.LedgerWants', WHERE WHAT IT READS IS OF BULK AT MOST 1048576: true; the input reads as it did. -/
def ledgerWantsUptoRow : OpenClaim := { program := "ytkenimmellonjaa", sum := "ce63c5c4117b7eb238576736d1e0ca9b53b3481f46cc23a5c7bf6e0708c01560", func := "paternoster/paternosterlaw19.LedgerWants", spec := "ledgerWants", inPlace := ["slices.overlaps[paternoster/api.Bid]"], unfollowed := true, recurses := true, plainKeys := false, apart := false, narrowed := true }
def LedgerWantsUptoSaid : Prop := ledgerWantsUptoRow.holds Try.pinned (OpenSpec.upto ledgerWantsSpec)

/-- 'paternosterlaw19.LedgerPurges', WHERE WHAT IT READS IS OF BULK AT MOST 1048576: true; the input reads as it did. -/
def ledgerPurgesUptoRow : OpenClaim := { program := "ytkenimmellonjaa", sum := "ce63c5c4117b7eb238576736d1e0ca9b53b3481f46cc23a5c7bf6e0708c01560", func := "paternoster/paternosterlaw19.LedgerPurges", spec := "ledgerPurges", inPlace := ["slices.overlaps[paternoster/api.Entry]"], unfollowed := true, recurses := true, plainKeys := false, apart := false, narrowed := true }
def LedgerPurgesUptoSaid : Prop := ledgerPurgesUptoRow.holds Try.pinned (OpenSpec.upto ledgerPurgesSpec)

/-- 'paternosterlaw19.LedgerFull', WHERE WHAT IT READS IS OF BULK AT MOST 1048576: true; the input reads as it did. -/
def ledgerFullUptoRow : OpenClaim := { program := "ytkenimmellonjaa", sum := "ce63c5c4117b7eb238576736d1e0ca9b53b3481f46cc23a5c7bf6e0708c01560", func := "paternoster/paternosterlaw19.LedgerFull", spec := "ledgerFull", inPlace := ["slices.overlaps[paternoster/api.Entry]"], unfollowed := true, recurses := true, plainKeys := false, apart := false, narrowed := true }
def LedgerFullUptoSaid : Prop := ledgerFullUptoRow.holds Try.pinned (OpenSpec.upto ledgerFullSpec)

/-- 'paternosterlaw19.LedgerOnce', WHERE WHAT IT READS IS OF BULK AT MOST 1048576: true; the input reads as it did. -/
def ledgerOnceUptoRow : OpenClaim := { program := "ytkenimmellonjaa", sum := "ce63c5c4117b7eb238576736d1e0ca9b53b3481f46cc23a5c7bf6e0708c01560", func := "paternoster/paternosterlaw19.LedgerOnce", spec := "ledgerOnce", inPlace := ["slices.overlaps[paternoster/api.Entry]", "slices.overlaps[paternoster/api.Bid]"], unfollowed := true, recurses := true, plainKeys := false, apart := false, narrowed := true }
def LedgerOnceUptoSaid : Prop := ledgerOnceUptoRow.holds Try.pinned (OpenSpec.upto ledgerOnceSpec)

end Rows
end Go.Proofs.Ytkenimmellonjaa
