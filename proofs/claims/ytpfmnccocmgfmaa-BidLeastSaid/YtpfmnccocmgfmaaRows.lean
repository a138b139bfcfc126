/-
  No cell of these rows narrows 'for every input' (looked for: loops, veiled, ifaces, maps, wideKeys, modest, calm, conditions, laid).
  DERIVED. THE GIVEN ROWS OF THIS SEAT. 5 by the template 'for every input the law returns true; each argument reads behind the call as it read before'; 0 by the template 'total and deterministic' (their statements: YtpfmnccocmgfmaaTotals.lean).
  GIVEN WITH THE SEED: the statements are not yours to turn. If you find one false, say at which input.
  Laid BY PROGRAM, IN A SANDBOX (cutbox-rows.mjs): the forced cells as the released guide's own fill.sh prints them over the translation 5e7e31d72d5d2098… (all of the seat's roots in one cut). By AI agents, Wed Nov 11 2026. No macro, syntax, notation, axiom, sorry.
-/
import Derived.Test.YtpfmnccocmgfmaaChecked
import GoSem.Claim
import GoSem.ClaimJoined
import GoSem.ClaimMapViews
import Derived.JoinedTies
import Derived.KernelRfl
namespace Go.Proofs.Ytpfmnccocmgfmaa
/- THE CELL 'sum', in the pinned program and in every row, IS THE sha256 OF THE DUMP (.gsa) THAT YtpfmnccocmgfmaaProg.lean LOADS. Nothing in Lean hashes anything: it is a label: what it is worth is what the hold of that sum in a sandbox is worth. -/
noncomputable def Try.pinned : Pinned := { name := "ytpfmnccocmgfmaa", sum := "5e7e31d72d5d20980b27072e8454f4bf5d94d008fbbe1771297448ba2b40aa08", checked := Try.checked }
namespace Rows
def none {H : Type} : Left H := { results := [], args := [] }

/-- 'paternosterlaw18.BidOrder': WHATEVER THE INPUT: true; the input reads as it did. -/
def bidOrderSpec : ChangeSpec := { name := "bidOrder", fn := fun _ => fun
  | [d1, d2, d3] => { results := [.lit (.bool true)], args := [d1, d2, d3] }
  | _ => none }
def bidOrderRow : OpenClaim := { program := "ytpfmnccocmgfmaa", sum := "5e7e31d72d5d20980b27072e8454f4bf5d94d008fbbe1771297448ba2b40aa08", func := "paternoster/paternosterlaw18.BidOrder", spec := "bidOrder", plainKeys := false, apart := false }
def BidOrderSaid : Prop := bidOrderRow.holds Try.pinned (OpenSpec.ofChange bidOrderSpec)

/-- ITS FALSE NEIGHBOUR: 'it returns false'. Refute it at one input. -/
def bidOrderWrong : ChangeSpec := { name := "bidOrder", fn := fun _ => fun
  | [d1, d2, d3] => { results := [.lit (.bool false)], args := [d1, d2, d3] }
  | _ => none }
def BidOrderWrongFalsely : Prop := bidOrderRow.holds Try.pinned (OpenSpec.ofChange bidOrderWrong)

/-- 'paternosterlaw11.CallsGens': WHATEVER THE INPUT: true; the input reads as it did. -/
def callsGensSpec : ChangeSpec := { name := "callsGens", fn := fun _ => fun
  | [d1, d2, d3] => { results := [.lit (.bool true)], args := [d1, d2, d3] }
  | _ => none }
def callsGensRow : OpenClaim := { program := "ytpfmnccocmgfmaa", sum := "5e7e31d72d5d20980b27072e8454f4bf5d94d008fbbe1771297448ba2b40aa08", func := "paternoster/paternosterlaw11.CallsGens", spec := "callsGens", plainKeys := false, apart := false }
def CallsGensSaid : Prop := callsGensRow.holds Try.pinned (OpenSpec.ofChange callsGensSpec)

/-- ITS FALSE NEIGHBOUR: 'it returns false'. Refute it at one input. -/
def callsGensWrong : ChangeSpec := { name := "callsGens", fn := fun _ => fun
  | [d1, d2, d3] => { results := [.lit (.bool false)], args := [d1, d2, d3] }
  | _ => none }
def CallsGensWrongFalsely : Prop := callsGensRow.holds Try.pinned (OpenSpec.ofChange callsGensWrong)

/-- 'paternosterlaw18.BidLeast': WHATEVER THE INPUT: true; the input reads as it did. -/
def bidLeastSpec : ChangeSpec := { name := "bidLeast", fn := fun _ => fun
  | [d1, d2] => { results := [.lit (.bool true)], args := [d1, d2] }
  | _ => none }
def bidLeastRow : OpenClaim := { program := "ytpfmnccocmgfmaa", sum := "5e7e31d72d5d20980b27072e8454f4bf5d94d008fbbe1771297448ba2b40aa08", func := "paternoster/paternosterlaw18.BidLeast", spec := "bidLeast", inPlace := ["slices.overlaps[paternoster/api.Bid]"], unfollowed := true, recurses := true, plainKeys := false, apart := false }
def BidLeastSaid : Prop := bidLeastRow.holds Try.pinned (OpenSpec.ofChange bidLeastSpec)

/-- ITS FALSE NEIGHBOUR: 'it returns false'. Refute it at one input. -/
def bidLeastWrong : ChangeSpec := { name := "bidLeast", fn := fun _ => fun
  | [d1, d2] => { results := [.lit (.bool false)], args := [d1, d2] }
  | _ => none }
def BidLeastWrongFalsely : Prop := bidLeastRow.holds Try.pinned (OpenSpec.ofChange bidLeastWrong)

/-- 'paternosterlaw18.BidSays': WHATEVER THE INPUT: true; the input reads as it did. -/
def bidSaysSpec : ChangeSpec := { name := "bidSays", fn := fun _ => fun
  | [d1, d2, d3, d4] => { results := [.lit (.bool true)], args := [d1, d2, d3, d4] }
  | _ => none }
def bidSaysRow : OpenClaim := { program := "ytpfmnccocmgfmaa", sum := "5e7e31d72d5d20980b27072e8454f4bf5d94d008fbbe1771297448ba2b40aa08", func := "paternoster/paternosterlaw18.BidSays", spec := "bidSays", inPlace := ["slices.overlaps[paternoster/api.Bid]"], unfollowed := true, recurses := true, plainKeys := false, apart := false }
def BidSaysSaid : Prop := bidSaysRow.holds Try.pinned (OpenSpec.ofChange bidSaysSpec)

/-- ITS FALSE NEIGHBOUR: 'it returns false'. Refute it at one input. -/
def bidSaysWrong : ChangeSpec := { name := "bidSays", fn := fun _ => fun
  | [d1, d2, d3, d4] => { results := [.lit (.bool false)], args := [d1, d2, d3, d4] }
  | _ => none }
def BidSaysWrongFalsely : Prop := bidSaysRow.holds Try.pinned (OpenSpec.ofChange bidSaysWrong)

/-- 'paternosterlaw18.BidFull': WHATEVER THE INPUT: true; the input reads as it did. -/
def bidFullSpec : ChangeSpec := { name := "bidFull", fn := fun _ => fun
  | [d1, d2] => { results := [.lit (.bool true)], args := [d1, d2] }
  | _ => none }
def bidFullRow : OpenClaim := { program := "ytpfmnccocmgfmaa", sum := "5e7e31d72d5d20980b27072e8454f4bf5d94d008fbbe1771297448ba2b40aa08", func := "paternoster/paternosterlaw18.BidFull", spec := "bidFull", inPlace := ["slices.overlaps[paternoster/api.Bid]"], unfollowed := true, recurses := true, plainKeys := false, apart := false }
def BidFullSaid : Prop := bidFullRow.holds Try.pinned (OpenSpec.ofChange bidFullSpec)

/-- ITS FALSE NEIGHBOUR: 'it returns false'. Refute it at one input. -/
def bidFullWrong : ChangeSpec := { name := "bidFull", fn := fun _ => fun
  | [d1, d2] => { results := [.lit (.bool false)], args := [d1, d2] }
  | _ => none }
def BidFullWrongFalsely : Prop := bidFullRow.holds Try.pinned (OpenSpec.ofChange bidFullWrong)

/- THE SECOND FORM. 'bulk': how many values and letters a reading holds, each counted each time it is reached (what is shared counts as often as it is met; a slice's spare places count too). A statement '..UptoSaid' is the law's where the arguments, and the package variables that the reading takes, are together of bulk at most 1048576: NARROWER than '..Said'. Prove '..Said' where nothing that the law and all that it calls make is longer than what came in: it says more and counts as full. Else prove '..UptoSaid'. A law counts once. -/
mutual
def uptoBulk {H : Type} : DataW H → Nat
  | .lit (.string bytes) => bytes.length + 1
  | .lit _ => 1
  | .nil => 1
  | .ptr d => uptoBulk d + 1
  | .slice elems spare => uptoBulkAll elems + uptoBulkAll spare + 1
  | .agg parts => uptoBulkAll parts + 1
  | .iface _ d => uptoBulk d + 1
  | .map entries => uptoBulkEntries entries + 1
  | .held _ => 1
def uptoBulkAll {H : Type} : List (DataW H) → Nat
  | [] => 0
  | d :: r => uptoBulk d + uptoBulkAll r
def uptoBulkEntries {H : Type} : List (Lit × DataW H) → Nat
  | [] => 0
  | x :: r => uptoBulkEntry x + uptoBulkEntries r
def uptoBulkEntry {H : Type} : Lit × DataW H → Nat
  | (.string bytes, d) => bytes.length + uptoBulk d + 1
  | (_, d) => uptoBulk d + 1
 end
def uptoSmall : (H : Type) → List (DataW H) → Bool := fun _ ds => decide (uptoBulkAll ds ≤ 1048576)
def OpenSpec.upto (s : _root_.Go.ChangeSpec) : _root_.Go.OpenSpec := { _root_.Go.OpenSpec.ofChange s with cond := some uptoSmall }

/-- 'paternosterlaw18.BidOrder', WHERE WHAT IT READS IS OF BULK AT MOST 1048576: true; the input reads as it did. -/
def bidOrderUptoRow : OpenClaim := { program := "ytpfmnccocmgfmaa", sum := "5e7e31d72d5d20980b27072e8454f4bf5d94d008fbbe1771297448ba2b40aa08", func := "paternoster/paternosterlaw18.BidOrder", spec := "bidOrder", plainKeys := false, apart := false, narrowed := true }
def BidOrderUptoSaid : Prop := bidOrderUptoRow.holds Try.pinned (OpenSpec.upto bidOrderSpec)

/-- 'paternosterlaw11.CallsGens', WHERE WHAT IT READS IS OF BULK AT MOST 1048576: true; the input reads as it did. -/
def callsGensUptoRow : OpenClaim := { program := "ytpfmnccocmgfmaa", sum := "5e7e31d72d5d20980b27072e8454f4bf5d94d008fbbe1771297448ba2b40aa08", func := "paternoster/paternosterlaw11.CallsGens", spec := "callsGens", plainKeys := false, apart := false, narrowed := true }
def CallsGensUptoSaid : Prop := callsGensUptoRow.holds Try.pinned (OpenSpec.upto callsGensSpec)

/-- 'paternosterlaw18.BidLeast', WHERE WHAT IT READS IS OF BULK AT MOST 1048576: true; the input reads as it did. -/
def bidLeastUptoRow : OpenClaim := { program := "ytpfmnccocmgfmaa", sum := "5e7e31d72d5d20980b27072e8454f4bf5d94d008fbbe1771297448ba2b40aa08", func := "paternoster/paternosterlaw18.BidLeast", spec := "bidLeast", inPlace := ["slices.overlaps[paternoster/api.Bid]"], unfollowed := true, recurses := true, plainKeys := false, apart := false, narrowed := true }
def BidLeastUptoSaid : Prop := bidLeastUptoRow.holds Try.pinned (OpenSpec.upto bidLeastSpec)

/-- 'paternosterlaw18.BidSays', WHERE WHAT IT READS IS OF BULK AT MOST 1048576: true; the input reads as it did. -/
def bidSaysUptoRow : OpenClaim := { program := "ytpfmnccocmgfmaa", sum := "5e7e31d72d5d20980b27072e8454f4bf5d94d008fbbe1771297448ba2b40aa08", func := "paternoster/paternosterlaw18.BidSays", spec := "bidSays", inPlace := ["slices.overlaps[paternoster/api.Bid]"], unfollowed := true, recurses := true, plainKeys := false, apart := false, narrowed := true }
def BidSaysUptoSaid : Prop := bidSaysUptoRow.holds Try.pinned (OpenSpec.upto bidSaysSpec)

/-- 'paternosterlaw18.BidFull', WHERE WHAT IT READS IS OF BULK AT MOST 1048576: true; the input reads as it did. -/
def bidFullUptoRow : OpenClaim := { program := "ytpfmnccocmgfmaa", sum := "5e7e31d72d5d20980b27072e8454f4bf5d94d008fbbe1771297448ba2b40aa08", func := "paternoster/paternosterlaw18.BidFull", spec := "bidFull", inPlace := ["slices.overlaps[paternoster/api.Bid]"], unfollowed := true, recurses := true, plainKeys := false, apart := false, narrowed := true }
def BidFullUptoSaid : Prop := bidFullUptoRow.holds Try.pinned (OpenSpec.upto bidFullSpec)

end Rows
end Go.Proofs.Ytpfmnccocmgfmaa
