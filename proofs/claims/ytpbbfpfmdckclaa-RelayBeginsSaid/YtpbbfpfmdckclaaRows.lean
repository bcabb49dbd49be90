/-
  No cell of these rows narrows 'for every input' (looked for: loops, veiled, ifaces, maps, wideKeys, modest, calm, conditions, laid).
  DERIVED. THE GIVEN ROWS OF THIS SEAT. 7 by the template 'for every input the law returns true; each argument reads behind the call as it read before'; 0 by the template 'total and deterministic' (their statements: YtpbbfpfmdckclaaTotals.lean).
  GIVEN WITH THE SEED: the statements are not yours to turn. If you find one false, say at which input.
  Laid BY PROGRAM, IN A SANDBOX (cutbox-rows.mjs): the forced cells as the released guide's own fill.sh prints them over the translation 8bfbf93ec851aab6… (all of the seat's roots in one cut). By AI agents, Wed Nov 11 2026. No macro, syntax, notation, axiom, sorry.
-/
import Derived.Test.YtpbbfpfmdckclaaChecked
import GoSem.Claim
import GoSem.ClaimJoined
import GoSem.ClaimMapViews
import Derived.JoinedTies
import Derived.KernelRfl
namespace Go.Proofs.Ytpbbfpfmdckclaa
/- THE CELL 'sum', in the pinned program and in every row, IS THE sha256 OF THE DUMP (.gsa) THAT YtpbbfpfmdckclaaProg.lean LOADS. Nothing in Lean hashes anything: it is a label: what it is worth is what the hold of that sum in a sandbox is worth. -/
noncomputable def Try.pinned : Pinned := { name := "ytpbbfpfmdckclaa", sum := "8bfbf93ec851aab64d28d18b8767e73e6066ca143e0f6df69f3b12ad16bb7fa7", checked := Try.checked }
namespace Rows
def none {H : Type} : Left H := { results := [], args := [] }

/-- 'lightclientlaw40.RelayWalks': WHATEVER THE INPUT: true; the input reads as it did. -/
def relayWalksSpec : ChangeSpec := { name := "relayWalks", fn := fun _ => fun
  | [d1, d2, d3, d4] => { results := [.lit (.bool true)], args := [d1, d2, d3, d4] }
  | _ => none }
def relayWalksRow : OpenClaim := { program := "ytpbbfpfmdckclaa", sum := "8bfbf93ec851aab64d28d18b8767e73e6066ca143e0f6df69f3b12ad16bb7fa7", func := "lightclient/lightclientlaw40.RelayWalks", spec := "relayWalks", plainKeys := false, apart := false }
def RelayWalksSaid : Prop := relayWalksRow.holds Try.pinned (OpenSpec.ofChange relayWalksSpec)

/-- ITS FALSE NEIGHBOUR: 'it returns false'. Refute it at one input. -/
def relayWalksWrong : ChangeSpec := { name := "relayWalks", fn := fun _ => fun
  | [d1, d2, d3, d4] => { results := [.lit (.bool false)], args := [d1, d2, d3, d4] }
  | _ => none }
def RelayWalksWrongFalsely : Prop := relayWalksRow.holds Try.pinned (OpenSpec.ofChange relayWalksWrong)

/-- 'lightclientlaw40.RelayHides': WHATEVER THE INPUT: true; the input reads as it did. -/
def relayHidesSpec : ChangeSpec := { name := "relayHides", fn := fun _ => fun
  | [d1, d2] => { results := [.lit (.bool true)], args := [d1, d2] }
  | _ => none }
def relayHidesRow : OpenClaim := { program := "ytpbbfpfmdckclaa", sum := "8bfbf93ec851aab64d28d18b8767e73e6066ca143e0f6df69f3b12ad16bb7fa7", func := "lightclient/lightclientlaw40.RelayHides", spec := "relayHides", plainKeys := false, apart := false }
def RelayHidesSaid : Prop := relayHidesRow.holds Try.pinned (OpenSpec.ofChange relayHidesSpec)

/-- ITS FALSE NEIGHBOUR: 'it returns false'. Refute it at one input. -/
def relayHidesWrong : ChangeSpec := { name := "relayHides", fn := fun _ => fun
  | [d1, d2] => { results := [.lit (.bool false)], args := [d1, d2] }
  | _ => none }
def RelayHidesWrongFalsely : Prop := relayHidesRow.holds Try.pinned (OpenSpec.ofChange relayHidesWrong)

/-- 'lightclientlaw40.RelayCounts': WHATEVER THE INPUT: true; the input reads as it did. -/
def relayCountsSpec : ChangeSpec := { name := "relayCounts", fn := fun _ => fun
  | [d1, d2, d3] => { results := [.lit (.bool true)], args := [d1, d2, d3] }
  | _ => none }
def relayCountsRow : OpenClaim := { program := "ytpbbfpfmdckclaa", sum := "8bfbf93ec851aab64d28d18b8767e73e6066ca143e0f6df69f3b12ad16bb7fa7", func := "lightclient/lightclientlaw40.RelayCounts", spec := "relayCounts", plainKeys := false, apart := false }
def RelayCountsSaid : Prop := relayCountsRow.holds Try.pinned (OpenSpec.ofChange relayCountsSpec)

/-- ITS FALSE NEIGHBOUR: 'it returns false'. Refute it at one input. -/
def relayCountsWrong : ChangeSpec := { name := "relayCounts", fn := fun _ => fun
  | [d1, d2, d3] => { results := [.lit (.bool false)], args := [d1, d2, d3] }
  | _ => none }
def RelayCountsWrongFalsely : Prop := relayCountsRow.holds Try.pinned (OpenSpec.ofChange relayCountsWrong)

/-- 'lightclientlaw40.RelayBegins': WHATEVER THE INPUT: true; the input reads as it did. -/
def relayBeginsSpec : ChangeSpec := { name := "relayBegins", fn := fun _ => fun
  | [d1, d2, d3, d4, d5, d6, d7, d8, d9] => { results := [.lit (.bool true)], args := [d1, d2, d3, d4, d5, d6, d7, d8, d9] }
  | _ => none }
def relayBeginsRow : OpenClaim := { program := "ytpbbfpfmdckclaa", sum := "8bfbf93ec851aab64d28d18b8767e73e6066ca143e0f6df69f3b12ad16bb7fa7", func := "lightclient/lightclientlaw40.RelayBegins", spec := "relayBegins", unfollowed := true, recurses := true, plainKeys := false, apart := false }
def RelayBeginsSaid : Prop := relayBeginsRow.holds Try.pinned (OpenSpec.ofChange relayBeginsSpec)

/-- ITS FALSE NEIGHBOUR: 'it returns false'. Refute it at one input. -/
def relayBeginsWrong : ChangeSpec := { name := "relayBegins", fn := fun _ => fun
  | [d1, d2, d3, d4, d5, d6, d7, d8, d9] => { results := [.lit (.bool false)], args := [d1, d2, d3, d4, d5, d6, d7, d8, d9] }
  | _ => none }
def RelayBeginsWrongFalsely : Prop := relayBeginsRow.holds Try.pinned (OpenSpec.ofChange relayBeginsWrong)

/-- 'lightclientlaw40.RelayHears': WHATEVER THE INPUT: true; the input reads as it did. -/
def relayHearsSpec : ChangeSpec := { name := "relayHears", fn := fun _ => fun
  | [d1, d2, d3, d4, d5, d6, d7] => { results := [.lit (.bool true)], args := [d1, d2, d3, d4, d5, d6, d7] }
  | _ => none }
def relayHearsRow : OpenClaim := { program := "ytpbbfpfmdckclaa", sum := "8bfbf93ec851aab64d28d18b8767e73e6066ca143e0f6df69f3b12ad16bb7fa7", func := "lightclient/lightclientlaw40.RelayHears", spec := "relayHears", unfollowed := true, recurses := true, plainKeys := false, apart := false }
def RelayHearsSaid : Prop := relayHearsRow.holds Try.pinned (OpenSpec.ofChange relayHearsSpec)

/-- ITS FALSE NEIGHBOUR: 'it returns false'. Refute it at one input. -/
def relayHearsWrong : ChangeSpec := { name := "relayHears", fn := fun _ => fun
  | [d1, d2, d3, d4, d5, d6, d7] => { results := [.lit (.bool false)], args := [d1, d2, d3, d4, d5, d6, d7] }
  | _ => none }
def RelayHearsWrongFalsely : Prop := relayHearsRow.holds Try.pinned (OpenSpec.ofChange relayHearsWrong)

/-- 'lightclientlaw40.RelayFluffs': WHATEVER THE INPUT: true; the input reads as it did. -/
def relayFluffsSpec : ChangeSpec := { name := "relayFluffs", fn := fun _ => fun
  | [d1, d2, d3, d4, d5] => { results := [.lit (.bool true)], args := [d1, d2, d3, d4, d5] }
  | _ => none }
def relayFluffsRow : OpenClaim := { program := "ytpbbfpfmdckclaa", sum := "8bfbf93ec851aab64d28d18b8767e73e6066ca143e0f6df69f3b12ad16bb7fa7", func := "lightclient/lightclientlaw40.RelayFluffs", spec := "relayFluffs", unfollowed := true, recurses := true, plainKeys := false, apart := false }
def RelayFluffsSaid : Prop := relayFluffsRow.holds Try.pinned (OpenSpec.ofChange relayFluffsSpec)

/-- ITS FALSE NEIGHBOUR: 'it returns false'. Refute it at one input. -/
def relayFluffsWrong : ChangeSpec := { name := "relayFluffs", fn := fun _ => fun
  | [d1, d2, d3, d4, d5] => { results := [.lit (.bool false)], args := [d1, d2, d3, d4, d5] }
  | _ => none }
def RelayFluffsWrongFalsely : Prop := relayFluffsRow.holds Try.pinned (OpenSpec.ofChange relayFluffsWrong)

/-- 'lightclientlaw40.RelayEnds': WHATEVER THE INPUT: true; the input reads as it did. -/
def relayEndsSpec : ChangeSpec := { name := "relayEnds", fn := fun _ => fun
  | [d1, d2] => { results := [.lit (.bool true)], args := [d1, d2] }
  | _ => none }
def relayEndsRow : OpenClaim := { program := "ytpbbfpfmdckclaa", sum := "8bfbf93ec851aab64d28d18b8767e73e6066ca143e0f6df69f3b12ad16bb7fa7", func := "lightclient/lightclientlaw40.RelayEnds", spec := "relayEnds", unfollowed := true, recurses := true, plainKeys := false, apart := false }
def RelayEndsSaid : Prop := relayEndsRow.holds Try.pinned (OpenSpec.ofChange relayEndsSpec)

/-- ITS FALSE NEIGHBOUR: 'it returns false'. Refute it at one input. -/
def relayEndsWrong : ChangeSpec := { name := "relayEnds", fn := fun _ => fun
  | [d1, d2] => { results := [.lit (.bool false)], args := [d1, d2] }
  | _ => none }
def RelayEndsWrongFalsely : Prop := relayEndsRow.holds Try.pinned (OpenSpec.ofChange relayEndsWrong)

/- THE SECOND FORM. 'bulk': how many values and letters a reading holds, each counted each time it is reached (what is shared counts as often as it is met; a slice's spare places count too). A statement '..UptoSaid' is the law's where the arguments, and the package variables that the reading takes, are together of bulk at most 1048576: NARROWER than '..Said'. Prove '..Said' where nothing that the law and all that it calls make is longer than what came in: it says more and counts as full. Else prove '..UptoSaid'. A law counts once. -/
mutual
def uptoBulk {H : Type} : DataW H → Nat
  | .lit (.string bytes) => bytes.length + 1
  | .lit _ => 1
  | .nil => 1
  | .ptr d => uptoBulk d + 1
  | .slice elems spare => uptoBulkAll elems + uptoBulkAll spare + 1
  | .agg parts => uptoBulkAll parts + 1
  | .iface _ d => uptoBulk d + 1
  | .map entries => uptoBulkEntries entries + 1
  | .held _ => 1
def uptoBulkAll {H : Type} : List (DataW H) → Nat
  | [] => 0
  | d :: r => uptoBulk d + uptoBulkAll r
def uptoBulkEntries {H : Type} : List (Lit × DataW H) → Nat
  | [] => 0
  | x :: r => uptoBulkEntry x + uptoBulkEntries r
def uptoBulkEntry {H : Type} : Lit × DataW H → Nat
  | (.string bytes, d) => bytes.length + uptoBulk d + 1
  | (_, d) => uptoBulk d + 1
 end
def uptoSmall : (H : Type) → List (DataW H) → Bool := fun _ ds => decide (uptoBulkAll ds ≤ 1048576)
def OpenSpec.upto (s : _root_.Go.ChangeSpec) : _root_.Go.OpenSpec := { _root_.Go.OpenSpec.ofChange s with cond := some uptoSmall }

/-- 'lightclientlaw40.RelayWalks', WHERE WHAT IT READS IS OF BULK AT MOST 1048576: true; the input reads as it did. -/
def relayWalksUptoRow : OpenClaim := { program := "ytpbbfpfmdckclaa", sum := "8bfbf93ec851aab64d28d18b8767e73e6066ca143e0f6df69f3b12ad16bb7fa7", func := "lightclient/lightclientlaw40.RelayWalks", spec := "relayWalks", plainKeys := false, apart := false, narrowed := true }
def RelayWalksUptoSaid : Prop := relayWalksUptoRow.holds Try.pinned (OpenSpec.upto relayWalksSpec)

/-- 'lightclientlaw40.RelayHides', WHERE WHAT IT READS IS OF BULK AT MOST 1048576: true; the input reads as it did. -/
def relayHidesUptoRow : OpenClaim := { program := "ytpbbfpfmdckclaa", sum := "8bfbf93ec851aab64d28d18b8767e73e6066ca143e0f6df69f3b12ad16bb7fa7", func := "lightclient/lightclientlaw40.RelayHides", spec := "relayHides", plainKeys := false, apart := false, narrowed := true }
def RelayHidesUptoSaid : Prop := relayHidesUptoRow.holds Try.pinned (OpenSpec.upto relayHidesSpec)

/-- 'lightclientlaw40.RelayCounts', WHERE WHAT IT READS IS OF BULK AT MOST 1048576: true; the input reads as it did. -/
def relayCountsUptoRow : OpenClaim := { program := "ytpbbfpfmdckclaa", sum := "8bfbf93ec851aab64d28d18b8767e73e6066ca143e0f6df69f3b12ad16bb7fa7", func := "lightclient/lightclientlaw40.RelayCounts", spec := "relayCounts", plainKeys := false, apart := false, narrowed := true }
def RelayCountsUptoSaid : Prop := relayCountsUptoRow.holds Try.pinned (OpenSpec.upto relayCountsSpec)

/-- 'lightclientlaw40.RelayBegins', WHERE WHAT IT READS IS OF BULK AT MOST 1048576: true; the input reads as it did. -/
def relayBeginsUptoRow : OpenClaim := { program := "ytpbbfpfmdckclaa", sum := "8bfbf93ec851aab64d28d18b8767e73e6066ca143e0f6df69f3b12ad16bb7fa7", func := "lightclient/lightclientlaw40.RelayBegins", spec := "relayBegins", unfollowed := true, recurses := true, plainKeys := false, apart := false, narrowed := true }
def RelayBeginsUptoSaid : Prop := relayBeginsUptoRow.holds Try.pinned (OpenSpec.upto relayBeginsSpec)

/-- 'lightclientlaw40.RelayHears', WHERE WHAT IT READS IS OF BULK AT MOST 1048576: true; the input reads as it did. -/
def relayHearsUptoRow : OpenClaim := { program := "ytpbbfpfmdckclaa", sum := "8bfbf93ec851aab64d28d18b8767e73e6066ca143e0f6df69f3b12ad16bb7fa7", func := "lightclient/lightclientlaw40.RelayHears", spec := "relayHears", unfollowed := true, recurses := true, plainKeys := false, apart := false, narrowed := true }
def RelayHearsUptoSaid : Prop := relayHearsUptoRow.holds Try.pinned (OpenSpec.upto relayHearsSpec)

/-- 'lightclientlaw40.RelayFluffs', WHERE WHAT IT READS IS OF BULK AT MOST 1048576: true; the input reads as it did. -/
def relayFluffsUptoRow : OpenClaim := { program := "ytpbbfpfmdckclaa", sum := "8bfbf93ec851aab64d28d18b8767e73e6066ca143e0f6df69f3b12ad16bb7fa7", func := "lightclient/lightclientlaw40.RelayFluffs", spec := "relayFluffs", unfollowed := true, recurses := true, plainKeys := false, apart := false, narrowed := true }
def RelayFluffsUptoSaid : Prop := relayFluffsUptoRow.holds Try.pinned (OpenSpec.upto relayFluffsSpec)

/-- 'lightclientlaw40.RelayEnds', WHERE WHAT IT READS IS OF BULK AT MOST 1048576: true; the input reads as it did. -/
def relayEndsUptoRow : OpenClaim := { program := "ytpbbfpfmdckclaa", sum := "8bfbf93ec851aab64d28d18b8767e73e6066ca143e0f6df69f3b12ad16bb7fa7", func := "lightclient/lightclientlaw40.RelayEnds", spec := "relayEnds", unfollowed := true, recurses := true, plainKeys := false, apart := false, narrowed := true }
def RelayEndsUptoSaid : Prop := relayEndsUptoRow.holds Try.pinned (OpenSpec.upto relayEndsSpec)

end Rows
end Go.Proofs.Ytpbbfpfmdckclaa
