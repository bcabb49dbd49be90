/-
  No cell of these rows narrows 'for every input' (looked for: loops, veiled, ifaces, maps, wideKeys, modest, calm, conditions, laid).
  DERIVED. THE GIVEN ROWS OF THIS SEAT. 7 by the template 'for every input the law returns true; each argument reads behind the call as it read before'; 0 by the template 'total and deterministic' (their statements: YtoeobffjdbdpgaaTotals.lean).
  GIVEN WITH THE SEED: the statements are not yours to turn. If you find one false, say at which input.
  Laid BY PROGRAM, IN A SANDBOX (cutbox-rows.mjs): the forced cells as the released guide's own fill.sh prints them over the translation 200c894c6fd6b528… (all of the seat's roots in one cut). By AI agents, Wed Nov 11 2026. No macro, syntax, notation, axiom, sorry.
-/
import Derived.Test.YtoeobffjdbdpgaaChecked
import GoSem.Claim
import GoSem.ClaimJoined
import GoSem.ClaimMapViews
import Derived.JoinedTies
import Derived.KernelRfl
namespace Go.Proofs.Ytoeobffjdbdpgaa
/- THE CELL 'sum', in the pinned program and in every row, IS THE sha256 OF THE DUMP (.gsa) THAT YtoeobffjdbdpgaaProg.lean LOADS. Nothing in Lean hashes anything: it is a label: what it is worth is what the hold of that sum in a sandbox is worth. -/
noncomputable def Try.pinned : Pinned := { name := "ytoeobffjdbdpgaa", sum := "200c894c6fd6b528108415fe2472fd86ffaf429961251c994f1204ecf9743d9f", checked := Try.checked }
namespace Rows
def none {H : Type} : Left H := { results := [], args := [] }

/-- 'lightclientlaw09.TxEncodes': WHATEVER THE INPUT: true; the input reads as it did. -/
def txEncodesSpec : ChangeSpec := { name := "txEncodes", fn := fun _ => fun
  | [d] => { results := [.lit (.bool true)], args := [d] }
  | _ => none }
def txEncodesRow : OpenClaim := { program := "ytoeobffjdbdpgaa", sum := "200c894c6fd6b528108415fe2472fd86ffaf429961251c994f1204ecf9743d9f", func := "lightclient/lightclientlaw09.TxEncodes", spec := "txEncodes", plainKeys := false, apart := false }
def TxEncodesSaid : Prop := txEncodesRow.holds Try.pinned (OpenSpec.ofChange txEncodesSpec)

/-- ITS FALSE NEIGHBOUR: 'it returns false'. Refute it at one input. -/
def txEncodesWrong : ChangeSpec := { name := "txEncodes", fn := fun _ => fun
  | [d] => { results := [.lit (.bool false)], args := [d] }
  | _ => none }
def TxEncodesWrongFalsely : Prop := txEncodesRow.holds Try.pinned (OpenSpec.ofChange txEncodesWrong)

/-- 'lightclientlaw09.TxChecks': WHATEVER THE INPUT: true; the input reads as it did. -/
def txChecksSpec : ChangeSpec := { name := "txChecks", fn := fun _ => fun
  | [d1, d2] => { results := [.lit (.bool true)], args := [d1, d2] }
  | _ => none }
def txChecksRow : OpenClaim := { program := "ytoeobffjdbdpgaa", sum := "200c894c6fd6b528108415fe2472fd86ffaf429961251c994f1204ecf9743d9f", func := "lightclient/lightclientlaw09.TxChecks", spec := "txChecks", plainKeys := false, apart := false }
def TxChecksSaid : Prop := txChecksRow.holds Try.pinned (OpenSpec.ofChange txChecksSpec)

/-- ITS FALSE NEIGHBOUR: 'it returns false'. Refute it at one input. -/
def txChecksWrong : ChangeSpec := { name := "txChecks", fn := fun _ => fun
  | [d1, d2] => { results := [.lit (.bool false)], args := [d1, d2] }
  | _ => none }
def TxChecksWrongFalsely : Prop := txChecksRow.holds Try.pinned (OpenSpec.ofChange txChecksWrong)

/-- 'lightclientlaw09.TxLater': WHATEVER THE INPUT: true; the input reads as it did. -/
def txLaterSpec : ChangeSpec := { name := "txLater", fn := fun _ => fun
  | [d1, d2, d3] => { results := [.lit (.bool true)], args := [d1, d2, d3] }
  | _ => none }
def txLaterRow : OpenClaim := { program := "ytoeobffjdbdpgaa", sum := "200c894c6fd6b528108415fe2472fd86ffaf429961251c994f1204ecf9743d9f", func := "lightclient/lightclientlaw09.TxLater", spec := "txLater", plainKeys := false, apart := false }
def TxLaterSaid : Prop := txLaterRow.holds Try.pinned (OpenSpec.ofChange txLaterSpec)

/-- ITS FALSE NEIGHBOUR: 'it returns false'. Refute it at one input. -/
def txLaterWrong : ChangeSpec := { name := "txLater", fn := fun _ => fun
  | [d1, d2, d3] => { results := [.lit (.bool false)], args := [d1, d2, d3] }
  | _ => none }
def TxLaterWrongFalsely : Prop := txLaterRow.holds Try.pinned (OpenSpec.ofChange txLaterWrong)

/-- 'lightclientlaw09.TxPoints': WHATEVER THE INPUT: true; the input reads as it did. -/
def txPointsSpec : ChangeSpec := { name := "txPoints", fn := fun _ => fun
  | [d1, d2, d3] => { results := [.lit (.bool true)], args := [d1, d2, d3] }
  | _ => none }
def txPointsRow : OpenClaim := { program := "ytoeobffjdbdpgaa", sum := "200c894c6fd6b528108415fe2472fd86ffaf429961251c994f1204ecf9743d9f", func := "lightclient/lightclientlaw09.TxPoints", spec := "txPoints", inPlace := ["internal/bytealg.Compare"], plainKeys := false, apart := false }
def TxPointsSaid : Prop := txPointsRow.holds Try.pinned (OpenSpec.ofChange txPointsSpec)

/-- ITS FALSE NEIGHBOUR: 'it returns false'. Refute it at one input. -/
def txPointsWrong : ChangeSpec := { name := "txPoints", fn := fun _ => fun
  | [d1, d2, d3] => { results := [.lit (.bool false)], args := [d1, d2, d3] }
  | _ => none }
def TxPointsWrongFalsely : Prop := txPointsRow.holds Try.pinned (OpenSpec.ofChange txPointsWrong)

/-- 'lightclientlaw09.TxReads': WHATEVER THE INPUT: true; the input reads as it did. -/
def txReadsSpec : ChangeSpec := { name := "txReads", fn := fun _ => fun
  | [d1, d2] => { results := [.lit (.bool true)], args := [d1, d2] }
  | _ => none }
def txReadsRow : OpenClaim := { program := "ytoeobffjdbdpgaa", sum := "200c894c6fd6b528108415fe2472fd86ffaf429961251c994f1204ecf9743d9f", func := "lightclient/lightclientlaw09.TxReads", spec := "txReads", unfollowed := true, recurses := true, plainKeys := false, apart := false }
def TxReadsSaid : Prop := txReadsRow.holds Try.pinned (OpenSpec.ofChange txReadsSpec)

/-- ITS FALSE NEIGHBOUR: 'it returns false'. Refute it at one input. -/
def txReadsWrong : ChangeSpec := { name := "txReads", fn := fun _ => fun
  | [d1, d2] => { results := [.lit (.bool false)], args := [d1, d2] }
  | _ => none }
def TxReadsWrongFalsely : Prop := txReadsRow.holds Try.pinned (OpenSpec.ofChange txReadsWrong)

/-- 'lightclientlaw09.TxSpoilt': WHATEVER THE INPUT: true; the input reads as it did. -/
def txSpoiltSpec : ChangeSpec := { name := "txSpoilt", fn := fun _ => fun
  | [d1, d2, d3, d4] => { results := [.lit (.bool true)], args := [d1, d2, d3, d4] }
  | _ => none }
def txSpoiltRow : OpenClaim := { program := "ytoeobffjdbdpgaa", sum := "200c894c6fd6b528108415fe2472fd86ffaf429961251c994f1204ecf9743d9f", func := "lightclient/lightclientlaw09.TxSpoilt", spec := "txSpoilt", unfollowed := true, recurses := true, plainKeys := false, apart := false }
def TxSpoiltSaid : Prop := txSpoiltRow.holds Try.pinned (OpenSpec.ofChange txSpoiltSpec)

/-- ITS FALSE NEIGHBOUR: 'it returns false'. Refute it at one input. -/
def txSpoiltWrong : ChangeSpec := { name := "txSpoilt", fn := fun _ => fun
  | [d1, d2, d3, d4] => { results := [.lit (.bool false)], args := [d1, d2, d3, d4] }
  | _ => none }
def TxSpoiltWrongFalsely : Prop := txSpoiltRow.holds Try.pinned (OpenSpec.ofChange txSpoiltWrong)

/-- 'lightclientlaw09.TxBack': WHATEVER THE INPUT: true; the input reads as it did. -/
def txBackSpec : ChangeSpec := { name := "txBack", fn := fun _ => fun
  | [d1, d2] => { results := [.lit (.bool true)], args := [d1, d2] }
  | _ => none }
def txBackRow : OpenClaim := { program := "ytoeobffjdbdpgaa", sum := "200c894c6fd6b528108415fe2472fd86ffaf429961251c994f1204ecf9743d9f", func := "lightclient/lightclientlaw09.TxBack", spec := "txBack", unfollowed := true, recurses := true, plainKeys := false, apart := false }
def TxBackSaid : Prop := txBackRow.holds Try.pinned (OpenSpec.ofChange txBackSpec)

/-- ITS FALSE NEIGHBOUR: 'it returns false'. Refute it at one input. -/
def txBackWrong : ChangeSpec := { name := "txBack", fn := fun _ => fun
  | [d1, d2] => { results := [.lit (.bool false)], args := [d1, d2] }
  | _ => none }
def TxBackWrongFalsely : Prop := txBackRow.holds Try.pinned (OpenSpec.ofChange txBackWrong)

/- THE SECOND FORM. 'bulk': how many values and letters a reading holds, each counted each time it is reached (what is shared counts as often as it is met; a slice's spare places count too). A statement '..UptoSaid' is the law's where the arguments, and the package variables that the reading takes, are together of bulk at most 1048576: NARROWER than '..Said'. Prove '..Said' where nothing that the law and all that it calls make is longer than what came in: it says more and counts as full. Else prove '..UptoSaid'. A law counts once. -/
mutual
def uptoBulk {H : Type} : DataW H → Nat
  | .lit (.string bytes) => bytes.length + 1
  | .lit _ => 1
  | .nil => 1
  | .ptr d => uptoBulk d + 1
  | .slice elems spare => uptoBulkAll elems + uptoBulkAll spare + 1
  | .agg parts => uptoBulkAll parts + 1
  | .iface _ d => uptoBulk d + 1
  | .map entries => uptoBulkEntries entries + 1
  | .held _ => 1
def uptoBulkAll {H : Type} : List (DataW H) → Nat
  | [] => 0
  | d :: r => uptoBulk d + uptoBulkAll r
def uptoBulkEntries {H : Type} : List (Lit × DataW H) → Nat
  | [] => 0
  | x :: r => uptoBulkEntry x + uptoBulkEntries r
def uptoBulkEntry {H : Type} : Lit × DataW H → Nat
  | (.string bytes, d) => bytes.length + uptoBulk d + 1
  | (_, d) => uptoBulk d + 1
 end
def uptoSmall : (H : Type) → List (DataW H) → Bool := fun _ ds => decide (uptoBulkAll ds ≤ 1048576)
def OpenSpec.upto (s : _root_.Go.ChangeSpec) : _root_.Go.OpenSpec := { _root_.Go.OpenSpec.ofChange s with cond := some uptoSmall }

/-- 'lightclientlaw09.TxEncodes', WHERE WHAT IT READS IS OF BULK AT MOST 1048576: true; the input reads as it did. -/
def txEncodesUptoRow : OpenClaim := { program := "ytoeobffjdbdpgaa", sum := "200c894c6fd6b528108415fe2472fd86ffaf429961251c994f1204ecf9743d9f", func := "lightclient/lightclientlaw09.TxEncodes", spec := "txEncodes", plainKeys := false, apart := false, narrowed := true }
def TxEncodesUptoSaid : Prop := txEncodesUptoRow.holds Try.pinned (OpenSpec.upto txEncodesSpec)

/-- 'lightclientlaw09.TxChecks', WHERE WHAT IT READS IS OF BULK AT MOST 1048576: true; the input reads as it did. -/
def txChecksUptoRow : OpenClaim := { program := "ytoeobffjdbdpgaa", sum := "200c894c6fd6b528108415fe2472fd86ffaf429961251c994f1204ecf9743d9f", func := "lightclient/lightclientlaw09.TxChecks", spec := "txChecks", plainKeys := false, apart := false, narrowed := true }
def TxChecksUptoSaid : Prop := txChecksUptoRow.holds Try.pinned (OpenSpec.upto txChecksSpec)

/-- 'lightclientlaw09.TxLater', WHERE WHAT IT READS IS OF BULK AT MOST 1048576: true; the input reads as it did. -/
def txLaterUptoRow : OpenClaim := { program := "ytoeobffjdbdpgaa", sum := "200c894c6fd6b528108415fe2472fd86ffaf429961251c994f1204ecf9743d9f", func := "lightclient/lightclientlaw09.TxLater", spec := "txLater", plainKeys := false, apart := false, narrowed := true }
def TxLaterUptoSaid : Prop := txLaterUptoRow.holds Try.pinned (OpenSpec.upto txLaterSpec)

/-- 'lightclientlaw09.TxPoints', WHERE WHAT IT READS IS OF BULK AT MOST 1048576: true; the input reads as it did. -/
def txPointsUptoRow : OpenClaim := { program := "ytoeobffjdbdpgaa", sum := "200c894c6fd6b528108415fe2472fd86ffaf429961251c994f1204ecf9743d9f", func := "lightclient/lightclientlaw09.TxPoints", spec := "txPoints", inPlace := ["internal/bytealg.Compare"], plainKeys := false, apart := false, narrowed := true }
def TxPointsUptoSaid : Prop := txPointsUptoRow.holds Try.pinned (OpenSpec.upto txPointsSpec)

/-- 'lightclientlaw09.TxReads', WHERE WHAT IT READS IS OF BULK AT MOST 1048576: true; the input reads as it did. -/
def txReadsUptoRow : OpenClaim := { program := "ytoeobffjdbdpgaa", sum := "200c894c6fd6b528108415fe2472fd86ffaf429961251c994f1204ecf9743d9f", func := "lightclient/lightclientlaw09.TxReads", spec := "txReads", unfollowed := true, recurses := true, plainKeys := false, apart := false, narrowed := true }
def TxReadsUptoSaid : Prop := txReadsUptoRow.holds Try.pinned (OpenSpec.upto txReadsSpec)

/-- 'lightclientlaw09.TxSpoilt', WHERE WHAT IT READS IS OF BULK AT MOST 1048576: true; the input reads as it did. -/
def txSpoiltUptoRow : OpenClaim := { program := "ytoeobffjdbdpgaa", sum := "200c894c6fd6b528108415fe2472fd86ffaf429961251c994f1204ecf9743d9f", func := "lightclient/lightclientlaw09.TxSpoilt", spec := "txSpoilt", unfollowed := true, recurses := true, plainKeys := false, apart := false, narrowed := true }
def TxSpoiltUptoSaid : Prop := txSpoiltUptoRow.holds Try.pinned (OpenSpec.upto txSpoiltSpec)

/-- 'lightclientlaw09.TxBack', WHERE WHAT IT READS IS OF BULK AT MOST 1048576: true; the input reads as it did. -/
def txBackUptoRow : OpenClaim := { program := "ytoeobffjdbdpgaa", sum := "200c894c6fd6b528108415fe2472fd86ffaf429961251c994f1204ecf9743d9f", func := "lightclient/lightclientlaw09.TxBack", spec := "txBack", unfollowed := true, recurses := true, plainKeys := false, apart := false, narrowed := true }
def TxBackUptoSaid : Prop := txBackUptoRow.holds Try.pinned (OpenSpec.upto txBackSpec)

end Rows
end Go.Proofs.Ytoeobffjdbdpgaa
