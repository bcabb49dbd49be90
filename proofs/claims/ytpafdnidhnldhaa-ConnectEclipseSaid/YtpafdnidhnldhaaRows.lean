/-
  No cell of these rows narrows 'for every input' (looked for: loops, veiled, ifaces, maps, wideKeys, modest, calm, conditions, laid).
  DERIVED. THE GIVEN ROWS OF THIS SEAT. 4 by the template 'for every input the law returns true; each argument reads behind the call as it read before'; 0 by the template 'total and deterministic' (their statements: YtpafdnidhnldhaaTotals.lean).
  GIVEN WITH THE SEED: the statements are not yours to turn. If you find one false, say at which input.
  Laid BY PROGRAM, IN A SANDBOX (cutbox-rows.mjs): the forced cells as the released guide's own fill.sh prints them over the translation d5d2a4d049be5e79… (all of the seat's roots in one cut). By AI agents, Wed Nov 11 2026. No macro, syntax, notation, axiom, sorry.
-/
import Derived.Test.YtpafdnidhnldhaaChecked
import GoSem.Claim
import GoSem.ClaimJoined
import GoSem.ClaimMapViews
import Derived.JoinedTies
import Derived.KernelRfl
namespace Go.Proofs.Ytpafdnidhnldhaa
/- THE CELL 'sum', in the pinned program and in every row, IS THE sha256 OF THE DUMP (.gsa) THAT YtpafdnidhnldhaaProg.lean LOADS. Nothing in Lean hashes anything: it is a label: what it is worth is what the hold of that sum in a sandbox is worth. -/
noncomputable def Try.pinned : Pinned := { name := "ytpafdnidhnldhaa", sum := "d5d2a4d049be5e793d10b91f214f0463e2973af67cd10995388bd41287e8df86", checked := Try.checked }
namespace Rows
def none {H : Type} : Left H := { results := [], args := [] }

/-- 'lightclientlaw39.ConnectChooses': WHATEVER THE INPUT: true; the input reads as it did. -/
def connectChoosesSpec : ChangeSpec := { name := "connectChooses", fn := fun _ => fun
  | [d1, d2, d3] => { results := [.lit (.bool true)], args := [d1, d2, d3] }
  | _ => none }
def connectChoosesRow : OpenClaim := { program := "ytpafdnidhnldhaa", sum := "d5d2a4d049be5e793d10b91f214f0463e2973af67cd10995388bd41287e8df86", func := "lightclient/lightclientlaw39.ConnectChooses", spec := "connectChooses", unfollowed := true, recurses := true, plainKeys := false, apart := false }
def ConnectChoosesSaid : Prop := connectChoosesRow.holds Try.pinned (OpenSpec.ofChange connectChoosesSpec)

/-- ITS FALSE NEIGHBOUR: 'it returns false'. Refute it at one input. -/
def connectChoosesWrong : ChangeSpec := { name := "connectChooses", fn := fun _ => fun
  | [d1, d2, d3] => { results := [.lit (.bool false)], args := [d1, d2, d3] }
  | _ => none }
def ConnectChoosesWrongFalsely : Prop := connectChoosesRow.holds Try.pinned (OpenSpec.ofChange connectChoosesWrong)

/-- 'lightclientlaw39.ConnectSpreads': WHATEVER THE INPUT: true; the input reads as it did. -/
def connectSpreadsSpec : ChangeSpec := { name := "connectSpreads", fn := fun _ => fun
  | [d1, d2] => { results := [.lit (.bool true)], args := [d1, d2] }
  | _ => none }
def connectSpreadsRow : OpenClaim := { program := "ytpafdnidhnldhaa", sum := "d5d2a4d049be5e793d10b91f214f0463e2973af67cd10995388bd41287e8df86", func := "lightclient/lightclientlaw39.ConnectSpreads", spec := "connectSpreads", unfollowed := true, recurses := true, plainKeys := false, apart := false }
def ConnectSpreadsSaid : Prop := connectSpreadsRow.holds Try.pinned (OpenSpec.ofChange connectSpreadsSpec)

/-- ITS FALSE NEIGHBOUR: 'it returns false'. Refute it at one input. -/
def connectSpreadsWrong : ChangeSpec := { name := "connectSpreads", fn := fun _ => fun
  | [d1, d2] => { results := [.lit (.bool false)], args := [d1, d2] }
  | _ => none }
def ConnectSpreadsWrongFalsely : Prop := connectSpreadsRow.holds Try.pinned (OpenSpec.ofChange connectSpreadsWrong)

/-- 'lightclientlaw39.ConnectFair': WHATEVER THE INPUT: true; the input reads as it did. -/
def connectFairSpec : ChangeSpec := { name := "connectFair", fn := fun _ => fun
  | [d1, d2, d3] => { results := [.lit (.bool true)], args := [d1, d2, d3] }
  | _ => none }
def connectFairRow : OpenClaim := { program := "ytpafdnidhnldhaa", sum := "d5d2a4d049be5e793d10b91f214f0463e2973af67cd10995388bd41287e8df86", func := "lightclient/lightclientlaw39.ConnectFair", spec := "connectFair", unfollowed := true, recurses := true, plainKeys := false, apart := false }
def ConnectFairSaid : Prop := connectFairRow.holds Try.pinned (OpenSpec.ofChange connectFairSpec)

/-- ITS FALSE NEIGHBOUR: 'it returns false'. Refute it at one input. -/
def connectFairWrong : ChangeSpec := { name := "connectFair", fn := fun _ => fun
  | [d1, d2, d3] => { results := [.lit (.bool false)], args := [d1, d2, d3] }
  | _ => none }
def ConnectFairWrongFalsely : Prop := connectFairRow.holds Try.pinned (OpenSpec.ofChange connectFairWrong)

/-- 'lightclientlaw39.ConnectEclipse': WHATEVER THE INPUT: true; the input reads as it did. -/
def connectEclipseSpec : ChangeSpec := { name := "connectEclipse", fn := fun _ => fun
  | [d1, d2, d3] => { results := [.lit (.bool true)], args := [d1, d2, d3] }
  | _ => none }
def connectEclipseRow : OpenClaim := { program := "ytpafdnidhnldhaa", sum := "d5d2a4d049be5e793d10b91f214f0463e2973af67cd10995388bd41287e8df86", func := "lightclient/lightclientlaw39.ConnectEclipse", spec := "connectEclipse", unfollowed := true, recurses := true, plainKeys := false, apart := false }
def ConnectEclipseSaid : Prop := connectEclipseRow.holds Try.pinned (OpenSpec.ofChange connectEclipseSpec)

/-- ITS FALSE NEIGHBOUR: 'it returns false'. Refute it at one input. -/
def connectEclipseWrong : ChangeSpec := { name := "connectEclipse", fn := fun _ => fun
  | [d1, d2, d3] => { results := [.lit (.bool false)], args := [d1, d2, d3] }
  | _ => none }
def ConnectEclipseWrongFalsely : Prop := connectEclipseRow.holds Try.pinned (OpenSpec.ofChange connectEclipseWrong)

/- THE SECOND FORM. 'bulk': how many values and letters a reading holds, each counted each time it is reached (what is shared counts as often as it is met; a slice's spare places count too). A statement '..UptoSaid' is the law's where the arguments, and the package variables that the reading takes, are together of bulk at most 1048576: NARROWER than '..Said'. Prove '..Said' where nothing that the law and all that it calls make is longer than what came in: it says more and counts as full. Else prove '..UptoSaid'. A law counts once. -/
mutual
def uptoBulk {H : Type} : DataW H → Nat
  | .lit (.string bytes) => bytes.length + 1
  | .lit _ => 1
  | .nil => 1
  | .ptr d => uptoBulk d + 1
  | .slice elems spare => uptoBulkAll elems + uptoBulkAll spare + 1
  | .agg parts => uptoBulkAll parts + 1
  | .iface _ d => uptoBulk d + 1
  | .map entries => uptoBulkEntries entries + 1
  | .held _ => 1
def uptoBulkAll {H : Type} : List (DataW H) → Nat
  | [] => 0
  | d :: r => uptoBulk d + uptoBulkAll r
def uptoBulkEntries {H : Type} : List (Lit × DataW H) → Nat
  | [] => 0
  | x :: r => uptoBulkEntry x + uptoBulkEntries r
def uptoBulkEntry {H : Type} : Lit × DataW H → Nat
  | (.string bytes, d) => bytes.length + uptoBulk d + 1
  | (_, d) => uptoBulk d + 1
 end
def uptoSmall : (H : Type) → List (DataW H) → Bool := fun _ ds => decide (uptoBulkAll ds ≤ 1048576)
def OpenSpec.upto (s : _root_.Go.ChangeSpec) : _root_.Go.OpenSpec := { _root_.Go.OpenSpec.ofChange s with cond := some uptoSmall }

/-- 'lightclientlaw39.ConnectChooses', WHERE WHAT IT READS IS OF BULK AT MOST 1048576: true; the input reads as it did. -/
def connectChoosesUptoRow : OpenClaim := { program := "ytpafdnidhnldhaa", sum := "d5d2a4d049be5e793d10b91f214f0463e2973af67cd10995388bd41287e8df86", func := "lightclient/lightclientlaw39.ConnectChooses", spec := "connectChooses", unfollowed := true, recurses := true, plainKeys := false, apart := false, narrowed := true }
def ConnectChoosesUptoSaid : Prop := connectChoosesUptoRow.holds Try.pinned (OpenSpec.upto connectChoosesSpec)

/-- 'lightclientlaw39.ConnectSpreads', WHERE WHAT IT READS IS OF BULK AT MOST 1048576: true; the input reads as it did. -/
def connectSpreadsUptoRow : OpenClaim := { program := "ytpafdnidhnldhaa", sum := "d5d2a4d049be5e793d10b91f214f0463e2973af67cd10995388bd41287e8df86", func := "lightclient/lightclientlaw39.ConnectSpreads", spec := "connectSpreads", unfollowed := true, recurses := true, plainKeys := false, apart := false, narrowed := true }
def ConnectSpreadsUptoSaid : Prop := connectSpreadsUptoRow.holds Try.pinned (OpenSpec.upto connectSpreadsSpec)

/-- 'lightclientlaw39.ConnectFair', WHERE WHAT IT READS IS OF BULK AT MOST 1048576: true; the input reads as it did. -/
def connectFairUptoRow : OpenClaim := { program := "ytpafdnidhnldhaa", sum := "d5d2a4d049be5e793d10b91f214f0463e2973af67cd10995388bd41287e8df86", func := "lightclient/lightclientlaw39.ConnectFair", spec := "connectFair", unfollowed := true, recurses := true, plainKeys := false, apart := false, narrowed := true }
def ConnectFairUptoSaid : Prop := connectFairUptoRow.holds Try.pinned (OpenSpec.upto connectFairSpec)

/-- 'lightclientlaw39.ConnectEclipse', WHERE WHAT IT READS IS OF BULK AT MOST 1048576: true; the input reads as it did. -/
def connectEclipseUptoRow : OpenClaim := { program := "ytpafdnidhnldhaa", sum := "d5d2a4d049be5e793d10b91f214f0463e2973af67cd10995388bd41287e8df86", func := "lightclient/lightclientlaw39.ConnectEclipse", spec := "connectEclipse", unfollowed := true, recurses := true, plainKeys := false, apart := false, narrowed := true }
def ConnectEclipseUptoSaid : Prop := connectEclipseUptoRow.holds Try.pinned (OpenSpec.upto connectEclipseSpec)

end Rows
end Go.Proofs.Ytpafdnidhnldhaa
