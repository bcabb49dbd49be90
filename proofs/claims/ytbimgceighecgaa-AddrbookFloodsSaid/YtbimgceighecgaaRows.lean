/-
  No cell of these rows narrows 'for every input' (looked for: loops, veiled, ifaces, maps, wideKeys, modest, calm, conditions, laid).
  DERIVED. THE GIVEN ROWS OF THIS SEAT. 5 by the template 'for every input the law returns true; each argument reads behind the call as it read before'; 0 by the template 'total and deterministic' (their statements: YtbimgceighecgaaTotals.lean).
  GIVEN WITH THE SEED: the statements are not yours to turn. If you find one false, say at which input.
  Laid BY PROGRAM, IN A SANDBOX (cutbox-rows.mjs): the forced cells as the released guide's own fill.sh prints them over the translation d044f8322b04515e… (all of the seat's roots in one cut). By AI agents, Wed Nov 11 2026. No macro, syntax, notation, axiom, sorry.
-/
import Derived.Test.YtbimgceighecgaaChecked
import GoSem.Claim
import GoSem.ClaimJoined
import GoSem.ClaimMapViews
import Derived.JoinedTies
import Derived.KernelRfl
namespace Go.Proofs.Ytbimgceighecgaa
/- THE CELL 'sum', in the pinned program and in every row, IS THE sha256 OF THE DUMP (.gsa) THAT YtbimgceighecgaaProg.lean LOADS. Nothing in Lean hashes anything: it is a label: what it is worth is what the hold of that sum in a sandbox is worth. -/
noncomputable def Try.pinned : Pinned := { name := "ytbimgceighecgaa", sum := "d044f8322b04515e38b90d60ed9a9db616b8ea3eb9731d7cf61342f5d9c047f1", checked := Try.checked }
namespace Rows
def none {H : Type} : Left H := { results := [], args := [] }

/-- 'lightclientlaw38.AddrbookHears': WHATEVER THE INPUT: true; the input reads as it did. -/
def addrbookHearsSpec : ChangeSpec := { name := "addrbookHears", fn := fun _ => fun
  | [d1, d2, d3, d4] => { results := [.lit (.bool true)], args := [d1, d2, d3, d4] }
  | _ => none }
def addrbookHearsRow : OpenClaim := { program := "ytbimgceighecgaa", sum := "d044f8322b04515e38b90d60ed9a9db616b8ea3eb9731d7cf61342f5d9c047f1", func := "lightclient/lightclientlaw38.AddrbookHears", spec := "addrbookHears", inPlace := ["slices.overlaps[lightclient/api.Place]"], unfollowed := true, recurses := true, plainKeys := false, apart := false }
def AddrbookHearsSaid : Prop := addrbookHearsRow.holds Try.pinned (OpenSpec.ofChange addrbookHearsSpec)

/-- ITS FALSE NEIGHBOUR: 'it returns false'. Refute it at one input. -/
def addrbookHearsWrong : ChangeSpec := { name := "addrbookHears", fn := fun _ => fun
  | [d1, d2, d3, d4] => { results := [.lit (.bool false)], args := [d1, d2, d3, d4] }
  | _ => none }
def AddrbookHearsWrongFalsely : Prop := addrbookHearsRow.holds Try.pinned (OpenSpec.ofChange addrbookHearsWrong)

/-- 'lightclientlaw38.AddrbookBuckets': WHATEVER THE INPUT: true; the input reads as it did. -/
def addrbookBucketsSpec : ChangeSpec := { name := "addrbookBuckets", fn := fun _ => fun
  | [d1, d2, d3, d4, d5, d6] => { results := [.lit (.bool true)], args := [d1, d2, d3, d4, d5, d6] }
  | _ => none }
def addrbookBucketsRow : OpenClaim := { program := "ytbimgceighecgaa", sum := "d044f8322b04515e38b90d60ed9a9db616b8ea3eb9731d7cf61342f5d9c047f1", func := "lightclient/lightclientlaw38.AddrbookBuckets", spec := "addrbookBuckets", inPlace := ["slices.overlaps[lightclient/api.Place]"], unfollowed := true, recurses := true, plainKeys := false, apart := false }
def AddrbookBucketsSaid : Prop := addrbookBucketsRow.holds Try.pinned (OpenSpec.ofChange addrbookBucketsSpec)

/-- ITS FALSE NEIGHBOUR: 'it returns false'. Refute it at one input. -/
def addrbookBucketsWrong : ChangeSpec := { name := "addrbookBuckets", fn := fun _ => fun
  | [d1, d2, d3, d4, d5, d6] => { results := [.lit (.bool false)], args := [d1, d2, d3, d4, d5, d6] }
  | _ => none }
def AddrbookBucketsWrongFalsely : Prop := addrbookBucketsRow.holds Try.pinned (OpenSpec.ofChange addrbookBucketsWrong)

/-- 'lightclientlaw38.AddrbookFloods': WHATEVER THE INPUT: true; the input reads as it did. -/
def addrbookFloodsSpec : ChangeSpec := { name := "addrbookFloods", fn := fun _ => fun
  | [d1, d2] => { results := [.lit (.bool true)], args := [d1, d2] }
  | _ => none }
def addrbookFloodsRow : OpenClaim := { program := "ytbimgceighecgaa", sum := "d044f8322b04515e38b90d60ed9a9db616b8ea3eb9731d7cf61342f5d9c047f1", func := "lightclient/lightclientlaw38.AddrbookFloods", spec := "addrbookFloods", inPlace := ["slices.overlaps[lightclient/api.Place]"], unfollowed := true, recurses := true, plainKeys := false, apart := false }
def AddrbookFloodsSaid : Prop := addrbookFloodsRow.holds Try.pinned (OpenSpec.ofChange addrbookFloodsSpec)

/-- ITS FALSE NEIGHBOUR: 'it returns false'. Refute it at one input. -/
def addrbookFloodsWrong : ChangeSpec := { name := "addrbookFloods", fn := fun _ => fun
  | [d1, d2] => { results := [.lit (.bool false)], args := [d1, d2] }
  | _ => none }
def AddrbookFloodsWrongFalsely : Prop := addrbookFloodsRow.holds Try.pinned (OpenSpec.ofChange addrbookFloodsWrong)

/-- 'lightclientlaw38.AddrbookGroups': WHATEVER THE INPUT: true; the input reads as it did. -/
def addrbookGroupsSpec : ChangeSpec := { name := "addrbookGroups", fn := fun _ => fun
  | [d1, d2] => { results := [.lit (.bool true)], args := [d1, d2] }
  | _ => none }
def addrbookGroupsRow : OpenClaim := { program := "ytbimgceighecgaa", sum := "d044f8322b04515e38b90d60ed9a9db616b8ea3eb9731d7cf61342f5d9c047f1", func := "lightclient/lightclientlaw38.AddrbookGroups", spec := "addrbookGroups", inPlace := ["slices.overlaps[lightclient/api.Place]"], unfollowed := true, recurses := true, plainKeys := false, apart := false }
def AddrbookGroupsSaid : Prop := addrbookGroupsRow.holds Try.pinned (OpenSpec.ofChange addrbookGroupsSpec)

/-- ITS FALSE NEIGHBOUR: 'it returns false'. Refute it at one input. -/
def addrbookGroupsWrong : ChangeSpec := { name := "addrbookGroups", fn := fun _ => fun
  | [d1, d2] => { results := [.lit (.bool false)], args := [d1, d2] }
  | _ => none }
def AddrbookGroupsWrongFalsely : Prop := addrbookGroupsRow.holds Try.pinned (OpenSpec.ofChange addrbookGroupsWrong)

/-- 'lightclientlaw38.AddrbookMoves': WHATEVER THE INPUT: true; the input reads as it did. -/
def addrbookMovesSpec : ChangeSpec := { name := "addrbookMoves", fn := fun _ => fun
  | [d1, d2, d3, d4] => { results := [.lit (.bool true)], args := [d1, d2, d3, d4] }
  | _ => none }
def addrbookMovesRow : OpenClaim := { program := "ytbimgceighecgaa", sum := "d044f8322b04515e38b90d60ed9a9db616b8ea3eb9731d7cf61342f5d9c047f1", func := "lightclient/lightclientlaw38.AddrbookMoves", spec := "addrbookMoves", inPlace := ["slices.overlaps[lightclient/api.Place]"], unfollowed := true, recurses := true, plainKeys := false, apart := false }
def AddrbookMovesSaid : Prop := addrbookMovesRow.holds Try.pinned (OpenSpec.ofChange addrbookMovesSpec)

/-- ITS FALSE NEIGHBOUR: 'it returns false'. Refute it at one input. -/
def addrbookMovesWrong : ChangeSpec := { name := "addrbookMoves", fn := fun _ => fun
  | [d1, d2, d3, d4] => { results := [.lit (.bool false)], args := [d1, d2, d3, d4] }
  | _ => none }
def AddrbookMovesWrongFalsely : Prop := addrbookMovesRow.holds Try.pinned (OpenSpec.ofChange addrbookMovesWrong)

/- THE SECOND FORM. 'bulk': how many values and letters a reading holds, each counted each time it is reached (what is shared counts as often as it is met; a slice's spare places count too). A statement '..UptoSaid' is the law's where the arguments, and the package variables that the reading takes, are together of bulk at most 1048576: NARROWER than '..Said'. Prove '..Said' where nothing that the law and all that it calls make is longer than what came in: it says more and counts as full. Else prove '..UptoSaid'. A law counts once. -/
mutual
def uptoBulk {H : Type} : DataW H → Nat
  | .lit (.string bytes) => bytes.length + 1
  | .lit _ => 1
  | .nil => 1
  | .ptr d => uptoBulk d + 1
  | .slice elems spare => uptoBulkAll elems + uptoBulkAll spare + 1
  | .agg parts => uptoBulkAll parts + 1
  | .iface _ d => uptoBulk d + 1
  | .map entries => uptoBulkEntries entries + 1
  | .held _ => 1
def uptoBulkAll {H : Type} : List (DataW H) → Nat
  | [] => 0
  | d :: r => uptoBulk d + uptoBulkAll r
def uptoBulkEntries {H : Type} : List (Lit × DataW H) → Nat
  | [] => 0
  | x :: r => uptoBulkEntry x + uptoBulkEntries r
def uptoBulkEntry {H : Type} : Lit × DataW H → Nat
  | (.string bytes, d) => bytes.length + uptoBulk d + 1
  | (_, d) => uptoBulk d + 1
 end
def uptoSmall : (H : Type) → List (DataW H) → Bool := fun _ ds => decide (uptoBulkAll ds ≤ 1048576)
def OpenSpec.upto (s : _root_.Go.ChangeSpec) : _root_.Go.OpenSpec := { _root_.Go.OpenSpec.ofChange s with cond := some uptoSmall }

/-- 'lightclientlaw38.AddrbookHears', WHERE WHAT IT READS IS OF BULK AT MOST 1048576: true; the input reads as it did. -/
def addrbookHearsUptoRow : OpenClaim := { program := "ytbimgceighecgaa", sum := "d044f8322b04515e38b90d60ed9a9db616b8ea3eb9731d7cf61342f5d9c047f1", func := "lightclient/lightclientlaw38.AddrbookHears", spec := "addrbookHears", inPlace := ["slices.overlaps[lightclient/api.Place]"], unfollowed := true, recurses := true, plainKeys := false, apart := false, narrowed := true }
def AddrbookHearsUptoSaid : Prop := addrbookHearsUptoRow.holds Try.pinned (OpenSpec.upto addrbookHearsSpec)

/-- 'lightclientlaw38.AddrbookBuckets', WHERE WHAT IT READS IS OF BULK AT MOST 1048576: true; the input reads as it did. -/
def addrbookBucketsUptoRow : OpenClaim := { program := "ytbimgceighecgaa", sum := "d044f8322b04515e38b90d60ed9a9db616b8ea3eb9731d7cf61342f5d9c047f1", func := "lightclient/lightclientlaw38.AddrbookBuckets", spec := "addrbookBuckets", inPlace := ["slices.overlaps[lightclient/api.Place]"], unfollowed := true, recurses := true, plainKeys := false, apart := false, narrowed := true }
def AddrbookBucketsUptoSaid : Prop := addrbookBucketsUptoRow.holds Try.pinned (OpenSpec.upto addrbookBucketsSpec)

/-- 'lightclientlaw38.AddrbookFloods', WHERE WHAT IT READS IS OF BULK AT MOST 1048576: true; the input reads as it did. -/
def addrbookFloodsUptoRow : OpenClaim := { program := "ytbimgceighecgaa", sum := "d044f8322b04515e38b90d60ed9a9db616b8ea3eb9731d7cf61342f5d9c047f1", func := "lightclient/lightclientlaw38.AddrbookFloods", spec := "addrbookFloods", inPlace := ["slices.overlaps[lightclient/api.Place]"], unfollowed := true, recurses := true, plainKeys := false, apart := false, narrowed := true }
def AddrbookFloodsUptoSaid : Prop := addrbookFloodsUptoRow.holds Try.pinned (OpenSpec.upto addrbookFloodsSpec)

/-- 'lightclientlaw38.AddrbookGroups', WHERE WHAT IT READS IS OF BULK AT MOST 1048576: true; the input reads as it did. -/
def addrbookGroupsUptoRow : OpenClaim := { program := "ytbimgceighecgaa", sum := "d044f8322b04515e38b90d60ed9a9db616b8ea3eb9731d7cf61342f5d9c047f1", func := "lightclient/lightclientlaw38.AddrbookGroups", spec := "addrbookGroups", inPlace := ["slices.overlaps[lightclient/api.Place]"], unfollowed := true, recurses := true, plainKeys := false, apart := false, narrowed := true }
def AddrbookGroupsUptoSaid : Prop := addrbookGroupsUptoRow.holds Try.pinned (OpenSpec.upto addrbookGroupsSpec)

/-- 'lightclientlaw38.AddrbookMoves', WHERE WHAT IT READS IS OF BULK AT MOST 1048576: true; the input reads as it did. -/
def addrbookMovesUptoRow : OpenClaim := { program := "ytbimgceighecgaa", sum := "d044f8322b04515e38b90d60ed9a9db616b8ea3eb9731d7cf61342f5d9c047f1", func := "lightclient/lightclientlaw38.AddrbookMoves", spec := "addrbookMoves", inPlace := ["slices.overlaps[lightclient/api.Place]"], unfollowed := true, recurses := true, plainKeys := false, apart := false, narrowed := true }
def AddrbookMovesUptoSaid : Prop := addrbookMovesUptoRow.holds Try.pinned (OpenSpec.upto addrbookMovesSpec)

end Rows
end Go.Proofs.Ytbimgceighecgaa
