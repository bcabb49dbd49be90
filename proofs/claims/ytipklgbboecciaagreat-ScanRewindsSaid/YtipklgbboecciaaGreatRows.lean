/-
  No cell of these rows narrows 'for every input' (looked for: loops, veiled, ifaces, maps, wideKeys, modest, calm, conditions, laid).
  DERIVED. THE GIVEN ROWS OF THIS SEAT. 3 by the template 'for every input the law returns true; each argument reads behind the call as it read before'; 0 by the template 'total and deterministic' (their statements: YtipklgbboecciaaGreatTotals.lean).
  GIVEN WITH THE SEED: the statements are not yours to turn. If you find one false, say at which input.
  Laid BY PROGRAM, IN A SANDBOX (cutbox-rows.mjs): the forced cells as the released guide's own fill.sh prints them over the translation 3ef191214ac8725d… (all of the seat's roots in one cut). By AI agents, Wed Nov 11 2026. No macro, syntax, notation, axiom, sorry.
-/
import Derived.Test.YtipklgbboecciaaGreatChecked
import GoSem.Claim
import GoSem.ClaimJoined
import GoSem.ClaimMapViews
import Derived.JoinedTies
import Derived.KernelRfl
namespace Go.Proofs.YtipklgbboecciaaGreat
/- THE CELL 'sum', in the pinned program and in every row, IS THE sha256 OF THE DUMP (.gsa) THAT YtipklgbboecciaaGreatProg.lean LOADS. Nothing in Lean hashes anything: it is a label: what it is worth is what the hold of that sum in a sandbox is worth. -/
noncomputable def Tryz.pinned : Pinned := { name := "ytipklgbboecciaagreat", sum := "3ef191214ac8725dc550799d4c8575a84183469fa3e194455cd2837343572122", checked := Tryz.checked }
namespace Rows
def none {H : Type} : Left H := { results := [], args := [] }

/-- 'lightclientlaw30.ScanAdds': WHATEVER THE INPUT: true; the input reads as it did. -/
def scanAddsSpec : ChangeSpec := { name := "scanAdds", fn := fun _ => fun
  | [d1, d2, d3, d4, d5] => { results := [.lit (.bool true)], args := [d1, d2, d3, d4, d5] }
  | _ => none }
def scanAddsRow : OpenClaim := { program := "ytipklgbboecciaagreat", sum := "3ef191214ac8725dc550799d4c8575a84183469fa3e194455cd2837343572122", func := "lightclient/lightclientlaw30.ScanAdds", spec := "scanAdds", inPlace := ["internal/bytealg.Compare", "math/bits.Add64", "math/bits.Sub64"], unfollowed := true, recurses := true, apart := false }
def ScanAddsSaid : Prop := scanAddsRow.holds Tryz.pinned (OpenSpec.ofChange scanAddsSpec)

/-- ITS FALSE NEIGHBOUR: 'it returns false'. Refute it at one input. -/
def scanAddsWrong : ChangeSpec := { name := "scanAdds", fn := fun _ => fun
  | [d1, d2, d3, d4, d5] => { results := [.lit (.bool false)], args := [d1, d2, d3, d4, d5] }
  | _ => none }
def ScanAddsWrongFalsely : Prop := scanAddsRow.holds Tryz.pinned (OpenSpec.ofChange scanAddsWrong)

/-- 'lightclientlaw30.ScanNext': WHATEVER THE INPUT: true; the input reads as it did. -/
def scanNextSpec : ChangeSpec := { name := "scanNext", fn := fun _ => fun
  | [d1, d2] => { results := [.lit (.bool true)], args := [d1, d2] }
  | _ => none }
def scanNextRow : OpenClaim := { program := "ytipklgbboecciaagreat", sum := "3ef191214ac8725dc550799d4c8575a84183469fa3e194455cd2837343572122", func := "lightclient/lightclientlaw30.ScanNext", spec := "scanNext", inPlace := ["internal/bytealg.Compare", "math/bits.Add64", "math/bits.Sub64"], unfollowed := true, recurses := true, apart := false }
def ScanNextSaid : Prop := scanNextRow.holds Tryz.pinned (OpenSpec.ofChange scanNextSpec)

/-- ITS FALSE NEIGHBOUR: 'it returns false'. Refute it at one input. -/
def scanNextWrong : ChangeSpec := { name := "scanNext", fn := fun _ => fun
  | [d1, d2] => { results := [.lit (.bool false)], args := [d1, d2] }
  | _ => none }
def ScanNextWrongFalsely : Prop := scanNextRow.holds Tryz.pinned (OpenSpec.ofChange scanNextWrong)

/-- 'lightclientlaw30.ScanRewinds': WHATEVER THE INPUT: true; the input reads as it did. -/
def scanRewindsSpec : ChangeSpec := { name := "scanRewinds", fn := fun _ => fun
  | [d1, d2, d3, d4] => { results := [.lit (.bool true)], args := [d1, d2, d3, d4] }
  | _ => none }
def scanRewindsRow : OpenClaim := { program := "ytipklgbboecciaagreat", sum := "3ef191214ac8725dc550799d4c8575a84183469fa3e194455cd2837343572122", func := "lightclient/lightclientlaw30.ScanRewinds", spec := "scanRewinds", inPlace := ["internal/bytealg.Compare", "math/bits.Add64", "math/bits.Sub64"], unfollowed := true, recurses := true, apart := false }
def ScanRewindsSaid : Prop := scanRewindsRow.holds Tryz.pinned (OpenSpec.ofChange scanRewindsSpec)

/-- ITS FALSE NEIGHBOUR: 'it returns false'. Refute it at one input. -/
def scanRewindsWrong : ChangeSpec := { name := "scanRewinds", fn := fun _ => fun
  | [d1, d2, d3, d4] => { results := [.lit (.bool false)], args := [d1, d2, d3, d4] }
  | _ => none }
def ScanRewindsWrongFalsely : Prop := scanRewindsRow.holds Tryz.pinned (OpenSpec.ofChange scanRewindsWrong)

/- THE SECOND FORM. 'bulk': how many values and letters a reading holds, each counted each time it is reached (what is shared counts as often as it is met; a slice's spare places count too). A statement '..UptoSaid' is the law's where the arguments, and the package variables that the reading takes, are together of bulk at most 1048576: NARROWER than '..Said'. Prove '..Said' where nothing that the law and all that it calls make is longer than what came in: it says more and counts as full. Else prove '..UptoSaid'. A law counts once. -/
mutual
def uptoBulk {H : Type} : DataW H → Nat
  | .lit (.string bytes) => bytes.length + 1
  | .lit _ => 1
  | .nil => 1
  | .ptr d => uptoBulk d + 1
  | .slice elems spare => uptoBulkAll elems + uptoBulkAll spare + 1
  | .agg parts => uptoBulkAll parts + 1
  | .iface _ d => uptoBulk d + 1
  | .map entries => uptoBulkEntries entries + 1
  | .held _ => 1
def uptoBulkAll {H : Type} : List (DataW H) → Nat
  | [] => 0
  | d :: r => uptoBulk d + uptoBulkAll r
def uptoBulkEntries {H : Type} : List (Lit × DataW H) → Nat
  | [] => 0
  | x :: r => uptoBulkEntry x + uptoBulkEntries r
def uptoBulkEntry {H : Type} : Lit × DataW H → Nat
  | (.string bytes, d) => bytes.length + uptoBulk d + 1
  | (_, d) => uptoBulk d + 1
 end
def uptoSmall : (H : Type) → List (DataW H) → Bool := fun _ ds => decide (uptoBulkAll ds ≤ 1048576)
def OpenSpec.upto (s : _root_.Go.ChangeSpec) : _root_.Go.OpenSpec := { _root_.Go.OpenSpec.ofChange s with cond := some uptoSmall }

/-- 'lightclientlaw30.ScanAdds', WHERE WHAT IT READS IS OF BULK AT MOST 1048576: true; the input reads as it did. -/
def scanAddsUptoRow : OpenClaim := { program := "ytipklgbboecciaagreat", sum := "3ef191214ac8725dc550799d4c8575a84183469fa3e194455cd2837343572122", func := "lightclient/lightclientlaw30.ScanAdds", spec := "scanAdds", inPlace := ["internal/bytealg.Compare", "math/bits.Add64", "math/bits.Sub64"], unfollowed := true, recurses := true, apart := false, narrowed := true }
def ScanAddsUptoSaid : Prop := scanAddsUptoRow.holds Tryz.pinned (OpenSpec.upto scanAddsSpec)

/-- 'lightclientlaw30.ScanNext', WHERE WHAT IT READS IS OF BULK AT MOST 1048576: true; the input reads as it did. -/
def scanNextUptoRow : OpenClaim := { program := "ytipklgbboecciaagreat", sum := "3ef191214ac8725dc550799d4c8575a84183469fa3e194455cd2837343572122", func := "lightclient/lightclientlaw30.ScanNext", spec := "scanNext", inPlace := ["internal/bytealg.Compare", "math/bits.Add64", "math/bits.Sub64"], unfollowed := true, recurses := true, apart := false, narrowed := true }
def ScanNextUptoSaid : Prop := scanNextUptoRow.holds Tryz.pinned (OpenSpec.upto scanNextSpec)

/-- 'lightclientlaw30.ScanRewinds', WHERE WHAT IT READS IS OF BULK AT MOST 1048576: true; the input reads as it did. -/
def scanRewindsUptoRow : OpenClaim := { program := "ytipklgbboecciaagreat", sum := "3ef191214ac8725dc550799d4c8575a84183469fa3e194455cd2837343572122", func := "lightclient/lightclientlaw30.ScanRewinds", spec := "scanRewinds", inPlace := ["internal/bytealg.Compare", "math/bits.Add64", "math/bits.Sub64"], unfollowed := true, recurses := true, apart := false, narrowed := true }
def ScanRewindsUptoSaid : Prop := scanRewindsUptoRow.holds Tryz.pinned (OpenSpec.upto scanRewindsSpec)

end Rows
end Go.Proofs.YtipklgbboecciaaGreat
