/-
  No cell of these rows narrows 'for every input' (looked for: loops, veiled, ifaces, maps, wideKeys, modest, calm, conditions, laid).
  DERIVED. THE GIVEN ROWS OF THIS SEAT. 5 by the template 'for every input the law returns true; each argument reads behind the call as it read before'; 0 by the template 'total and deterministic' (their statements: YthplooifbkopgaaTotals.lean).
  GIVEN WITH THE SEED: the statements are not yours to turn. If you find one false, say at which input.
  Laid BY PROGRAM, IN A SANDBOX (cutbox-rows.mjs): the forced cells as the released guide's own fill.sh prints them over the translation 063d05abbb34fef8… (all of the seat's roots in one cut). By AI agents, Wed Nov 11 2026. No macro, syntax, notation, axiom, sorry.
-/
import Derived.Test.YthplooifbkopgaaChecked
import GoSem.Claim
import GoSem.ClaimJoined
import GoSem.ClaimMapViews
import Derived.JoinedTies
import Derived.KernelRfl
namespace Go.Proofs.Ythplooifbkopgaa
/- THE CELL 'sum', in the pinned program and in every row, IS THE sha256 OF THE DUMP (.gsa) THAT YthplooifbkopgaaProg.lean LOADS. Nothing in Lean hashes anything: it is a label: what it is worth is what the hold of that sum in a sandbox is worth. -/
noncomputable def Try.pinned : Pinned := { name := "ythplooifbkopgaa", sum := "063d05abbb34fef8cb9d834bf351bebc469ac2f05bdaf793dfc7e4dc4f761ec4", checked := Try.checked }
namespace Rows
def none {H : Type} : Left H := { results := [], args := [] }

/-- 'lightclientlaw33.FeesClasses': WHATEVER THE INPUT: true; the input reads as it did. -/
def feesClassesSpec : ChangeSpec := { name := "feesClasses", fn := fun _ => fun
  | [d1, d2, d3, d4] => { results := [.lit (.bool true)], args := [d1, d2, d3, d4] }
  | _ => none }
def feesClassesRow : OpenClaim := { program := "ythplooifbkopgaa", sum := "063d05abbb34fef8cb9d834bf351bebc469ac2f05bdaf793dfc7e4dc4f761ec4", func := "lightclient/lightclientlaw33.FeesClasses", spec := "feesClasses", apart := false }
def FeesClassesSaid : Prop := feesClassesRow.holds Try.pinned (OpenSpec.ofChange feesClassesSpec)

/-- ITS FALSE NEIGHBOUR: 'it returns false'. Refute it at one input. -/
def feesClassesWrong : ChangeSpec := { name := "feesClasses", fn := fun _ => fun
  | [d1, d2, d3, d4] => { results := [.lit (.bool false)], args := [d1, d2, d3, d4] }
  | _ => none }
def FeesClassesWrongFalsely : Prop := feesClassesRow.holds Try.pinned (OpenSpec.ofChange feesClassesWrong)

/-- 'lightclientlaw33.FeesEstimates': WHATEVER THE INPUT: true; the input reads as it did. -/
def feesEstimatesSpec : ChangeSpec := { name := "feesEstimates", fn := fun _ => fun
  | [d1, d2, d3, d4, d5, d6, d7] => { results := [.lit (.bool true)], args := [d1, d2, d3, d4, d5, d6, d7] }
  | _ => none }
def feesEstimatesRow : OpenClaim := { program := "ythplooifbkopgaa", sum := "063d05abbb34fef8cb9d834bf351bebc469ac2f05bdaf793dfc7e4dc4f761ec4", func := "lightclient/lightclientlaw33.FeesEstimates", spec := "feesEstimates", apart := false }
def FeesEstimatesSaid : Prop := feesEstimatesRow.holds Try.pinned (OpenSpec.ofChange feesEstimatesSpec)

/-- ITS FALSE NEIGHBOUR: 'it returns false'. Refute it at one input. -/
def feesEstimatesWrong : ChangeSpec := { name := "feesEstimates", fn := fun _ => fun
  | [d1, d2, d3, d4, d5, d6, d7] => { results := [.lit (.bool false)], args := [d1, d2, d3, d4, d5, d6, d7] }
  | _ => none }
def FeesEstimatesWrongFalsely : Prop := feesEstimatesRow.holds Try.pinned (OpenSpec.ofChange feesEstimatesWrong)

/-- 'lightclientlaw33.FeesOrder': WHATEVER THE INPUT: true; the input reads as it did. -/
def feesOrderSpec : ChangeSpec := { name := "feesOrder", fn := fun _ => fun
  | [d1, d2, d3, d4, d5, d6] => { results := [.lit (.bool true)], args := [d1, d2, d3, d4, d5, d6] }
  | _ => none }
def feesOrderRow : OpenClaim := { program := "ythplooifbkopgaa", sum := "063d05abbb34fef8cb9d834bf351bebc469ac2f05bdaf793dfc7e4dc4f761ec4", func := "lightclient/lightclientlaw33.FeesOrder", spec := "feesOrder", apart := false }
def FeesOrderSaid : Prop := feesOrderRow.holds Try.pinned (OpenSpec.ofChange feesOrderSpec)

/-- ITS FALSE NEIGHBOUR: 'it returns false'. Refute it at one input. -/
def feesOrderWrong : ChangeSpec := { name := "feesOrder", fn := fun _ => fun
  | [d1, d2, d3, d4, d5, d6] => { results := [.lit (.bool false)], args := [d1, d2, d3, d4, d5, d6] }
  | _ => none }
def FeesOrderWrongFalsely : Prop := feesOrderRow.holds Try.pinned (OpenSpec.ofChange feesOrderWrong)

/-- 'lightclientlaw33.FeesUndone': WHATEVER THE INPUT: true; the input reads as it did. -/
def feesUndoneSpec : ChangeSpec := { name := "feesUndone", fn := fun _ => fun
  | [d1, d2] => { results := [.lit (.bool true)], args := [d1, d2] }
  | _ => none }
def feesUndoneRow : OpenClaim := { program := "ythplooifbkopgaa", sum := "063d05abbb34fef8cb9d834bf351bebc469ac2f05bdaf793dfc7e4dc4f761ec4", func := "lightclient/lightclientlaw33.FeesUndone", spec := "feesUndone", unfollowed := true, recurses := true, apart := false }
def FeesUndoneSaid : Prop := feesUndoneRow.holds Try.pinned (OpenSpec.ofChange feesUndoneSpec)

/-- ITS FALSE NEIGHBOUR: 'it returns false'. Refute it at one input. -/
def feesUndoneWrong : ChangeSpec := { name := "feesUndone", fn := fun _ => fun
  | [d1, d2] => { results := [.lit (.bool false)], args := [d1, d2] }
  | _ => none }
def FeesUndoneWrongFalsely : Prop := feesUndoneRow.holds Try.pinned (OpenSpec.ofChange feesUndoneWrong)

/-- 'lightclientlaw33.FeesObserves': WHATEVER THE INPUT: true; the input reads as it did. -/
def feesObservesSpec : ChangeSpec := { name := "feesObserves", fn := fun _ => fun
  | [d1, d2, d3] => { results := [.lit (.bool true)], args := [d1, d2, d3] }
  | _ => none }
def feesObservesRow : OpenClaim := { program := "ythplooifbkopgaa", sum := "063d05abbb34fef8cb9d834bf351bebc469ac2f05bdaf793dfc7e4dc4f761ec4", func := "lightclient/lightclientlaw33.FeesObserves", spec := "feesObserves", unfollowed := true, recurses := true, apart := false }
def FeesObservesSaid : Prop := feesObservesRow.holds Try.pinned (OpenSpec.ofChange feesObservesSpec)

/-- ITS FALSE NEIGHBOUR: 'it returns false'. Refute it at one input. -/
def feesObservesWrong : ChangeSpec := { name := "feesObserves", fn := fun _ => fun
  | [d1, d2, d3] => { results := [.lit (.bool false)], args := [d1, d2, d3] }
  | _ => none }
def FeesObservesWrongFalsely : Prop := feesObservesRow.holds Try.pinned (OpenSpec.ofChange feesObservesWrong)

/- THE SECOND FORM. 'bulk': how many values and letters a reading holds, each counted each time it is reached (what is shared counts as often as it is met; a slice's spare places count too). A statement '..UptoSaid' is the law's where the arguments, and the package variables that the reading takes, are together of bulk at most 1048576: NARROWER than '..Said'. Prove '..Said' where nothing that the law and all that it calls make is longer than what came in: it says more and counts as full. Else prove '..UptoSaid'. A law counts once. -/
mutual
def uptoBulk {H : Type} : DataW H → Nat
  | .lit (.string bytes) => bytes.length + 1
  | .lit _ => 1
  | .nil => 1
  | .ptr d => uptoBulk d + 1
  | .slice elems spare => uptoBulkAll elems + uptoBulkAll spare + 1
  | .agg parts => uptoBulkAll parts + 1
  | .iface _ d => uptoBulk d + 1
  | .map entries => uptoBulkEntries entries + 1
  | .held _ => 1
def uptoBulkAll {H : Type} : List (DataW H) → Nat
  | [] => 0
  | d :: r => uptoBulk d + uptoBulkAll r
def uptoBulkEntries {H : Type} : List (Lit × DataW H) → Nat
  | [] => 0
  | x :: r => uptoBulkEntry x + uptoBulkEntries r
def uptoBulkEntry {H : Type} : Lit × DataW H → Nat
  | (.string bytes, d) => bytes.length + uptoBulk d + 1
  | (_, d) => uptoBulk d + 1
 end
def uptoSmall : (H : Type) → List (DataW H) → Bool := fun _ ds => decide (uptoBulkAll ds ≤ 1048576)
def OpenSpec.upto (s : _root_.Go.ChangeSpec) : _root_.Go.OpenSpec := { _root_.Go.OpenSpec.ofChange s with cond := some uptoSmall }

/-- 'lightclientlaw33.FeesClasses', WHERE WHAT IT READS IS OF BULK AT MOST 1048576: true; the input reads as it did. -/
def feesClassesUptoRow : OpenClaim := { program := "ythplooifbkopgaa", sum := "063d05abbb34fef8cb9d834bf351bebc469ac2f05bdaf793dfc7e4dc4f761ec4", func := "lightclient/lightclientlaw33.FeesClasses", spec := "feesClasses", apart := false, narrowed := true }
def FeesClassesUptoSaid : Prop := feesClassesUptoRow.holds Try.pinned (OpenSpec.upto feesClassesSpec)

/-- 'lightclientlaw33.FeesEstimates', WHERE WHAT IT READS IS OF BULK AT MOST 1048576: true; the input reads as it did. -/
def feesEstimatesUptoRow : OpenClaim := { program := "ythplooifbkopgaa", sum := "063d05abbb34fef8cb9d834bf351bebc469ac2f05bdaf793dfc7e4dc4f761ec4", func := "lightclient/lightclientlaw33.FeesEstimates", spec := "feesEstimates", apart := false, narrowed := true }
def FeesEstimatesUptoSaid : Prop := feesEstimatesUptoRow.holds Try.pinned (OpenSpec.upto feesEstimatesSpec)

/-- 'lightclientlaw33.FeesOrder', WHERE WHAT IT READS IS OF BULK AT MOST 1048576: true; the input reads as it did. -/
def feesOrderUptoRow : OpenClaim := { program := "ythplooifbkopgaa", sum := "063d05abbb34fef8cb9d834bf351bebc469ac2f05bdaf793dfc7e4dc4f761ec4", func := "lightclient/lightclientlaw33.FeesOrder", spec := "feesOrder", apart := false, narrowed := true }
def FeesOrderUptoSaid : Prop := feesOrderUptoRow.holds Try.pinned (OpenSpec.upto feesOrderSpec)

/-- 'lightclientlaw33.FeesUndone', WHERE WHAT IT READS IS OF BULK AT MOST 1048576: true; the input reads as it did. -/
def feesUndoneUptoRow : OpenClaim := { program := "ythplooifbkopgaa", sum := "063d05abbb34fef8cb9d834bf351bebc469ac2f05bdaf793dfc7e4dc4f761ec4", func := "lightclient/lightclientlaw33.FeesUndone", spec := "feesUndone", unfollowed := true, recurses := true, apart := false, narrowed := true }
def FeesUndoneUptoSaid : Prop := feesUndoneUptoRow.holds Try.pinned (OpenSpec.upto feesUndoneSpec)

/-- 'lightclientlaw33.FeesObserves', WHERE WHAT IT READS IS OF BULK AT MOST 1048576: true; the input reads as it did. -/
def feesObservesUptoRow : OpenClaim := { program := "ythplooifbkopgaa", sum := "063d05abbb34fef8cb9d834bf351bebc469ac2f05bdaf793dfc7e4dc4f761ec4", func := "lightclient/lightclientlaw33.FeesObserves", spec := "feesObserves", unfollowed := true, recurses := true, apart := false, narrowed := true }
def FeesObservesUptoSaid : Prop := feesObservesUptoRow.holds Try.pinned (OpenSpec.upto feesObservesSpec)

end Rows
end Go.Proofs.Ythplooifbkopgaa
