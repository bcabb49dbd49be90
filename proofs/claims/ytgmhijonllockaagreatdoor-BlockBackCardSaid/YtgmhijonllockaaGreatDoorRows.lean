/-
  NARROWER THAN 'FOR EVERY INPUT', by the rows' own cells (each row's printed sentence says how): BlockEncodes: laid · BlockChecks: laid · BlockMade: laid · BlockMutants: laid · BlockHeaders: laid · BlockDecodes: laid · BlockSpoilt: laid · BlockBack: laid.
  DERIVED. THE GIVEN ROWS OF THIS SEAT. 8 by the template 'for every input the law returns true; each argument reads behind the call as it read before'; 0 by the template 'total and deterministic' (their statements: YtgmhijonllockaaGreatDoorTotals.lean).
  GIVEN WITH THE SEED: the statements are not yours to turn. If you find one false, say at which input.
  Laid BY PROGRAM, IN A SANDBOX (cutbox-rows.mjs): the forced cells as the released guide's own fill.sh prints them over the translation 2ccfa4231e0922bf… (all of the seat's roots in one cut). By AI agents, Wed Nov 11 2026. No macro, syntax, notation, axiom, sorry.
-/
import Derived.Test.YtgmhijonllockaaGreatDoorChecked
import GoSem.Claim
import GoSem.ClaimJoined
import GoSem.ClaimMapViews
import Derived.JoinedTies
import Derived.KernelRfl
namespace Go.Proofs.YtgmhijonllockaaGreatDoor
/- THE CELL 'sum', in the pinned program and in every row, IS THE sha256 OF THE DUMP (.gsa) THAT YtgmhijonllockaaGreatDoorProg.lean LOADS. Nothing in Lean hashes anything: it is a label: what it is worth is what the hold of that sum in a sandbox is worth. -/
noncomputable def Tryz.pinned : Pinned := { name := "ytgmhijonllockaagreatdoor", sum := "2ccfa4231e0922bf4d9c658652ce99de877c1b0c3a100f37749e4dbe8ebb48bb", checked := Tryz.checked }
namespace Rows
def none {H : Type} : Left H := { results := [], args := [] }

/- WHAT THE LISTED PACKAGE-LEVEL VARIABLES READ AS WHEN THE CALL BEGINS. Each datum BY PROGRAM (the guide's laid-datum.mjs) off the statement by which the dump's own 'gosem.cut.vars' lays the variable. In a bare row this is a premise. The card (YtgmhijonllockaaGreatDoorCards.lean) ties it to the program's text. -/
def laid_lightclient_sha_k {H : Type} : DataW H := .agg [.lit (.int .u32 1116352408), .lit (.int .u32 1899447441), .lit (.int .u32 3049323471), .lit (.int .u32 3921009573), .lit (.int .u32 961987163), .lit (.int .u32 1508970993), .lit (.int .u32 2453635748), .lit (.int .u32 2870763221), .lit (.int .u32 3624381080), .lit (.int .u32 310598401), .lit (.int .u32 607225278), .lit (.int .u32 1426881987), .lit (.int .u32 1925078388), .lit (.int .u32 2162078206), .lit (.int .u32 2614888103), .lit (.int .u32 3248222580), .lit (.int .u32 3835390401), .lit (.int .u32 4022224774), .lit (.int .u32 264347078), .lit (.int .u32 604807628), .lit (.int .u32 770255983), .lit (.int .u32 1249150122), .lit (.int .u32 1555081692), .lit (.int .u32 1996064986), .lit (.int .u32 2554220882), .lit (.int .u32 2821834349), .lit (.int .u32 2952996808), .lit (.int .u32 3210313671), .lit (.int .u32 3336571891), .lit (.int .u32 3584528711), .lit (.int .u32 113926993), .lit (.int .u32 338241895), .lit (.int .u32 666307205), .lit (.int .u32 773529912), .lit (.int .u32 1294757372), .lit (.int .u32 1396182291), .lit (.int .u32 1695183700), .lit (.int .u32 1986661051), .lit (.int .u32 2177026350), .lit (.int .u32 2456956037), .lit (.int .u32 2730485921), .lit (.int .u32 2820302411), .lit (.int .u32 3259730800), .lit (.int .u32 3345764771), .lit (.int .u32 3516065817), .lit (.int .u32 3600352804), .lit (.int .u32 4094571909), .lit (.int .u32 275423344), .lit (.int .u32 430227734), .lit (.int .u32 506948616), .lit (.int .u32 659060556), .lit (.int .u32 883997877), .lit (.int .u32 958139571), .lit (.int .u32 1322822218), .lit (.int .u32 1537002063), .lit (.int .u32 1747873779), .lit (.int .u32 1955562222), .lit (.int .u32 2024104815), .lit (.int .u32 2227730452), .lit (.int .u32 2361852424), .lit (.int .u32 2428436474), .lit (.int .u32 2756734187), .lit (.int .u32 3204031479), .lit (.int .u32 3329325298)]
def laid_lightclient_sha_initial {H : Type} : DataW H := .agg [.lit (.int .u32 1779033703), .lit (.int .u32 3144134277), .lit (.int .u32 1013904242), .lit (.int .u32 2773480762), .lit (.int .u32 1359893119), .lit (.int .u32 2600822924), .lit (.int .u32 528734635), .lit (.int .u32 1541459225)]

/-- 'lightclientlaw11.BlockEncodes': WHATEVER THE INPUT: true; the input reads as it did. -/
def blockEncodesSpec : ChangeSpec := { name := "blockEncodes", fn := fun _ => fun
  | [d] => { results := [.lit (.bool true)], args := [d] }
  | _ => none }
def blockEncodesRow : OpenClaim := { program := "ytgmhijonllockaagreatdoor", sum := "2ccfa4231e0922bf4d9c658652ce99de877c1b0c3a100f37749e4dbe8ebb48bb", func := "lightclient/lightclientlaw11.BlockEncodes", spec := "blockEncodes", inPlace := ["math/bits.Add64", "math/bits.Sub64"], named := ["lightclient/sha.initial", "lightclient/sha.k"], plainKeys := false, apart := false, laid := [("lightclient/sha.k", laid_lightclient_sha_k), ("lightclient/sha.initial", laid_lightclient_sha_initial)] }
def BlockEncodesSaid : Prop := blockEncodesRow.holds Tryz.pinned (OpenSpec.ofChange blockEncodesSpec)

/-- ITS FALSE NEIGHBOUR: 'it returns false'. Refute it at one input. -/
def blockEncodesWrong : ChangeSpec := { name := "blockEncodes", fn := fun _ => fun
  | [d] => { results := [.lit (.bool false)], args := [d] }
  | _ => none }
def BlockEncodesWrongFalsely : Prop := blockEncodesRow.holds Tryz.pinned (OpenSpec.ofChange blockEncodesWrong)

/-- 'lightclientlaw11.BlockChecks': WHATEVER THE INPUT: true; the input reads as it did. -/
def blockChecksSpec : ChangeSpec := { name := "blockChecks", fn := fun _ => fun
  | [d] => { results := [.lit (.bool true)], args := [d] }
  | _ => none }
def blockChecksRow : OpenClaim := { program := "ytgmhijonllockaagreatdoor", sum := "2ccfa4231e0922bf4d9c658652ce99de877c1b0c3a100f37749e4dbe8ebb48bb", func := "lightclient/lightclientlaw11.BlockChecks", spec := "blockChecks", inPlace := ["math/bits.Add64", "math/bits.Sub64"], named := ["lightclient/sha.initial", "lightclient/sha.k"], plainKeys := false, apart := false, laid := [("lightclient/sha.k", laid_lightclient_sha_k), ("lightclient/sha.initial", laid_lightclient_sha_initial)] }
def BlockChecksSaid : Prop := blockChecksRow.holds Tryz.pinned (OpenSpec.ofChange blockChecksSpec)

/-- ITS FALSE NEIGHBOUR: 'it returns false'. Refute it at one input. -/
def blockChecksWrong : ChangeSpec := { name := "blockChecks", fn := fun _ => fun
  | [d] => { results := [.lit (.bool false)], args := [d] }
  | _ => none }
def BlockChecksWrongFalsely : Prop := blockChecksRow.holds Tryz.pinned (OpenSpec.ofChange blockChecksWrong)

/-- 'lightclientlaw11.BlockMade': WHATEVER THE INPUT: true; the input reads as it did. -/
def blockMadeSpec : ChangeSpec := { name := "blockMade", fn := fun _ => fun
  | [d1, d2, d3] => { results := [.lit (.bool true)], args := [d1, d2, d3] }
  | _ => none }
def blockMadeRow : OpenClaim := { program := "ytgmhijonllockaagreatdoor", sum := "2ccfa4231e0922bf4d9c658652ce99de877c1b0c3a100f37749e4dbe8ebb48bb", func := "lightclient/lightclientlaw11.BlockMade", spec := "blockMade", inPlace := ["math/bits.Add64", "math/bits.Sub64"], named := ["lightclient/sha.initial", "lightclient/sha.k"], plainKeys := false, apart := false, laid := [("lightclient/sha.k", laid_lightclient_sha_k), ("lightclient/sha.initial", laid_lightclient_sha_initial)] }
def BlockMadeSaid : Prop := blockMadeRow.holds Tryz.pinned (OpenSpec.ofChange blockMadeSpec)

/-- ITS FALSE NEIGHBOUR: 'it returns false'. Refute it at one input. -/
def blockMadeWrong : ChangeSpec := { name := "blockMade", fn := fun _ => fun
  | [d1, d2, d3] => { results := [.lit (.bool false)], args := [d1, d2, d3] }
  | _ => none }
def BlockMadeWrongFalsely : Prop := blockMadeRow.holds Tryz.pinned (OpenSpec.ofChange blockMadeWrong)

/-- 'lightclientlaw11.BlockMutants': WHATEVER THE INPUT: true; the input reads as it did. -/
def blockMutantsSpec : ChangeSpec := { name := "blockMutants", fn := fun _ => fun
  | [d1, d2, d3, d4, d5] => { results := [.lit (.bool true)], args := [d1, d2, d3, d4, d5] }
  | _ => none }
def blockMutantsRow : OpenClaim := { program := "ytgmhijonllockaagreatdoor", sum := "2ccfa4231e0922bf4d9c658652ce99de877c1b0c3a100f37749e4dbe8ebb48bb", func := "lightclient/lightclientlaw11.BlockMutants", spec := "blockMutants", inPlace := ["math/bits.Add64", "math/bits.Sub64"], named := ["lightclient/sha.initial", "lightclient/sha.k"], plainKeys := false, apart := false, laid := [("lightclient/sha.k", laid_lightclient_sha_k), ("lightclient/sha.initial", laid_lightclient_sha_initial)] }
def BlockMutantsSaid : Prop := blockMutantsRow.holds Tryz.pinned (OpenSpec.ofChange blockMutantsSpec)

/-- ITS FALSE NEIGHBOUR: 'it returns false'. Refute it at one input. -/
def blockMutantsWrong : ChangeSpec := { name := "blockMutants", fn := fun _ => fun
  | [d1, d2, d3, d4, d5] => { results := [.lit (.bool false)], args := [d1, d2, d3, d4, d5] }
  | _ => none }
def BlockMutantsWrongFalsely : Prop := blockMutantsRow.holds Tryz.pinned (OpenSpec.ofChange blockMutantsWrong)

/-- 'lightclientlaw11.BlockHeaders': WHATEVER THE INPUT: true; the input reads as it did. -/
def blockHeadersSpec : ChangeSpec := { name := "blockHeaders", fn := fun _ => fun
  | [d1, d2] => { results := [.lit (.bool true)], args := [d1, d2] }
  | _ => none }
def blockHeadersRow : OpenClaim := { program := "ytgmhijonllockaagreatdoor", sum := "2ccfa4231e0922bf4d9c658652ce99de877c1b0c3a100f37749e4dbe8ebb48bb", func := "lightclient/lightclientlaw11.BlockHeaders", spec := "blockHeaders", inPlace := ["math/bits.Add64", "math/bits.Sub64"], named := ["lightclient/sha.initial", "lightclient/sha.k"], plainKeys := false, apart := false, laid := [("lightclient/sha.k", laid_lightclient_sha_k), ("lightclient/sha.initial", laid_lightclient_sha_initial)] }
def BlockHeadersSaid : Prop := blockHeadersRow.holds Tryz.pinned (OpenSpec.ofChange blockHeadersSpec)

/-- ITS FALSE NEIGHBOUR: 'it returns false'. Refute it at one input. -/
def blockHeadersWrong : ChangeSpec := { name := "blockHeaders", fn := fun _ => fun
  | [d1, d2] => { results := [.lit (.bool false)], args := [d1, d2] }
  | _ => none }
def BlockHeadersWrongFalsely : Prop := blockHeadersRow.holds Tryz.pinned (OpenSpec.ofChange blockHeadersWrong)

/-- 'lightclientlaw11.BlockDecodes': WHATEVER THE INPUT: true; the input reads as it did. -/
def blockDecodesSpec : ChangeSpec := { name := "blockDecodes", fn := fun _ => fun
  | [d] => { results := [.lit (.bool true)], args := [d] }
  | _ => none }
def blockDecodesRow : OpenClaim := { program := "ytgmhijonllockaagreatdoor", sum := "2ccfa4231e0922bf4d9c658652ce99de877c1b0c3a100f37749e4dbe8ebb48bb", func := "lightclient/lightclientlaw11.BlockDecodes", spec := "blockDecodes", inPlace := ["math/bits.Add64", "math/bits.Sub64"], unfollowed := true, recurses := true, named := ["lightclient/sha.initial", "lightclient/sha.k"], plainKeys := false, apart := false, laid := [("lightclient/sha.k", laid_lightclient_sha_k), ("lightclient/sha.initial", laid_lightclient_sha_initial)] }
def BlockDecodesSaid : Prop := blockDecodesRow.holds Tryz.pinned (OpenSpec.ofChange blockDecodesSpec)

/-- ITS FALSE NEIGHBOUR: 'it returns false'. Refute it at one input. -/
def blockDecodesWrong : ChangeSpec := { name := "blockDecodes", fn := fun _ => fun
  | [d] => { results := [.lit (.bool false)], args := [d] }
  | _ => none }
def BlockDecodesWrongFalsely : Prop := blockDecodesRow.holds Tryz.pinned (OpenSpec.ofChange blockDecodesWrong)

/-- 'lightclientlaw11.BlockSpoilt': WHATEVER THE INPUT: true; the input reads as it did. -/
def blockSpoiltSpec : ChangeSpec := { name := "blockSpoilt", fn := fun _ => fun
  | [d1, d2, d3, d4, d5] => { results := [.lit (.bool true)], args := [d1, d2, d3, d4, d5] }
  | _ => none }
def blockSpoiltRow : OpenClaim := { program := "ytgmhijonllockaagreatdoor", sum := "2ccfa4231e0922bf4d9c658652ce99de877c1b0c3a100f37749e4dbe8ebb48bb", func := "lightclient/lightclientlaw11.BlockSpoilt", spec := "blockSpoilt", inPlace := ["math/bits.Add64", "math/bits.Sub64"], unfollowed := true, recurses := true, named := ["lightclient/sha.initial", "lightclient/sha.k"], plainKeys := false, apart := false, laid := [("lightclient/sha.k", laid_lightclient_sha_k), ("lightclient/sha.initial", laid_lightclient_sha_initial)] }
def BlockSpoiltSaid : Prop := blockSpoiltRow.holds Tryz.pinned (OpenSpec.ofChange blockSpoiltSpec)

/-- ITS FALSE NEIGHBOUR: 'it returns false'. Refute it at one input. -/
def blockSpoiltWrong : ChangeSpec := { name := "blockSpoilt", fn := fun _ => fun
  | [d1, d2, d3, d4, d5] => { results := [.lit (.bool false)], args := [d1, d2, d3, d4, d5] }
  | _ => none }
def BlockSpoiltWrongFalsely : Prop := blockSpoiltRow.holds Tryz.pinned (OpenSpec.ofChange blockSpoiltWrong)

/-- 'lightclientlaw11.BlockBack': WHATEVER THE INPUT: true; the input reads as it did. -/
def blockBackSpec : ChangeSpec := { name := "blockBack", fn := fun _ => fun
  | [d1, d2] => { results := [.lit (.bool true)], args := [d1, d2] }
  | _ => none }
def blockBackRow : OpenClaim := { program := "ytgmhijonllockaagreatdoor", sum := "2ccfa4231e0922bf4d9c658652ce99de877c1b0c3a100f37749e4dbe8ebb48bb", func := "lightclient/lightclientlaw11.BlockBack", spec := "blockBack", inPlace := ["math/bits.Add64", "math/bits.Sub64"], unfollowed := true, recurses := true, named := ["lightclient/sha.initial", "lightclient/sha.k"], plainKeys := false, apart := false, laid := [("lightclient/sha.k", laid_lightclient_sha_k), ("lightclient/sha.initial", laid_lightclient_sha_initial)] }
def BlockBackSaid : Prop := blockBackRow.holds Tryz.pinned (OpenSpec.ofChange blockBackSpec)

/-- ITS FALSE NEIGHBOUR: 'it returns false'. Refute it at one input. -/
def blockBackWrong : ChangeSpec := { name := "blockBack", fn := fun _ => fun
  | [d1, d2] => { results := [.lit (.bool false)], args := [d1, d2] }
  | _ => none }
def BlockBackWrongFalsely : Prop := blockBackRow.holds Tryz.pinned (OpenSpec.ofChange blockBackWrong)

/- THE SECOND FORM. 'bulk': how many values and letters a reading holds, each counted each time it is reached (what is shared counts as often as it is met; a slice's spare places count too). A statement '..UptoSaid' is the law's where the arguments, and the package variables that the reading takes, are together of bulk at most 1048576: NARROWER than '..Said'. Prove '..Said' where nothing that the law and all that it calls make is longer than what came in: it says more and counts as full. Else prove '..UptoSaid'. A law counts once. -/
mutual
def uptoBulk {H : Type} : DataW H → Nat
  | .lit (.string bytes) => bytes.length + 1
  | .lit _ => 1
  | .nil => 1
  | .ptr d => uptoBulk d + 1
  | .slice elems spare => uptoBulkAll elems + uptoBulkAll spare + 1
  | .agg parts => uptoBulkAll parts + 1
  | .iface _ d => uptoBulk d + 1
  | .map entries => uptoBulkEntries entries + 1
  | .held _ => 1
def uptoBulkAll {H : Type} : List (DataW H) → Nat
  | [] => 0
  | d :: r => uptoBulk d + uptoBulkAll r
def uptoBulkEntries {H : Type} : List (Lit × DataW H) → Nat
  | [] => 0
  | x :: r => uptoBulkEntry x + uptoBulkEntries r
def uptoBulkEntry {H : Type} : Lit × DataW H → Nat
  | (.string bytes, d) => bytes.length + uptoBulk d + 1
  | (_, d) => uptoBulk d + 1
 end
def uptoSmall : (H : Type) → List (DataW H) → Bool := fun _ ds => decide (uptoBulkAll ds ≤ 1048576)
def OpenSpec.upto (s : _root_.Go.ChangeSpec) : _root_.Go.OpenSpec := { _root_.Go.OpenSpec.ofChange s with cond := some uptoSmall }

/-- 'lightclientlaw11.BlockEncodes', WHERE WHAT IT READS IS OF BULK AT MOST 1048576: true; the input reads as it did. -/
def blockEncodesUptoRow : OpenClaim := { program := "ytgmhijonllockaagreatdoor", sum := "2ccfa4231e0922bf4d9c658652ce99de877c1b0c3a100f37749e4dbe8ebb48bb", func := "lightclient/lightclientlaw11.BlockEncodes", spec := "blockEncodes", inPlace := ["math/bits.Add64", "math/bits.Sub64"], named := ["lightclient/sha.initial", "lightclient/sha.k"], plainKeys := false, apart := false, laid := [("lightclient/sha.k", laid_lightclient_sha_k), ("lightclient/sha.initial", laid_lightclient_sha_initial)], narrowed := true }
def BlockEncodesUptoSaid : Prop := blockEncodesUptoRow.holds Tryz.pinned (OpenSpec.upto blockEncodesSpec)

/-- 'lightclientlaw11.BlockChecks', WHERE WHAT IT READS IS OF BULK AT MOST 1048576: true; the input reads as it did. -/
def blockChecksUptoRow : OpenClaim := { program := "ytgmhijonllockaagreatdoor", sum := "2ccfa4231e0922bf4d9c658652ce99de877c1b0c3a100f37749e4dbe8ebb48bb", func := "lightclient/lightclientlaw11.BlockChecks", spec := "blockChecks", inPlace := ["math/bits.Add64", "math/bits.Sub64"], named := ["lightclient/sha.initial", "lightclient/sha.k"], plainKeys := false, apart := false, laid := [("lightclient/sha.k", laid_lightclient_sha_k), ("lightclient/sha.initial", laid_lightclient_sha_initial)], narrowed := true }
def BlockChecksUptoSaid : Prop := blockChecksUptoRow.holds Tryz.pinned (OpenSpec.upto blockChecksSpec)

/-- 'lightclientlaw11.BlockMade', WHERE WHAT IT READS IS OF BULK AT MOST 1048576: true; the input reads as it did. -/
def blockMadeUptoRow : OpenClaim := { program := "ytgmhijonllockaagreatdoor", sum := "2ccfa4231e0922bf4d9c658652ce99de877c1b0c3a100f37749e4dbe8ebb48bb", func := "lightclient/lightclientlaw11.BlockMade", spec := "blockMade", inPlace := ["math/bits.Add64", "math/bits.Sub64"], named := ["lightclient/sha.initial", "lightclient/sha.k"], plainKeys := false, apart := false, laid := [("lightclient/sha.k", laid_lightclient_sha_k), ("lightclient/sha.initial", laid_lightclient_sha_initial)], narrowed := true }
def BlockMadeUptoSaid : Prop := blockMadeUptoRow.holds Tryz.pinned (OpenSpec.upto blockMadeSpec)

/-- 'lightclientlaw11.BlockMutants', WHERE WHAT IT READS IS OF BULK AT MOST 1048576: true; the input reads as it did. -/
def blockMutantsUptoRow : OpenClaim := { program := "ytgmhijonllockaagreatdoor", sum := "2ccfa4231e0922bf4d9c658652ce99de877c1b0c3a100f37749e4dbe8ebb48bb", func := "lightclient/lightclientlaw11.BlockMutants", spec := "blockMutants", inPlace := ["math/bits.Add64", "math/bits.Sub64"], named := ["lightclient/sha.initial", "lightclient/sha.k"], plainKeys := false, apart := false, laid := [("lightclient/sha.k", laid_lightclient_sha_k), ("lightclient/sha.initial", laid_lightclient_sha_initial)], narrowed := true }
def BlockMutantsUptoSaid : Prop := blockMutantsUptoRow.holds Tryz.pinned (OpenSpec.upto blockMutantsSpec)

/-- 'lightclientlaw11.BlockHeaders', WHERE WHAT IT READS IS OF BULK AT MOST 1048576: true; the input reads as it did. -/
def blockHeadersUptoRow : OpenClaim := { program := "ytgmhijonllockaagreatdoor", sum := "2ccfa4231e0922bf4d9c658652ce99de877c1b0c3a100f37749e4dbe8ebb48bb", func := "lightclient/lightclientlaw11.BlockHeaders", spec := "blockHeaders", inPlace := ["math/bits.Add64", "math/bits.Sub64"], named := ["lightclient/sha.initial", "lightclient/sha.k"], plainKeys := false, apart := false, laid := [("lightclient/sha.k", laid_lightclient_sha_k), ("lightclient/sha.initial", laid_lightclient_sha_initial)], narrowed := true }
def BlockHeadersUptoSaid : Prop := blockHeadersUptoRow.holds Tryz.pinned (OpenSpec.upto blockHeadersSpec)

/-- 'lightclientlaw11.BlockDecodes', WHERE WHAT IT READS IS OF BULK AT MOST 1048576: true; the input reads as it did. -/
def blockDecodesUptoRow : OpenClaim := { program := "ytgmhijonllockaagreatdoor", sum := "2ccfa4231e0922bf4d9c658652ce99de877c1b0c3a100f37749e4dbe8ebb48bb", func := "lightclient/lightclientlaw11.BlockDecodes", spec := "blockDecodes", inPlace := ["math/bits.Add64", "math/bits.Sub64"], unfollowed := true, recurses := true, named := ["lightclient/sha.initial", "lightclient/sha.k"], plainKeys := false, apart := false, laid := [("lightclient/sha.k", laid_lightclient_sha_k), ("lightclient/sha.initial", laid_lightclient_sha_initial)], narrowed := true }
def BlockDecodesUptoSaid : Prop := blockDecodesUptoRow.holds Tryz.pinned (OpenSpec.upto blockDecodesSpec)

/-- 'lightclientlaw11.BlockSpoilt', WHERE WHAT IT READS IS OF BULK AT MOST 1048576: true; the input reads as it did. -/
def blockSpoiltUptoRow : OpenClaim := { program := "ytgmhijonllockaagreatdoor", sum := "2ccfa4231e0922bf4d9c658652ce99de877c1b0c3a100f37749e4dbe8ebb48bb", func := "lightclient/lightclientlaw11.BlockSpoilt", spec := "blockSpoilt", inPlace := ["math/bits.Add64", "math/bits.Sub64"], unfollowed := true, recurses := true, named := ["lightclient/sha.initial", "lightclient/sha.k"], plainKeys := false, apart := false, laid := [("lightclient/sha.k", laid_lightclient_sha_k), ("lightclient/sha.initial", laid_lightclient_sha_initial)], narrowed := true }
def BlockSpoiltUptoSaid : Prop := blockSpoiltUptoRow.holds Tryz.pinned (OpenSpec.upto blockSpoiltSpec)

/-- 'lightclientlaw11.BlockBack', WHERE WHAT IT READS IS OF BULK AT MOST 1048576: true; the input reads as it did. -/
def blockBackUptoRow : OpenClaim := { program := "ytgmhijonllockaagreatdoor", sum := "2ccfa4231e0922bf4d9c658652ce99de877c1b0c3a100f37749e4dbe8ebb48bb", func := "lightclient/lightclientlaw11.BlockBack", spec := "blockBack", inPlace := ["math/bits.Add64", "math/bits.Sub64"], unfollowed := true, recurses := true, named := ["lightclient/sha.initial", "lightclient/sha.k"], plainKeys := false, apart := false, laid := [("lightclient/sha.k", laid_lightclient_sha_k), ("lightclient/sha.initial", laid_lightclient_sha_initial)], narrowed := true }
def BlockBackUptoSaid : Prop := blockBackUptoRow.holds Tryz.pinned (OpenSpec.upto blockBackSpec)

end Rows
end Go.Proofs.YtgmhijonllockaaGreatDoor
