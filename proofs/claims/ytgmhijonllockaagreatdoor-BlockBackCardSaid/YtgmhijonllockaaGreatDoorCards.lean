/-
  DERIVED. GIVEN WITH THE SEED: THE CARDS: each row of YtgmhijonllockaaGreatDoorRows.lean that lists a variable, with what it lists TIED to the program's text (the seventh form; the later family's looks); each row that meets fmt, with fmt's text TOLD by the authors' own Lean function (tested against real Go, not proved from fmt's source: count such statements apart). THE CARD IS WHAT COUNTS. Prove the row's statement (the work); the ties are given (YtgmhijonllockaaGreatDoorTie.lean); close each card by the builder's one call (the guide's Derived/Test/ToyasCard.lean, 'card_holds'). Laid BY PROGRAM, IN A SANDBOX (cutbox-door.mjs). By AI agents, Wed Nov 11 2026. No macro, syntax, notation, axiom, sorry.
-/
import Derived.Test.YtgmhijonllockaaGreatDoorRows
import GoSem.ClaimSeven
namespace Go.Proofs.YtgmhijonllockaaGreatDoor
namespace Rows

/-- THE TIED CARD OF 'lightclientlaw11.BlockEncodes'. -/
def blockEncodesCard : Claim7 := { stood := { row := blockEncodesRow, standIns := [], harness := (true, "605e51a862096062536ad9be249d0ad3e318cc34ccb4262f49b7334d7bd3505f"), looks := false }, kinds := [], alts := [], laidByText := true, laidKinds := [.data, .data], laidTests := true, laidLooks := .later }
def BlockEncodesCardSaid : Prop := Claim7.holds Tryz.pinned (.plain (OpenSpec.ofChange blockEncodesSpec)) blockEncodesCard

/-- THE TIED CARD OF 'lightclientlaw11.BlockChecks'. -/
def blockChecksCard : Claim7 := { stood := { row := blockChecksRow, standIns := [], harness := (true, "605e51a862096062536ad9be249d0ad3e318cc34ccb4262f49b7334d7bd3505f"), looks := false }, kinds := [], alts := [], laidByText := true, laidKinds := [.data, .data], laidTests := true, laidLooks := .later }
def BlockChecksCardSaid : Prop := Claim7.holds Tryz.pinned (.plain (OpenSpec.ofChange blockChecksSpec)) blockChecksCard

/-- THE TIED CARD OF 'lightclientlaw11.BlockMade'. -/
def blockMadeCard : Claim7 := { stood := { row := blockMadeRow, standIns := [], harness := (true, "605e51a862096062536ad9be249d0ad3e318cc34ccb4262f49b7334d7bd3505f"), looks := false }, kinds := [], alts := [], laidByText := true, laidKinds := [.data, .data], laidTests := true, laidLooks := .later }
def BlockMadeCardSaid : Prop := Claim7.holds Tryz.pinned (.plain (OpenSpec.ofChange blockMadeSpec)) blockMadeCard

/-- THE TIED CARD OF 'lightclientlaw11.BlockMutants'. -/
def blockMutantsCard : Claim7 := { stood := { row := blockMutantsRow, standIns := [], harness := (true, "605e51a862096062536ad9be249d0ad3e318cc34ccb4262f49b7334d7bd3505f"), looks := false }, kinds := [], alts := [], laidByText := true, laidKinds := [.data, .data], laidTests := true, laidLooks := .later }
def BlockMutantsCardSaid : Prop := Claim7.holds Tryz.pinned (.plain (OpenSpec.ofChange blockMutantsSpec)) blockMutantsCard

/-- THE TIED CARD OF 'lightclientlaw11.BlockHeaders'. -/
def blockHeadersCard : Claim7 := { stood := { row := blockHeadersRow, standIns := [], harness := (true, "605e51a862096062536ad9be249d0ad3e318cc34ccb4262f49b7334d7bd3505f"), looks := false }, kinds := [], alts := [], laidByText := true, laidKinds := [.data, .data], laidTests := true, laidLooks := .later }
def BlockHeadersCardSaid : Prop := Claim7.holds Tryz.pinned (.plain (OpenSpec.ofChange blockHeadersSpec)) blockHeadersCard

/-- THE TIED CARD OF 'lightclientlaw11.BlockDecodes'. -/
def blockDecodesCard : Claim7 := { stood := { row := blockDecodesRow, standIns := [], harness := (true, "605e51a862096062536ad9be249d0ad3e318cc34ccb4262f49b7334d7bd3505f"), looks := false }, kinds := [], alts := [], laidByText := true, laidKinds := [.data, .data], laidTests := true, laidLooks := .later }
def BlockDecodesCardSaid : Prop := Claim7.holds Tryz.pinned (.plain (OpenSpec.ofChange blockDecodesSpec)) blockDecodesCard

/-- THE TIED CARD OF 'lightclientlaw11.BlockSpoilt'. -/
def blockSpoiltCard : Claim7 := { stood := { row := blockSpoiltRow, standIns := [], harness := (true, "605e51a862096062536ad9be249d0ad3e318cc34ccb4262f49b7334d7bd3505f"), looks := false }, kinds := [], alts := [], laidByText := true, laidKinds := [.data, .data], laidTests := true, laidLooks := .later }
def BlockSpoiltCardSaid : Prop := Claim7.holds Tryz.pinned (.plain (OpenSpec.ofChange blockSpoiltSpec)) blockSpoiltCard

/-- THE TIED CARD OF 'lightclientlaw11.BlockBack'. -/
def blockBackCard : Claim7 := { stood := { row := blockBackRow, standIns := [], harness := (true, "605e51a862096062536ad9be249d0ad3e318cc34ccb4262f49b7334d7bd3505f"), looks := false }, kinds := [], alts := [], laidByText := true, laidKinds := [.data, .data], laidTests := true, laidLooks := .later }
def BlockBackCardSaid : Prop := Claim7.holds Tryz.pinned (.plain (OpenSpec.ofChange blockBackSpec)) blockBackCard

/-- THE SECOND FORM's CARD OF 'lightclientlaw11.BlockEncodes'. -/
def blockEncodesUptoCard : Claim7 := { stood := { row := blockEncodesUptoRow, standIns := [], harness := (true, "605e51a862096062536ad9be249d0ad3e318cc34ccb4262f49b7334d7bd3505f"), looks := false }, kinds := [], alts := [], laidByText := true, laidKinds := [.data, .data], laidTests := true, laidLooks := .later }
def BlockEncodesUptoCardSaid : Prop := Claim7.holds Tryz.pinned (.plain (OpenSpec.upto blockEncodesSpec)) blockEncodesUptoCard

/-- THE SECOND FORM's CARD OF 'lightclientlaw11.BlockChecks'. -/
def blockChecksUptoCard : Claim7 := { stood := { row := blockChecksUptoRow, standIns := [], harness := (true, "605e51a862096062536ad9be249d0ad3e318cc34ccb4262f49b7334d7bd3505f"), looks := false }, kinds := [], alts := [], laidByText := true, laidKinds := [.data, .data], laidTests := true, laidLooks := .later }
def BlockChecksUptoCardSaid : Prop := Claim7.holds Tryz.pinned (.plain (OpenSpec.upto blockChecksSpec)) blockChecksUptoCard

/-- THE SECOND FORM's CARD OF 'lightclientlaw11.BlockMade'. -/
def blockMadeUptoCard : Claim7 := { stood := { row := blockMadeUptoRow, standIns := [], harness := (true, "605e51a862096062536ad9be249d0ad3e318cc34ccb4262f49b7334d7bd3505f"), looks := false }, kinds := [], alts := [], laidByText := true, laidKinds := [.data, .data], laidTests := true, laidLooks := .later }
def BlockMadeUptoCardSaid : Prop := Claim7.holds Tryz.pinned (.plain (OpenSpec.upto blockMadeSpec)) blockMadeUptoCard

/-- THE SECOND FORM's CARD OF 'lightclientlaw11.BlockMutants'. -/
def blockMutantsUptoCard : Claim7 := { stood := { row := blockMutantsUptoRow, standIns := [], harness := (true, "605e51a862096062536ad9be249d0ad3e318cc34ccb4262f49b7334d7bd3505f"), looks := false }, kinds := [], alts := [], laidByText := true, laidKinds := [.data, .data], laidTests := true, laidLooks := .later }
def BlockMutantsUptoCardSaid : Prop := Claim7.holds Tryz.pinned (.plain (OpenSpec.upto blockMutantsSpec)) blockMutantsUptoCard

/-- THE SECOND FORM's CARD OF 'lightclientlaw11.BlockHeaders'. -/
def blockHeadersUptoCard : Claim7 := { stood := { row := blockHeadersUptoRow, standIns := [], harness := (true, "605e51a862096062536ad9be249d0ad3e318cc34ccb4262f49b7334d7bd3505f"), looks := false }, kinds := [], alts := [], laidByText := true, laidKinds := [.data, .data], laidTests := true, laidLooks := .later }
def BlockHeadersUptoCardSaid : Prop := Claim7.holds Tryz.pinned (.plain (OpenSpec.upto blockHeadersSpec)) blockHeadersUptoCard

/-- THE SECOND FORM's CARD OF 'lightclientlaw11.BlockDecodes'. -/
def blockDecodesUptoCard : Claim7 := { stood := { row := blockDecodesUptoRow, standIns := [], harness := (true, "605e51a862096062536ad9be249d0ad3e318cc34ccb4262f49b7334d7bd3505f"), looks := false }, kinds := [], alts := [], laidByText := true, laidKinds := [.data, .data], laidTests := true, laidLooks := .later }
def BlockDecodesUptoCardSaid : Prop := Claim7.holds Tryz.pinned (.plain (OpenSpec.upto blockDecodesSpec)) blockDecodesUptoCard

/-- THE SECOND FORM's CARD OF 'lightclientlaw11.BlockSpoilt'. -/
def blockSpoiltUptoCard : Claim7 := { stood := { row := blockSpoiltUptoRow, standIns := [], harness := (true, "605e51a862096062536ad9be249d0ad3e318cc34ccb4262f49b7334d7bd3505f"), looks := false }, kinds := [], alts := [], laidByText := true, laidKinds := [.data, .data], laidTests := true, laidLooks := .later }
def BlockSpoiltUptoCardSaid : Prop := Claim7.holds Tryz.pinned (.plain (OpenSpec.upto blockSpoiltSpec)) blockSpoiltUptoCard

/-- THE SECOND FORM's CARD OF 'lightclientlaw11.BlockBack'. -/
def blockBackUptoCard : Claim7 := { stood := { row := blockBackUptoRow, standIns := [], harness := (true, "605e51a862096062536ad9be249d0ad3e318cc34ccb4262f49b7334d7bd3505f"), looks := false }, kinds := [], alts := [], laidByText := true, laidKinds := [.data, .data], laidTests := true, laidLooks := .later }
def BlockBackUptoCardSaid : Prop := Claim7.holds Tryz.pinned (.plain (OpenSpec.upto blockBackSpec)) blockBackUptoCard
end Rows
end Go.Proofs.YtgmhijonllockaaGreatDoor
