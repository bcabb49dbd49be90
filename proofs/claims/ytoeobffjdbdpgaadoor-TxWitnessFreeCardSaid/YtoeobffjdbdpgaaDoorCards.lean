/-
  DERIVED. GIVEN WITH THE SEED: THE CARDS: each row of YtoeobffjdbdpgaaDoorRows.lean that lists a variable, with what it lists TIED to the program's text (the seventh form; the later family's looks); each row that meets fmt, with fmt's text TOLD by the authors' own Lean function (tested against real Go, not proved from fmt's source: count such statements apart). THE CARD IS WHAT COUNTS. Prove the row's statement (the work); the ties are given (YtoeobffjdbdpgaaDoorTie.lean); close each card by the builder's one call (the guide's Derived/Test/ToyasCard.lean, 'card_holds'). Laid BY PROGRAM, IN A SANDBOX (cutbox-door.mjs). By AI agents, Wed Nov 11 2026. No macro, syntax, notation, axiom, sorry.
-/
import Derived.Test.YtoeobffjdbdpgaaDoorRows
import GoSem.ClaimSeven
namespace Go.Proofs.YtoeobffjdbdpgaaDoor
namespace Rows

/-- THE TIED CARD OF 'lightclientlaw09.TxWitnessFree'. -/
def txWitnessFreeCard : Claim7 := { stood := { row := txWitnessFreeRow, standIns := [], harness := (true, "0f3ddc9a8225705fb4d172c9f6a28d9d1ed65a88f8837991914385fd35c7ee8c"), looks := false }, kinds := [], alts := [], laidByText := true, laidKinds := [.data, .data], laidTests := true, laidLooks := .later }
def TxWitnessFreeCardSaid : Prop := Claim7.holds Tryd.pinned (.plain (OpenSpec.ofChange txWitnessFreeSpec)) txWitnessFreeCard

/-- THE TIED CARD OF 'lightclientlaw09.TxNames'. -/
def txNamesCard : Claim7 := { stood := { row := txNamesRow, standIns := [], harness := (true, "0f3ddc9a8225705fb4d172c9f6a28d9d1ed65a88f8837991914385fd35c7ee8c"), looks := false }, kinds := [], alts := [], laidByText := true, laidKinds := [.data, .data], laidTests := true, laidLooks := .later }
def TxNamesCardSaid : Prop := Claim7.holds Tryd.pinned (.plain (OpenSpec.ofChange txNamesSpec)) txNamesCard

/-- THE SECOND FORM's CARD OF 'lightclientlaw09.TxWitnessFree'. -/
def txWitnessFreeUptoCard : Claim7 := { stood := { row := txWitnessFreeUptoRow, standIns := [], harness := (true, "0f3ddc9a8225705fb4d172c9f6a28d9d1ed65a88f8837991914385fd35c7ee8c"), looks := false }, kinds := [], alts := [], laidByText := true, laidKinds := [.data, .data], laidTests := true, laidLooks := .later }
def TxWitnessFreeUptoCardSaid : Prop := Claim7.holds Tryd.pinned (.plain (OpenSpec.upto txWitnessFreeSpec)) txWitnessFreeUptoCard

/-- THE SECOND FORM's CARD OF 'lightclientlaw09.TxNames'. -/
def txNamesUptoCard : Claim7 := { stood := { row := txNamesUptoRow, standIns := [], harness := (true, "0f3ddc9a8225705fb4d172c9f6a28d9d1ed65a88f8837991914385fd35c7ee8c"), looks := false }, kinds := [], alts := [], laidByText := true, laidKinds := [.data, .data], laidTests := true, laidLooks := .later }
def TxNamesUptoCardSaid : Prop := Claim7.holds Tryd.pinned (.plain (OpenSpec.upto txNamesSpec)) txNamesUptoCard
end Rows
end Go.Proofs.YtoeobffjdbdpgaaDoor
