/-
  DERIVED. GIVEN WITH THE SEED: THE CARDS: each row of YteopmmegeagklaaDoorRows.lean that lists a variable, with what it lists TIED to the program's text (the seventh form; the later family's looks); each row that meets fmt, with fmt's text TOLD by the authors' own Lean function (tested against real Go, not proved from fmt's source: count such statements apart). THE CARD IS WHAT COUNTS. Prove the row's statement (the work); the ties are given (YteopmmegeagklaaDoorTie.lean); close each card by the builder's one call (the guide's Derived/Test/ToyasCard.lean, 'card_holds'). Laid BY PROGRAM, IN A SANDBOX (cutbox-door.mjs). By AI agents, Wed Nov 11 2026. No macro, syntax, notation, axiom, sorry.
-/
import Derived.Test.YteopmmegeagklaaDoorRows
import GoSem.ClaimSeven
namespace Go.Proofs.YteopmmegeagklaaDoor
namespace Rows

/-- THE TIED CARD OF 'lightclientlaw41.JournalAppends'. -/
def journalAppendsCard : Claim7 := { stood := { row := journalAppendsRow, standIns := [], harness := (true, "ba4af9d7795a5c4520f42b0bea24d25edc0cadad41495e125cc72112383985d4"), looks := false }, kinds := [], alts := [], laidByText := true, laidKinds := [.data, .data], laidTests := true, laidLooks := .later }
def JournalAppendsCardSaid : Prop := Claim7.holds Tryd.pinned (.plain (OpenSpec.ofChange journalAppendsSpec)) journalAppendsCard

/-- THE TIED CARD OF 'lightclientlaw41.JournalReads'. -/
def journalReadsCard : Claim7 := { stood := { row := journalReadsRow, standIns := [], harness := (true, "ba4af9d7795a5c4520f42b0bea24d25edc0cadad41495e125cc72112383985d4"), looks := false }, kinds := [], alts := [], laidByText := true, laidKinds := [.data, .data], laidTests := true, laidLooks := .later }
def JournalReadsCardSaid : Prop := Claim7.holds Tryd.pinned (.plain (OpenSpec.ofChange journalReadsSpec)) journalReadsCard

/-- THE TIED CARD OF 'lightclientlaw41.JournalCrashes'. -/
def journalCrashesCard : Claim7 := { stood := { row := journalCrashesRow, standIns := [], harness := (true, "ba4af9d7795a5c4520f42b0bea24d25edc0cadad41495e125cc72112383985d4"), looks := false }, kinds := [], alts := [], laidByText := true, laidKinds := [.data, .data], laidTests := true, laidLooks := .later }
def JournalCrashesCardSaid : Prop := Claim7.holds Tryd.pinned (.plain (OpenSpec.ofChange journalCrashesSpec)) journalCrashesCard

/-- THE SECOND FORM's CARD OF 'lightclientlaw41.JournalAppends'. -/
def journalAppendsUptoCard : Claim7 := { stood := { row := journalAppendsUptoRow, standIns := [], harness := (true, "ba4af9d7795a5c4520f42b0bea24d25edc0cadad41495e125cc72112383985d4"), looks := false }, kinds := [], alts := [], laidByText := true, laidKinds := [.data, .data], laidTests := true, laidLooks := .later }
def JournalAppendsUptoCardSaid : Prop := Claim7.holds Tryd.pinned (.plain (OpenSpec.upto journalAppendsSpec)) journalAppendsUptoCard

/-- THE SECOND FORM's CARD OF 'lightclientlaw41.JournalReads'. -/
def journalReadsUptoCard : Claim7 := { stood := { row := journalReadsUptoRow, standIns := [], harness := (true, "ba4af9d7795a5c4520f42b0bea24d25edc0cadad41495e125cc72112383985d4"), looks := false }, kinds := [], alts := [], laidByText := true, laidKinds := [.data, .data], laidTests := true, laidLooks := .later }
def JournalReadsUptoCardSaid : Prop := Claim7.holds Tryd.pinned (.plain (OpenSpec.upto journalReadsSpec)) journalReadsUptoCard

/-- THE SECOND FORM's CARD OF 'lightclientlaw41.JournalCrashes'. -/
def journalCrashesUptoCard : Claim7 := { stood := { row := journalCrashesUptoRow, standIns := [], harness := (true, "ba4af9d7795a5c4520f42b0bea24d25edc0cadad41495e125cc72112383985d4"), looks := false }, kinds := [], alts := [], laidByText := true, laidKinds := [.data, .data], laidTests := true, laidLooks := .later }
def JournalCrashesUptoCardSaid : Prop := Claim7.holds Tryd.pinned (.plain (OpenSpec.upto journalCrashesSpec)) journalCrashesUptoCard
end Rows
end Go.Proofs.YteopmmegeagklaaDoor
