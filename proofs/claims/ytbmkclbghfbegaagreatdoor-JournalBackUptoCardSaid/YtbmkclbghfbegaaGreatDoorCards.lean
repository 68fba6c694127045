/-
  DERIVED. GIVEN WITH THE SEED: THE CARDS: each row of YtbmkclbghfbegaaGreatDoorRows.lean that lists a variable, with what it lists TIED to the program's text (the seventh form; the later family's looks); each row that meets fmt, with fmt's text TOLD by the authors' own Lean function (tested against real Go, not proved from fmt's source: count such statements apart). THE CARD IS WHAT COUNTS. Prove the row's statement (the work); the ties are given (YtbmkclbghfbegaaGreatDoorTie.lean); close each card by the builder's one call (the guide's Derived/Test/ToyasCard.lean, 'card_holds'). Laid BY PROGRAM, IN A SANDBOX (cutbox-door.mjs). By AI agents, Wed Nov 11 2026. No macro, syntax, notation, axiom, sorry.
-/
import Derived.Test.YtbmkclbghfbegaaGreatDoorRows
import GoSem.ClaimSeven
namespace Go.Proofs.YtbmkclbghfbegaaGreatDoor
namespace Rows

/-- THE TIED CARD OF 'cairnlaw19.JournalWrites'. -/
def journalWritesCard : Claim7 := { stood := { row := journalWritesRow, standIns := [], harness := (true, "10cf17dd6e340c83bf4848685ef59418d2f238d14e48e49ef165e8d39974550e"), looks := true }, kinds := [], alts := [], laidByText := true, laidKinds := [.data, .data, .data, .data], laidTests := true, laidLooks := .later }
def JournalWritesCardSaid : Prop := Claim7.holds Tryz.pinned (.plain (OpenSpec.ofChange journalWritesSpec)) journalWritesCard

/-- THE TIED CARD OF 'cairnlaw19.JournalTurned'. -/
def journalTurnedCard : Claim7 := { stood := { row := journalTurnedRow, standIns := [], harness := (true, "10cf17dd6e340c83bf4848685ef59418d2f238d14e48e49ef165e8d39974550e"), looks := true }, kinds := [], alts := [], laidByText := true, laidKinds := [.data, .data, .data], laidTests := true, laidLooks := .later }
def JournalTurnedCardSaid : Prop := Claim7.holds Tryz.pinned (.plain (OpenSpec.ofChange journalTurnedSpec)) journalTurnedCard

/-- THE TIED CARD OF 'cairnlaw19.JournalBack'. -/
def journalBackCard : Claim7 := { stood := { row := journalBackRow, standIns := [], harness := (true, "10cf17dd6e340c83bf4848685ef59418d2f238d14e48e49ef165e8d39974550e"), looks := true }, kinds := [], alts := [], laidByText := true, laidKinds := [.data, .data, .data], laidTests := true, laidLooks := .later }
def JournalBackCardSaid : Prop := Claim7.holds Tryz.pinned (.plain (OpenSpec.ofChange journalBackSpec)) journalBackCard

/-- THE TIED CARD OF 'cairnlaw19.JournalScans'. -/
def journalScansCard : Claim7 := { stood := { row := journalScansRow, standIns := [], harness := (true, "10cf17dd6e340c83bf4848685ef59418d2f238d14e48e49ef165e8d39974550e"), looks := true }, kinds := [], alts := [], laidByText := true, laidKinds := [.data, .data, .data, .data], laidTests := true, laidLooks := .later }
def JournalScansCardSaid : Prop := Claim7.holds Tryz.pinned (.plain (OpenSpec.ofChange journalScansSpec)) journalScansCard

/-- THE SECOND FORM's CARD OF 'cairnlaw19.JournalWrites'. -/
def journalWritesUptoCard : Claim7 := { stood := { row := journalWritesUptoRow, standIns := [], harness := (true, "10cf17dd6e340c83bf4848685ef59418d2f238d14e48e49ef165e8d39974550e"), looks := true }, kinds := [], alts := [], laidByText := true, laidKinds := [.data, .data, .data, .data], laidTests := true, laidLooks := .later }
def JournalWritesUptoCardSaid : Prop := Claim7.holds Tryz.pinned (.plain (OpenSpec.upto journalWritesSpec)) journalWritesUptoCard

/-- THE SECOND FORM's CARD OF 'cairnlaw19.JournalTurned'. -/
def journalTurnedUptoCard : Claim7 := { stood := { row := journalTurnedUptoRow, standIns := [], harness := (true, "10cf17dd6e340c83bf4848685ef59418d2f238d14e48e49ef165e8d39974550e"), looks := true }, kinds := [], alts := [], laidByText := true, laidKinds := [.data, .data, .data], laidTests := true, laidLooks := .later }
def JournalTurnedUptoCardSaid : Prop := Claim7.holds Tryz.pinned (.plain (OpenSpec.upto journalTurnedSpec)) journalTurnedUptoCard

/-- THE SECOND FORM's CARD OF 'cairnlaw19.JournalBack'. -/
def journalBackUptoCard : Claim7 := { stood := { row := journalBackUptoRow, standIns := [], harness := (true, "10cf17dd6e340c83bf4848685ef59418d2f238d14e48e49ef165e8d39974550e"), looks := true }, kinds := [], alts := [], laidByText := true, laidKinds := [.data, .data, .data], laidTests := true, laidLooks := .later }
def JournalBackUptoCardSaid : Prop := Claim7.holds Tryz.pinned (.plain (OpenSpec.upto journalBackSpec)) journalBackUptoCard

/-- THE SECOND FORM's CARD OF 'cairnlaw19.JournalScans'. -/
def journalScansUptoCard : Claim7 := { stood := { row := journalScansUptoRow, standIns := [], harness := (true, "10cf17dd6e340c83bf4848685ef59418d2f238d14e48e49ef165e8d39974550e"), looks := true }, kinds := [], alts := [], laidByText := true, laidKinds := [.data, .data, .data, .data], laidTests := true, laidLooks := .later }
def JournalScansUptoCardSaid : Prop := Claim7.holds Tryz.pinned (.plain (OpenSpec.upto journalScansSpec)) journalScansUptoCard
end Rows
end Go.Proofs.YtbmkclbghfbegaaGreatDoor
