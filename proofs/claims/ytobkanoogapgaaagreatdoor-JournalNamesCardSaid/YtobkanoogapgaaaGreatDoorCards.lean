/-
  DERIVED. GIVEN WITH THE SEED: THE CARDS: each row of YtobkanoogapgaaaGreatDoorRows.lean that lists a variable, with what it lists TIED to the program's text (the seventh form; the later family's looks); each row that meets fmt, with fmt's text TOLD by the authors' own Lean function (tested against real Go, not proved from fmt's source: count such statements apart). THE CARD IS WHAT COUNTS. Prove the row's statement (the work); the ties are given (YtobkanoogapgaaaGreatDoorTie.lean); close each card by the builder's one call (the guide's Derived/Test/ToyasCard.lean, 'card_holds'). Laid BY PROGRAM, IN A SANDBOX (cutbox-door.mjs). By AI agents, Wed Nov 11 2026. No macro, syntax, notation, axiom, sorry.
-/
import Derived.Test.YtobkanoogapgaaaGreatDoorRows
import GoSem.ClaimSeven
namespace Go.Proofs.YtobkanoogapgaaaGreatDoor
namespace Rows

/-- THE TIED CARD OF 'cairnlaw19.JournalNames'. -/
def journalNamesCard : Claim7 := { stood := { row := journalNamesRow, standIns := [], harness := (true, "684588722c1b11e94a9bbaea29733652fabcf6b010762bc383dc20aba8cf236c"), looks := true }, kinds := [], alts := [], laidByText := true, laidKinds := [.data, .data, .data], laidTests := true, laidLooks := .later }
def JournalNamesCardSaid : Prop := Claim7.holds Tryz.pinned (.plain (OpenSpec.ofChange journalNamesSpec)) journalNamesCard

/-- THE TIED CARD OF 'cairnlaw10.HstoreNames'. -/
def hstoreNamesCard : Claim7 := { stood := { row := hstoreNamesRow, standIns := [], harness := (true, "684588722c1b11e94a9bbaea29733652fabcf6b010762bc383dc20aba8cf236c"), looks := true }, kinds := [], alts := [], laidByText := true, laidKinds := [.data, .data], laidTests := true, laidLooks := .later }
def HstoreNamesCardSaid : Prop := Claim7.holds Tryz.pinned (.plain (OpenSpec.ofChange hstoreNamesSpec)) hstoreNamesCard

/-- THE SECOND FORM's CARD OF 'cairnlaw19.JournalNames'. -/
def journalNamesUptoCard : Claim7 := { stood := { row := journalNamesUptoRow, standIns := [], harness := (true, "684588722c1b11e94a9bbaea29733652fabcf6b010762bc383dc20aba8cf236c"), looks := true }, kinds := [], alts := [], laidByText := true, laidKinds := [.data, .data, .data], laidTests := true, laidLooks := .later }
def JournalNamesUptoCardSaid : Prop := Claim7.holds Tryz.pinned (.plain (OpenSpec.upto journalNamesSpec)) journalNamesUptoCard

/-- THE SECOND FORM's CARD OF 'cairnlaw10.HstoreNames'. -/
def hstoreNamesUptoCard : Claim7 := { stood := { row := hstoreNamesUptoRow, standIns := [], harness := (true, "684588722c1b11e94a9bbaea29733652fabcf6b010762bc383dc20aba8cf236c"), looks := true }, kinds := [], alts := [], laidByText := true, laidKinds := [.data, .data], laidTests := true, laidLooks := .later }
def HstoreNamesUptoCardSaid : Prop := Claim7.holds Tryz.pinned (.plain (OpenSpec.upto hstoreNamesSpec)) hstoreNamesUptoCard
end Rows
end Go.Proofs.YtobkanoogapgaaaGreatDoor
