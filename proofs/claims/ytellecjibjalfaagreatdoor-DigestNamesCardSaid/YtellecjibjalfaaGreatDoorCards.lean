/-
  DERIVED. GIVEN WITH THE SEED: THE CARDS: each row of YtellecjibjalfaaGreatDoorRows.lean that lists a variable, with what it lists TIED to the program's text (the seventh form; the later family's looks); each row that meets fmt, with fmt's text TOLD by the authors' own Lean function (tested against real Go, not proved from fmt's source: count such statements apart). THE CARD IS WHAT COUNTS. Prove the row's statement (the work); the ties are given (YtellecjibjalfaaGreatDoorTie.lean); close each card by the builder's one call (the guide's Derived/Test/ToyasCard.lean, 'card_holds'). Laid BY PROGRAM, IN A SANDBOX (cutbox-door.mjs). By AI agents, Wed Nov 11 2026. No macro, syntax, notation, axiom, sorry.
-/
import Derived.Test.YtellecjibjalfaaGreatDoorRows
import GoSem.ClaimSeven
namespace Go.Proofs.YtellecjibjalfaaGreatDoor
namespace Rows

/-- THE TIED CARD OF 'cairnlaw04.DigestNames'. -/
def digestNamesCard : Claim7 := { stood := { row := digestNamesRow, standIns := [], harness := (true, "a49cf5dba0e0bb2b2e2f98634700ca6b8564f02d436628ce25caabae0be20f4e"), looks := false }, kinds := [], alts := [], laidByText := true, laidKinds := [.data, .data], laidTests := true, laidLooks := .later }
def DigestNamesCardSaid : Prop := Claim7.holds Tryz.pinned (.plain (OpenSpec.ofChange digestNamesSpec)) digestNamesCard

/-- THE SECOND FORM's CARD OF 'cairnlaw04.DigestNames'. -/
def digestNamesUptoCard : Claim7 := { stood := { row := digestNamesUptoRow, standIns := [], harness := (true, "a49cf5dba0e0bb2b2e2f98634700ca6b8564f02d436628ce25caabae0be20f4e"), looks := false }, kinds := [], alts := [], laidByText := true, laidKinds := [.data, .data], laidTests := true, laidLooks := .later }
def DigestNamesUptoCardSaid : Prop := Claim7.holds Tryz.pinned (.plain (OpenSpec.upto digestNamesSpec)) digestNamesUptoCard
end Rows
end Go.Proofs.YtellecjibjalfaaGreatDoor
