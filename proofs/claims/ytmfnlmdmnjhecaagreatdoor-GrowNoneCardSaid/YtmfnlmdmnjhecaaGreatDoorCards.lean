/-
  DERIVED. GIVEN WITH THE SEED: THE CARDS: each row of YtmfnlmdmnjhecaaGreatDoorRows.lean that lists a variable, with what it lists TIED to the program's text (the seventh form; the later family's looks); each row that meets fmt, with fmt's text TOLD by the authors' own Lean function (tested against real Go, not proved from fmt's source: count such statements apart). THE CARD IS WHAT COUNTS. Prove the row's statement (the work); the ties are given (YtmfnlmdmnjhecaaGreatDoorTie.lean); close each card by the builder's one call (the guide's Derived/Test/ToyasCard.lean, 'card_holds'). Laid BY PROGRAM, IN A SANDBOX (cutbox-door.mjs). By AI agents, Wed Nov 11 2026. No macro, syntax, notation, axiom, sorry.
-/
import Derived.Test.YtmfnlmdmnjhecaaGreatDoorRows
import GoSem.ClaimSeven
namespace Go.Proofs.YtmfnlmdmnjhecaaGreatDoor
namespace Rows

/-- THE TIED CARD OF 'cairnlaw12.GrowNone'. -/
def growNoneCard : Claim7 := { stood := { row := growNoneRow, standIns := [], harness := (true, "f4743ed52e5401e0137a4efd35c84498a92562e9001f83aca92a4c667391fc7c"), looks := true }, kinds := [], alts := [], laidByText := true, laidKinds := [.data, .data], laidTests := true, laidLooks := .later }
def GrowNoneCardSaid : Prop := Claim7.holds Tryz.pinned (.plain (OpenSpec.ofChange growNoneSpec)) growNoneCard

/-- THE SECOND FORM's CARD OF 'cairnlaw12.GrowNone'. -/
def growNoneUptoCard : Claim7 := { stood := { row := growNoneUptoRow, standIns := [], harness := (true, "f4743ed52e5401e0137a4efd35c84498a92562e9001f83aca92a4c667391fc7c"), looks := true }, kinds := [], alts := [], laidByText := true, laidKinds := [.data, .data], laidTests := true, laidLooks := .later }
def GrowNoneUptoCardSaid : Prop := Claim7.holds Tryz.pinned (.plain (OpenSpec.upto growNoneSpec)) growNoneUptoCard
end Rows
end Go.Proofs.YtmfnlmdmnjhecaaGreatDoor
