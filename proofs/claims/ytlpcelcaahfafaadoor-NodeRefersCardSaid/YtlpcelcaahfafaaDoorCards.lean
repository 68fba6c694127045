/-
  DERIVED. GIVEN WITH THE SEED: THE CARDS: each row of YtlpcelcaahfafaaDoorRows.lean that lists a variable, with what it lists TIED to the program's text (the seventh form; the later family's looks); each row that meets fmt, with fmt's text TOLD by the authors' own Lean function (tested against real Go, not proved from fmt's source: count such statements apart). THE CARD IS WHAT COUNTS. Prove the row's statement (the work); the ties are given (YtlpcelcaahfafaaDoorTie.lean); close each card by the builder's one call (the guide's Derived/Test/ToyasCard.lean, 'card_holds'). Laid BY PROGRAM, IN A SANDBOX (cutbox-door.mjs). By AI agents, Wed Nov 11 2026. No macro, syntax, notation, axiom, sorry.
-/
import Derived.Test.YtlpcelcaahfafaaDoorRows
import GoSem.ClaimSeven
namespace Go.Proofs.YtlpcelcaahfafaaDoor
namespace Rows

/-- THE TIED CARD OF 'cairnlaw07.NodeRefers'. -/
def nodeRefersCard : Claim7 := { stood := { row := nodeRefersRow, standIns := [], harness := (true, "3d60f840a21a2973b9a33233f92e4d6666338a1803620768b4a9f21ac8532900"), looks := false }, kinds := [], alts := [], laidByText := true, laidKinds := [.data, .data, .data], laidTests := true, laidLooks := .later }
def NodeRefersCardSaid : Prop := Claim7.holds Tryd.pinned (.plain (OpenSpec.ofChange nodeRefersSpec)) nodeRefersCard

/-- THE SECOND FORM's CARD OF 'cairnlaw07.NodeRefers'. -/
def nodeRefersUptoCard : Claim7 := { stood := { row := nodeRefersUptoRow, standIns := [], harness := (true, "3d60f840a21a2973b9a33233f92e4d6666338a1803620768b4a9f21ac8532900"), looks := false }, kinds := [], alts := [], laidByText := true, laidKinds := [.data, .data, .data], laidTests := true, laidLooks := .later }
def NodeRefersUptoCardSaid : Prop := Claim7.holds Tryd.pinned (.plain (OpenSpec.upto nodeRefersSpec)) nodeRefersUptoCard
end Rows
end Go.Proofs.YtlpcelcaahfafaaDoor
