/-
  DERIVED. GIVEN WITH THE SEED: THE CARDS: each row of YtmacpjgdipfcaaaDoorRows.lean that lists a variable, with what it lists TIED to the program's text (the seventh form; the later family's looks); each row that meets fmt, with fmt's text TOLD by the authors' own Lean function (tested against real Go, not proved from fmt's source: count such statements apart). THE CARD IS WHAT COUNTS. Prove the row's statement (the work); the ties are given (YtmacpjgdipfcaaaDoorTie.lean); close each card by the builder's one call (the guide's Derived/Test/ToyasCard.lean, 'card_holds'). Laid BY PROGRAM, IN A SANDBOX (cutbox-door.mjs). By AI agents, Wed Nov 11 2026. No macro, syntax, notation, axiom, sorry.
-/
import Derived.Test.YtmacpjgdipfcaaaDoorRows
import GoSem.ClaimSeven
namespace Go.Proofs.YtmacpjgdipfcaaaDoor
namespace Rows

/-- THE TIED CARD OF 'cairnlaw04.DigestLess'. -/
def digestLessCard : Claim7 := { stood := { row := digestLessRow, standIns := [], harness := (true, "1d546b4483d9dc4a815f252126b5912a34cb9446eadd191e2fa886bcd77b3a9a"), looks := false }, kinds := [], alts := [], laidByText := true, laidKinds := [.data, .data], laidTests := true, laidLooks := .later }
def DigestLessCardSaid : Prop := Claim7.holds Tryd.pinned (.plain (OpenSpec.ofChange digestLessSpec)) digestLessCard

/-- THE TIED CARD OF 'cairnlaw04.DigestForges'. -/
def digestForgesCard : Claim7 := { stood := { row := digestForgesRow, standIns := [], harness := (true, "1d546b4483d9dc4a815f252126b5912a34cb9446eadd191e2fa886bcd77b3a9a"), looks := false }, kinds := [], alts := [], laidByText := true, laidKinds := [.data, .data], laidTests := true, laidLooks := .later }
def DigestForgesCardSaid : Prop := Claim7.holds Tryd.pinned (.plain (OpenSpec.ofChange digestForgesSpec)) digestForgesCard

/-- THE SECOND FORM's CARD OF 'cairnlaw04.DigestLess'. -/
def digestLessUptoCard : Claim7 := { stood := { row := digestLessUptoRow, standIns := [], harness := (true, "1d546b4483d9dc4a815f252126b5912a34cb9446eadd191e2fa886bcd77b3a9a"), looks := false }, kinds := [], alts := [], laidByText := true, laidKinds := [.data, .data], laidTests := true, laidLooks := .later }
def DigestLessUptoCardSaid : Prop := Claim7.holds Tryd.pinned (.plain (OpenSpec.upto digestLessSpec)) digestLessUptoCard

/-- THE SECOND FORM's CARD OF 'cairnlaw04.DigestForges'. -/
def digestForgesUptoCard : Claim7 := { stood := { row := digestForgesUptoRow, standIns := [], harness := (true, "1d546b4483d9dc4a815f252126b5912a34cb9446eadd191e2fa886bcd77b3a9a"), looks := false }, kinds := [], alts := [], laidByText := true, laidKinds := [.data, .data], laidTests := true, laidLooks := .later }
def DigestForgesUptoCardSaid : Prop := Claim7.holds Tryd.pinned (.plain (OpenSpec.upto digestForgesSpec)) digestForgesUptoCard
end Rows
end Go.Proofs.YtmacpjgdipfcaaaDoor
