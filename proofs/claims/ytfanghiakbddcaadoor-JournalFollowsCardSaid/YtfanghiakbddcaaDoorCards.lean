/-
  DERIVED. GIVEN WITH THE SEED: THE CARDS: each row of YtfanghiakbddcaaDoorRows.lean that lists a variable, with what it lists TIED to the program's text (the seventh form; the later family's looks); each row that meets fmt, with fmt's text TOLD by the authors' own Lean function (tested against real Go, not proved from fmt's source: count such statements apart). THE CARD IS WHAT COUNTS. Prove the row's statement (the work); the ties are given (YtfanghiakbddcaaDoorTie.lean); close each card by the builder's one call (the guide's Derived/Test/ToyasCard.lean, 'card_holds'). Laid BY PROGRAM, IN A SANDBOX (cutbox-door.mjs). By AI agents, Wed Nov 11 2026. No macro, syntax, notation, axiom, sorry.
-/
import Derived.Test.YtfanghiakbddcaaDoorRows
import GoSem.ClaimSeven
namespace Go.Proofs.YtfanghiakbddcaaDoor
namespace Rows

/-- THE TIED CARD OF 'cairnlaw19.JournalFollows'. -/
def journalFollowsCard : Claim7 := { stood := { row := journalFollowsRow, standIns := [], harness := (true, "89682add23d5cc6cbdf28089d72a520d854e86efa767b33622081991e715ac4e"), looks := false }, kinds := [], alts := [], laidByText := true, laidKinds := [.data], laidTests := true, laidLooks := .later }
def JournalFollowsCardSaid : Prop := Claim7.holds Tryd.pinned (.plain (OpenSpec.ofChange journalFollowsSpec)) journalFollowsCard

/-- THE TIED CARD OF 'cairnlaw07.NodeRefers'. -/
def nodeRefersCard : Claim7 := { stood := { row := nodeRefersRow, standIns := [], harness := (true, "89682add23d5cc6cbdf28089d72a520d854e86efa767b33622081991e715ac4e"), looks := false }, kinds := [], alts := [], laidByText := true, laidKinds := [.data, .data, .data], laidTests := true, laidLooks := .later }
def NodeRefersCardSaid : Prop := Claim7.holds Tryd.pinned (.plain (OpenSpec.ofChange nodeRefersSpec)) nodeRefersCard

/-- THE SECOND FORM's CARD OF 'cairnlaw19.JournalFollows'. -/
def journalFollowsUptoCard : Claim7 := { stood := { row := journalFollowsUptoRow, standIns := [], harness := (true, "89682add23d5cc6cbdf28089d72a520d854e86efa767b33622081991e715ac4e"), looks := false }, kinds := [], alts := [], laidByText := true, laidKinds := [.data], laidTests := true, laidLooks := .later }
def JournalFollowsUptoCardSaid : Prop := Claim7.holds Tryd.pinned (.plain (OpenSpec.upto journalFollowsSpec)) journalFollowsUptoCard

/-- THE SECOND FORM's CARD OF 'cairnlaw07.NodeRefers'. -/
def nodeRefersUptoCard : Claim7 := { stood := { row := nodeRefersUptoRow, standIns := [], harness := (true, "89682add23d5cc6cbdf28089d72a520d854e86efa767b33622081991e715ac4e"), looks := false }, kinds := [], alts := [], laidByText := true, laidKinds := [.data, .data, .data], laidTests := true, laidLooks := .later }
def NodeRefersUptoCardSaid : Prop := Claim7.holds Tryd.pinned (.plain (OpenSpec.upto nodeRefersSpec)) nodeRefersUptoCard
end Rows
end Go.Proofs.YtfanghiakbddcaaDoor
