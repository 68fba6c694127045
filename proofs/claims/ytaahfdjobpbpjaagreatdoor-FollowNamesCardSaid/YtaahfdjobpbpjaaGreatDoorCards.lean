/-
  DERIVED. GIVEN WITH THE SEED: THE CARDS: each row of YtaahfdjobpbpjaaGreatDoorRows.lean that lists a variable, with what it lists TIED to the program's text (the seventh form; the later family's looks); each row that meets fmt, with fmt's text TOLD by the authors' own Lean function (tested against real Go, not proved from fmt's source: count such statements apart). THE CARD IS WHAT COUNTS. Prove the row's statement (the work); the ties are given (YtaahfdjobpbpjaaGreatDoorTie.lean); close each card by the builder's one call (the guide's Derived/Test/ToyasCard.lean, 'card_holds'). Laid BY PROGRAM, IN A SANDBOX (cutbox-door.mjs). By AI agents, Wed Nov 11 2026. No macro, syntax, notation, axiom, sorry.
-/
import Derived.Test.YtaahfdjobpbpjaaGreatDoorRows
import GoSem.ClaimSeven
namespace Go.Proofs.YtaahfdjobpbpjaaGreatDoor
namespace Rows

/-- THE TIED CARD OF 'cairnlaw30.FollowNames'. -/
def followNamesCard : Claim7 := { stood := { row := followNamesRow, standIns := [], harness := (true, "56379e6cfcd416363b10dbf53339a7b98ebce7e02bfb318c4428bbbb81826811"), looks := true }, kinds := [], alts := [], laidByText := true, laidKinds := [.data, .data, .data, .data], laidTests := true, laidLooks := .later }
def FollowNamesCardSaid : Prop := Claim7.holds Tryz.pinned (.plain (OpenSpec.ofChange followNamesSpec)) followNamesCard

/-- THE TIED CARD OF 'cairnlaw26.AuditNames'. -/
def auditNamesCard : Claim7 := { stood := { row := auditNamesRow, standIns := [], harness := (true, "56379e6cfcd416363b10dbf53339a7b98ebce7e02bfb318c4428bbbb81826811"), looks := true }, kinds := [], alts := [], laidByText := true, laidKinds := [.data, .data, .data, .handle, .data, .sentinel, .sentinel, .sentinel], laidTests := true, laidLooks := .later }
def AuditNamesCardSaid : Prop := Claim7.holds Tryz.pinned (.plain (OpenSpec.ofChange auditNamesSpec)) auditNamesCard

/-- THE SECOND FORM's CARD OF 'cairnlaw30.FollowNames'. -/
def followNamesUptoCard : Claim7 := { stood := { row := followNamesUptoRow, standIns := [], harness := (true, "56379e6cfcd416363b10dbf53339a7b98ebce7e02bfb318c4428bbbb81826811"), looks := true }, kinds := [], alts := [], laidByText := true, laidKinds := [.data, .data, .data, .data], laidTests := true, laidLooks := .later }
def FollowNamesUptoCardSaid : Prop := Claim7.holds Tryz.pinned (.plain (OpenSpec.upto followNamesSpec)) followNamesUptoCard

/-- THE SECOND FORM's CARD OF 'cairnlaw26.AuditNames'. -/
def auditNamesUptoCard : Claim7 := { stood := { row := auditNamesUptoRow, standIns := [], harness := (true, "56379e6cfcd416363b10dbf53339a7b98ebce7e02bfb318c4428bbbb81826811"), looks := true }, kinds := [], alts := [], laidByText := true, laidKinds := [.data, .data, .data, .handle, .data, .sentinel, .sentinel, .sentinel], laidTests := true, laidLooks := .later }
def AuditNamesUptoCardSaid : Prop := Claim7.holds Tryz.pinned (.plain (OpenSpec.upto auditNamesSpec)) auditNamesUptoCard
end Rows
end Go.Proofs.YtaahfdjobpbpjaaGreatDoor
