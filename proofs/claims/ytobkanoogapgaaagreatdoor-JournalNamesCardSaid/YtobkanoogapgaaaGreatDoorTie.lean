/-
  DERIVED. GIVEN WITH THE SEED: THE PROGRAM's TIES (one call each: nine closed facts by the kernel) AND EACH ROW's TIE, after the 31st guide's Derived/Test/Toyas{Tie, Card}.lean. No idea stands in it: it is a product of the set-up. Laid BY PROGRAM, IN A SANDBOX (cutbox-door.mjs). By AI agents, Wed Nov 11 2026. No macro, syntax, notation, axiom, sorry.
-/
import Derived.Test.YtobkanoogapgaaaGreatDoorRows
import Derived.LaidByTextLater
import Derived.SevenTiedAt
import Derived.LaidSub
import Derived.LaidOnce
namespace Go.Proofs.YtobkanoogapgaaaGreatDoor
open Go
set_option maxRecDepth 100000
theorem seatTie1 : Tryz.prog.laidByTextLater [("cairn/sha.k", Rows.laid_cairn_sha_k), ("cairn/sha.first", Rows.laid_cairn_sha_first), ("cairn/journal.kinds", Rows.laid_cairn_journal_kinds)] [.data, .data, .data] true :=
  Program.laidByTextLater_by_one 26 8 65 (by kernel_rfl) (by kernel_rfl) (by kernel_rfl) (by kernel_rfl) (by kernel_rfl) (by kernel_rfl) (fun _ _ => by kernel_rfl)
theorem noOwnUnsafe : Tryz.pinned.checked.prog.headLifts.contains "ownunsafe" = false := by kernel_rfl
theorem tie : Tryz.prog.laidByTextLater [("cairn/sha.k", Rows.laid_cairn_sha_k), ("cairn/sha.first", Rows.laid_cairn_sha_first), ("cairn/journal.kinds", Rows.laid_cairn_journal_kinds)] [.data, .data, .data] true :=
  Program.laidByTextLater.sub seatTie1 ["cairn/sha.k", "cairn/sha.first", "cairn/journal.kinds"] (by kernel_rfl) (by kernel_rfl)
theorem journalNames_row_tie : Rows.journalNamesRow.laidByTextAt .later Tryz.pinned [.data, .data, .data] true :=
  OpenClaim.laidByTextAt_later rfl rfl tie noOwnUnsafe
theorem tie2 : Tryz.prog.laidByTextLater [("cairn/sha.k", Rows.laid_cairn_sha_k), ("cairn/sha.first", Rows.laid_cairn_sha_first)] [.data, .data] true :=
  Program.laidByTextLater.sub seatTie1 ["cairn/sha.k", "cairn/sha.first"] (by kernel_rfl) (by kernel_rfl)
theorem hstoreNames_row_tie : Rows.hstoreNamesRow.laidByTextAt .later Tryz.pinned [.data, .data] true :=
  OpenClaim.laidByTextAt_later rfl rfl tie2 noOwnUnsafe
theorem journalNamesUpto_row_tie : Rows.journalNamesUptoRow.laidByTextAt .later Tryz.pinned [.data, .data, .data] true :=
  OpenClaim.laidByTextAt_later rfl rfl tie noOwnUnsafe
theorem hstoreNamesUpto_row_tie : Rows.hstoreNamesUptoRow.laidByTextAt .later Tryz.pinned [.data, .data] true :=
  OpenClaim.laidByTextAt_later rfl rfl tie2 noOwnUnsafe
end Go.Proofs.YtobkanoogapgaaaGreatDoor
