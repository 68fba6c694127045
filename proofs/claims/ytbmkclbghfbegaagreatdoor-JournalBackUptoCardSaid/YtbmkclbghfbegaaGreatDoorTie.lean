/-
  DERIVED. GIVEN WITH THE SEED: THE PROGRAM's TIES (one call each: nine closed facts by the kernel) AND EACH ROW's TIE, after the 31st guide's Derived/Test/Toyas{Tie, Card}.lean. No idea stands in it: it is a product of the set-up. Laid BY PROGRAM, IN A SANDBOX (cutbox-door.mjs). By AI agents, Wed Nov 11 2026. No macro, syntax, notation, axiom, sorry.
-/
import Derived.Test.YtbmkclbghfbegaaGreatDoorRows
import Derived.LaidByTextLater
import Derived.SevenTiedAt
import Derived.LaidSub
import Derived.LaidOnce
namespace Go.Proofs.YtbmkclbghfbegaaGreatDoor
open Go
set_option maxRecDepth 100000
theorem seatTie1 : Tryz.prog.laidByTextLater [("cairn/cairnref02.rounds", Rows.laid_cairn_cairnref02_rounds), ("cairn/sha.k", Rows.laid_cairn_sha_k), ("cairn/sha.first", Rows.laid_cairn_sha_first), ("cairn/journal.kinds", Rows.laid_cairn_journal_kinds)] [.data, .data, .data, .data] true :=
  Program.laidByTextLater_by_one 31 8 65 (by kernel_rfl) (by kernel_rfl) (by kernel_rfl) (by kernel_rfl) (by kernel_rfl) (by kernel_rfl) (fun _ _ => by kernel_rfl)
theorem noOwnUnsafe : Tryz.pinned.checked.prog.headLifts.contains "ownunsafe" = false := by kernel_rfl
theorem tie : Tryz.prog.laidByTextLater [("cairn/cairnref02.rounds", Rows.laid_cairn_cairnref02_rounds), ("cairn/sha.k", Rows.laid_cairn_sha_k), ("cairn/sha.first", Rows.laid_cairn_sha_first), ("cairn/journal.kinds", Rows.laid_cairn_journal_kinds)] [.data, .data, .data, .data] true :=
  Program.laidByTextLater.sub seatTie1 ["cairn/cairnref02.rounds", "cairn/sha.k", "cairn/sha.first", "cairn/journal.kinds"] (by kernel_rfl) (by kernel_rfl)
theorem journalWrites_row_tie : Rows.journalWritesRow.laidByTextAt .later Tryz.pinned [.data, .data, .data, .data] true :=
  OpenClaim.laidByTextAt_later rfl rfl tie noOwnUnsafe
theorem journalScans_row_tie : Rows.journalScansRow.laidByTextAt .later Tryz.pinned [.data, .data, .data, .data] true :=
  OpenClaim.laidByTextAt_later rfl rfl tie noOwnUnsafe
theorem tie2 : Tryz.prog.laidByTextLater [("cairn/sha.k", Rows.laid_cairn_sha_k), ("cairn/sha.first", Rows.laid_cairn_sha_first), ("cairn/journal.kinds", Rows.laid_cairn_journal_kinds)] [.data, .data, .data] true :=
  Program.laidByTextLater.sub seatTie1 ["cairn/sha.k", "cairn/sha.first", "cairn/journal.kinds"] (by kernel_rfl) (by kernel_rfl)
theorem journalTurned_row_tie : Rows.journalTurnedRow.laidByTextAt .later Tryz.pinned [.data, .data, .data] true :=
  OpenClaim.laidByTextAt_later rfl rfl tie2 noOwnUnsafe
theorem journalBack_row_tie : Rows.journalBackRow.laidByTextAt .later Tryz.pinned [.data, .data, .data] true :=
  OpenClaim.laidByTextAt_later rfl rfl tie2 noOwnUnsafe
theorem journalWritesUpto_row_tie : Rows.journalWritesUptoRow.laidByTextAt .later Tryz.pinned [.data, .data, .data, .data] true :=
  OpenClaim.laidByTextAt_later rfl rfl tie noOwnUnsafe
theorem journalTurnedUpto_row_tie : Rows.journalTurnedUptoRow.laidByTextAt .later Tryz.pinned [.data, .data, .data] true :=
  OpenClaim.laidByTextAt_later rfl rfl tie2 noOwnUnsafe
theorem journalBackUpto_row_tie : Rows.journalBackUptoRow.laidByTextAt .later Tryz.pinned [.data, .data, .data] true :=
  OpenClaim.laidByTextAt_later rfl rfl tie2 noOwnUnsafe
theorem journalScansUpto_row_tie : Rows.journalScansUptoRow.laidByTextAt .later Tryz.pinned [.data, .data, .data, .data] true :=
  OpenClaim.laidByTextAt_later rfl rfl tie noOwnUnsafe
end Go.Proofs.YtbmkclbghfbegaaGreatDoor
