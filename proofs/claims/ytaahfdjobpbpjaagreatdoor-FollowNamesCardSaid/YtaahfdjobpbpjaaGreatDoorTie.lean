/-
  DERIVED. GIVEN WITH THE SEED: THE PROGRAM's TIES (one call each: nine closed facts by the kernel) AND EACH ROW's TIE, after the 31st guide's Derived/Test/Toyas{Tie, Card}.lean. No idea stands in it: it is a product of the set-up. Laid BY PROGRAM, IN A SANDBOX (cutbox-door.mjs). By AI agents, Wed Nov 11 2026. No macro, syntax, notation, axiom, sorry.
-/
import Derived.Test.YtaahfdjobpbpjaaGreatDoorRows
import Derived.LaidByTextLater
import Derived.SevenTiedAt
import Derived.LaidSub
import Derived.LaidOnce
namespace Go.Proofs.YtaahfdjobpbpjaaGreatDoor
open Go
set_option maxRecDepth 100000
theorem seatTie1 : Tryz.prog.laidByTextLater [("cairn/cairnref02.rounds", Rows.laid_cairn_cairnref02_rounds), ("cairn/sha.k", Rows.laid_cairn_sha_k), ("cairn/sha.first", Rows.laid_cairn_sha_first), ("errors.errorType", Rows.laid_errors_errorType), ("cairn/journal.kinds", Rows.laid_cairn_journal_kinds), ("cairn/audit.errChain", Rows.laid_cairn_audit_errChain), ("cairn/audit.errStale", Rows.laid_cairn_audit_errStale), ("cairn/audit.errRead", Rows.laid_cairn_audit_errRead)] [.data, .data, .data, .handle, .data, .sentinel, .sentinel, .sentinel] true :=
  Program.laidByTextLater_by_one 95 8 65 (by kernel_rfl) (by kernel_rfl) (by kernel_rfl) (by kernel_rfl) (by kernel_rfl) (by kernel_rfl) (fun _ _ => by kernel_rfl)
theorem noOwnUnsafe : Tryz.pinned.checked.prog.headLifts.contains "ownunsafe" = false := by kernel_rfl
theorem tie : Tryz.prog.laidByTextLater [("cairn/cairnref02.rounds", Rows.laid_cairn_cairnref02_rounds), ("cairn/sha.k", Rows.laid_cairn_sha_k), ("cairn/sha.first", Rows.laid_cairn_sha_first), ("cairn/journal.kinds", Rows.laid_cairn_journal_kinds)] [.data, .data, .data, .data] true :=
  Program.laidByTextLater.sub seatTie1 ["cairn/cairnref02.rounds", "cairn/sha.k", "cairn/sha.first", "cairn/journal.kinds"] (by kernel_rfl) (by kernel_rfl)
theorem followNames_row_tie : Rows.followNamesRow.laidByTextAt .later Tryz.pinned [.data, .data, .data, .data] true :=
  OpenClaim.laidByTextAt_later rfl rfl tie noOwnUnsafe
theorem tie2 : Tryz.prog.laidByTextLater [("cairn/cairnref02.rounds", Rows.laid_cairn_cairnref02_rounds), ("cairn/sha.k", Rows.laid_cairn_sha_k), ("cairn/sha.first", Rows.laid_cairn_sha_first), ("errors.errorType", Rows.laid_errors_errorType), ("cairn/journal.kinds", Rows.laid_cairn_journal_kinds), ("cairn/audit.errChain", Rows.laid_cairn_audit_errChain), ("cairn/audit.errStale", Rows.laid_cairn_audit_errStale), ("cairn/audit.errRead", Rows.laid_cairn_audit_errRead)] [.data, .data, .data, .handle, .data, .sentinel, .sentinel, .sentinel] true :=
  Program.laidByTextLater.sub seatTie1 ["cairn/cairnref02.rounds", "cairn/sha.k", "cairn/sha.first", "errors.errorType", "cairn/journal.kinds", "cairn/audit.errChain", "cairn/audit.errStale", "cairn/audit.errRead"] (by kernel_rfl) (by kernel_rfl)
theorem auditNames_row_tie : Rows.auditNamesRow.laidByTextAt .later Tryz.pinned [.data, .data, .data, .handle, .data, .sentinel, .sentinel, .sentinel] true :=
  OpenClaim.laidByTextAt_later rfl rfl tie2 noOwnUnsafe
theorem followNamesUpto_row_tie : Rows.followNamesUptoRow.laidByTextAt .later Tryz.pinned [.data, .data, .data, .data] true :=
  OpenClaim.laidByTextAt_later rfl rfl tie noOwnUnsafe
theorem auditNamesUpto_row_tie : Rows.auditNamesUptoRow.laidByTextAt .later Tryz.pinned [.data, .data, .data, .handle, .data, .sentinel, .sentinel, .sentinel] true :=
  OpenClaim.laidByTextAt_later rfl rfl tie2 noOwnUnsafe
end Go.Proofs.YtaahfdjobpbpjaaGreatDoor
