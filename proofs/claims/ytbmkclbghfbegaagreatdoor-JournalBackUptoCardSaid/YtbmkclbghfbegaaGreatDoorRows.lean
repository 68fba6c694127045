/-
  NARROWER THAN 'FOR EVERY INPUT', by the rows' own cells (each row's printed sentence says how): JournalWrites: laid · JournalTurned: laid · JournalBack: laid · JournalScans: laid.
  DERIVED. THE GIVEN ROWS OF THIS SEAT. 4 by the template 'for every input the law returns true; each argument reads behind the call as it read before'; 0 by the template 'total and deterministic' (their statements: YtbmkclbghfbegaaGreatDoorTotals.lean).
  GIVEN WITH THE SEED: the statements are not yours to turn. If you find one false, say at which input.
  Laid BY PROGRAM, IN A SANDBOX (cutbox-rows.mjs): the forced cells as the released guide's own fill.sh prints them over the translation 9a237a5a7db08b7c… (all of the seat's roots in one cut). By AI agents, Wed Nov 11 2026. No macro, syntax, notation, axiom, sorry.
-/
import Derived.Test.YtbmkclbghfbegaaGreatDoorChecked
import GoSem.Claim
import GoSem.ClaimJoined
import GoSem.ClaimMapViews
import Derived.JoinedTies
import Derived.KernelRfl
namespace Go.Proofs.YtbmkclbghfbegaaGreatDoor
/- THE CELL 'sum', in the pinned program and in every row, IS THE sha256 OF THE DUMP (.gsa) THAT YtbmkclbghfbegaaGreatDoorProg.lean LOADS. Nothing in Lean hashes anything: it is a label: what it is worth is what the hold of that sum in a sandbox is worth. -/
noncomputable def Tryz.pinned : Pinned := { name := "ytbmkclbghfbegaagreatdoor", sum := "9a237a5a7db08b7ce84263ac85bddf3ed2a732f97c608f8e34bb161839fdbd5e", checked := Tryz.checked }
namespace Rows
def none {H : Type} : Left H := { results := [], args := [] }

/- WHAT THE LISTED PACKAGE-LEVEL VARIABLES READ AS WHEN THE CALL BEGINS. Each datum BY PROGRAM (the guide's laid-datum.mjs) off the statement by which the dump's own 'gosem.cut.vars' lays the variable. In a bare row this is a premise. The card (YtbmkclbghfbegaaGreatDoorCards.lean) ties it to the program's text. -/
def laid_cairn_cairnref02_rounds {H : Type} : DataW H := .agg [.lit (.int .u32 1116352408), .lit (.int .u32 1899447441), .lit (.int .u32 3049323471), .lit (.int .u32 3921009573), .lit (.int .u32 961987163), .lit (.int .u32 1508970993), .lit (.int .u32 2453635748), .lit (.int .u32 2870763221), .lit (.int .u32 3624381080), .lit (.int .u32 310598401), .lit (.int .u32 607225278), .lit (.int .u32 1426881987), .lit (.int .u32 1925078388), .lit (.int .u32 2162078206), .lit (.int .u32 2614888103), .lit (.int .u32 3248222580), .lit (.int .u32 3835390401), .lit (.int .u32 4022224774), .lit (.int .u32 264347078), .lit (.int .u32 604807628), .lit (.int .u32 770255983), .lit (.int .u32 1249150122), .lit (.int .u32 1555081692), .lit (.int .u32 1996064986), .lit (.int .u32 2554220882), .lit (.int .u32 2821834349), .lit (.int .u32 2952996808), .lit (.int .u32 3210313671), .lit (.int .u32 3336571891), .lit (.int .u32 3584528711), .lit (.int .u32 113926993), .lit (.int .u32 338241895), .lit (.int .u32 666307205), .lit (.int .u32 773529912), .lit (.int .u32 1294757372), .lit (.int .u32 1396182291), .lit (.int .u32 1695183700), .lit (.int .u32 1986661051), .lit (.int .u32 2177026350), .lit (.int .u32 2456956037), .lit (.int .u32 2730485921), .lit (.int .u32 2820302411), .lit (.int .u32 3259730800), .lit (.int .u32 3345764771), .lit (.int .u32 3516065817), .lit (.int .u32 3600352804), .lit (.int .u32 4094571909), .lit (.int .u32 275423344), .lit (.int .u32 430227734), .lit (.int .u32 506948616), .lit (.int .u32 659060556), .lit (.int .u32 883997877), .lit (.int .u32 958139571), .lit (.int .u32 1322822218), .lit (.int .u32 1537002063), .lit (.int .u32 1747873779), .lit (.int .u32 1955562222), .lit (.int .u32 2024104815), .lit (.int .u32 2227730452), .lit (.int .u32 2361852424), .lit (.int .u32 2428436474), .lit (.int .u32 2756734187), .lit (.int .u32 3204031479), .lit (.int .u32 3329325298)]
def laid_cairn_sha_k {H : Type} : DataW H := .agg [.lit (.int .u32 1116352408), .lit (.int .u32 1899447441), .lit (.int .u32 3049323471), .lit (.int .u32 3921009573), .lit (.int .u32 961987163), .lit (.int .u32 1508970993), .lit (.int .u32 2453635748), .lit (.int .u32 2870763221), .lit (.int .u32 3624381080), .lit (.int .u32 310598401), .lit (.int .u32 607225278), .lit (.int .u32 1426881987), .lit (.int .u32 1925078388), .lit (.int .u32 2162078206), .lit (.int .u32 2614888103), .lit (.int .u32 3248222580), .lit (.int .u32 3835390401), .lit (.int .u32 4022224774), .lit (.int .u32 264347078), .lit (.int .u32 604807628), .lit (.int .u32 770255983), .lit (.int .u32 1249150122), .lit (.int .u32 1555081692), .lit (.int .u32 1996064986), .lit (.int .u32 2554220882), .lit (.int .u32 2821834349), .lit (.int .u32 2952996808), .lit (.int .u32 3210313671), .lit (.int .u32 3336571891), .lit (.int .u32 3584528711), .lit (.int .u32 113926993), .lit (.int .u32 338241895), .lit (.int .u32 666307205), .lit (.int .u32 773529912), .lit (.int .u32 1294757372), .lit (.int .u32 1396182291), .lit (.int .u32 1695183700), .lit (.int .u32 1986661051), .lit (.int .u32 2177026350), .lit (.int .u32 2456956037), .lit (.int .u32 2730485921), .lit (.int .u32 2820302411), .lit (.int .u32 3259730800), .lit (.int .u32 3345764771), .lit (.int .u32 3516065817), .lit (.int .u32 3600352804), .lit (.int .u32 4094571909), .lit (.int .u32 275423344), .lit (.int .u32 430227734), .lit (.int .u32 506948616), .lit (.int .u32 659060556), .lit (.int .u32 883997877), .lit (.int .u32 958139571), .lit (.int .u32 1322822218), .lit (.int .u32 1537002063), .lit (.int .u32 1747873779), .lit (.int .u32 1955562222), .lit (.int .u32 2024104815), .lit (.int .u32 2227730452), .lit (.int .u32 2361852424), .lit (.int .u32 2428436474), .lit (.int .u32 2756734187), .lit (.int .u32 3204031479), .lit (.int .u32 3329325298)]
def laid_cairn_sha_first {H : Type} : DataW H := .agg [.lit (.int .u32 1779033703), .lit (.int .u32 3144134277), .lit (.int .u32 1013904242), .lit (.int .u32 2773480762), .lit (.int .u32 1359893119), .lit (.int .u32 2600822924), .lit (.int .u32 528734635), .lit (.int .u32 1541459225)]
def laid_cairn_journal_kinds {H : Type} : DataW H := .agg [.agg [.lit (.int .i64 1), .lit (.int .i64 0), .lit (.int .i64 0), .lit (.bool false)], .agg [.lit (.int .i64 2), .lit (.int .i64 1), .lit (.int .i64 32), .lit (.bool true)]]

/-- 'cairnlaw19.JournalWrites': WHATEVER THE INPUT: true; the input reads as it did. -/
def journalWritesSpec : ChangeSpec := { name := "journalWrites", fn := fun _ => fun
  | [d1, d2] => { results := [.lit (.bool true)], args := [d1, d2] }
  | _ => none }
def journalWritesRow : OpenClaim := { program := "ytbmkclbghfbegaagreatdoor", sum := "9a237a5a7db08b7ce84263ac85bddf3ed2a732f97c608f8e34bb161839fdbd5e", func := "cairn/cairnlaw19.JournalWrites", spec := "journalWrites", inPlace := ["(*internal/sync.Mutex).Lock", "internal/race.Disable", "sync/atomic.CompareAndSwapInt32", "internal/race.Enable", "internal/race.Acquire", "(*internal/sync.Mutex).lockSlow", "internal/sync.runtime_canSpin", "internal/sync.runtime_doSpin", "internal/sync.throw", "internal/sync.runtime_nanotime", "internal/sync.runtime_SemacquireMutex", "sync/atomic.AddInt32", "(*internal/sync.Mutex).Unlock", "internal/race.ReleaseMerge", "(*internal/sync.Mutex).unlockSlow", "internal/sync.fatal", "internal/sync.runtime_Semrelease"], recurses := true, named := ["cairn/journal.kinds", "cairn/cairnref02.rounds", "cairn/sha.first", "cairn/sha.k"], plainKeys := false, apart := false, laid := [("cairn/cairnref02.rounds", laid_cairn_cairnref02_rounds), ("cairn/sha.k", laid_cairn_sha_k), ("cairn/sha.first", laid_cairn_sha_first), ("cairn/journal.kinds", laid_cairn_journal_kinds)] }
def JournalWritesSaid : Prop := journalWritesRow.holds Tryz.pinned (OpenSpec.ofChange journalWritesSpec)

/-- ITS FALSE NEIGHBOUR: 'it returns false'. Refute it at one input. -/
def journalWritesWrong : ChangeSpec := { name := "journalWrites", fn := fun _ => fun
  | [d1, d2] => { results := [.lit (.bool false)], args := [d1, d2] }
  | _ => none }
def JournalWritesWrongFalsely : Prop := journalWritesRow.holds Tryz.pinned (OpenSpec.ofChange journalWritesWrong)

/-- 'cairnlaw19.JournalTurned': WHATEVER THE INPUT: true; the input reads as it did. -/
def journalTurnedSpec : ChangeSpec := { name := "journalTurned", fn := fun _ => fun
  | [d1, d2, d3, d4] => { results := [.lit (.bool true)], args := [d1, d2, d3, d4] }
  | _ => none }
def journalTurnedRow : OpenClaim := { program := "ytbmkclbghfbegaagreatdoor", sum := "9a237a5a7db08b7ce84263ac85bddf3ed2a732f97c608f8e34bb161839fdbd5e", func := "cairn/cairnlaw19.JournalTurned", spec := "journalTurned", inPlace := ["(*internal/sync.Mutex).Lock", "internal/race.Disable", "sync/atomic.CompareAndSwapInt32", "internal/race.Enable", "internal/race.Acquire", "(*internal/sync.Mutex).lockSlow", "internal/sync.runtime_canSpin", "internal/sync.runtime_doSpin", "internal/sync.throw", "internal/sync.runtime_nanotime", "internal/sync.runtime_SemacquireMutex", "sync/atomic.AddInt32", "(*internal/sync.Mutex).Unlock", "internal/race.ReleaseMerge", "(*internal/sync.Mutex).unlockSlow", "internal/sync.fatal", "internal/sync.runtime_Semrelease", "internal/bytealg.Compare"], unfollowed := true, recurses := true, named := ["cairn/journal.kinds", "cairn/sha.first", "cairn/sha.k"], plainKeys := false, apart := false, laid := [("cairn/sha.k", laid_cairn_sha_k), ("cairn/sha.first", laid_cairn_sha_first), ("cairn/journal.kinds", laid_cairn_journal_kinds)] }
def JournalTurnedSaid : Prop := journalTurnedRow.holds Tryz.pinned (OpenSpec.ofChange journalTurnedSpec)

/-- ITS FALSE NEIGHBOUR: 'it returns false'. Refute it at one input. -/
def journalTurnedWrong : ChangeSpec := { name := "journalTurned", fn := fun _ => fun
  | [d1, d2, d3, d4] => { results := [.lit (.bool false)], args := [d1, d2, d3, d4] }
  | _ => none }
def JournalTurnedWrongFalsely : Prop := journalTurnedRow.holds Tryz.pinned (OpenSpec.ofChange journalTurnedWrong)

/-- 'cairnlaw19.JournalBack': WHATEVER THE INPUT: true; the input reads as it did. -/
def journalBackSpec : ChangeSpec := { name := "journalBack", fn := fun _ => fun
  | [d1, d2] => { results := [.lit (.bool true)], args := [d1, d2] }
  | _ => none }
def journalBackRow : OpenClaim := { program := "ytbmkclbghfbegaagreatdoor", sum := "9a237a5a7db08b7ce84263ac85bddf3ed2a732f97c608f8e34bb161839fdbd5e", func := "cairn/cairnlaw19.JournalBack", spec := "journalBack", inPlace := ["(*internal/sync.Mutex).Lock", "internal/race.Disable", "sync/atomic.CompareAndSwapInt32", "internal/race.Enable", "internal/race.Acquire", "(*internal/sync.Mutex).lockSlow", "internal/sync.runtime_canSpin", "internal/sync.runtime_doSpin", "internal/sync.throw", "internal/sync.runtime_nanotime", "internal/sync.runtime_SemacquireMutex", "sync/atomic.AddInt32", "(*internal/sync.Mutex).Unlock", "internal/race.ReleaseMerge", "(*internal/sync.Mutex).unlockSlow", "internal/sync.fatal", "internal/sync.runtime_Semrelease", "internal/bytealg.Compare"], unfollowed := true, recurses := true, named := ["cairn/journal.kinds", "cairn/sha.first", "cairn/sha.k"], plainKeys := false, apart := false, laid := [("cairn/sha.k", laid_cairn_sha_k), ("cairn/sha.first", laid_cairn_sha_first), ("cairn/journal.kinds", laid_cairn_journal_kinds)] }
def JournalBackSaid : Prop := journalBackRow.holds Tryz.pinned (OpenSpec.ofChange journalBackSpec)

/-- ITS FALSE NEIGHBOUR: 'it returns false'. Refute it at one input. -/
def journalBackWrong : ChangeSpec := { name := "journalBack", fn := fun _ => fun
  | [d1, d2] => { results := [.lit (.bool false)], args := [d1, d2] }
  | _ => none }
def JournalBackWrongFalsely : Prop := journalBackRow.holds Tryz.pinned (OpenSpec.ofChange journalBackWrong)

/-- 'cairnlaw19.JournalScans': WHATEVER THE INPUT: true; the input reads as it did. -/
def journalScansSpec : ChangeSpec := { name := "journalScans", fn := fun _ => fun
  | [d] => { results := [.lit (.bool true)], args := [d] }
  | _ => none }
def journalScansRow : OpenClaim := { program := "ytbmkclbghfbegaagreatdoor", sum := "9a237a5a7db08b7ce84263ac85bddf3ed2a732f97c608f8e34bb161839fdbd5e", func := "cairn/cairnlaw19.JournalScans", spec := "journalScans", inPlace := ["(*internal/sync.Mutex).Lock", "internal/race.Disable", "sync/atomic.CompareAndSwapInt32", "internal/race.Enable", "internal/race.Acquire", "(*internal/sync.Mutex).lockSlow", "internal/sync.runtime_canSpin", "internal/sync.runtime_doSpin", "internal/sync.throw", "internal/sync.runtime_nanotime", "internal/sync.runtime_SemacquireMutex", "sync/atomic.AddInt32", "(*internal/sync.Mutex).Unlock", "internal/race.ReleaseMerge", "(*internal/sync.Mutex).unlockSlow", "internal/sync.fatal", "internal/sync.runtime_Semrelease", "internal/bytealg.Compare"], unfollowed := true, recurses := true, named := ["cairn/journal.kinds", "cairn/cairnref02.rounds", "cairn/sha.first", "cairn/sha.k"], plainKeys := false, apart := false, laid := [("cairn/cairnref02.rounds", laid_cairn_cairnref02_rounds), ("cairn/sha.k", laid_cairn_sha_k), ("cairn/sha.first", laid_cairn_sha_first), ("cairn/journal.kinds", laid_cairn_journal_kinds)] }
def JournalScansSaid : Prop := journalScansRow.holds Tryz.pinned (OpenSpec.ofChange journalScansSpec)

/-- ITS FALSE NEIGHBOUR: 'it returns false'. Refute it at one input. -/
def journalScansWrong : ChangeSpec := { name := "journalScans", fn := fun _ => fun
  | [d] => { results := [.lit (.bool false)], args := [d] }
  | _ => none }
def JournalScansWrongFalsely : Prop := journalScansRow.holds Tryz.pinned (OpenSpec.ofChange journalScansWrong)

/- THE SECOND FORM. 'bulk': how many values and letters a reading holds, each counted each time it is reached (what is shared counts as often as it is met; a slice's spare places count too). A statement '..UptoSaid' is the law's where the arguments, and the package variables that the reading takes, are together of bulk at most 1048576: NARROWER than '..Said'. Prove '..Said' where nothing that the law and all that it calls make is longer than what came in: it says more and counts as full. Else prove '..UptoSaid'. A law counts once. -/
mutual
def uptoBulk {H : Type} : DataW H → Nat
  | .lit (.string bytes) => bytes.length + 1
  | .lit _ => 1
  | .nil => 1
  | .ptr d => uptoBulk d + 1
  | .slice elems spare => uptoBulkAll elems + uptoBulkAll spare + 1
  | .agg parts => uptoBulkAll parts + 1
  | .iface _ d => uptoBulk d + 1
  | .map entries => uptoBulkEntries entries + 1
  | .held _ => 1
def uptoBulkAll {H : Type} : List (DataW H) → Nat
  | [] => 0
  | d :: r => uptoBulk d + uptoBulkAll r
def uptoBulkEntries {H : Type} : List (Lit × DataW H) → Nat
  | [] => 0
  | x :: r => uptoBulkEntry x + uptoBulkEntries r
def uptoBulkEntry {H : Type} : Lit × DataW H → Nat
  | (.string bytes, d) => bytes.length + uptoBulk d + 1
  | (_, d) => uptoBulk d + 1
 end
def uptoSmall : (H : Type) → List (DataW H) → Bool := fun _ ds => decide (uptoBulkAll ds ≤ 1048576)
def OpenSpec.upto (s : _root_.Go.ChangeSpec) : _root_.Go.OpenSpec := { _root_.Go.OpenSpec.ofChange s with cond := some uptoSmall }

/-- 'cairnlaw19.JournalWrites', WHERE WHAT IT READS IS OF BULK AT MOST 1048576: true; the input reads as it did. -/
def journalWritesUptoRow : OpenClaim := { program := "ytbmkclbghfbegaagreatdoor", sum := "9a237a5a7db08b7ce84263ac85bddf3ed2a732f97c608f8e34bb161839fdbd5e", func := "cairn/cairnlaw19.JournalWrites", spec := "journalWrites", inPlace := ["(*internal/sync.Mutex).Lock", "internal/race.Disable", "sync/atomic.CompareAndSwapInt32", "internal/race.Enable", "internal/race.Acquire", "(*internal/sync.Mutex).lockSlow", "internal/sync.runtime_canSpin", "internal/sync.runtime_doSpin", "internal/sync.throw", "internal/sync.runtime_nanotime", "internal/sync.runtime_SemacquireMutex", "sync/atomic.AddInt32", "(*internal/sync.Mutex).Unlock", "internal/race.ReleaseMerge", "(*internal/sync.Mutex).unlockSlow", "internal/sync.fatal", "internal/sync.runtime_Semrelease"], recurses := true, named := ["cairn/journal.kinds", "cairn/cairnref02.rounds", "cairn/sha.first", "cairn/sha.k"], plainKeys := false, apart := false, laid := [("cairn/cairnref02.rounds", laid_cairn_cairnref02_rounds), ("cairn/sha.k", laid_cairn_sha_k), ("cairn/sha.first", laid_cairn_sha_first), ("cairn/journal.kinds", laid_cairn_journal_kinds)], narrowed := true }
def JournalWritesUptoSaid : Prop := journalWritesUptoRow.holds Tryz.pinned (OpenSpec.upto journalWritesSpec)

/-- 'cairnlaw19.JournalTurned', WHERE WHAT IT READS IS OF BULK AT MOST 1048576: true; the input reads as it did. -/
def journalTurnedUptoRow : OpenClaim := { program := "ytbmkclbghfbegaagreatdoor", sum := "9a237a5a7db08b7ce84263ac85bddf3ed2a732f97c608f8e34bb161839fdbd5e", func := "cairn/cairnlaw19.JournalTurned", spec := "journalTurned", inPlace := ["(*internal/sync.Mutex).Lock", "internal/race.Disable", "sync/atomic.CompareAndSwapInt32", "internal/race.Enable", "internal/race.Acquire", "(*internal/sync.Mutex).lockSlow", "internal/sync.runtime_canSpin", "internal/sync.runtime_doSpin", "internal/sync.throw", "internal/sync.runtime_nanotime", "internal/sync.runtime_SemacquireMutex", "sync/atomic.AddInt32", "(*internal/sync.Mutex).Unlock", "internal/race.ReleaseMerge", "(*internal/sync.Mutex).unlockSlow", "internal/sync.fatal", "internal/sync.runtime_Semrelease", "internal/bytealg.Compare"], unfollowed := true, recurses := true, named := ["cairn/journal.kinds", "cairn/sha.first", "cairn/sha.k"], plainKeys := false, apart := false, laid := [("cairn/sha.k", laid_cairn_sha_k), ("cairn/sha.first", laid_cairn_sha_first), ("cairn/journal.kinds", laid_cairn_journal_kinds)], narrowed := true }
def JournalTurnedUptoSaid : Prop := journalTurnedUptoRow.holds Tryz.pinned (OpenSpec.upto journalTurnedSpec)

/-- 'cairnlaw19.JournalBack', WHERE WHAT IT READS IS OF BULK AT MOST 1048576: true; the input reads as it did. -/
def journalBackUptoRow : OpenClaim := { program := "ytbmkclbghfbegaagreatdoor", sum := "9a237a5a7db08b7ce84263ac85bddf3ed2a732f97c608f8e34bb161839fdbd5e", func := "cairn/cairnlaw19.JournalBack", spec := "journalBack", inPlace := ["(*internal/sync.Mutex).Lock", "internal/race.Disable", "sync/atomic.CompareAndSwapInt32", "internal/race.Enable", "internal/race.Acquire", "(*internal/sync.Mutex).lockSlow", "internal/sync.runtime_canSpin", "internal/sync.runtime_doSpin", "internal/sync.throw", "internal/sync.runtime_nanotime", "internal/sync.runtime_SemacquireMutex", "sync/atomic.AddInt32", "(*internal/sync.Mutex).Unlock", "internal/race.ReleaseMerge", "(*internal/sync.Mutex).unlockSlow", "internal/sync.fatal", "internal/sync.runtime_Semrelease", "internal/bytealg.Compare"], unfollowed := true, recurses := true, named := ["cairn/journal.kinds", "cairn/sha.first", "cairn/sha.k"], plainKeys := false, apart := false, laid := [("cairn/sha.k", laid_cairn_sha_k), ("cairn/sha.first", laid_cairn_sha_first), ("cairn/journal.kinds", laid_cairn_journal_kinds)], narrowed := true }
def JournalBackUptoSaid : Prop := journalBackUptoRow.holds Tryz.pinned (OpenSpec.upto journalBackSpec)

/-- 'cairnlaw19.JournalScans', WHERE WHAT IT READS IS OF BULK AT MOST 1048576: true; the input reads as it did. -/
def journalScansUptoRow : OpenClaim := { program := "ytbmkclbghfbegaagreatdoor", sum := "9a237a5a7db08b7ce84263ac85bddf3ed2a732f97c608f8e34bb161839fdbd5e", func := "cairn/cairnlaw19.JournalScans", spec := "journalScans", inPlace := ["(*internal/sync.Mutex).Lock", "internal/race.Disable", "sync/atomic.CompareAndSwapInt32", "internal/race.Enable", "internal/race.Acquire", "(*internal/sync.Mutex).lockSlow", "internal/sync.runtime_canSpin", "internal/sync.runtime_doSpin", "internal/sync.throw", "internal/sync.runtime_nanotime", "internal/sync.runtime_SemacquireMutex", "sync/atomic.AddInt32", "(*internal/sync.Mutex).Unlock", "internal/race.ReleaseMerge", "(*internal/sync.Mutex).unlockSlow", "internal/sync.fatal", "internal/sync.runtime_Semrelease", "internal/bytealg.Compare"], unfollowed := true, recurses := true, named := ["cairn/journal.kinds", "cairn/cairnref02.rounds", "cairn/sha.first", "cairn/sha.k"], plainKeys := false, apart := false, laid := [("cairn/cairnref02.rounds", laid_cairn_cairnref02_rounds), ("cairn/sha.k", laid_cairn_sha_k), ("cairn/sha.first", laid_cairn_sha_first), ("cairn/journal.kinds", laid_cairn_journal_kinds)], narrowed := true }
def JournalScansUptoSaid : Prop := journalScansUptoRow.holds Tryz.pinned (OpenSpec.upto journalScansSpec)

end Rows
end Go.Proofs.YtbmkclbghfbegaaGreatDoor
