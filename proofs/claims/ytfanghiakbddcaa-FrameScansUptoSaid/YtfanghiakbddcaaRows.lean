/-
  No cell of these rows narrows 'for every input' (looked for: loops, veiled, ifaces, maps, wideKeys, modest, calm, conditions, laid).
  DERIVED. THE GIVEN ROWS OF THIS SEAT. 8 by the template 'for every input the law returns true; each argument reads behind the call as it read before'; 0 by the template 'total and deterministic' (their statements: YtfanghiakbddcaaTotals.lean).
  GIVEN WITH THE SEED: the statements are not yours to turn. If you find one false, say at which input.
  Laid BY PROGRAM, IN A SANDBOX (cutbox-rows.mjs): the forced cells as the released guide's own fill.sh prints them over the translation 29f41d09c810c3a2… (all of the seat's roots in one cut). By AI agents, Wed Nov 11 2026. No macro, syntax, notation, axiom, sorry.
-/
import Derived.Test.YtfanghiakbddcaaChecked
import GoSem.Claim
import GoSem.ClaimJoined
import GoSem.ClaimMapViews
import Derived.JoinedTies
import Derived.KernelRfl
namespace Go.Proofs.Ytfanghiakbddcaa
/- THE CELL 'sum', in the pinned program and in every row, IS THE sha256 OF THE DUMP (.gsa) THAT YtfanghiakbddcaaProg.lean LOADS. Nothing in Lean hashes anything: it is a label: what it is worth is what the hold of that sum in a sandbox is worth. -/
noncomputable def Try.pinned : Pinned := { name := "ytfanghiakbddcaa", sum := "29f41d09c810c3a23e74153dcfa2a2324aa70fd54d8e937ff94bf09dc05ec604", checked := Try.checked }
namespace Rows
def none {H : Type} : Left H := { results := [], args := [] }

/-- 'cairnlaw09.FrameWraps': WHATEVER THE INPUT: true; the input reads as it did. -/
def frameWrapsSpec : ChangeSpec := { name := "frameWraps", fn := fun _ => fun
  | [d] => { results := [.lit (.bool true)], args := [d] }
  | _ => none }
def frameWrapsRow : OpenClaim := { program := "ytfanghiakbddcaa", sum := "29f41d09c810c3a23e74153dcfa2a2324aa70fd54d8e937ff94bf09dc05ec604", func := "cairn/cairnlaw09.FrameWraps", spec := "frameWraps", apart := false }
def FrameWrapsSaid : Prop := frameWrapsRow.holds Try.pinned (OpenSpec.ofChange frameWrapsSpec)

/-- ITS FALSE NEIGHBOUR: 'it returns false'. Refute it at one input. -/
def frameWrapsWrong : ChangeSpec := { name := "frameWraps", fn := fun _ => fun
  | [d] => { results := [.lit (.bool false)], args := [d] }
  | _ => none }
def FrameWrapsWrongFalsely : Prop := frameWrapsRow.holds Try.pinned (OpenSpec.ofChange frameWrapsWrong)

/-- 'cairnlaw09.FrameScans': WHATEVER THE INPUT: true; the input reads as it did. -/
def frameScansSpec : ChangeSpec := { name := "frameScans", fn := fun _ => fun
  | [d] => { results := [.lit (.bool true)], args := [d] }
  | _ => none }
def frameScansRow : OpenClaim := { program := "ytfanghiakbddcaa", sum := "29f41d09c810c3a23e74153dcfa2a2324aa70fd54d8e937ff94bf09dc05ec604", func := "cairn/cairnlaw09.FrameScans", spec := "frameScans", apart := false }
def FrameScansSaid : Prop := frameScansRow.holds Try.pinned (OpenSpec.ofChange frameScansSpec)

/-- ITS FALSE NEIGHBOUR: 'it returns false'. Refute it at one input. -/
def frameScansWrong : ChangeSpec := { name := "frameScans", fn := fun _ => fun
  | [d] => { results := [.lit (.bool false)], args := [d] }
  | _ => none }
def FrameScansWrongFalsely : Prop := frameScansRow.holds Try.pinned (OpenSpec.ofChange frameScansWrong)

/-- 'cairnlaw09.FrameCuts': WHATEVER THE INPUT: true; the input reads as it did. -/
def frameCutsSpec : ChangeSpec := { name := "frameCuts", fn := fun _ => fun
  | [d1, d2, d3] => { results := [.lit (.bool true)], args := [d1, d2, d3] }
  | _ => none }
def frameCutsRow : OpenClaim := { program := "ytfanghiakbddcaa", sum := "29f41d09c810c3a23e74153dcfa2a2324aa70fd54d8e937ff94bf09dc05ec604", func := "cairn/cairnlaw09.FrameCuts", spec := "frameCuts", apart := false }
def FrameCutsSaid : Prop := frameCutsRow.holds Try.pinned (OpenSpec.ofChange frameCutsSpec)

/-- ITS FALSE NEIGHBOUR: 'it returns false'. Refute it at one input. -/
def frameCutsWrong : ChangeSpec := { name := "frameCuts", fn := fun _ => fun
  | [d1, d2, d3] => { results := [.lit (.bool false)], args := [d1, d2, d3] }
  | _ => none }
def FrameCutsWrongFalsely : Prop := frameCutsRow.holds Try.pinned (OpenSpec.ofChange frameCutsWrong)

/-- 'cairnlaw07.NodeCut': WHATEVER THE INPUT: true; the input reads as it did. -/
def nodeCutSpec : ChangeSpec := { name := "nodeCut", fn := fun _ => fun
  | [d1, d2, d3] => { results := [.lit (.bool true)], args := [d1, d2, d3] }
  | _ => none }
def nodeCutRow : OpenClaim := { program := "ytfanghiakbddcaa", sum := "29f41d09c810c3a23e74153dcfa2a2324aa70fd54d8e937ff94bf09dc05ec604", func := "cairn/cairnlaw07.NodeCut", spec := "nodeCut", unfollowed := true, recurses := true, apart := false }
def NodeCutSaid : Prop := nodeCutRow.holds Try.pinned (OpenSpec.ofChange nodeCutSpec)

/-- ITS FALSE NEIGHBOUR: 'it returns false'. Refute it at one input. -/
def nodeCutWrong : ChangeSpec := { name := "nodeCut", fn := fun _ => fun
  | [d1, d2, d3] => { results := [.lit (.bool false)], args := [d1, d2, d3] }
  | _ => none }
def NodeCutWrongFalsely : Prop := nodeCutRow.holds Try.pinned (OpenSpec.ofChange nodeCutWrong)

/-- 'cairnlaw07.NodeEncodes': WHATEVER THE INPUT: true; the input reads as it did. -/
def nodeEncodesSpec : ChangeSpec := { name := "nodeEncodes", fn := fun _ => fun
  | [d] => { results := [.lit (.bool true)], args := [d] }
  | _ => none }
def nodeEncodesRow : OpenClaim := { program := "ytfanghiakbddcaa", sum := "29f41d09c810c3a23e74153dcfa2a2324aa70fd54d8e937ff94bf09dc05ec604", func := "cairn/cairnlaw07.NodeEncodes", spec := "nodeEncodes", unfollowed := true, recurses := true, apart := false }
def NodeEncodesSaid : Prop := nodeEncodesRow.holds Try.pinned (OpenSpec.ofChange nodeEncodesSpec)

/-- ITS FALSE NEIGHBOUR: 'it returns false'. Refute it at one input. -/
def nodeEncodesWrong : ChangeSpec := { name := "nodeEncodes", fn := fun _ => fun
  | [d] => { results := [.lit (.bool false)], args := [d] }
  | _ => none }
def NodeEncodesWrongFalsely : Prop := nodeEncodesRow.holds Try.pinned (OpenSpec.ofChange nodeEncodesWrong)

/-- 'cairnlaw07.NodeRound': WHATEVER THE INPUT: true; the input reads as it did. -/
def nodeRoundSpec : ChangeSpec := { name := "nodeRound", fn := fun _ => fun
  | [d1, d2, d3] => { results := [.lit (.bool true)], args := [d1, d2, d3] }
  | _ => none }
def nodeRoundRow : OpenClaim := { program := "ytfanghiakbddcaa", sum := "29f41d09c810c3a23e74153dcfa2a2324aa70fd54d8e937ff94bf09dc05ec604", func := "cairn/cairnlaw07.NodeRound", spec := "nodeRound", unfollowed := true, recurses := true, apart := false }
def NodeRoundSaid : Prop := nodeRoundRow.holds Try.pinned (OpenSpec.ofChange nodeRoundSpec)

/-- ITS FALSE NEIGHBOUR: 'it returns false'. Refute it at one input. -/
def nodeRoundWrong : ChangeSpec := { name := "nodeRound", fn := fun _ => fun
  | [d1, d2, d3] => { results := [.lit (.bool false)], args := [d1, d2, d3] }
  | _ => none }
def NodeRoundWrongFalsely : Prop := nodeRoundRow.holds Try.pinned (OpenSpec.ofChange nodeRoundWrong)

/-- 'cairnlaw07.NodeDecodes': WHATEVER THE INPUT: true; the input reads as it did. -/
def nodeDecodesSpec : ChangeSpec := { name := "nodeDecodes", fn := fun _ => fun
  | [d] => { results := [.lit (.bool true)], args := [d] }
  | _ => none }
def nodeDecodesRow : OpenClaim := { program := "ytfanghiakbddcaa", sum := "29f41d09c810c3a23e74153dcfa2a2324aa70fd54d8e937ff94bf09dc05ec604", func := "cairn/cairnlaw07.NodeDecodes", spec := "nodeDecodes", unfollowed := true, recurses := true, apart := false }
def NodeDecodesSaid : Prop := nodeDecodesRow.holds Try.pinned (OpenSpec.ofChange nodeDecodesSpec)

/-- ITS FALSE NEIGHBOUR: 'it returns false'. Refute it at one input. -/
def nodeDecodesWrong : ChangeSpec := { name := "nodeDecodes", fn := fun _ => fun
  | [d] => { results := [.lit (.bool false)], args := [d] }
  | _ => none }
def NodeDecodesWrongFalsely : Prop := nodeDecodesRow.holds Try.pinned (OpenSpec.ofChange nodeDecodesWrong)

/-- 'cairnlaw07.NodeApart': WHATEVER THE INPUT: true; the input reads as it did. -/
def nodeApartSpec : ChangeSpec := { name := "nodeApart", fn := fun _ => fun
  | [d] => { results := [.lit (.bool true)], args := [d] }
  | _ => none }
def nodeApartRow : OpenClaim := { program := "ytfanghiakbddcaa", sum := "29f41d09c810c3a23e74153dcfa2a2324aa70fd54d8e937ff94bf09dc05ec604", func := "cairn/cairnlaw07.NodeApart", spec := "nodeApart", unfollowed := true, recurses := true, apart := false }
def NodeApartSaid : Prop := nodeApartRow.holds Try.pinned (OpenSpec.ofChange nodeApartSpec)

/-- ITS FALSE NEIGHBOUR: 'it returns false'. Refute it at one input. -/
def nodeApartWrong : ChangeSpec := { name := "nodeApart", fn := fun _ => fun
  | [d] => { results := [.lit (.bool false)], args := [d] }
  | _ => none }
def NodeApartWrongFalsely : Prop := nodeApartRow.holds Try.pinned (OpenSpec.ofChange nodeApartWrong)

/- THE SECOND FORM. 'bulk': how many values and letters a reading holds, each counted each time it is reached (what is shared counts as often as it is met; a slice's spare places count too). A statement '..UptoSaid' is the law's where the arguments, and the package variables that the reading takes, are together of bulk at most 1048576: NARROWER than '..Said'. Prove '..Said' where nothing that the law and all that it calls make is longer than what came in: it says more and counts as full. Else prove '..UptoSaid'. A law counts once. -/
mutual
def uptoBulk {H : Type} : DataW H → Nat
  | .lit (.string bytes) => bytes.length + 1
  | .lit _ => 1
  | .nil => 1
  | .ptr d => uptoBulk d + 1
  | .slice elems spare => uptoBulkAll elems + uptoBulkAll spare + 1
  | .agg parts => uptoBulkAll parts + 1
  | .iface _ d => uptoBulk d + 1
  | .map entries => uptoBulkEntries entries + 1
  | .held _ => 1
def uptoBulkAll {H : Type} : List (DataW H) → Nat
  | [] => 0
  | d :: r => uptoBulk d + uptoBulkAll r
def uptoBulkEntries {H : Type} : List (Lit × DataW H) → Nat
  | [] => 0
  | x :: r => uptoBulkEntry x + uptoBulkEntries r
def uptoBulkEntry {H : Type} : Lit × DataW H → Nat
  | (.string bytes, d) => bytes.length + uptoBulk d + 1
  | (_, d) => uptoBulk d + 1
 end
def uptoSmall : (H : Type) → List (DataW H) → Bool := fun _ ds => decide (uptoBulkAll ds ≤ 1048576)
def OpenSpec.upto (s : _root_.Go.ChangeSpec) : _root_.Go.OpenSpec := { _root_.Go.OpenSpec.ofChange s with cond := some uptoSmall }

/-- 'cairnlaw09.FrameWraps', WHERE WHAT IT READS IS OF BULK AT MOST 1048576: true; the input reads as it did. -/
def frameWrapsUptoRow : OpenClaim := { program := "ytfanghiakbddcaa", sum := "29f41d09c810c3a23e74153dcfa2a2324aa70fd54d8e937ff94bf09dc05ec604", func := "cairn/cairnlaw09.FrameWraps", spec := "frameWraps", apart := false, narrowed := true }
def FrameWrapsUptoSaid : Prop := frameWrapsUptoRow.holds Try.pinned (OpenSpec.upto frameWrapsSpec)

/-- 'cairnlaw09.FrameScans', WHERE WHAT IT READS IS OF BULK AT MOST 1048576: true; the input reads as it did. -/
def frameScansUptoRow : OpenClaim := { program := "ytfanghiakbddcaa", sum := "29f41d09c810c3a23e74153dcfa2a2324aa70fd54d8e937ff94bf09dc05ec604", func := "cairn/cairnlaw09.FrameScans", spec := "frameScans", apart := false, narrowed := true }
def FrameScansUptoSaid : Prop := frameScansUptoRow.holds Try.pinned (OpenSpec.upto frameScansSpec)

/-- 'cairnlaw09.FrameCuts', WHERE WHAT IT READS IS OF BULK AT MOST 1048576: true; the input reads as it did. -/
def frameCutsUptoRow : OpenClaim := { program := "ytfanghiakbddcaa", sum := "29f41d09c810c3a23e74153dcfa2a2324aa70fd54d8e937ff94bf09dc05ec604", func := "cairn/cairnlaw09.FrameCuts", spec := "frameCuts", apart := false, narrowed := true }
def FrameCutsUptoSaid : Prop := frameCutsUptoRow.holds Try.pinned (OpenSpec.upto frameCutsSpec)

/-- 'cairnlaw07.NodeCut', WHERE WHAT IT READS IS OF BULK AT MOST 1048576: true; the input reads as it did. -/
def nodeCutUptoRow : OpenClaim := { program := "ytfanghiakbddcaa", sum := "29f41d09c810c3a23e74153dcfa2a2324aa70fd54d8e937ff94bf09dc05ec604", func := "cairn/cairnlaw07.NodeCut", spec := "nodeCut", unfollowed := true, recurses := true, apart := false, narrowed := true }
def NodeCutUptoSaid : Prop := nodeCutUptoRow.holds Try.pinned (OpenSpec.upto nodeCutSpec)

/-- 'cairnlaw07.NodeEncodes', WHERE WHAT IT READS IS OF BULK AT MOST 1048576: true; the input reads as it did. -/
def nodeEncodesUptoRow : OpenClaim := { program := "ytfanghiakbddcaa", sum := "29f41d09c810c3a23e74153dcfa2a2324aa70fd54d8e937ff94bf09dc05ec604", func := "cairn/cairnlaw07.NodeEncodes", spec := "nodeEncodes", unfollowed := true, recurses := true, apart := false, narrowed := true }
def NodeEncodesUptoSaid : Prop := nodeEncodesUptoRow.holds Try.pinned (OpenSpec.upto nodeEncodesSpec)

/-- 'cairnlaw07.NodeRound', WHERE WHAT IT READS IS OF BULK AT MOST 1048576: true; the input reads as it did. -/
def nodeRoundUptoRow : OpenClaim := { program := "ytfanghiakbddcaa", sum := "29f41d09c810c3a23e74153dcfa2a2324aa70fd54d8e937ff94bf09dc05ec604", func := "cairn/cairnlaw07.NodeRound", spec := "nodeRound", unfollowed := true, recurses := true, apart := false, narrowed := true }
def NodeRoundUptoSaid : Prop := nodeRoundUptoRow.holds Try.pinned (OpenSpec.upto nodeRoundSpec)

/-- 'cairnlaw07.NodeDecodes', WHERE WHAT IT READS IS OF BULK AT MOST 1048576: true; the input reads as it did. -/
def nodeDecodesUptoRow : OpenClaim := { program := "ytfanghiakbddcaa", sum := "29f41d09c810c3a23e74153dcfa2a2324aa70fd54d8e937ff94bf09dc05ec604", func := "cairn/cairnlaw07.NodeDecodes", spec := "nodeDecodes", unfollowed := true, recurses := true, apart := false, narrowed := true }
def NodeDecodesUptoSaid : Prop := nodeDecodesUptoRow.holds Try.pinned (OpenSpec.upto nodeDecodesSpec)

/-- 'cairnlaw07.NodeApart', WHERE WHAT IT READS IS OF BULK AT MOST 1048576: true; the input reads as it did. -/
def nodeApartUptoRow : OpenClaim := { program := "ytfanghiakbddcaa", sum := "29f41d09c810c3a23e74153dcfa2a2324aa70fd54d8e937ff94bf09dc05ec604", func := "cairn/cairnlaw07.NodeApart", spec := "nodeApart", unfollowed := true, recurses := true, apart := false, narrowed := true }
def NodeApartUptoSaid : Prop := nodeApartUptoRow.holds Try.pinned (OpenSpec.upto nodeApartSpec)

end Rows
end Go.Proofs.Ytfanghiakbddcaa
