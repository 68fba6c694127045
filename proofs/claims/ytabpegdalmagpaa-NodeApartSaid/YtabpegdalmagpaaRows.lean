/-
  No cell of these rows narrows 'for every input' (looked for: loops, veiled, ifaces, maps, wideKeys, modest, calm, conditions, laid).
  DERIVED. THE GIVEN ROWS OF THIS SEAT. 5 by the template 'for every input the law returns true; each argument reads behind the call as it read before'; 0 by the template 'total and deterministic' (their statements: YtabpegdalmagpaaTotals.lean).
  GIVEN WITH THE SEED: the statements are not yours to turn. If you find one false, say at which input.
  Laid BY PROGRAM, IN A SANDBOX (cutbox-rows.mjs): the forced cells as the released guide's own fill.sh prints them over the translation 6c83850976a6d94b… (all of the seat's roots in one cut). By AI agents, Wed Nov 11 2026. No macro, syntax, notation, axiom, sorry.
-/
import Derived.Test.YtabpegdalmagpaaChecked
import GoSem.Claim
import GoSem.ClaimJoined
import GoSem.ClaimMapViews
import Derived.JoinedTies
import Derived.KernelRfl
namespace Go.Proofs.Ytabpegdalmagpaa
/- THE CELL 'sum', in the pinned program and in every row, IS THE sha256 OF THE DUMP (.gsa) THAT YtabpegdalmagpaaProg.lean LOADS. Nothing in Lean hashes anything: it is a label: what it is worth is what the hold of that sum in a sandbox is worth. -/
noncomputable def Try.pinned : Pinned := { name := "ytabpegdalmagpaa", sum := "6c83850976a6d94bb4f456c4f8c816b804232a6461e06810a4854cb9274d97f0", checked := Try.checked }
namespace Rows
def none {H : Type} : Left H := { results := [], args := [] }

/-- 'cairnlaw07.NodeCut': WHATEVER THE INPUT: true; the input reads as it did. -/
def nodeCutSpec : ChangeSpec := { name := "nodeCut", fn := fun _ => fun
  | [d1, d2, d3] => { results := [.lit (.bool true)], args := [d1, d2, d3] }
  | _ => none }
def nodeCutRow : OpenClaim := { program := "ytabpegdalmagpaa", sum := "6c83850976a6d94bb4f456c4f8c816b804232a6461e06810a4854cb9274d97f0", func := "cairn/cairnlaw07.NodeCut", spec := "nodeCut", unfollowed := true, recurses := true, apart := false }
def NodeCutSaid : Prop := nodeCutRow.holds Try.pinned (OpenSpec.ofChange nodeCutSpec)

/-- ITS FALSE NEIGHBOUR: 'it returns false'. Refute it at one input. -/
def nodeCutWrong : ChangeSpec := { name := "nodeCut", fn := fun _ => fun
  | [d1, d2, d3] => { results := [.lit (.bool false)], args := [d1, d2, d3] }
  | _ => none }
def NodeCutWrongFalsely : Prop := nodeCutRow.holds Try.pinned (OpenSpec.ofChange nodeCutWrong)

/-- 'cairnlaw07.NodeEncodes': WHATEVER THE INPUT: true; the input reads as it did. -/
def nodeEncodesSpec : ChangeSpec := { name := "nodeEncodes", fn := fun _ => fun
  | [d] => { results := [.lit (.bool true)], args := [d] }
  | _ => none }
def nodeEncodesRow : OpenClaim := { program := "ytabpegdalmagpaa", sum := "6c83850976a6d94bb4f456c4f8c816b804232a6461e06810a4854cb9274d97f0", func := "cairn/cairnlaw07.NodeEncodes", spec := "nodeEncodes", unfollowed := true, recurses := true, apart := false }
def NodeEncodesSaid : Prop := nodeEncodesRow.holds Try.pinned (OpenSpec.ofChange nodeEncodesSpec)

/-- ITS FALSE NEIGHBOUR: 'it returns false'. Refute it at one input. -/
def nodeEncodesWrong : ChangeSpec := { name := "nodeEncodes", fn := fun _ => fun
  | [d] => { results := [.lit (.bool false)], args := [d] }
  | _ => none }
def NodeEncodesWrongFalsely : Prop := nodeEncodesRow.holds Try.pinned (OpenSpec.ofChange nodeEncodesWrong)

/-- 'cairnlaw07.NodeRound': WHATEVER THE INPUT: true; the input reads as it did. -/
def nodeRoundSpec : ChangeSpec := { name := "nodeRound", fn := fun _ => fun
  | [d1, d2, d3] => { results := [.lit (.bool true)], args := [d1, d2, d3] }
  | _ => none }
def nodeRoundRow : OpenClaim := { program := "ytabpegdalmagpaa", sum := "6c83850976a6d94bb4f456c4f8c816b804232a6461e06810a4854cb9274d97f0", func := "cairn/cairnlaw07.NodeRound", spec := "nodeRound", unfollowed := true, recurses := true, apart := false }
def NodeRoundSaid : Prop := nodeRoundRow.holds Try.pinned (OpenSpec.ofChange nodeRoundSpec)

/-- ITS FALSE NEIGHBOUR: 'it returns false'. Refute it at one input. -/
def nodeRoundWrong : ChangeSpec := { name := "nodeRound", fn := fun _ => fun
  | [d1, d2, d3] => { results := [.lit (.bool false)], args := [d1, d2, d3] }
  | _ => none }
def NodeRoundWrongFalsely : Prop := nodeRoundRow.holds Try.pinned (OpenSpec.ofChange nodeRoundWrong)

/-- 'cairnlaw07.NodeDecodes': WHATEVER THE INPUT: true; the input reads as it did. -/
def nodeDecodesSpec : ChangeSpec := { name := "nodeDecodes", fn := fun _ => fun
  | [d] => { results := [.lit (.bool true)], args := [d] }
  | _ => none }
def nodeDecodesRow : OpenClaim := { program := "ytabpegdalmagpaa", sum := "6c83850976a6d94bb4f456c4f8c816b804232a6461e06810a4854cb9274d97f0", func := "cairn/cairnlaw07.NodeDecodes", spec := "nodeDecodes", unfollowed := true, recurses := true, apart := false }
def NodeDecodesSaid : Prop := nodeDecodesRow.holds Try.pinned (OpenSpec.ofChange nodeDecodesSpec)

/-- ITS FALSE NEIGHBOUR: 'it returns false'. Refute it at one input. -/
def nodeDecodesWrong : ChangeSpec := { name := "nodeDecodes", fn := fun _ => fun
  | [d] => { results := [.lit (.bool false)], args := [d] }
  | _ => none }
def NodeDecodesWrongFalsely : Prop := nodeDecodesRow.holds Try.pinned (OpenSpec.ofChange nodeDecodesWrong)

/-- 'cairnlaw07.NodeApart': WHATEVER THE INPUT: true; the input reads as it did. -/
def nodeApartSpec : ChangeSpec := { name := "nodeApart", fn := fun _ => fun
  | [d] => { results := [.lit (.bool true)], args := [d] }
  | _ => none }
def nodeApartRow : OpenClaim := { program := "ytabpegdalmagpaa", sum := "6c83850976a6d94bb4f456c4f8c816b804232a6461e06810a4854cb9274d97f0", func := "cairn/cairnlaw07.NodeApart", spec := "nodeApart", unfollowed := true, recurses := true, apart := false }
def NodeApartSaid : Prop := nodeApartRow.holds Try.pinned (OpenSpec.ofChange nodeApartSpec)

/-- ITS FALSE NEIGHBOUR: 'it returns false'. Refute it at one input. -/
def nodeApartWrong : ChangeSpec := { name := "nodeApart", fn := fun _ => fun
  | [d] => { results := [.lit (.bool false)], args := [d] }
  | _ => none }
def NodeApartWrongFalsely : Prop := nodeApartRow.holds Try.pinned (OpenSpec.ofChange nodeApartWrong)

/- THE SECOND FORM. 'bulk': how many values and letters a reading holds, each counted each time it is reached (what is shared counts as often as it is met; a slice's spare places count too). A statement '..UptoSaid' is the law's where the arguments, and the package variables that the reading takes, are together of bulk at most 1048576: NARROWER than '..Said'. Prove '..Said' where nothing that the law and all that it calls make is longer than what came in: it says more and counts as full. Else prove '..UptoSaid'. A law counts once. -/
mutual
def uptoBulk {H : Type} : DataW H → Nat
  | .lit (.string bytes) => bytes.length + 1
  | .lit _ => 1
  | .nil => 1
  | .ptr d => uptoBulk d + 1
  | .slice elems spare => uptoBulkAll elems + uptoBulkAll spare + 1
  | .agg parts => uptoBulkAll parts + 1
  | .iface _ d => uptoBulk d + 1
  | .map entries => uptoBulkEntries entries + 1
  | .held _ => 1
def uptoBulkAll {H : Type} : List (DataW H) → Nat
  | [] => 0
  | d :: r => uptoBulk d + uptoBulkAll r
def uptoBulkEntries {H : Type} : List (Lit × DataW H) → Nat
  | [] => 0
  | x :: r => uptoBulkEntry x + uptoBulkEntries r
def uptoBulkEntry {H : Type} : Lit × DataW H → Nat
  | (.string bytes, d) => bytes.length + uptoBulk d + 1
  | (_, d) => uptoBulk d + 1
 end
def uptoSmall : (H : Type) → List (DataW H) → Bool := fun _ ds => decide (uptoBulkAll ds ≤ 1048576)
def OpenSpec.upto (s : _root_.Go.ChangeSpec) : _root_.Go.OpenSpec := { _root_.Go.OpenSpec.ofChange s with cond := some uptoSmall }

/-- 'cairnlaw07.NodeCut', WHERE WHAT IT READS IS OF BULK AT MOST 1048576: true; the input reads as it did. -/
def nodeCutUptoRow : OpenClaim := { program := "ytabpegdalmagpaa", sum := "6c83850976a6d94bb4f456c4f8c816b804232a6461e06810a4854cb9274d97f0", func := "cairn/cairnlaw07.NodeCut", spec := "nodeCut", unfollowed := true, recurses := true, apart := false, narrowed := true }
def NodeCutUptoSaid : Prop := nodeCutUptoRow.holds Try.pinned (OpenSpec.upto nodeCutSpec)

/-- 'cairnlaw07.NodeEncodes', WHERE WHAT IT READS IS OF BULK AT MOST 1048576: true; the input reads as it did. -/
def nodeEncodesUptoRow : OpenClaim := { program := "ytabpegdalmagpaa", sum := "6c83850976a6d94bb4f456c4f8c816b804232a6461e06810a4854cb9274d97f0", func := "cairn/cairnlaw07.NodeEncodes", spec := "nodeEncodes", unfollowed := true, recurses := true, apart := false, narrowed := true }
def NodeEncodesUptoSaid : Prop := nodeEncodesUptoRow.holds Try.pinned (OpenSpec.upto nodeEncodesSpec)

/-- 'cairnlaw07.NodeRound', WHERE WHAT IT READS IS OF BULK AT MOST 1048576: true; the input reads as it did. -/
def nodeRoundUptoRow : OpenClaim := { program := "ytabpegdalmagpaa", sum := "6c83850976a6d94bb4f456c4f8c816b804232a6461e06810a4854cb9274d97f0", func := "cairn/cairnlaw07.NodeRound", spec := "nodeRound", unfollowed := true, recurses := true, apart := false, narrowed := true }
def NodeRoundUptoSaid : Prop := nodeRoundUptoRow.holds Try.pinned (OpenSpec.upto nodeRoundSpec)

/-- 'cairnlaw07.NodeDecodes', WHERE WHAT IT READS IS OF BULK AT MOST 1048576: true; the input reads as it did. -/
def nodeDecodesUptoRow : OpenClaim := { program := "ytabpegdalmagpaa", sum := "6c83850976a6d94bb4f456c4f8c816b804232a6461e06810a4854cb9274d97f0", func := "cairn/cairnlaw07.NodeDecodes", spec := "nodeDecodes", unfollowed := true, recurses := true, apart := false, narrowed := true }
def NodeDecodesUptoSaid : Prop := nodeDecodesUptoRow.holds Try.pinned (OpenSpec.upto nodeDecodesSpec)

/-- 'cairnlaw07.NodeApart', WHERE WHAT IT READS IS OF BULK AT MOST 1048576: true; the input reads as it did. -/
def nodeApartUptoRow : OpenClaim := { program := "ytabpegdalmagpaa", sum := "6c83850976a6d94bb4f456c4f8c816b804232a6461e06810a4854cb9274d97f0", func := "cairn/cairnlaw07.NodeApart", spec := "nodeApart", unfollowed := true, recurses := true, apart := false, narrowed := true }
def NodeApartUptoSaid : Prop := nodeApartUptoRow.holds Try.pinned (OpenSpec.upto nodeApartSpec)

end Rows
end Go.Proofs.Ytabpegdalmagpaa
