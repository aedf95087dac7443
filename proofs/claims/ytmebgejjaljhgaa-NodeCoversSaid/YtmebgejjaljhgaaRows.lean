/-
  No cell of these rows narrows 'for every input' (looked for: loops, veiled, ifaces, maps, wideKeys, modest, calm, conditions, laid).
  DERIVED. THE GIVEN ROWS OF THIS SEAT. 8 by the template 'for every input the law returns true; each argument reads behind the call as it read before'; 0 by the template 'total and deterministic' (their statements: YtmebgejjaljhgaaTotals.lean).
  GIVEN WITH THE SEED: the statements are not yours to turn. If you find one false, say at which input.
  Laid BY PROGRAM, IN A SANDBOX (cutbox-rows.mjs): the forced cells as the released guide's own fill.sh prints them over the translation 843ee83bbbf41c1c… (all of the seat's roots in one cut). By AI agents, Wed Nov 11 2026. No macro, syntax, notation, axiom, sorry.
-/
import Derived.Test.YtmebgejjaljhgaaChecked
import GoSem.Claim
import GoSem.ClaimJoined
import GoSem.ClaimMapViews
import Derived.JoinedTies
import Derived.KernelRfl
namespace Go.Proofs.Ytmebgejjaljhgaa
/- THE CELL 'sum', in the pinned program and in every row, IS THE sha256 OF THE DUMP (.gsa) THAT YtmebgejjaljhgaaProg.lean LOADS. Nothing in Lean hashes anything: it is a label: what it is worth is what the hold of that sum in a sandbox is worth. -/
noncomputable def Try.pinned : Pinned := { name := "ytmebgejjaljhgaa", sum := "843ee83bbbf41c1c9c5cc3d38f2bc3b903e794bd59b2a8bbd2a8005ae9c216d8", checked := Try.checked }
namespace Rows
def none {H : Type} : Left H := { results := [], args := [] }

/-- 'sacristanlaw13.NodeFree': WHATEVER THE INPUT: true; the input reads as it did. -/
def nodeFreeSpec : ChangeSpec := { name := "nodeFree", fn := fun _ => fun
  | [d1, d2] => { results := [.lit (.bool true)], args := [d1, d2] }
  | _ => none }
def nodeFreeRow : OpenClaim := { program := "ytmebgejjaljhgaa", sum := "843ee83bbbf41c1c9c5cc3d38f2bc3b903e794bd59b2a8bbd2a8005ae9c216d8", func := "sacristan/sacristanlaw13.NodeFree", spec := "nodeFree", unfollowed := true, recurses := true, apart := false }
def NodeFreeSaid : Prop := nodeFreeRow.holds Try.pinned (OpenSpec.ofChange nodeFreeSpec)

/-- ITS FALSE NEIGHBOUR: 'it returns false'. Refute it at one input. -/
def nodeFreeWrong : ChangeSpec := { name := "nodeFree", fn := fun _ => fun
  | [d1, d2] => { results := [.lit (.bool false)], args := [d1, d2] }
  | _ => none }
def NodeFreeWrongFalsely : Prop := nodeFreeRow.holds Try.pinned (OpenSpec.ofChange nodeFreeWrong)

/-- 'sacristanlaw13.NodeSpans': WHATEVER THE INPUT: true; the input reads as it did. -/
def nodeSpansSpec : ChangeSpec := { name := "nodeSpans", fn := fun _ => fun
  | [d1, d2] => { results := [.lit (.bool true)], args := [d1, d2] }
  | _ => none }
def nodeSpansRow : OpenClaim := { program := "ytmebgejjaljhgaa", sum := "843ee83bbbf41c1c9c5cc3d38f2bc3b903e794bd59b2a8bbd2a8005ae9c216d8", func := "sacristan/sacristanlaw13.NodeSpans", spec := "nodeSpans", unfollowed := true, recurses := true, apart := false }
def NodeSpansSaid : Prop := nodeSpansRow.holds Try.pinned (OpenSpec.ofChange nodeSpansSpec)

/-- ITS FALSE NEIGHBOUR: 'it returns false'. Refute it at one input. -/
def nodeSpansWrong : ChangeSpec := { name := "nodeSpans", fn := fun _ => fun
  | [d1, d2] => { results := [.lit (.bool false)], args := [d1, d2] }
  | _ => none }
def NodeSpansWrongFalsely : Prop := nodeSpansRow.holds Try.pinned (OpenSpec.ofChange nodeSpansWrong)

/-- 'sacristanlaw13.NodeCovers': WHATEVER THE INPUT: true; the input reads as it did. -/
def nodeCoversSpec : ChangeSpec := { name := "nodeCovers", fn := fun _ => fun
  | [d1, d2] => { results := [.lit (.bool true)], args := [d1, d2] }
  | _ => none }
def nodeCoversRow : OpenClaim := { program := "ytmebgejjaljhgaa", sum := "843ee83bbbf41c1c9c5cc3d38f2bc3b903e794bd59b2a8bbd2a8005ae9c216d8", func := "sacristan/sacristanlaw13.NodeCovers", spec := "nodeCovers", unfollowed := true, recurses := true, apart := false }
def NodeCoversSaid : Prop := nodeCoversRow.holds Try.pinned (OpenSpec.ofChange nodeCoversSpec)

/-- ITS FALSE NEIGHBOUR: 'it returns false'. Refute it at one input. -/
def nodeCoversWrong : ChangeSpec := { name := "nodeCovers", fn := fun _ => fun
  | [d1, d2] => { results := [.lit (.bool false)], args := [d1, d2] }
  | _ => none }
def NodeCoversWrongFalsely : Prop := nodeCoversRow.holds Try.pinned (OpenSpec.ofChange nodeCoversWrong)

/-- 'sacristanlaw13.NodeBlocks': WHATEVER THE INPUT: true; the input reads as it did. -/
def nodeBlocksSpec : ChangeSpec := { name := "nodeBlocks", fn := fun _ => fun
  | [d] => { results := [.lit (.bool true)], args := [d] }
  | _ => none }
def nodeBlocksRow : OpenClaim := { program := "ytmebgejjaljhgaa", sum := "843ee83bbbf41c1c9c5cc3d38f2bc3b903e794bd59b2a8bbd2a8005ae9c216d8", func := "sacristan/sacristanlaw13.NodeBlocks", spec := "nodeBlocks", unfollowed := true, recurses := true, apart := false }
def NodeBlocksSaid : Prop := nodeBlocksRow.holds Try.pinned (OpenSpec.ofChange nodeBlocksSpec)

/-- ITS FALSE NEIGHBOUR: 'it returns false'. Refute it at one input. -/
def nodeBlocksWrong : ChangeSpec := { name := "nodeBlocks", fn := fun _ => fun
  | [d] => { results := [.lit (.bool false)], args := [d] }
  | _ => none }
def NodeBlocksWrongFalsely : Prop := nodeBlocksRow.holds Try.pinned (OpenSpec.ofChange nodeBlocksWrong)

/-- 'sacristanlaw13.NodeEncodes': WHATEVER THE INPUT: true; the input reads as it did. -/
def nodeEncodesSpec : ChangeSpec := { name := "nodeEncodes", fn := fun _ => fun
  | [d1, d2] => { results := [.lit (.bool true)], args := [d1, d2] }
  | _ => none }
def nodeEncodesRow : OpenClaim := { program := "ytmebgejjaljhgaa", sum := "843ee83bbbf41c1c9c5cc3d38f2bc3b903e794bd59b2a8bbd2a8005ae9c216d8", func := "sacristan/sacristanlaw13.NodeEncodes", spec := "nodeEncodes", unfollowed := true, recurses := true, apart := false }
def NodeEncodesSaid : Prop := nodeEncodesRow.holds Try.pinned (OpenSpec.ofChange nodeEncodesSpec)

/-- ITS FALSE NEIGHBOUR: 'it returns false'. Refute it at one input. -/
def nodeEncodesWrong : ChangeSpec := { name := "nodeEncodes", fn := fun _ => fun
  | [d1, d2] => { results := [.lit (.bool false)], args := [d1, d2] }
  | _ => none }
def NodeEncodesWrongFalsely : Prop := nodeEncodesRow.holds Try.pinned (OpenSpec.ofChange nodeEncodesWrong)

/-- 'sacristanlaw13.NodeDecodes': WHATEVER THE INPUT: true; the input reads as it did. -/
def nodeDecodesSpec : ChangeSpec := { name := "nodeDecodes", fn := fun _ => fun
  | [d1, d2] => { results := [.lit (.bool true)], args := [d1, d2] }
  | _ => none }
def nodeDecodesRow : OpenClaim := { program := "ytmebgejjaljhgaa", sum := "843ee83bbbf41c1c9c5cc3d38f2bc3b903e794bd59b2a8bbd2a8005ae9c216d8", func := "sacristan/sacristanlaw13.NodeDecodes", spec := "nodeDecodes", unfollowed := true, recurses := true, apart := false }
def NodeDecodesSaid : Prop := nodeDecodesRow.holds Try.pinned (OpenSpec.ofChange nodeDecodesSpec)

/-- ITS FALSE NEIGHBOUR: 'it returns false'. Refute it at one input. -/
def nodeDecodesWrong : ChangeSpec := { name := "nodeDecodes", fn := fun _ => fun
  | [d1, d2] => { results := [.lit (.bool false)], args := [d1, d2] }
  | _ => none }
def NodeDecodesWrongFalsely : Prop := nodeDecodesRow.holds Try.pinned (OpenSpec.ofChange nodeDecodesWrong)

/-- 'sacristanlaw13.NodeBack': WHATEVER THE INPUT: true; the input reads as it did. -/
def nodeBackSpec : ChangeSpec := { name := "nodeBack", fn := fun _ => fun
  | [d1, d2, d3] => { results := [.lit (.bool true)], args := [d1, d2, d3] }
  | _ => none }
def nodeBackRow : OpenClaim := { program := "ytmebgejjaljhgaa", sum := "843ee83bbbf41c1c9c5cc3d38f2bc3b903e794bd59b2a8bbd2a8005ae9c216d8", func := "sacristan/sacristanlaw13.NodeBack", spec := "nodeBack", unfollowed := true, recurses := true, apart := false }
def NodeBackSaid : Prop := nodeBackRow.holds Try.pinned (OpenSpec.ofChange nodeBackSpec)

/-- ITS FALSE NEIGHBOUR: 'it returns false'. Refute it at one input. -/
def nodeBackWrong : ChangeSpec := { name := "nodeBack", fn := fun _ => fun
  | [d1, d2, d3] => { results := [.lit (.bool false)], args := [d1, d2, d3] }
  | _ => none }
def NodeBackWrongFalsely : Prop := nodeBackRow.holds Try.pinned (OpenSpec.ofChange nodeBackWrong)

/-- 'sacristanlaw13.NodeIndexes': WHATEVER THE INPUT: true; the input reads as it did. -/
def nodeIndexesSpec : ChangeSpec := { name := "nodeIndexes", fn := fun _ => fun
  | [d1, d2, d3] => { results := [.lit (.bool true)], args := [d1, d2, d3] }
  | _ => none }
def nodeIndexesRow : OpenClaim := { program := "ytmebgejjaljhgaa", sum := "843ee83bbbf41c1c9c5cc3d38f2bc3b903e794bd59b2a8bbd2a8005ae9c216d8", func := "sacristan/sacristanlaw13.NodeIndexes", spec := "nodeIndexes", unfollowed := true, recurses := true, apart := false }
def NodeIndexesSaid : Prop := nodeIndexesRow.holds Try.pinned (OpenSpec.ofChange nodeIndexesSpec)

/-- ITS FALSE NEIGHBOUR: 'it returns false'. Refute it at one input. -/
def nodeIndexesWrong : ChangeSpec := { name := "nodeIndexes", fn := fun _ => fun
  | [d1, d2, d3] => { results := [.lit (.bool false)], args := [d1, d2, d3] }
  | _ => none }
def NodeIndexesWrongFalsely : Prop := nodeIndexesRow.holds Try.pinned (OpenSpec.ofChange nodeIndexesWrong)

/- THE SECOND FORM. 'bulk': how many values and letters a reading holds, each counted each time it is reached (what is shared counts as often as it is met; a slice's spare places count too). A statement '..UptoSaid' is the law's where the arguments, and the package variables that the reading takes, are together of bulk at most 1048576: NARROWER than '..Said'. Prove '..Said' where nothing that the law and all that it calls make is longer than what came in: it says more and counts as full. Else prove '..UptoSaid'. A law counts once. -/
mutual
def uptoBulk {H : Type} : DataW H → Nat
  | .lit (.string bytes) => bytes.length + 1
  | .lit _ => 1
  | .nil => 1
  | .ptr d => uptoBulk d + 1
  | .slice elems spare => uptoBulkAll elems + uptoBulkAll spare + 1
  | .agg parts => uptoBulkAll parts + 1
  | .iface _ d => uptoBulk d + 1
  | .map entries => uptoBulkEntries entries + 1
  | .held _ => 1
def uptoBulkAll {H : Type} : List (DataW H) → Nat
  | [] => 0
  | d :: r => uptoBulk d + uptoBulkAll r
def uptoBulkEntries {H : Type} : List (Lit × DataW H) → Nat
  | [] => 0
  | x :: r => uptoBulkEntry x + uptoBulkEntries r
def uptoBulkEntry {H : Type} : Lit × DataW H → Nat
  | (.string bytes, d) => bytes.length + uptoBulk d + 1
  | (_, d) => uptoBulk d + 1
 end
def uptoSmall : (H : Type) → List (DataW H) → Bool := fun _ ds => decide (uptoBulkAll ds ≤ 1048576)
def OpenSpec.upto (s : _root_.Go.ChangeSpec) : _root_.Go.OpenSpec := { _root_.Go.OpenSpec.ofChange s with cond := some uptoSmall }

/-- 'sacristanlaw13.NodeFree', WHERE WHAT IT READS IS OF BULK AT MOST 1048576: true; the input reads as it did. -/
def nodeFreeUptoRow : OpenClaim := { program := "ytmebgejjaljhgaa", sum := "843ee83bbbf41c1c9c5cc3d38f2bc3b903e794bd59b2a8bbd2a8005ae9c216d8", func := "sacristan/sacristanlaw13.NodeFree", spec := "nodeFree", unfollowed := true, recurses := true, apart := false, narrowed := true }
def NodeFreeUptoSaid : Prop := nodeFreeUptoRow.holds Try.pinned (OpenSpec.upto nodeFreeSpec)

/-- 'sacristanlaw13.NodeSpans', WHERE WHAT IT READS IS OF BULK AT MOST 1048576: true; the input reads as it did. -/
def nodeSpansUptoRow : OpenClaim := { program := "ytmebgejjaljhgaa", sum := "843ee83bbbf41c1c9c5cc3d38f2bc3b903e794bd59b2a8bbd2a8005ae9c216d8", func := "sacristan/sacristanlaw13.NodeSpans", spec := "nodeSpans", unfollowed := true, recurses := true, apart := false, narrowed := true }
def NodeSpansUptoSaid : Prop := nodeSpansUptoRow.holds Try.pinned (OpenSpec.upto nodeSpansSpec)

/-- 'sacristanlaw13.NodeCovers', WHERE WHAT IT READS IS OF BULK AT MOST 1048576: true; the input reads as it did. -/
def nodeCoversUptoRow : OpenClaim := { program := "ytmebgejjaljhgaa", sum := "843ee83bbbf41c1c9c5cc3d38f2bc3b903e794bd59b2a8bbd2a8005ae9c216d8", func := "sacristan/sacristanlaw13.NodeCovers", spec := "nodeCovers", unfollowed := true, recurses := true, apart := false, narrowed := true }
def NodeCoversUptoSaid : Prop := nodeCoversUptoRow.holds Try.pinned (OpenSpec.upto nodeCoversSpec)

/-- 'sacristanlaw13.NodeBlocks', WHERE WHAT IT READS IS OF BULK AT MOST 1048576: true; the input reads as it did. -/
def nodeBlocksUptoRow : OpenClaim := { program := "ytmebgejjaljhgaa", sum := "843ee83bbbf41c1c9c5cc3d38f2bc3b903e794bd59b2a8bbd2a8005ae9c216d8", func := "sacristan/sacristanlaw13.NodeBlocks", spec := "nodeBlocks", unfollowed := true, recurses := true, apart := false, narrowed := true }
def NodeBlocksUptoSaid : Prop := nodeBlocksUptoRow.holds Try.pinned (OpenSpec.upto nodeBlocksSpec)

/-- 'sacristanlaw13.NodeEncodes', WHERE WHAT IT READS IS OF BULK AT MOST 1048576: true; the input reads as it did. -/
def nodeEncodesUptoRow : OpenClaim := { program := "ytmebgejjaljhgaa", sum := "843ee83bbbf41c1c9c5cc3d38f2bc3b903e794bd59b2a8bbd2a8005ae9c216d8", func := "sacristan/sacristanlaw13.NodeEncodes", spec := "nodeEncodes", unfollowed := true, recurses := true, apart := false, narrowed := true }
def NodeEncodesUptoSaid : Prop := nodeEncodesUptoRow.holds Try.pinned (OpenSpec.upto nodeEncodesSpec)

/-- 'sacristanlaw13.NodeDecodes', WHERE WHAT IT READS IS OF BULK AT MOST 1048576: true; the input reads as it did. -/
def nodeDecodesUptoRow : OpenClaim := { program := "ytmebgejjaljhgaa", sum := "843ee83bbbf41c1c9c5cc3d38f2bc3b903e794bd59b2a8bbd2a8005ae9c216d8", func := "sacristan/sacristanlaw13.NodeDecodes", spec := "nodeDecodes", unfollowed := true, recurses := true, apart := false, narrowed := true }
def NodeDecodesUptoSaid : Prop := nodeDecodesUptoRow.holds Try.pinned (OpenSpec.upto nodeDecodesSpec)

/-- 'sacristanlaw13.NodeBack', WHERE WHAT IT READS IS OF BULK AT MOST 1048576: true; the input reads as it did. -/
def nodeBackUptoRow : OpenClaim := { program := "ytmebgejjaljhgaa", sum := "843ee83bbbf41c1c9c5cc3d38f2bc3b903e794bd59b2a8bbd2a8005ae9c216d8", func := "sacristan/sacristanlaw13.NodeBack", spec := "nodeBack", unfollowed := true, recurses := true, apart := false, narrowed := true }
def NodeBackUptoSaid : Prop := nodeBackUptoRow.holds Try.pinned (OpenSpec.upto nodeBackSpec)

/-- 'sacristanlaw13.NodeIndexes', WHERE WHAT IT READS IS OF BULK AT MOST 1048576: true; the input reads as it did. -/
def nodeIndexesUptoRow : OpenClaim := { program := "ytmebgejjaljhgaa", sum := "843ee83bbbf41c1c9c5cc3d38f2bc3b903e794bd59b2a8bbd2a8005ae9c216d8", func := "sacristan/sacristanlaw13.NodeIndexes", spec := "nodeIndexes", unfollowed := true, recurses := true, apart := false, narrowed := true }
def NodeIndexesUptoSaid : Prop := nodeIndexesUptoRow.holds Try.pinned (OpenSpec.upto nodeIndexesSpec)

end Rows
end Go.Proofs.Ytmebgejjaljhgaa
