/-
  No cell of these rows narrows 'for every input' (looked for: loops, veiled, ifaces, maps, wideKeys, modest, calm, conditions, laid).
  DERIVED. THE GIVEN ROWS OF THIS SEAT. 7 by the template 'for every input the law returns true; each argument reads behind the call as it read before'; 0 by the template 'total and deterministic' (their statements: YtnplmeljekhkkaaTotals.lean).
  GIVEN WITH THE SEED: the statements are not yours to turn. If you find one false, say at which input.
  Laid BY PROGRAM, IN A SANDBOX (cutbox-rows.mjs): the forced cells as the released guide's own fill.sh prints them over the translation dc5dd7014ee414c1… (all of the seat's roots in one cut). By AI agents, Wed Nov 11 2026. No macro, syntax, notation, axiom, sorry.
-/
import Derived.Test.YtnplmeljekhkkaaChecked
import GoSem.Claim
import GoSem.ClaimJoined
import GoSem.ClaimMapViews
import Derived.JoinedTies
import Derived.KernelRfl
namespace Go.Proofs.Ytnplmeljekhkkaa
/- THE CELL 'sum', in the pinned program and in every row, IS THE sha256 OF THE DUMP (.gsa) THAT YtnplmeljekhkkaaProg.lean LOADS. Nothing in Lean hashes anything: it is a label: what it is worth is what the hold of that sum in a sandbox is worth. -/
noncomputable def Try.pinned : Pinned := { name := "ytnplmeljekhkkaa", sum := "dc5dd7014ee414c13412e0f9aa51ef028f5eaec54bbc15618cf9eb335b719648", checked := Try.checked }
namespace Rows
def none {H : Type} : Left H := { results := [], args := [] }

/-- 'sacristanlaw01.CodecEqual': WHATEVER THE INPUT: true; the input reads as it did. -/
def codecEqualSpec : ChangeSpec := { name := "codecEqual", fn := fun _ => fun
  | [d1, d2, d3] => { results := [.lit (.bool true)], args := [d1, d2, d3] }
  | _ => none }
def codecEqualRow : OpenClaim := { program := "ytnplmeljekhkkaa", sum := "dc5dd7014ee414c13412e0f9aa51ef028f5eaec54bbc15618cf9eb335b719648", func := "sacristan/sacristanlaw01.CodecEqual", spec := "codecEqual", unfollowed := true, recurses := true, apart := false }
def CodecEqualSaid : Prop := codecEqualRow.holds Try.pinned (OpenSpec.ofChange codecEqualSpec)

/-- ITS FALSE NEIGHBOUR: 'it returns false'. Refute it at one input. -/
def codecEqualWrong : ChangeSpec := { name := "codecEqual", fn := fun _ => fun
  | [d1, d2, d3] => { results := [.lit (.bool false)], args := [d1, d2, d3] }
  | _ => none }
def CodecEqualWrongFalsely : Prop := codecEqualRow.holds Try.pinned (OpenSpec.ofChange codecEqualWrong)

/-- 'sacristanlaw01.CodecPads': WHATEVER THE INPUT: true; the input reads as it did. -/
def codecPadsSpec : ChangeSpec := { name := "codecPads", fn := fun _ => fun
  | [d1, d2] => { results := [.lit (.bool true)], args := [d1, d2] }
  | _ => none }
def codecPadsRow : OpenClaim := { program := "ytnplmeljekhkkaa", sum := "dc5dd7014ee414c13412e0f9aa51ef028f5eaec54bbc15618cf9eb335b719648", func := "sacristan/sacristanlaw01.CodecPads", spec := "codecPads", unfollowed := true, recurses := true, apart := false }
def CodecPadsSaid : Prop := codecPadsRow.holds Try.pinned (OpenSpec.ofChange codecPadsSpec)

/-- ITS FALSE NEIGHBOUR: 'it returns false'. Refute it at one input. -/
def codecPadsWrong : ChangeSpec := { name := "codecPads", fn := fun _ => fun
  | [d1, d2] => { results := [.lit (.bool false)], args := [d1, d2] }
  | _ => none }
def CodecPadsWrongFalsely : Prop := codecPadsRow.holds Try.pinned (OpenSpec.ofChange codecPadsWrong)

/-- 'sacristanlaw01.CodecCuts': WHATEVER THE INPUT: true; the input reads as it did. -/
def codecCutsSpec : ChangeSpec := { name := "codecCuts", fn := fun _ => fun
  | [d1, d2, d3] => { results := [.lit (.bool true)], args := [d1, d2, d3] }
  | _ => none }
def codecCutsRow : OpenClaim := { program := "ytnplmeljekhkkaa", sum := "dc5dd7014ee414c13412e0f9aa51ef028f5eaec54bbc15618cf9eb335b719648", func := "sacristan/sacristanlaw01.CodecCuts", spec := "codecCuts", unfollowed := true, recurses := true, apart := false }
def CodecCutsSaid : Prop := codecCutsRow.holds Try.pinned (OpenSpec.ofChange codecCutsSpec)

/-- ITS FALSE NEIGHBOUR: 'it returns false'. Refute it at one input. -/
def codecCutsWrong : ChangeSpec := { name := "codecCuts", fn := fun _ => fun
  | [d1, d2, d3] => { results := [.lit (.bool false)], args := [d1, d2, d3] }
  | _ => none }
def CodecCutsWrongFalsely : Prop := codecCutsRow.holds Try.pinned (OpenSpec.ofChange codecCutsWrong)

/-- 'sacristanlaw01.CodecParts': WHATEVER THE INPUT: true; the input reads as it did. -/
def codecPartsSpec : ChangeSpec := { name := "codecParts", fn := fun _ => fun
  | [d1, d2, d3, d4] => { results := [.lit (.bool true)], args := [d1, d2, d3, d4] }
  | _ => none }
def codecPartsRow : OpenClaim := { program := "ytnplmeljekhkkaa", sum := "dc5dd7014ee414c13412e0f9aa51ef028f5eaec54bbc15618cf9eb335b719648", func := "sacristan/sacristanlaw01.CodecParts", spec := "codecParts", unfollowed := true, recurses := true, apart := false }
def CodecPartsSaid : Prop := codecPartsRow.holds Try.pinned (OpenSpec.ofChange codecPartsSpec)

/-- ITS FALSE NEIGHBOUR: 'it returns false'. Refute it at one input. -/
def codecPartsWrong : ChangeSpec := { name := "codecParts", fn := fun _ => fun
  | [d1, d2, d3, d4] => { results := [.lit (.bool false)], args := [d1, d2, d3, d4] }
  | _ => none }
def CodecPartsWrongFalsely : Prop := codecPartsRow.holds Try.pinned (OpenSpec.ofChange codecPartsWrong)

/-- 'sacristanlaw01.CodecPuts': WHATEVER THE INPUT: true; the input reads as it did. -/
def codecPutsSpec : ChangeSpec := { name := "codecPuts", fn := fun _ => fun
  | [d1, d2, d3, d4] => { results := [.lit (.bool true)], args := [d1, d2, d3, d4] }
  | _ => none }
def codecPutsRow : OpenClaim := { program := "ytnplmeljekhkkaa", sum := "dc5dd7014ee414c13412e0f9aa51ef028f5eaec54bbc15618cf9eb335b719648", func := "sacristan/sacristanlaw01.CodecPuts", spec := "codecPuts", unfollowed := true, recurses := true, apart := false }
def CodecPutsSaid : Prop := codecPutsRow.holds Try.pinned (OpenSpec.ofChange codecPutsSpec)

/-- ITS FALSE NEIGHBOUR: 'it returns false'. Refute it at one input. -/
def codecPutsWrong : ChangeSpec := { name := "codecPuts", fn := fun _ => fun
  | [d1, d2, d3, d4] => { results := [.lit (.bool false)], args := [d1, d2, d3, d4] }
  | _ => none }
def CodecPutsWrongFalsely : Prop := codecPutsRow.holds Try.pinned (OpenSpec.ofChange codecPutsWrong)

/-- 'sacristanlaw01.CodecBack': WHATEVER THE INPUT: true; the input reads as it did. -/
def codecBackSpec : ChangeSpec := { name := "codecBack", fn := fun _ => fun
  | [d1, d2, d3, d4] => { results := [.lit (.bool true)], args := [d1, d2, d3, d4] }
  | _ => none }
def codecBackRow : OpenClaim := { program := "ytnplmeljekhkkaa", sum := "dc5dd7014ee414c13412e0f9aa51ef028f5eaec54bbc15618cf9eb335b719648", func := "sacristan/sacristanlaw01.CodecBack", spec := "codecBack", unfollowed := true, recurses := true, apart := false }
def CodecBackSaid : Prop := codecBackRow.holds Try.pinned (OpenSpec.ofChange codecBackSpec)

/-- ITS FALSE NEIGHBOUR: 'it returns false'. Refute it at one input. -/
def codecBackWrong : ChangeSpec := { name := "codecBack", fn := fun _ => fun
  | [d1, d2, d3, d4] => { results := [.lit (.bool false)], args := [d1, d2, d3, d4] }
  | _ => none }
def CodecBackWrongFalsely : Prop := codecBackRow.holds Try.pinned (OpenSpec.ofChange codecBackWrong)

/-- 'sacristanlaw01.CodecOrders': WHATEVER THE INPUT: true; the input reads as it did. -/
def codecOrdersSpec : ChangeSpec := { name := "codecOrders", fn := fun _ => fun
  | [d1, d2, d3] => { results := [.lit (.bool true)], args := [d1, d2, d3] }
  | _ => none }
def codecOrdersRow : OpenClaim := { program := "ytnplmeljekhkkaa", sum := "dc5dd7014ee414c13412e0f9aa51ef028f5eaec54bbc15618cf9eb335b719648", func := "sacristan/sacristanlaw01.CodecOrders", spec := "codecOrders", unfollowed := true, recurses := true, apart := false }
def CodecOrdersSaid : Prop := codecOrdersRow.holds Try.pinned (OpenSpec.ofChange codecOrdersSpec)

/-- ITS FALSE NEIGHBOUR: 'it returns false'. Refute it at one input. -/
def codecOrdersWrong : ChangeSpec := { name := "codecOrders", fn := fun _ => fun
  | [d1, d2, d3] => { results := [.lit (.bool false)], args := [d1, d2, d3] }
  | _ => none }
def CodecOrdersWrongFalsely : Prop := codecOrdersRow.holds Try.pinned (OpenSpec.ofChange codecOrdersWrong)

/- THE SECOND FORM. 'bulk': how many values and letters a reading holds, each counted each time it is reached (what is shared counts as often as it is met; a slice's spare places count too). A statement '..UptoSaid' is the law's where the arguments, and the package variables that the reading takes, are together of bulk at most 1048576: NARROWER than '..Said'. Prove '..Said' where nothing that the law and all that it calls make is longer than what came in: it says more and counts as full. Else prove '..UptoSaid'. A law counts once. -/
mutual
def uptoBulk {H : Type} : DataW H → Nat
  | .lit (.string bytes) => bytes.length + 1
  | .lit _ => 1
  | .nil => 1
  | .ptr d => uptoBulk d + 1
  | .slice elems spare => uptoBulkAll elems + uptoBulkAll spare + 1
  | .agg parts => uptoBulkAll parts + 1
  | .iface _ d => uptoBulk d + 1
  | .map entries => uptoBulkEntries entries + 1
  | .held _ => 1
def uptoBulkAll {H : Type} : List (DataW H) → Nat
  | [] => 0
  | d :: r => uptoBulk d + uptoBulkAll r
def uptoBulkEntries {H : Type} : List (Lit × DataW H) → Nat
  | [] => 0
  | x :: r => uptoBulkEntry x + uptoBulkEntries r
def uptoBulkEntry {H : Type} : Lit × DataW H → Nat
  | (.string bytes, d) => bytes.length + uptoBulk d + 1
  | (_, d) => uptoBulk d + 1
 end
def uptoSmall : (H : Type) → List (DataW H) → Bool := fun _ ds => decide (uptoBulkAll ds ≤ 1048576)
def OpenSpec.upto (s : _root_.Go.ChangeSpec) : _root_.Go.OpenSpec := { _root_.Go.OpenSpec.ofChange s with cond := some uptoSmall }

/-- 'sacristanlaw01.CodecEqual', WHERE WHAT IT READS IS OF BULK AT MOST 1048576: true; the input reads as it did. -/
def codecEqualUptoRow : OpenClaim := { program := "ytnplmeljekhkkaa", sum := "dc5dd7014ee414c13412e0f9aa51ef028f5eaec54bbc15618cf9eb335b719648", func := "sacristan/sacristanlaw01.CodecEqual", spec := "codecEqual", unfollowed := true, recurses := true, apart := false, narrowed := true }
def CodecEqualUptoSaid : Prop := codecEqualUptoRow.holds Try.pinned (OpenSpec.upto codecEqualSpec)

/-- 'sacristanlaw01.CodecPads', WHERE WHAT IT READS IS OF BULK AT MOST 1048576: true; the input reads as it did. -/
def codecPadsUptoRow : OpenClaim := { program := "ytnplmeljekhkkaa", sum := "dc5dd7014ee414c13412e0f9aa51ef028f5eaec54bbc15618cf9eb335b719648", func := "sacristan/sacristanlaw01.CodecPads", spec := "codecPads", unfollowed := true, recurses := true, apart := false, narrowed := true }
def CodecPadsUptoSaid : Prop := codecPadsUptoRow.holds Try.pinned (OpenSpec.upto codecPadsSpec)

/-- 'sacristanlaw01.CodecCuts', WHERE WHAT IT READS IS OF BULK AT MOST 1048576: true; the input reads as it did. -/
def codecCutsUptoRow : OpenClaim := { program := "ytnplmeljekhkkaa", sum := "dc5dd7014ee414c13412e0f9aa51ef028f5eaec54bbc15618cf9eb335b719648", func := "sacristan/sacristanlaw01.CodecCuts", spec := "codecCuts", unfollowed := true, recurses := true, apart := false, narrowed := true }
def CodecCutsUptoSaid : Prop := codecCutsUptoRow.holds Try.pinned (OpenSpec.upto codecCutsSpec)

/-- 'sacristanlaw01.CodecParts', WHERE WHAT IT READS IS OF BULK AT MOST 1048576: true; the input reads as it did. -/
def codecPartsUptoRow : OpenClaim := { program := "ytnplmeljekhkkaa", sum := "dc5dd7014ee414c13412e0f9aa51ef028f5eaec54bbc15618cf9eb335b719648", func := "sacristan/sacristanlaw01.CodecParts", spec := "codecParts", unfollowed := true, recurses := true, apart := false, narrowed := true }
def CodecPartsUptoSaid : Prop := codecPartsUptoRow.holds Try.pinned (OpenSpec.upto codecPartsSpec)

/-- 'sacristanlaw01.CodecPuts', WHERE WHAT IT READS IS OF BULK AT MOST 1048576: true; the input reads as it did. -/
def codecPutsUptoRow : OpenClaim := { program := "ytnplmeljekhkkaa", sum := "dc5dd7014ee414c13412e0f9aa51ef028f5eaec54bbc15618cf9eb335b719648", func := "sacristan/sacristanlaw01.CodecPuts", spec := "codecPuts", unfollowed := true, recurses := true, apart := false, narrowed := true }
def CodecPutsUptoSaid : Prop := codecPutsUptoRow.holds Try.pinned (OpenSpec.upto codecPutsSpec)

/-- 'sacristanlaw01.CodecBack', WHERE WHAT IT READS IS OF BULK AT MOST 1048576: true; the input reads as it did. -/
def codecBackUptoRow : OpenClaim := { program := "ytnplmeljekhkkaa", sum := "dc5dd7014ee414c13412e0f9aa51ef028f5eaec54bbc15618cf9eb335b719648", func := "sacristan/sacristanlaw01.CodecBack", spec := "codecBack", unfollowed := true, recurses := true, apart := false, narrowed := true }
def CodecBackUptoSaid : Prop := codecBackUptoRow.holds Try.pinned (OpenSpec.upto codecBackSpec)

/-- 'sacristanlaw01.CodecOrders', WHERE WHAT IT READS IS OF BULK AT MOST 1048576: true; the input reads as it did. -/
def codecOrdersUptoRow : OpenClaim := { program := "ytnplmeljekhkkaa", sum := "dc5dd7014ee414c13412e0f9aa51ef028f5eaec54bbc15618cf9eb335b719648", func := "sacristan/sacristanlaw01.CodecOrders", spec := "codecOrders", unfollowed := true, recurses := true, apart := false, narrowed := true }
def CodecOrdersUptoSaid : Prop := codecOrdersUptoRow.holds Try.pinned (OpenSpec.upto codecOrdersSpec)

end Rows
end Go.Proofs.Ytnplmeljekhkkaa
