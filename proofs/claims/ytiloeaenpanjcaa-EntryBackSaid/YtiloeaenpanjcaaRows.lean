/-
  No cell of these rows narrows 'for every input' (looked for: loops, veiled, ifaces, maps, wideKeys, modest, calm, conditions, laid).
  DERIVED. THE GIVEN ROWS OF THIS SEAT. 8 by the template 'for every input the law returns true; each argument reads behind the call as it read before'; 0 by the template 'total and deterministic' (their statements: YtiloeaenpanjcaaTotals.lean).
  GIVEN WITH THE SEED: the statements are not yours to turn. If you find one false, say at which input.
  Laid BY PROGRAM, IN A SANDBOX (cutbox-rows.mjs): the forced cells as the released guide's own fill.sh prints them over the translation 7227dd18235ecc2e… (all of the seat's roots in one cut). By AI agents, Wed Nov 11 2026. No macro, syntax, notation, axiom, sorry.
-/
import Derived.Test.YtiloeaenpanjcaaChecked
import GoSem.Claim
import GoSem.ClaimJoined
import GoSem.ClaimMapViews
import Derived.JoinedTies
import Derived.KernelRfl
namespace Go.Proofs.Ytiloeaenpanjcaa
/- THE CELL 'sum', in the pinned program and in every row, IS THE sha256 OF THE DUMP (.gsa) THAT YtiloeaenpanjcaaProg.lean LOADS. Nothing in Lean hashes anything: it is a label: what it is worth is what the hold of that sum in a sandbox is worth. -/
noncomputable def Try.pinned : Pinned := { name := "ytiloeaenpanjcaa", sum := "7227dd18235ecc2e946ae14525a7a1b11ae20ee0bd1099383faa1e5b6ca434e4", checked := Try.checked }
namespace Rows
def none {H : Type} : Left H := { results := [], args := [] }

/-- 'sacristanlaw14.EntryNames': WHATEVER THE INPUT: true; the input reads as it did. -/
def entryNamesSpec : ChangeSpec := { name := "entryNames", fn := fun _ => fun
  | [d1, d2] => { results := [.lit (.bool true)], args := [d1, d2] }
  | _ => none }
def entryNamesRow : OpenClaim := { program := "ytiloeaenpanjcaa", sum := "7227dd18235ecc2e946ae14525a7a1b11ae20ee0bd1099383faa1e5b6ca434e4", func := "sacristan/sacristanlaw14.EntryNames", spec := "entryNames", inPlace := ["internal/bytealg.abigen_runtime_cmpstring", "slices.overlaps[sacristan/api.Entry]"], unfollowed := true, recurses := true, apart := false }
def EntryNamesSaid : Prop := entryNamesRow.holds Try.pinned (OpenSpec.ofChange entryNamesSpec)

/-- ITS FALSE NEIGHBOUR: 'it returns false'. Refute it at one input. -/
def entryNamesWrong : ChangeSpec := { name := "entryNames", fn := fun _ => fun
  | [d1, d2] => { results := [.lit (.bool false)], args := [d1, d2] }
  | _ => none }
def EntryNamesWrongFalsely : Prop := entryNamesRow.holds Try.pinned (OpenSpec.ofChange entryNamesWrong)

/-- 'sacristanlaw14.EntryOrders': WHATEVER THE INPUT: true; the input reads as it did. -/
def entryOrdersSpec : ChangeSpec := { name := "entryOrders", fn := fun _ => fun
  | [d] => { results := [.lit (.bool true)], args := [d] }
  | _ => none }
def entryOrdersRow : OpenClaim := { program := "ytiloeaenpanjcaa", sum := "7227dd18235ecc2e946ae14525a7a1b11ae20ee0bd1099383faa1e5b6ca434e4", func := "sacristan/sacristanlaw14.EntryOrders", spec := "entryOrders", inPlace := ["internal/bytealg.abigen_runtime_cmpstring", "slices.overlaps[sacristan/api.Entry]"], unfollowed := true, recurses := true, apart := false }
def EntryOrdersSaid : Prop := entryOrdersRow.holds Try.pinned (OpenSpec.ofChange entryOrdersSpec)

/-- ITS FALSE NEIGHBOUR: 'it returns false'. Refute it at one input. -/
def entryOrdersWrong : ChangeSpec := { name := "entryOrders", fn := fun _ => fun
  | [d] => { results := [.lit (.bool false)], args := [d] }
  | _ => none }
def EntryOrdersWrongFalsely : Prop := entryOrdersRow.holds Try.pinned (OpenSpec.ofChange entryOrdersWrong)

/-- 'sacristanlaw14.EntryFinds': WHATEVER THE INPUT: true; the input reads as it did. -/
def entryFindsSpec : ChangeSpec := { name := "entryFinds", fn := fun _ => fun
  | [d1, d2, d3] => { results := [.lit (.bool true)], args := [d1, d2, d3] }
  | _ => none }
def entryFindsRow : OpenClaim := { program := "ytiloeaenpanjcaa", sum := "7227dd18235ecc2e946ae14525a7a1b11ae20ee0bd1099383faa1e5b6ca434e4", func := "sacristan/sacristanlaw14.EntryFinds", spec := "entryFinds", inPlace := ["internal/bytealg.abigen_runtime_cmpstring", "slices.overlaps[sacristan/api.Entry]"], unfollowed := true, recurses := true, apart := false }
def EntryFindsSaid : Prop := entryFindsRow.holds Try.pinned (OpenSpec.ofChange entryFindsSpec)

/-- ITS FALSE NEIGHBOUR: 'it returns false'. Refute it at one input. -/
def entryFindsWrong : ChangeSpec := { name := "entryFinds", fn := fun _ => fun
  | [d1, d2, d3] => { results := [.lit (.bool false)], args := [d1, d2, d3] }
  | _ => none }
def EntryFindsWrongFalsely : Prop := entryFindsRow.holds Try.pinned (OpenSpec.ofChange entryFindsWrong)

/-- 'sacristanlaw14.EntrySteps': WHATEVER THE INPUT: true; the input reads as it did. -/
def entryStepsSpec : ChangeSpec := { name := "entrySteps", fn := fun _ => fun
  | [d] => { results := [.lit (.bool true)], args := [d] }
  | _ => none }
def entryStepsRow : OpenClaim := { program := "ytiloeaenpanjcaa", sum := "7227dd18235ecc2e946ae14525a7a1b11ae20ee0bd1099383faa1e5b6ca434e4", func := "sacristan/sacristanlaw14.EntrySteps", spec := "entrySteps", inPlace := ["internal/bytealg.abigen_runtime_cmpstring", "slices.overlaps[sacristan/api.Entry]"], unfollowed := true, recurses := true, apart := false }
def EntryStepsSaid : Prop := entryStepsRow.holds Try.pinned (OpenSpec.ofChange entryStepsSpec)

/-- ITS FALSE NEIGHBOUR: 'it returns false'. Refute it at one input. -/
def entryStepsWrong : ChangeSpec := { name := "entrySteps", fn := fun _ => fun
  | [d] => { results := [.lit (.bool false)], args := [d] }
  | _ => none }
def EntryStepsWrongFalsely : Prop := entryStepsRow.holds Try.pinned (OpenSpec.ofChange entryStepsWrong)

/-- 'sacristanlaw14.EntryKeeps': WHATEVER THE INPUT: true; the input reads as it did. -/
def entryKeepsSpec : ChangeSpec := { name := "entryKeeps", fn := fun _ => fun
  | [d1, d2] => { results := [.lit (.bool true)], args := [d1, d2] }
  | _ => none }
def entryKeepsRow : OpenClaim := { program := "ytiloeaenpanjcaa", sum := "7227dd18235ecc2e946ae14525a7a1b11ae20ee0bd1099383faa1e5b6ca434e4", func := "sacristan/sacristanlaw14.EntryKeeps", spec := "entryKeeps", inPlace := ["internal/bytealg.abigen_runtime_cmpstring", "slices.overlaps[sacristan/api.Entry]"], unfollowed := true, recurses := true, apart := false }
def EntryKeepsSaid : Prop := entryKeepsRow.holds Try.pinned (OpenSpec.ofChange entryKeepsSpec)

/-- ITS FALSE NEIGHBOUR: 'it returns false'. Refute it at one input. -/
def entryKeepsWrong : ChangeSpec := { name := "entryKeeps", fn := fun _ => fun
  | [d1, d2] => { results := [.lit (.bool false)], args := [d1, d2] }
  | _ => none }
def EntryKeepsWrongFalsely : Prop := entryKeepsRow.holds Try.pinned (OpenSpec.ofChange entryKeepsWrong)

/-- 'sacristanlaw14.EntryEncodes': WHATEVER THE INPUT: true; the input reads as it did. -/
def entryEncodesSpec : ChangeSpec := { name := "entryEncodes", fn := fun _ => fun
  | [d1, d2] => { results := [.lit (.bool true)], args := [d1, d2] }
  | _ => none }
def entryEncodesRow : OpenClaim := { program := "ytiloeaenpanjcaa", sum := "7227dd18235ecc2e946ae14525a7a1b11ae20ee0bd1099383faa1e5b6ca434e4", func := "sacristan/sacristanlaw14.EntryEncodes", spec := "entryEncodes", inPlace := ["internal/bytealg.abigen_runtime_cmpstring", "slices.overlaps[sacristan/api.Entry]"], unfollowed := true, recurses := true, apart := false }
def EntryEncodesSaid : Prop := entryEncodesRow.holds Try.pinned (OpenSpec.ofChange entryEncodesSpec)

/-- ITS FALSE NEIGHBOUR: 'it returns false'. Refute it at one input. -/
def entryEncodesWrong : ChangeSpec := { name := "entryEncodes", fn := fun _ => fun
  | [d1, d2] => { results := [.lit (.bool false)], args := [d1, d2] }
  | _ => none }
def EntryEncodesWrongFalsely : Prop := entryEncodesRow.holds Try.pinned (OpenSpec.ofChange entryEncodesWrong)

/-- 'sacristanlaw14.EntryBack': WHATEVER THE INPUT: true; the input reads as it did. -/
def entryBackSpec : ChangeSpec := { name := "entryBack", fn := fun _ => fun
  | [d1, d2, d3, d4] => { results := [.lit (.bool true)], args := [d1, d2, d3, d4] }
  | _ => none }
def entryBackRow : OpenClaim := { program := "ytiloeaenpanjcaa", sum := "7227dd18235ecc2e946ae14525a7a1b11ae20ee0bd1099383faa1e5b6ca434e4", func := "sacristan/sacristanlaw14.EntryBack", spec := "entryBack", inPlace := ["internal/bytealg.abigen_runtime_cmpstring", "slices.overlaps[sacristan/api.Entry]"], unfollowed := true, recurses := true, apart := false }
def EntryBackSaid : Prop := entryBackRow.holds Try.pinned (OpenSpec.ofChange entryBackSpec)

/-- ITS FALSE NEIGHBOUR: 'it returns false'. Refute it at one input. -/
def entryBackWrong : ChangeSpec := { name := "entryBack", fn := fun _ => fun
  | [d1, d2, d3, d4] => { results := [.lit (.bool false)], args := [d1, d2, d3, d4] }
  | _ => none }
def EntryBackWrongFalsely : Prop := entryBackRow.holds Try.pinned (OpenSpec.ofChange entryBackWrong)

/-- 'sacristanlaw14.EntryWide': WHATEVER THE INPUT: true; the input reads as it did. -/
def entryWideSpec : ChangeSpec := { name := "entryWide", fn := fun _ => fun
  | [d] => { results := [.lit (.bool true)], args := [d] }
  | _ => none }
def entryWideRow : OpenClaim := { program := "ytiloeaenpanjcaa", sum := "7227dd18235ecc2e946ae14525a7a1b11ae20ee0bd1099383faa1e5b6ca434e4", func := "sacristan/sacristanlaw14.EntryWide", spec := "entryWide", inPlace := ["internal/bytealg.abigen_runtime_cmpstring", "slices.overlaps[sacristan/api.Entry]"], unfollowed := true, recurses := true, apart := false }
def EntryWideSaid : Prop := entryWideRow.holds Try.pinned (OpenSpec.ofChange entryWideSpec)

/-- ITS FALSE NEIGHBOUR: 'it returns false'. Refute it at one input. -/
def entryWideWrong : ChangeSpec := { name := "entryWide", fn := fun _ => fun
  | [d] => { results := [.lit (.bool false)], args := [d] }
  | _ => none }
def EntryWideWrongFalsely : Prop := entryWideRow.holds Try.pinned (OpenSpec.ofChange entryWideWrong)

/- THE SECOND FORM. 'bulk': how many values and letters a reading holds, each counted each time it is reached (what is shared counts as often as it is met; a slice's spare places count too). A statement '..UptoSaid' is the law's where the arguments, and the package variables that the reading takes, are together of bulk at most 1048576: NARROWER than '..Said'. Prove '..Said' where nothing that the law and all that it calls make is longer than what came in: it says more and counts as full. Else prove '..UptoSaid'. A law counts once. -/
mutual
def uptoBulk {H : Type} : DataW H → Nat
  | .lit (.string bytes) => bytes.length + 1
  | .lit _ => 1
  | .nil => 1
  | .ptr d => uptoBulk d + 1
  | .slice elems spare => uptoBulkAll elems + uptoBulkAll spare + 1
  | .agg parts => uptoBulkAll parts + 1
  | .iface _ d => uptoBulk d + 1
  | .map entries => uptoBulkEntries entries + 1
  | .held _ => 1
def uptoBulkAll {H : Type} : List (DataW H) → Nat
  | [] => 0
  | d :: r => uptoBulk d + uptoBulkAll r
def uptoBulkEntries {H : Type} : List (Lit × DataW H) → Nat
  | [] => 0
  | x :: r => uptoBulkEntry x + uptoBulkEntries r
def uptoBulkEntry {H : Type} : Lit × DataW H → Nat
  | (.string bytes, d) => bytes.length + uptoBulk d + 1
  | (_, d) => uptoBulk d + 1
 end
def uptoSmall : (H : Type) → List (DataW H) → Bool := fun _ ds => decide (uptoBulkAll ds ≤ 1048576)
def OpenSpec.upto (s : _root_.Go.ChangeSpec) : _root_.Go.OpenSpec := { _root_.Go.OpenSpec.ofChange s with cond := some uptoSmall }

/-- 'sacristanlaw14.EntryNames', WHERE WHAT IT READS IS OF BULK AT MOST 1048576: true; the input reads as it did. -/
def entryNamesUptoRow : OpenClaim := { program := "ytiloeaenpanjcaa", sum := "7227dd18235ecc2e946ae14525a7a1b11ae20ee0bd1099383faa1e5b6ca434e4", func := "sacristan/sacristanlaw14.EntryNames", spec := "entryNames", inPlace := ["internal/bytealg.abigen_runtime_cmpstring", "slices.overlaps[sacristan/api.Entry]"], unfollowed := true, recurses := true, apart := false, narrowed := true }
def EntryNamesUptoSaid : Prop := entryNamesUptoRow.holds Try.pinned (OpenSpec.upto entryNamesSpec)

/-- 'sacristanlaw14.EntryOrders', WHERE WHAT IT READS IS OF BULK AT MOST 1048576: true; the input reads as it did. -/
def entryOrdersUptoRow : OpenClaim := { program := "ytiloeaenpanjcaa", sum := "7227dd18235ecc2e946ae14525a7a1b11ae20ee0bd1099383faa1e5b6ca434e4", func := "sacristan/sacristanlaw14.EntryOrders", spec := "entryOrders", inPlace := ["internal/bytealg.abigen_runtime_cmpstring", "slices.overlaps[sacristan/api.Entry]"], unfollowed := true, recurses := true, apart := false, narrowed := true }
def EntryOrdersUptoSaid : Prop := entryOrdersUptoRow.holds Try.pinned (OpenSpec.upto entryOrdersSpec)

/-- 'sacristanlaw14.EntryFinds', WHERE WHAT IT READS IS OF BULK AT MOST 1048576: true; the input reads as it did. -/
def entryFindsUptoRow : OpenClaim := { program := "ytiloeaenpanjcaa", sum := "7227dd18235ecc2e946ae14525a7a1b11ae20ee0bd1099383faa1e5b6ca434e4", func := "sacristan/sacristanlaw14.EntryFinds", spec := "entryFinds", inPlace := ["internal/bytealg.abigen_runtime_cmpstring", "slices.overlaps[sacristan/api.Entry]"], unfollowed := true, recurses := true, apart := false, narrowed := true }
def EntryFindsUptoSaid : Prop := entryFindsUptoRow.holds Try.pinned (OpenSpec.upto entryFindsSpec)

/-- 'sacristanlaw14.EntrySteps', WHERE WHAT IT READS IS OF BULK AT MOST 1048576: true; the input reads as it did. -/
def entryStepsUptoRow : OpenClaim := { program := "ytiloeaenpanjcaa", sum := "7227dd18235ecc2e946ae14525a7a1b11ae20ee0bd1099383faa1e5b6ca434e4", func := "sacristan/sacristanlaw14.EntrySteps", spec := "entrySteps", inPlace := ["internal/bytealg.abigen_runtime_cmpstring", "slices.overlaps[sacristan/api.Entry]"], unfollowed := true, recurses := true, apart := false, narrowed := true }
def EntryStepsUptoSaid : Prop := entryStepsUptoRow.holds Try.pinned (OpenSpec.upto entryStepsSpec)

/-- 'sacristanlaw14.EntryKeeps', WHERE WHAT IT READS IS OF BULK AT MOST 1048576: true; the input reads as it did. -/
def entryKeepsUptoRow : OpenClaim := { program := "ytiloeaenpanjcaa", sum := "7227dd18235ecc2e946ae14525a7a1b11ae20ee0bd1099383faa1e5b6ca434e4", func := "sacristan/sacristanlaw14.EntryKeeps", spec := "entryKeeps", inPlace := ["internal/bytealg.abigen_runtime_cmpstring", "slices.overlaps[sacristan/api.Entry]"], unfollowed := true, recurses := true, apart := false, narrowed := true }
def EntryKeepsUptoSaid : Prop := entryKeepsUptoRow.holds Try.pinned (OpenSpec.upto entryKeepsSpec)

/-- 'sacristanlaw14.EntryEncodes', WHERE WHAT IT READS IS OF BULK AT MOST 1048576: true; the input reads as it did. -/
def entryEncodesUptoRow : OpenClaim := { program := "ytiloeaenpanjcaa", sum := "7227dd18235ecc2e946ae14525a7a1b11ae20ee0bd1099383faa1e5b6ca434e4", func := "sacristan/sacristanlaw14.EntryEncodes", spec := "entryEncodes", inPlace := ["internal/bytealg.abigen_runtime_cmpstring", "slices.overlaps[sacristan/api.Entry]"], unfollowed := true, recurses := true, apart := false, narrowed := true }
def EntryEncodesUptoSaid : Prop := entryEncodesUptoRow.holds Try.pinned (OpenSpec.upto entryEncodesSpec)

/-- 'sacristanlaw14.EntryBack', WHERE WHAT IT READS IS OF BULK AT MOST 1048576: true; the input reads as it did. -/
def entryBackUptoRow : OpenClaim := { program := "ytiloeaenpanjcaa", sum := "7227dd18235ecc2e946ae14525a7a1b11ae20ee0bd1099383faa1e5b6ca434e4", func := "sacristan/sacristanlaw14.EntryBack", spec := "entryBack", inPlace := ["internal/bytealg.abigen_runtime_cmpstring", "slices.overlaps[sacristan/api.Entry]"], unfollowed := true, recurses := true, apart := false, narrowed := true }
def EntryBackUptoSaid : Prop := entryBackUptoRow.holds Try.pinned (OpenSpec.upto entryBackSpec)

/-- 'sacristanlaw14.EntryWide', WHERE WHAT IT READS IS OF BULK AT MOST 1048576: true; the input reads as it did. -/
def entryWideUptoRow : OpenClaim := { program := "ytiloeaenpanjcaa", sum := "7227dd18235ecc2e946ae14525a7a1b11ae20ee0bd1099383faa1e5b6ca434e4", func := "sacristan/sacristanlaw14.EntryWide", spec := "entryWide", inPlace := ["internal/bytealg.abigen_runtime_cmpstring", "slices.overlaps[sacristan/api.Entry]"], unfollowed := true, recurses := true, apart := false, narrowed := true }
def EntryWideUptoSaid : Prop := entryWideUptoRow.holds Try.pinned (OpenSpec.upto entryWideSpec)

end Rows
end Go.Proofs.Ytiloeaenpanjcaa
