/-
  No cell of these rows narrows 'for every input' (looked for: loops, veiled, ifaces, maps, wideKeys, modest, calm, conditions, laid).
  DERIVED. THE GIVEN ROWS OF THIS SEAT. 7 by the template 'for every input the law returns true; each argument reads behind the call as it read before'; 0 by the template 'total and deterministic' (their statements: YtffhncpgknkkaaaTotals.lean).
  GIVEN WITH THE SEED: the statements are not yours to turn. If you find one false, say at which input.
  Laid BY PROGRAM, IN A SANDBOX (cutbox-rows.mjs): the forced cells as the released guide's own fill.sh prints them over the translation 8f11b35437e83b16… (all of the seat's roots in one cut). By AI agents, Wed Nov 11 2026. No macro, syntax, notation, axiom, sorry.
-/
import Derived.Test.YtffhncpgknkkaaaChecked
import GoSem.Claim
import GoSem.ClaimJoined
import GoSem.ClaimMapViews
import Derived.JoinedTies
import Derived.KernelRfl
namespace Go.Proofs.Ytffhncpgknkkaaa
/- THE CELL 'sum', in the pinned program and in every row, IS THE sha256 OF THE DUMP (.gsa) THAT YtffhncpgknkkaaaProg.lean LOADS. Nothing in Lean hashes anything: it is a label: what it is worth is what the hold of that sum in a sandbox is worth. -/
noncomputable def Try.pinned : Pinned := { name := "ytffhncpgknkkaaa", sum := "8f11b35437e83b16da1b7a536a7a1a12ea5b1733727719a8ff810288035e554a", checked := Try.checked }
namespace Rows
def none {H : Type} : Left H := { results := [], args := [] }

/-- 'sacristanlaw06.WorldTells': WHATEVER THE INPUT: true; the input reads as it did. -/
def worldTellsSpec : ChangeSpec := { name := "worldTells", fn := fun _ => fun
  | [d1, d2, d3, d4, d5, d6] => { results := [.lit (.bool true)], args := [d1, d2, d3, d4, d5, d6] }
  | _ => none }
def worldTellsRow : OpenClaim := { program := "ytffhncpgknkkaaa", sum := "8f11b35437e83b16da1b7a536a7a1a12ea5b1733727719a8ff810288035e554a", func := "sacristan/sacristanlaw06.WorldTells", spec := "worldTells", inPlace := ["sync/atomic.AddInt64"], plainKeys := false, apart := false }
def WorldTellsSaid : Prop := worldTellsRow.holds Try.pinned (OpenSpec.ofChange worldTellsSpec)

/-- ITS FALSE NEIGHBOUR: 'it returns false'. Refute it at one input. -/
def worldTellsWrong : ChangeSpec := { name := "worldTells", fn := fun _ => fun
  | [d1, d2, d3, d4, d5, d6] => { results := [.lit (.bool false)], args := [d1, d2, d3, d4, d5, d6] }
  | _ => none }
def WorldTellsWrongFalsely : Prop := worldTellsRow.holds Try.pinned (OpenSpec.ofChange worldTellsWrong)

/-- 'sacristanlaw06.WorldLies': WHATEVER THE INPUT: true; the input reads as it did. -/
def worldLiesSpec : ChangeSpec := { name := "worldLies", fn := fun _ => fun
  | [d1, d2, d3, d4] => { results := [.lit (.bool true)], args := [d1, d2, d3, d4] }
  | _ => none }
def worldLiesRow : OpenClaim := { program := "ytffhncpgknkkaaa", sum := "8f11b35437e83b16da1b7a536a7a1a12ea5b1733727719a8ff810288035e554a", func := "sacristan/sacristanlaw06.WorldLies", spec := "worldLies", inPlace := ["sync/atomic.AddInt64"], plainKeys := false, apart := false }
def WorldLiesSaid : Prop := worldLiesRow.holds Try.pinned (OpenSpec.ofChange worldLiesSpec)

/-- ITS FALSE NEIGHBOUR: 'it returns false'. Refute it at one input. -/
def worldLiesWrong : ChangeSpec := { name := "worldLies", fn := fun _ => fun
  | [d1, d2, d3, d4] => { results := [.lit (.bool false)], args := [d1, d2, d3, d4] }
  | _ => none }
def WorldLiesWrongFalsely : Prop := worldLiesRow.holds Try.pinned (OpenSpec.ofChange worldLiesWrong)

/-- 'sacristanlaw06.WorldTears': WHATEVER THE INPUT: true; the input reads as it did. -/
def worldTearsSpec : ChangeSpec := { name := "worldTears", fn := fun _ => fun
  | [d1, d2, d3] => { results := [.lit (.bool true)], args := [d1, d2, d3] }
  | _ => none }
def worldTearsRow : OpenClaim := { program := "ytffhncpgknkkaaa", sum := "8f11b35437e83b16da1b7a536a7a1a12ea5b1733727719a8ff810288035e554a", func := "sacristan/sacristanlaw06.WorldTears", spec := "worldTears", inPlace := ["sync/atomic.AddInt64"], plainKeys := false, apart := false }
def WorldTearsSaid : Prop := worldTearsRow.holds Try.pinned (OpenSpec.ofChange worldTearsSpec)

/-- ITS FALSE NEIGHBOUR: 'it returns false'. Refute it at one input. -/
def worldTearsWrong : ChangeSpec := { name := "worldTears", fn := fun _ => fun
  | [d1, d2, d3] => { results := [.lit (.bool false)], args := [d1, d2, d3] }
  | _ => none }
def WorldTearsWrongFalsely : Prop := worldTearsRow.holds Try.pinned (OpenSpec.ofChange worldTearsWrong)

/-- 'sacristanlaw06.WorldSeals': WHATEVER THE INPUT: true; the input reads as it did. -/
def worldSealsSpec : ChangeSpec := { name := "worldSeals", fn := fun _ => fun
  | [d1, d2, d3, d4] => { results := [.lit (.bool true)], args := [d1, d2, d3, d4] }
  | _ => none }
def worldSealsRow : OpenClaim := { program := "ytffhncpgknkkaaa", sum := "8f11b35437e83b16da1b7a536a7a1a12ea5b1733727719a8ff810288035e554a", func := "sacristan/sacristanlaw06.WorldSeals", spec := "worldSeals", inPlace := ["sync/atomic.AddInt64"], plainKeys := false, apart := false }
def WorldSealsSaid : Prop := worldSealsRow.holds Try.pinned (OpenSpec.ofChange worldSealsSpec)

/-- ITS FALSE NEIGHBOUR: 'it returns false'. Refute it at one input. -/
def worldSealsWrong : ChangeSpec := { name := "worldSeals", fn := fun _ => fun
  | [d1, d2, d3, d4] => { results := [.lit (.bool false)], args := [d1, d2, d3, d4] }
  | _ => none }
def WorldSealsWrongFalsely : Prop := worldSealsRow.holds Try.pinned (OpenSpec.ofChange worldSealsWrong)

/-- 'sacristanlaw06.WorldBumps': WHATEVER THE INPUT: true; the input reads as it did. -/
def worldBumpsSpec : ChangeSpec := { name := "worldBumps", fn := fun _ => fun
  | [d1, d2] => { results := [.lit (.bool true)], args := [d1, d2] }
  | _ => none }
def worldBumpsRow : OpenClaim := { program := "ytffhncpgknkkaaa", sum := "8f11b35437e83b16da1b7a536a7a1a12ea5b1733727719a8ff810288035e554a", func := "sacristan/sacristanlaw06.WorldBumps", spec := "worldBumps", inPlace := ["sync/atomic.AddInt64"], plainKeys := false, apart := false }
def WorldBumpsSaid : Prop := worldBumpsRow.holds Try.pinned (OpenSpec.ofChange worldBumpsSpec)

/-- ITS FALSE NEIGHBOUR: 'it returns false'. Refute it at one input. -/
def worldBumpsWrong : ChangeSpec := { name := "worldBumps", fn := fun _ => fun
  | [d1, d2] => { results := [.lit (.bool false)], args := [d1, d2] }
  | _ => none }
def WorldBumpsWrongFalsely : Prop := worldBumpsRow.holds Try.pinned (OpenSpec.ofChange worldBumpsWrong)

/-- 'sacristanlaw06.WorldTraces': WHATEVER THE INPUT: true; the input reads as it did. -/
def worldTracesSpec : ChangeSpec := { name := "worldTraces", fn := fun _ => fun
  | [d] => { results := [.lit (.bool true)], args := [d] }
  | _ => none }
def worldTracesRow : OpenClaim := { program := "ytffhncpgknkkaaa", sum := "8f11b35437e83b16da1b7a536a7a1a12ea5b1733727719a8ff810288035e554a", func := "sacristan/sacristanlaw06.WorldTraces", spec := "worldTraces", inPlace := ["sync/atomic.AddInt64"], plainKeys := false, apart := false }
def WorldTracesSaid : Prop := worldTracesRow.holds Try.pinned (OpenSpec.ofChange worldTracesSpec)

/-- ITS FALSE NEIGHBOUR: 'it returns false'. Refute it at one input. -/
def worldTracesWrong : ChangeSpec := { name := "worldTraces", fn := fun _ => fun
  | [d] => { results := [.lit (.bool false)], args := [d] }
  | _ => none }
def WorldTracesWrongFalsely : Prop := worldTracesRow.holds Try.pinned (OpenSpec.ofChange worldTracesWrong)

/-- 'sacristanlaw06.WorldCopies': WHATEVER THE INPUT: true; the input reads as it did. -/
def worldCopiesSpec : ChangeSpec := { name := "worldCopies", fn := fun _ => fun
  | [d1, d2] => { results := [.lit (.bool true)], args := [d1, d2] }
  | _ => none }
def worldCopiesRow : OpenClaim := { program := "ytffhncpgknkkaaa", sum := "8f11b35437e83b16da1b7a536a7a1a12ea5b1733727719a8ff810288035e554a", func := "sacristan/sacristanlaw06.WorldCopies", spec := "worldCopies", inPlace := ["sync/atomic.AddInt64", "sync/atomic.LoadInt64", "sync/atomic.StoreInt64"], plainKeys := false, apart := false }
def WorldCopiesSaid : Prop := worldCopiesRow.holds Try.pinned (OpenSpec.ofChange worldCopiesSpec)

/-- ITS FALSE NEIGHBOUR: 'it returns false'. Refute it at one input. -/
def worldCopiesWrong : ChangeSpec := { name := "worldCopies", fn := fun _ => fun
  | [d1, d2] => { results := [.lit (.bool false)], args := [d1, d2] }
  | _ => none }
def WorldCopiesWrongFalsely : Prop := worldCopiesRow.holds Try.pinned (OpenSpec.ofChange worldCopiesWrong)

/- THE SECOND FORM. 'bulk': how many values and letters a reading holds, each counted each time it is reached (what is shared counts as often as it is met; a slice's spare places count too). A statement '..UptoSaid' is the law's where the arguments, and the package variables that the reading takes, are together of bulk at most 1048576: NARROWER than '..Said'. Prove '..Said' where nothing that the law and all that it calls make is longer than what came in: it says more and counts as full. Else prove '..UptoSaid'. A law counts once. -/
mutual
def uptoBulk {H : Type} : DataW H → Nat
  | .lit (.string bytes) => bytes.length + 1
  | .lit _ => 1
  | .nil => 1
  | .ptr d => uptoBulk d + 1
  | .slice elems spare => uptoBulkAll elems + uptoBulkAll spare + 1
  | .agg parts => uptoBulkAll parts + 1
  | .iface _ d => uptoBulk d + 1
  | .map entries => uptoBulkEntries entries + 1
  | .held _ => 1
def uptoBulkAll {H : Type} : List (DataW H) → Nat
  | [] => 0
  | d :: r => uptoBulk d + uptoBulkAll r
def uptoBulkEntries {H : Type} : List (Lit × DataW H) → Nat
  | [] => 0
  | x :: r => uptoBulkEntry x + uptoBulkEntries r
def uptoBulkEntry {H : Type} : Lit × DataW H → Nat
  | (.string bytes, d) => bytes.length + uptoBulk d + 1
  | (_, d) => uptoBulk d + 1
 end
def uptoSmall : (H : Type) → List (DataW H) → Bool := fun _ ds => decide (uptoBulkAll ds ≤ 1048576)
def OpenSpec.upto (s : _root_.Go.ChangeSpec) : _root_.Go.OpenSpec := { _root_.Go.OpenSpec.ofChange s with cond := some uptoSmall }

/-- 'sacristanlaw06.WorldTells', WHERE WHAT IT READS IS OF BULK AT MOST 1048576: true; the input reads as it did. -/
def worldTellsUptoRow : OpenClaim := { program := "ytffhncpgknkkaaa", sum := "8f11b35437e83b16da1b7a536a7a1a12ea5b1733727719a8ff810288035e554a", func := "sacristan/sacristanlaw06.WorldTells", spec := "worldTells", inPlace := ["sync/atomic.AddInt64"], plainKeys := false, apart := false, narrowed := true }
def WorldTellsUptoSaid : Prop := worldTellsUptoRow.holds Try.pinned (OpenSpec.upto worldTellsSpec)

/-- 'sacristanlaw06.WorldLies', WHERE WHAT IT READS IS OF BULK AT MOST 1048576: true; the input reads as it did. -/
def worldLiesUptoRow : OpenClaim := { program := "ytffhncpgknkkaaa", sum := "8f11b35437e83b16da1b7a536a7a1a12ea5b1733727719a8ff810288035e554a", func := "sacristan/sacristanlaw06.WorldLies", spec := "worldLies", inPlace := ["sync/atomic.AddInt64"], plainKeys := false, apart := false, narrowed := true }
def WorldLiesUptoSaid : Prop := worldLiesUptoRow.holds Try.pinned (OpenSpec.upto worldLiesSpec)

/-- 'sacristanlaw06.WorldTears', WHERE WHAT IT READS IS OF BULK AT MOST 1048576: true; the input reads as it did. -/
def worldTearsUptoRow : OpenClaim := { program := "ytffhncpgknkkaaa", sum := "8f11b35437e83b16da1b7a536a7a1a12ea5b1733727719a8ff810288035e554a", func := "sacristan/sacristanlaw06.WorldTears", spec := "worldTears", inPlace := ["sync/atomic.AddInt64"], plainKeys := false, apart := false, narrowed := true }
def WorldTearsUptoSaid : Prop := worldTearsUptoRow.holds Try.pinned (OpenSpec.upto worldTearsSpec)

/-- 'sacristanlaw06.WorldSeals', WHERE WHAT IT READS IS OF BULK AT MOST 1048576: true; the input reads as it did. -/
def worldSealsUptoRow : OpenClaim := { program := "ytffhncpgknkkaaa", sum := "8f11b35437e83b16da1b7a536a7a1a12ea5b1733727719a8ff810288035e554a", func := "sacristan/sacristanlaw06.WorldSeals", spec := "worldSeals", inPlace := ["sync/atomic.AddInt64"], plainKeys := false, apart := false, narrowed := true }
def WorldSealsUptoSaid : Prop := worldSealsUptoRow.holds Try.pinned (OpenSpec.upto worldSealsSpec)

/-- 'sacristanlaw06.WorldBumps', WHERE WHAT IT READS IS OF BULK AT MOST 1048576: true; the input reads as it did. -/
def worldBumpsUptoRow : OpenClaim := { program := "ytffhncpgknkkaaa", sum := "8f11b35437e83b16da1b7a536a7a1a12ea5b1733727719a8ff810288035e554a", func := "sacristan/sacristanlaw06.WorldBumps", spec := "worldBumps", inPlace := ["sync/atomic.AddInt64"], plainKeys := false, apart := false, narrowed := true }
def WorldBumpsUptoSaid : Prop := worldBumpsUptoRow.holds Try.pinned (OpenSpec.upto worldBumpsSpec)

/-- 'sacristanlaw06.WorldTraces', WHERE WHAT IT READS IS OF BULK AT MOST 1048576: true; the input reads as it did. -/
def worldTracesUptoRow : OpenClaim := { program := "ytffhncpgknkkaaa", sum := "8f11b35437e83b16da1b7a536a7a1a12ea5b1733727719a8ff810288035e554a", func := "sacristan/sacristanlaw06.WorldTraces", spec := "worldTraces", inPlace := ["sync/atomic.AddInt64"], plainKeys := false, apart := false, narrowed := true }
def WorldTracesUptoSaid : Prop := worldTracesUptoRow.holds Try.pinned (OpenSpec.upto worldTracesSpec)

/-- 'sacristanlaw06.WorldCopies', WHERE WHAT IT READS IS OF BULK AT MOST 1048576: true; the input reads as it did. -/
def worldCopiesUptoRow : OpenClaim := { program := "ytffhncpgknkkaaa", sum := "8f11b35437e83b16da1b7a536a7a1a12ea5b1733727719a8ff810288035e554a", func := "sacristan/sacristanlaw06.WorldCopies", spec := "worldCopies", inPlace := ["sync/atomic.AddInt64", "sync/atomic.LoadInt64", "sync/atomic.StoreInt64"], plainKeys := false, apart := false, narrowed := true }
def WorldCopiesUptoSaid : Prop := worldCopiesUptoRow.holds Try.pinned (OpenSpec.upto worldCopiesSpec)

end Rows
end Go.Proofs.Ytffhncpgknkkaaa
