/-
  No cell of these rows narrows 'for every input' (looked for: loops, veiled, ifaces, maps, wideKeys, modest, calm, conditions, laid).
  DERIVED. THE GIVEN ROWS OF THIS SEAT. 6 by the template 'for every input the law returns true; each argument reads behind the call as it read before'; 0 by the template 'total and deterministic' (their statements: YtpgkfabiflhkfaaTotals.lean).
  GIVEN WITH THE SEED: the statements are not yours to turn. If you find one false, say at which input.
  Laid BY PROGRAM, IN A SANDBOX (cutbox-rows.mjs): the forced cells as the released guide's own fill.sh prints them over the translation 2257bde507df4fc9… (all of the seat's roots in one cut). By AI agents, Wed Nov 11 2026. No macro, syntax, notation, axiom, sorry.
-/
import Derived.Test.YtpgkfabiflhkfaaChecked
import GoSem.Claim
import GoSem.ClaimJoined
import GoSem.ClaimMapViews
import Derived.JoinedTies
import Derived.KernelRfl
namespace Go.Proofs.Ytpgkfabiflhkfaa
/- THE CELL 'sum', in the pinned program and in every row, IS THE sha256 OF THE DUMP (.gsa) THAT YtpgkfabiflhkfaaProg.lean LOADS. Nothing in Lean hashes anything: it is a label: what it is worth is what the hold of that sum in a sandbox is worth. -/
noncomputable def Try.pinned : Pinned := { name := "ytpgkfabiflhkfaa", sum := "2257bde507df4fc9295acb74995d32c472efd751d50ce88496894e2c4cbae3d8", checked := Try.checked }
namespace Rows
def none {H : Type} : Left H := { results := [], args := [] }

/-- 'sacristanlaw12.BitsTells': WHATEVER THE INPUT: true; the input reads as it did. -/
def bitsTellsSpec : ChangeSpec := { name := "bitsTells", fn := fun _ => fun
  | [d1, d2, d3, d4, d5] => { results := [.lit (.bool true)], args := [d1, d2, d3, d4, d5] }
  | _ => none }
def bitsTellsRow : OpenClaim := { program := "ytpgkfabiflhkfaa", sum := "2257bde507df4fc9295acb74995d32c472efd751d50ce88496894e2c4cbae3d8", func := "sacristan/sacristanlaw12.BitsTells", spec := "bitsTells", unfollowed := true, recurses := true, apart := false }
def BitsTellsSaid : Prop := bitsTellsRow.holds Try.pinned (OpenSpec.ofChange bitsTellsSpec)

/-- ITS FALSE NEIGHBOUR: 'it returns false'. Refute it at one input. -/
def bitsTellsWrong : ChangeSpec := { name := "bitsTells", fn := fun _ => fun
  | [d1, d2, d3, d4, d5] => { results := [.lit (.bool false)], args := [d1, d2, d3, d4, d5] }
  | _ => none }
def BitsTellsWrongFalsely : Prop := bitsTellsRow.holds Try.pinned (OpenSpec.ofChange bitsTellsWrong)

/-- 'sacristanlaw12.BitsKeep': WHATEVER THE INPUT: true; the input reads as it did. -/
def bitsKeepSpec : ChangeSpec := { name := "bitsKeep", fn := fun _ => fun
  | [d1, d2, d3, d4] => { results := [.lit (.bool true)], args := [d1, d2, d3, d4] }
  | _ => none }
def bitsKeepRow : OpenClaim := { program := "ytpgkfabiflhkfaa", sum := "2257bde507df4fc9295acb74995d32c472efd751d50ce88496894e2c4cbae3d8", func := "sacristan/sacristanlaw12.BitsKeep", spec := "bitsKeep", unfollowed := true, recurses := true, apart := false }
def BitsKeepSaid : Prop := bitsKeepRow.holds Try.pinned (OpenSpec.ofChange bitsKeepSpec)

/-- ITS FALSE NEIGHBOUR: 'it returns false'. Refute it at one input. -/
def bitsKeepWrong : ChangeSpec := { name := "bitsKeep", fn := fun _ => fun
  | [d1, d2, d3, d4] => { results := [.lit (.bool false)], args := [d1, d2, d3, d4] }
  | _ => none }
def BitsKeepWrongFalsely : Prop := bitsKeepRow.holds Try.pinned (OpenSpec.ofChange bitsKeepWrong)

/-- 'sacristanlaw12.BitsFree': WHATEVER THE INPUT: true; the input reads as it did. -/
def bitsFreeSpec : ChangeSpec := { name := "bitsFree", fn := fun _ => fun
  | [d1, d2, d3] => { results := [.lit (.bool true)], args := [d1, d2, d3] }
  | _ => none }
def bitsFreeRow : OpenClaim := { program := "ytpgkfabiflhkfaa", sum := "2257bde507df4fc9295acb74995d32c472efd751d50ce88496894e2c4cbae3d8", func := "sacristan/sacristanlaw12.BitsFree", spec := "bitsFree", unfollowed := true, recurses := true, apart := false }
def BitsFreeSaid : Prop := bitsFreeRow.holds Try.pinned (OpenSpec.ofChange bitsFreeSpec)

/-- ITS FALSE NEIGHBOUR: 'it returns false'. Refute it at one input. -/
def bitsFreeWrong : ChangeSpec := { name := "bitsFree", fn := fun _ => fun
  | [d1, d2, d3] => { results := [.lit (.bool false)], args := [d1, d2, d3] }
  | _ => none }
def BitsFreeWrongFalsely : Prop := bitsFreeRow.holds Try.pinned (OpenSpec.ofChange bitsFreeWrong)

/-- 'sacristanlaw12.BitsAll': WHATEVER THE INPUT: true; the input reads as it did. -/
def bitsAllSpec : ChangeSpec := { name := "bitsAll", fn := fun _ => fun
  | [d] => { results := [.lit (.bool true)], args := [d] }
  | _ => none }
def bitsAllRow : OpenClaim := { program := "ytpgkfabiflhkfaa", sum := "2257bde507df4fc9295acb74995d32c472efd751d50ce88496894e2c4cbae3d8", func := "sacristan/sacristanlaw12.BitsAll", spec := "bitsAll", unfollowed := true, recurses := true, apart := false }
def BitsAllSaid : Prop := bitsAllRow.holds Try.pinned (OpenSpec.ofChange bitsAllSpec)

/-- ITS FALSE NEIGHBOUR: 'it returns false'. Refute it at one input. -/
def bitsAllWrong : ChangeSpec := { name := "bitsAll", fn := fun _ => fun
  | [d] => { results := [.lit (.bool false)], args := [d] }
  | _ => none }
def BitsAllWrongFalsely : Prop := bitsAllRow.holds Try.pinned (OpenSpec.ofChange bitsAllWrong)

/-- 'sacristanlaw12.BitsFirst': WHATEVER THE INPUT: true; the input reads as it did. -/
def bitsFirstSpec : ChangeSpec := { name := "bitsFirst", fn := fun _ => fun
  | [d1, d2, d3, d4] => { results := [.lit (.bool true)], args := [d1, d2, d3, d4] }
  | _ => none }
def bitsFirstRow : OpenClaim := { program := "ytpgkfabiflhkfaa", sum := "2257bde507df4fc9295acb74995d32c472efd751d50ce88496894e2c4cbae3d8", func := "sacristan/sacristanlaw12.BitsFirst", spec := "bitsFirst", unfollowed := true, recurses := true, apart := false }
def BitsFirstSaid : Prop := bitsFirstRow.holds Try.pinned (OpenSpec.ofChange bitsFirstSpec)

/-- ITS FALSE NEIGHBOUR: 'it returns false'. Refute it at one input. -/
def bitsFirstWrong : ChangeSpec := { name := "bitsFirst", fn := fun _ => fun
  | [d1, d2, d3, d4] => { results := [.lit (.bool false)], args := [d1, d2, d3, d4] }
  | _ => none }
def BitsFirstWrongFalsely : Prop := bitsFirstRow.holds Try.pinned (OpenSpec.ofChange bitsFirstWrong)

/-- 'sacristanlaw12.BitsTwice': WHATEVER THE INPUT: true; the input reads as it did. -/
def bitsTwiceSpec : ChangeSpec := { name := "bitsTwice", fn := fun _ => fun
  | [d1, d2, d3, d4, d5] => { results := [.lit (.bool true)], args := [d1, d2, d3, d4, d5] }
  | _ => none }
def bitsTwiceRow : OpenClaim := { program := "ytpgkfabiflhkfaa", sum := "2257bde507df4fc9295acb74995d32c472efd751d50ce88496894e2c4cbae3d8", func := "sacristan/sacristanlaw12.BitsTwice", spec := "bitsTwice", unfollowed := true, recurses := true, apart := false }
def BitsTwiceSaid : Prop := bitsTwiceRow.holds Try.pinned (OpenSpec.ofChange bitsTwiceSpec)

/-- ITS FALSE NEIGHBOUR: 'it returns false'. Refute it at one input. -/
def bitsTwiceWrong : ChangeSpec := { name := "bitsTwice", fn := fun _ => fun
  | [d1, d2, d3, d4, d5] => { results := [.lit (.bool false)], args := [d1, d2, d3, d4, d5] }
  | _ => none }
def BitsTwiceWrongFalsely : Prop := bitsTwiceRow.holds Try.pinned (OpenSpec.ofChange bitsTwiceWrong)

/- THE SECOND FORM. 'bulk': how many values and letters a reading holds, each counted each time it is reached (what is shared counts as often as it is met; a slice's spare places count too). A statement '..UptoSaid' is the law's where the arguments, and the package variables that the reading takes, are together of bulk at most 1048576: NARROWER than '..Said'. Prove '..Said' where nothing that the law and all that it calls make is longer than what came in: it says more and counts as full. Else prove '..UptoSaid'. A law counts once. -/
mutual
def uptoBulk {H : Type} : DataW H → Nat
  | .lit (.string bytes) => bytes.length + 1
  | .lit _ => 1
  | .nil => 1
  | .ptr d => uptoBulk d + 1
  | .slice elems spare => uptoBulkAll elems + uptoBulkAll spare + 1
  | .agg parts => uptoBulkAll parts + 1
  | .iface _ d => uptoBulk d + 1
  | .map entries => uptoBulkEntries entries + 1
  | .held _ => 1
def uptoBulkAll {H : Type} : List (DataW H) → Nat
  | [] => 0
  | d :: r => uptoBulk d + uptoBulkAll r
def uptoBulkEntries {H : Type} : List (Lit × DataW H) → Nat
  | [] => 0
  | x :: r => uptoBulkEntry x + uptoBulkEntries r
def uptoBulkEntry {H : Type} : Lit × DataW H → Nat
  | (.string bytes, d) => bytes.length + uptoBulk d + 1
  | (_, d) => uptoBulk d + 1
 end
def uptoSmall : (H : Type) → List (DataW H) → Bool := fun _ ds => decide (uptoBulkAll ds ≤ 1048576)
def OpenSpec.upto (s : _root_.Go.ChangeSpec) : _root_.Go.OpenSpec := { _root_.Go.OpenSpec.ofChange s with cond := some uptoSmall }

/-- 'sacristanlaw12.BitsTells', WHERE WHAT IT READS IS OF BULK AT MOST 1048576: true; the input reads as it did. -/
def bitsTellsUptoRow : OpenClaim := { program := "ytpgkfabiflhkfaa", sum := "2257bde507df4fc9295acb74995d32c472efd751d50ce88496894e2c4cbae3d8", func := "sacristan/sacristanlaw12.BitsTells", spec := "bitsTells", unfollowed := true, recurses := true, apart := false, narrowed := true }
def BitsTellsUptoSaid : Prop := bitsTellsUptoRow.holds Try.pinned (OpenSpec.upto bitsTellsSpec)

/-- 'sacristanlaw12.BitsKeep', WHERE WHAT IT READS IS OF BULK AT MOST 1048576: true; the input reads as it did. -/
def bitsKeepUptoRow : OpenClaim := { program := "ytpgkfabiflhkfaa", sum := "2257bde507df4fc9295acb74995d32c472efd751d50ce88496894e2c4cbae3d8", func := "sacristan/sacristanlaw12.BitsKeep", spec := "bitsKeep", unfollowed := true, recurses := true, apart := false, narrowed := true }
def BitsKeepUptoSaid : Prop := bitsKeepUptoRow.holds Try.pinned (OpenSpec.upto bitsKeepSpec)

/-- 'sacristanlaw12.BitsFree', WHERE WHAT IT READS IS OF BULK AT MOST 1048576: true; the input reads as it did. -/
def bitsFreeUptoRow : OpenClaim := { program := "ytpgkfabiflhkfaa", sum := "2257bde507df4fc9295acb74995d32c472efd751d50ce88496894e2c4cbae3d8", func := "sacristan/sacristanlaw12.BitsFree", spec := "bitsFree", unfollowed := true, recurses := true, apart := false, narrowed := true }
def BitsFreeUptoSaid : Prop := bitsFreeUptoRow.holds Try.pinned (OpenSpec.upto bitsFreeSpec)

/-- 'sacristanlaw12.BitsAll', WHERE WHAT IT READS IS OF BULK AT MOST 1048576: true; the input reads as it did. -/
def bitsAllUptoRow : OpenClaim := { program := "ytpgkfabiflhkfaa", sum := "2257bde507df4fc9295acb74995d32c472efd751d50ce88496894e2c4cbae3d8", func := "sacristan/sacristanlaw12.BitsAll", spec := "bitsAll", unfollowed := true, recurses := true, apart := false, narrowed := true }
def BitsAllUptoSaid : Prop := bitsAllUptoRow.holds Try.pinned (OpenSpec.upto bitsAllSpec)

/-- 'sacristanlaw12.BitsFirst', WHERE WHAT IT READS IS OF BULK AT MOST 1048576: true; the input reads as it did. -/
def bitsFirstUptoRow : OpenClaim := { program := "ytpgkfabiflhkfaa", sum := "2257bde507df4fc9295acb74995d32c472efd751d50ce88496894e2c4cbae3d8", func := "sacristan/sacristanlaw12.BitsFirst", spec := "bitsFirst", unfollowed := true, recurses := true, apart := false, narrowed := true }
def BitsFirstUptoSaid : Prop := bitsFirstUptoRow.holds Try.pinned (OpenSpec.upto bitsFirstSpec)

/-- 'sacristanlaw12.BitsTwice', WHERE WHAT IT READS IS OF BULK AT MOST 1048576: true; the input reads as it did. -/
def bitsTwiceUptoRow : OpenClaim := { program := "ytpgkfabiflhkfaa", sum := "2257bde507df4fc9295acb74995d32c472efd751d50ce88496894e2c4cbae3d8", func := "sacristan/sacristanlaw12.BitsTwice", spec := "bitsTwice", unfollowed := true, recurses := true, apart := false, narrowed := true }
def BitsTwiceUptoSaid : Prop := bitsTwiceUptoRow.holds Try.pinned (OpenSpec.upto bitsTwiceSpec)

end Rows
end Go.Proofs.Ytpgkfabiflhkfaa
