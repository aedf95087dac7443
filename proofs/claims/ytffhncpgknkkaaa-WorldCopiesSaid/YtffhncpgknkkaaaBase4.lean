/- BASE4: rows of cells that are loaded and stored whole (arrays). No program in it. -/
import Derived.Laws.Rows
import Derived.Test.YtffhncpgknkkaaaBase3
namespace Go.Sac
open Go.RowKit
set_option linter.unusedVariables false
set_option linter.unusedSimpArgs false

theorem Blk.putRow {w : World} {g : Nat} {E : TypeId} {cs : List Value} (h : Blk w g E cs) (cs' : List Value) : Blk (w.setRow g cs'.toArray) g E cs' := setRow_heap w g _ _ E (0, 0) h
theorem Blk.rowFar {w : World} {g k : Nat} {E : TypeId} {cs : List Value} (h : Blk w k E cs) (hne : k ≠ g) (c : Array Value) : Blk (w.setRow g c) k E cs := (setRow_other w g k c hne).trans h
theorem below_row {B g : Nat} {w0 w : World} (h : Below B w0 w) (hg : B ≤ g) (c : Array Value) : Below B w0 (w.setRow g c) :=
  ⟨h.os, h.tape, h.output, by simp; exact h.size, fun b hb => (setRow_other w g b c (by omega)).trans (h.block b hb)⟩
end Go.Sac
