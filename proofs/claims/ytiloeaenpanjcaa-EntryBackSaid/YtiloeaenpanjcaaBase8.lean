/- BASE8: bytes of a string, as a new row. No program in it. -/
import Derived.Lib.ConvBytes
import Derived.Laws.AppendOwn
import Derived.Test.YtiloeaenpanjcaaBase3
namespace Go.Sac
open Go.RowKit
set_option linter.unusedVariables false
set_option linter.unusedSimpArgs false

theorem bytesW {P : Program} (w : World) (src dst e : TypeId) (s : ByteArray) (hs : P.underlying src = some .string) (hd : P.underlying dst = some (.slice e)) (he : P.underlying e = some (.int .u8)) :
    ∃ c W1, (convert src dst (.string s)).run P w = .ok (.slice (some ⟨w.heap.size, 0, none⟩) s.size c) W1 ∧ Rc W1 (some ⟨w.heap.size, 0, none⟩) (bs s.data.toList) ∧ Below w.heap.size w W1 ∧ s.size ≤ c ∧ W1.heap.size = w.heap.size + 1 := by
  refine ⟨_, _, Lib.run_convert_string_bytes w src dst e s hs hd he, ?_, ?_, ?_, Lib.bytesWorld_size w e s⟩
  · refine Rc.mk fun i u hu => ?_
    have hi : i < s.size := by have := (List.getElem?_eq_some_iff.1 hu).1; simpa [bs] using this
    rw [Nat.zero_add, Lib.bytesWorld_cell w e s i hi, ← hu, bs_at (by simpa using hi)]
    simp [List.getD_eq_getElem?_getD, hi]
  · refine ⟨?_, ?_, ?_, ?_, fun b hb => Lib.bytesWorld_at_old w e s b hb⟩
    · simp [Lib.bytesWorld, World.freeze, World.alloc, World.drew, -World.alloc_eq, -World.drew_eq]
    · simp [Lib.bytesWorld, World.freeze, World.alloc, World.drew, -World.alloc_eq, -World.drew_eq]
    · simp [Lib.bytesWorld, World.freeze, World.alloc, World.drew, -World.alloc_eq, -World.drew_eq]
    · rw [Lib.bytesWorld_size]; omega
  · exact grownCap_ge _ _ _ _
section
variable {P : Program} {ops : Array Oper} {rest : List Oper} {o : Oper} {a : Act} {Q : Exit → Act → World → Prop}
theorem wpList_bytes {W : World} (hgd : o.guard = none) (src dst e : TypeId) (x : Operand) (ho : o.op = .convert src dst x) (s : ByteArray) (hx : a.eval x = .string s)
    (hs : P.underlying src = some .string) (hd : P.underlying dst = some (.slice e)) (he : P.underlying e = some (.int .u8))
    (h : ∀ c W1, Rc W1 (some ⟨W.heap.size, 0, none⟩) (bs s.data.toList) → Below W.heap.size W W1 → s.size ≤ c → W1.heap.size = W.heap.size + 1 → wpList P ops Q rest (a.put o.dst (.slice (some ⟨W.heap.size, 0, none⟩) s.size c)) W1) :
    wpList P ops Q (o :: rest) a W := by
  obtain ⟨c, W1, hr, h1, h2, h3, h4⟩ := bytesW (P := P) W src dst e s hs hd he
  refine wpList_plain hgd fun K hK => ?_
  unfold Oper.wp execOp
  simp only [ho, hx, Sem.run_bind, hr, Result.andThen_ok, Sem.run_pure]
  exact hK _ _ (h c W1 h1 h2 h3 h4)
end
end Go.Sac
