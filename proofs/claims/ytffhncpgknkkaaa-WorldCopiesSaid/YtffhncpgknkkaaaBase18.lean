/- BASE18: a map's operations as operations of a drawn region. No program in it. -/
import Derived.Test.YtffhncpgknkkaaaBase17
namespace Go.Sac
open Go.RowKit Go.MapKept
set_option linter.unusedVariables false
set_option linter.unusedSimpArgs false
section
variable {P : Program} {o : Oper} {a : Act} {w : World} {K : Act → World → Prop} {Q : Exit → Act → World → Prop}
theorem wp_lkp (t : TypeId) (x k : Operand) (c : Bool) (ho : o.op = .lookup t x k c) (v : Value) (h : (Instr.lookup t (a.eval x) (a.eval k) c).run P w = .ok v w) (hk : K (a.put o.dst v) w) : o.wp P a w K Q := by
  unfold Oper.wp execOp
  simp only [ho, Sem.run_bind, h, Result.andThen_ok, Sem.run_pure]
  exact hk
theorem wp_men (t : TypeId) (x k : Operand) (ho : o.op = .mapEntry t x k) (v : Value) (w' : World) (h : (Instr.mapEntry t (a.eval x) (a.eval k)).run P w = .ok v w') (hk : K (a.put o.dst v) w') : o.wp P a w K Q := by
  unfold Oper.wp execOp
  simp only [ho, Sem.run_bind, h, Result.andThen_ok, Sem.run_pure]
  exact hk
theorem wp_est (t : TypeId) (x s v : Operand) (ho : o.op = .entryStore t x s v) (w' : World) (h : (Instr.entryStore t (a.eval x) (a.eval s) (a.eval v)).run P w = .ok () w') (hk : K (a.put o.dst undef) w') : o.wp P a w K Q := by
  unfold Oper.wp execOp
  simp only [ho, Sem.run_bind, h, Result.andThen_ok, Sem.run_pure]
  exact hk
theorem wpList_lkp {ops : Array Oper} {rest : List Oper} (hgd : o.guard = none) (t : TypeId) (x k : Operand) (c : Bool) (ho : o.op = .lookup t x k c) (v : Value) (h : (Instr.lookup t (a.eval x) (a.eval k) c).run P w = .ok v w) (hk : wpList P ops Q rest (a.put o.dst v) w) : wpList P ops Q (o :: rest) a w :=
  wpList_plain hgd fun K hK => wp_lkp t x k c ho v h (hK _ _ hk)
theorem wpList_mup {ops : Array Oper} {rest : List Oper} (hgd : o.guard = none) (t : TypeId) (x k v : Operand) (ho : o.op = .mapUpdate t x k v) (w' : World) (h : (Instr.mapUpdate t (a.eval x) (a.eval k) (a.eval v)).run P w = .ok () w') (hk : wpList P ops Q rest (a.put o.dst undef) w') : wpList P ops Q (o :: rest) a w := by
  refine wpList_plain hgd fun K hK => ?_
  unfold Oper.wp execOp
  simp only [ho, Sem.run_bind, h, Result.andThen_ok, Sem.run_pure]
  exact hK _ _ hk
theorem wp_mup (t : TypeId) (x k v : Operand) (ho : o.op = .mapUpdate t x k v) (w' : World) (h : (Instr.mapUpdate t (a.eval x) (a.eval k) (a.eval v)).run P w = .ok () w') (hk : K (a.put o.dst undef) w') : o.wp P a w K Q := by
  unfold Oper.wp execOp
  simp only [ho, Sem.run_bind, h, Result.andThen_ok, Sem.run_pure]
  exact hk
theorem wp_bld (t : TypeId) (parts : Array (Nat × Operand)) (ho : o.op = .build t parts) (ps : Array (Nat × Value)) (hp : (parts.map fun (i, x) => (i, a.eval x)) = ps) (v : Value) (h : (Instr.build t ps).run P w = .ok v w) (hk : K (a.put o.dst v) w) : o.wp P a w K Q := by
  unfold Oper.wp execOp
  simp only [ho, hp, Sem.run_bind, h, Result.andThen_ok, Sem.run_pure]
  exact hk
theorem wp_bsl (t : TypeId) (len : Nat) (parts : Array (Nat × Operand)) (ho : o.op = .buildSlice t len parts) (ps : Array (Nat × Value)) (hp : (parts.map fun (i, x) => (i, a.eval x)) = ps) (v : Value) (w' : World) (h : (Instr.buildSlice t len ps).run P w = .ok v w') (hk : K (a.put o.dst v) w') : o.wp P a w K Q := by
  unfold Oper.wp execOp
  simp only [ho, hp, Sem.run_bind, h, Result.andThen_ok, Sem.run_pure]
  exact hk
theorem run_zero_of {t : TypeId} {v : Value} (h : (P.info? t).map (·.zero) = some (some v)) (w : World) : (zeroValue t).run P w = .ok v w := by
  obtain ⟨i, hi, hz⟩ := Option.map_eq_some_iff.1 h
  simp [zeroValue, typeInfo, hi, hz, Sem.run_bind, Result.andThen]
theorem run_alloc_of {t : TypeId} {cs : List Value} (h : (P.info? t).map (·.zero) = some (some (.agg cs.toArray))) (w : World) : (Instr.alloc t true (.tuple #[])).run P w = .ok (.pointer (some ⟨w.heap.size, 0, none⟩)) (w.alloc (.cells cs.toArray t)) := by
  simp [Instr.alloc, Sem.run_bind, run_zero_of h, Result.andThen, newVar, newRow, Value.cells]
/-- an operation that yields what s yields -/
theorem wp_val (s : Sem Value) (he : execOp a.eval o = (do pure (.value (← s)))) (v : Value) (w' : World) (h : s.run P w = .ok v w') (hk : K (a.put o.dst v) w') : o.wp P a w K Q := by
  unfold Oper.wp
  rw [he]
  simp only [Sem.run_bind, h, Result.andThen_ok, Sem.run_pure]
  exact hk
theorem wpList_val {ops : Array Oper} {rest : List Oper} (hgd : o.guard = none) (s : Sem Value) (he : execOp a.eval o = (do pure (.value (← s)))) (v : Value) (w' : World) (h : s.run P w = .ok v w') (hk : wpList P ops Q rest (a.put o.dst v) w') : wpList P ops Q (o :: rest) a w :=
  wpList_plain hgd fun K hK => wp_val s he v w' h (hK _ _ hk)
/-- a new block, written whole -/
theorem arr_made (w : World) (E : TypeId) (xs ys : List Value) (hl : ys.length = xs.length) : ∃ w', (w.alloc (.cells xs.toArray E)).setRow w.heap.size ys.toArray = w' ∧ Below w.heap.size w w' ∧ Blk w' w.heap.size E ys ∧ w'.heap.size = w.heap.size + 1 := by
  refine ⟨_, rfl, below_row ((Below.refl _ w).alloc (Nat.le_refl _) _) (Nat.le_refl _) _, (Blk.new w E xs).putRow ys, by simp⟩
end
end Go.Sac
