/- BASE6: a region that draws its order, walked once in the text's order, within a class of worlds (callees may make memory; each yields one value in every world of the class); equality of rows of whole numbers. No program in it. -/
import Derived.Deep.Quiet
import Derived.Laws.StructEq
import Derived.ChangeKeysEq
import Derived.Deep.MidRow
import Derived.Test.YtffhncpgknkkaaaBase5
namespace Go.Sac
open Go.RowKit
set_option linter.unusedVariables false
set_option linter.unusedSimpArgs false

section
variable {P : Program} {ops : Array Oper} {C : World → Prop} {Q : Act → Prop} {o : Oper} {rest : List Oper} {a : Act}
theorem qs_take (v : Value) (hw : Region.wanted o (yielded ops a.tmps) = true) (h : ∀ w, C w → (execOp a.eval o).run P w = .ok (.value v) w) (hk : wpQuiet P ops C Q rest (a.put o.dst v)) : wpQuiet P ops C Q (o :: rest) a := by
  unfold wpQuiet
  rw [if_pos hw]
  exact ⟨v, fun w hC => by unfold Oper.quietAt; rw [h w hC]; exact ⟨rfl, rfl⟩, hk⟩
theorem qs_skip (hw : Region.wanted o (yielded ops a.tmps) = false) (hk : wpQuiet P ops C Q rest (a.put o.dst undef)) : wpQuiet P ops C Q (o :: rest) a := by
  unfold wpQuiet
  rw [if_neg (by rw [hw]; simp)]
  exact hk
theorem qs_call (v : Value) (f : FuncId) (args : Array Value) (hw : Region.wanted o (yielded ops a.tmps) = true) (he : ∀ w, (execOp a.eval o).run P w = .ok (.enter f args) w) (h : ∀ w, C w → Calls P f args w (fun e w'' => e = .returned v ∧ C w'')) (hk : wpQuiet P ops C Q rest (a.put o.dst v)) : wpQuiet P ops C Q (o :: rest) a := by
  unfold wpQuiet
  rw [if_pos hw]
  exact ⟨v, fun w hC => by unfold Oper.quietAt; rw [he w]; exact ⟨rfl, h w hC⟩, hk⟩
theorem qs_row (hw : Region.wanted o (yielded ops a.tmps) = true) (ty : TypeId) (x : Operand) (ho : o.op = .load ty x) (g : Nat) (hx : a.eval x = .pointer (some ⟨g, 0, none⟩)) (t : TypeId) (cs : Array Value) (fr : Nat × Nat) (d : TypeDesc)
    (hg : ∀ w, C w → w.heap[g]? = some (.cells cs t fr)) (hu : P.underlying ty = some d) (hd : (match d with | .struct _ | .array _ _ => true | _ => false) = true) (hi : (P.info? ty).map (·.size) = some cs.size)
    (hk : wpQuiet P ops C Q rest (a.put o.dst (.agg cs))) : wpQuiet P ops C Q (o :: rest) a := by
  refine qs_take (.agg cs) hw (fun w hC => ?_) hk
  have hr : w.rangeAt g 0 cs.toList := fun j v hv => by rw [Nat.zero_add, cell_of_row w g j _ t fr (hg w hC)]; simpa using hv
  have := run_loadAt_mid (P := P) w g 0 ty cs.toList d hr hu (by revert hd; cases d <;> simp [TypeDesc.isRow]) (by simpa using hi)
  unfold execOp
  simp only [ho, hx]
  rw [Sem.run_bind, this]
  rfl
theorem qs_val (v : Value) (s : Sem Value) (hw : Region.wanted o (yielded ops a.tmps) = true) (hs : execOp a.eval o = (do pure (.value (← s)))) (h : ∀ w, C w → s.run P w = .ok v w) (hk : wpQuiet P ops C Q rest (a.put o.dst v)) : wpQuiet P ops C Q (o :: rest) a := by
  refine qs_take v hw (fun w hC => ?_) hk
  rw [hs, Sem.run_bind, h w hC]
  rfl
/-- What lay when the region began lies as it lay. -/
def Aft (wx w' : World) : Prop := Below wx.heap.size wx w'
theorem Aft.start (wx : World) : Aft wx wx.drew := (Below.refl _ _).drew
theorem Aft.call {wx w w' : World} (h : Aft wx w) (hb : Below w.heap.size w w') : Aft wx w' := below_then h h.size hb
theorem Aft.blk {wx w : World} (h : Aft wx w) {g : Nat} {E : TypeId} {cs : List Value} (hb : Blk wx g E cs) : Blk w g E cs := hb.below h hb.lt
theorem aft_calls {P : Program} {f : FuncId} {args : Array Value} {wx w : World} {v : Value} (h : Aft wx w) (hc : Calls P f args w fun e w' => e = .returned v ∧ Below w.heap.size w w') : Calls P f args w fun e w' => e = .returned v ∧ Aft wx w' :=
  hc.mono fun e w' h' => ⟨h'.1, h.call h'.2⟩
theorem region_class {id : Nat} {Q : Exit → Act → World → Prop} {a : Act} {w : World} {l : List Oper} (C : World → Prop) (hm : P.follows .mixedOrders = true) (hB : Region.lexB .any l.toArray = true) (hC : C w.drew)
    (h : wpQuiet P l.toArray C (fun a' => ∀ w', C w' → Q .normal a' w') l a) : (Code.region id l.toArray true).wp P Q a w :=
  wp_region_quiet (C := C) hm hB hC (by simpa using h)
end

/-- a row loaded by a guarded operation that is wanted -/
theorem wpList_load_row_w {P : Program} {ops : Array Oper} {rest : List Oper} {o : Oper} {a : Act} {w : World} {Q : Exit → Act → World → Prop} (hw : Region.wanted o (yielded ops a.tmps) = true) (ty : TypeId) (x : Operand) (ho : o.op = .load ty x)
    (g : Nat) (hx : a.eval x = .pointer (some ⟨g, 0, none⟩)) (t : TypeId) (cs : Array Value) (fr : Nat × Nat) (d : TypeDesc) (hg : w.heap[g]? = some (.cells cs t fr))
    (hu : P.underlying ty = some d) (hd : (match d with | .struct _ | .array _ _ => true | _ => false) = true) (hi : (P.info? ty).map (·.size) = some cs.size)
    (h : wpList P ops Q rest (a.put o.dst (.agg cs)) w) : wpList P ops Q (o :: rest) a w := by
  unfold wpList
  rw [if_pos hw]
  exact .inl (wp_load_row ty x ho g hx t cs fr d hg hu hd hi h)
/-- rows of numbers, one against the other -/
theorem run_eqItems_nums {P : Program} {k : IntKind} {e : TypeId} (he : P.underlying e = some (.int k)) (hp : P.cellsOf e = 1) (ha : ∀ w, (isAgg e).run P w = .ok false w) (d : Nat) (xs ys : List Int) (hl : xs.length = ys.length) (w : World) :
    ∀ (m i : Nat), i + m = xs.length → (Op.eqItems (d + 1) e (P.cellsOf e) (xs.map (Value.int k)).toArray (ys.map (Value.int k)).toArray (List.range' i m)).run P w = .ok (xs.drop i == ys.drop i) w
  | 0, i, h => by
    rw [List.drop_eq_nil_of_le (by omega), List.drop_eq_nil_of_le (by omega)]
    simp [Op.eqItems]
  | m + 1, i, h => by
    obtain ⟨inf, hinf⟩ := info_of_underlying he
    have hpt : ∀ (zs : List Int) (h : i < zs.length) (w : World), (part e (zs.map (Value.int k)).toArray (i * P.cellsOf e)).run P w = .ok (.int k zs[i]) w := by
      intro zs h w
      simp [part, Sem.run_bind, ha w, run_sizeOf w hinf, Result.andThen, hp, h]
    have ih := run_eqItems_nums he hp ha d xs ys hl w m (i + 1) (by omega)
    rw [List.drop_eq_getElem_cons (show i < xs.length by omega), List.drop_eq_getElem_cons (show i < ys.length by omega)]
    rw [List.range'_succ]
    simp only [Op.eqItems, Sem.run_bind, hpt xs (by omega) w, hpt ys (by omega) w, Result.andThen_ok, run_equalIn_int w d e k k xs[i] ys[i] he]
    by_cases hxy : xs[i] = ys[i]
    · simp only [hxy, beq_self_eq_true, Bool.not_true, Bool.false_eq_true, if_false, ih, List.cons_beq_cons, Bool.true_and]
    · have hb : (xs[i] == ys[i]) = false := by simpa using hxy
      simp only [hb, Bool.not_false, if_true, Sem.run_pure, List.cons_beq_cons, Bool.false_and]
theorem run_equalIn_nums {P : Program} {k : IntKind} {e : TypeId} {n : Nat} {t : TypeId} (ht : P.underlying t = some (.array n e)) (he : P.underlying e = some (.int k)) (hp : P.cellsOf e = 1) (ha : ∀ w, (isAgg e).run P w = .ok false w) (xs ys : List Int) (hx : xs.length = n) (hy : ys.length = n) (w : World) :
    (Op.equalIn 10000 t (.agg (xs.map (Value.int k)).toArray) (.agg (ys.map (Value.int k)).toArray)).run P w = .ok (xs == ys) w := by
  obtain ⟨inf, hinf⟩ := info_of_underlying he
  have h := run_equalIn_array (P := P) w 9999 (t := t) (xs.map (Value.int k)).toArray (ys.map (Value.int k)).toArray ht hinf
  have h2 := run_eqItems_nums he hp ha 9998 xs ys (by omega) w n 0 (by omega)
  rw [← List.range_eq_range', List.drop_zero, List.drop_zero] at h2
  exact h.trans h2
theorem bs_int (l : List UInt8) : bs l = (l.map fun b => (b.toNat : Int)).map (Value.int .u8) := by rw [bs, List.map_map]; rfl
theorem run_equalIn_bytes {P : Program} {e : TypeId} {n : Nat} {t : TypeId} (ht : P.underlying t = some (.array n e)) (he : P.underlying e = some (.int .u8)) (hp : P.cellsOf e = 1) (ha : ∀ w, (isAgg e).run P w = .ok false w) (xs ys : List UInt8) (hx : xs.length = n) (hy : ys.length = n) (w : World) :
    (Op.equalIn 10000 t (.agg (bs xs).toArray) (.agg (bs ys).toArray)).run P w = .ok (xs == ys) w := by
  rw [bs_int, bs_int, run_equalIn_nums ht he hp ha _ _ (by simpa using hx) (by simpa using hy)]
  congr 1
  rw [Bool.eq_iff_iff, beq_iff_eq, beq_iff_eq]
  refine ⟨fun h => ?_, fun h => by rw [h]⟩
  exact List.map_inj_right (fun a b h => UInt8.toNat_inj.1 (by omega)) |>.1 h
theorem qs_build {P : Program} {ops : Array Oper} {C : World → Prop} {Q : Act → Prop} {o : Oper} {rest : List Oper} {a : Act} (v : Value) (hw : Region.wanted o (yielded ops a.tmps) = true) (t : TypeId) (parts : Array (Nat × Operand)) (ho : o.op = .build t parts) (ps : Array (Nat × Value)) (hp : (parts.map fun (i, x) => (i, a.eval x)) = ps)
    (h : ∀ w, (Instr.build t ps).run P w = .ok v w) (hk : wpQuiet P ops C Q rest (a.put o.dst v)) : wpQuiet P ops C Q (o :: rest) a := by
  refine qs_take v hw (fun w _ => ?_) hk
  unfold execOp
  simp only [ho, hp, Sem.run_bind, h, Result.andThen_ok, Sem.run_pure]
theorem qs_eql {P : Program} {ops : Array Oper} {C : World → Prop} {Q : Act → Prop} {o : Oper} {rest : List Oper} {a : Act} (r : Bool) (hw : Region.wanted o (yielded ops a.tmps) = true) (t rt : TypeId) (x y : Operand) (ho : o.op = .binOp .eql t x y rt) (xs ys : Array Value) (hx : a.eval x = .agg xs) (hy : a.eval y = .agg ys)
    (hg : P.eqGuardType P.depth t = false) (h : ∀ w, (Op.equalIn 10000 t (.agg xs) (.agg ys)).run P w = .ok r w) (hk : wpQuiet P ops C Q rest (a.put o.dst (.bool r))) : wpQuiet P ops C Q (o :: rest) a := by
  refine qs_take (.bool r) hw (fun w _ => ?_) hk
  unfold execOp
  simp only [ho, hx, hy, Sem.run_bind, run_eqGuard_agg w .eql t x y xs ys hg, run_eql_struct w t xs ys, h, Result.andThen_ok, Sem.run_pure]
end Go.Sac
