/- BASE12: structs at a place within a row, loaded and compared. No program in it. -/
import Derived.Laws.StructEq
import Derived.Deep.MidRow
import Derived.Test.YtffhncpgknkkaaaBase11
namespace Go.Sac
open Go.RowKit
set_option linter.unusedVariables false
set_option linter.unusedSimpArgs false

section
variable {P : Program} {o : Oper} {a : Act} {w : World} {K : Act → World → Prop} {Q : Exit → Act → World → Prop} {ops : Array Oper} {rest : List Oper}
theorem wp_ldmid (ty : TypeId) (x : Operand) (ho : o.op = .load ty x) (g off : Nat) (hx : a.eval x = .pointer (some ⟨g, off, none⟩)) (cs : List Value) (d : TypeDesc) (hr : w.rangeAt g off cs)
    (hu : P.underlying ty = some d) (hd : d.isRow = true) (hi : (P.info? ty).map (·.size) = some cs.length) (h : K (a.put o.dst (.agg cs.toArray)) w) : o.wp P a w K Q := by
  have := run_loadAt_mid (P := P) w g off ty cs d hr hu hd hi
  unfold Oper.wp execOp
  simp only [ho, hx]
  rw [Sem.run_bind, this]
  exact h
theorem wpList_ldmid (hw : Region.wanted o (yielded ops a.tmps) = true) (ty : TypeId) (x : Operand) (ho : o.op = .load ty x) (g off : Nat) (hx : a.eval x = .pointer (some ⟨g, off, none⟩)) (cs : List Value) (d : TypeDesc) (hr : w.rangeAt g off cs)
    (hu : P.underlying ty = some d) (hd : d.isRow = true) (hi : (P.info? ty).map (·.size) = some cs.length) (h : wpList P ops Q rest (a.put o.dst (.agg cs.toArray)) w) : wpList P ops Q (o :: rest) a w := by
  unfold wpList
  rw [if_pos hw]
  exact .inl (wp_ldmid ty x ho g off hx cs d hr hu hd hi h)
end
/-- rows of elements of k cells each -/
def rowK {α : Type} (enc : α → List Value) (l : List α) : List Value := (l.map enc).flatten
section
variable {α : Type} {enc : α → List Value} {k : Nat}
theorem rowK_len (hk : ∀ x, (enc x).length = k) (l : List α) : (rowK enc l).length = l.length * k := by
  unfold rowK
  induction l with
  | nil => simp
  | cons x r ih => rw [List.map_cons, List.flatten_cons, List.length_append, ih, hk, List.length_cons, Nat.succ_mul]; omega
theorem rowK_app (l m : List α) : rowK enc (l ++ m) = rowK enc l ++ rowK enc m := by unfold rowK; rw [List.map_append, List.flatten_append]
theorem rowK_single (x : α) : rowK enc [x] = enc x := by simp [rowK]
theorem rowK_one (h1 : ∀ x, ∀ u ∈ enc x, u.oneCell' = true) (l : List α) : ∀ u ∈ rowK enc l, u.oneCell' = true := by
  intro u hu
  unfold rowK at hu
  obtain ⟨x, hx, hu⟩ := List.mem_flatten.1 hu
  obtain ⟨s, _, rfl⟩ := List.mem_map.1 hx
  exact h1 s u hu
theorem rowK_at (hk : ∀ x, (enc x).length = k) (l : List α) (i : Nat) (h : i < l.length) (j : Nat) (hj : j < k) : (rowK enc l)[i * k + j]? = (enc l[i])[j]? := by
  have e : l = l.take i ++ ([l[i]] ++ l.drop (i + 1)) := by
    rw [List.singleton_append, ← List.drop_eq_getElem_cons h, List.take_append_drop]
  have hl : (rowK enc (l.take i)).length = i * k := by rw [rowK_len hk, List.length_take, Nat.min_eq_left (by omega)]
  have e2 : rowK enc l = rowK enc (l.take i) ++ (enc l[i] ++ rowK enc (l.drop (i + 1))) := by
    conv => lhs; rw [e]
    rw [rowK_app, rowK_app, rowK_single]
  rw [e2, List.getElem?_append_right (by omega), hl, show i * k + j - i * k = j by omega, List.getElem?_append_left (by rw [hk]; exact hj)]
theorem rcK_form (hk : ∀ x, (enc x).length = k) (hk0 : 0 < k) {w : World} {A : Option Addr} {l : List α} (h : Rc w A (rowK enc l)) (h0 : 0 < l.length) :
    ∃ b off, A = some ⟨b, off, none⟩ ∧ b < w.heap.size ∧ ∀ i, (hi : i < l.length) → ∀ W, Below w.heap.size w W → W.rangeAt b (off + i * k) (enc l[i]) := by
  obtain ⟨b, off, hA, hb, hc⟩ := h.form (by rw [rowK_len hk]; exact Nat.mul_pos h0 hk0)
  refine ⟨b, off, hA, hb, fun i hi W hW j v hj => ?_⟩
  have hjk : j < k := by rw [← hk l[i]]; exact (List.getElem?_eq_some_iff.1 hj).1
  have := hc (i * k + j) v (by rw [rowK_at hk l i hi j hjk]; exact hj)
  rw [← Nat.add_assoc] at this
  exact (hW.cell (p := ⟨b, off + i * k + j, none⟩) hb).trans this
end
end Go.Sac
