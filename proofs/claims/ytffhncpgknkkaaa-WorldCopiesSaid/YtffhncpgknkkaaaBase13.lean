/- BASE13: rows with elements of several cells: blocks spliced, cut, copied, cleared. No program in it. -/
import Derived.Laws.IdiomCopy
import Derived.Laws.CopyOwn
import Derived.Deep.RegionLaw
import Derived.Lib.AppendZerosOnto
import Derived.Lib.SliceRun
import Derived.Lib.Overlaps
import Derived.Test.YtffhncpgknkkaaaBase12
namespace Go.Sac
open Go.RowKit
set_option linter.unusedVariables false
set_option linter.unusedSimpArgs false

theorem splice_cons (cs : List Value) (o : Nat) (v : Value) (r : List Value) (h : o < cs.length) : splice (cs.set o v) (o + 1) r = splice cs o (v :: r) := by
  unfold splice
  have e1 : (cs.set o v).take (o + 1) = cs.take o ++ [v] := by
    rw [List.take_succ_eq_append_getElem (by simpa using h), List.getElem_set_self, List.take_set_of_le (Nat.le_refl _)]
  have e2 : (cs.set o v).drop (o + 1 + r.length) = cs.drop (o + (v :: r).length) := by
    rw [List.drop_set_of_lt (by omega)]
    congr 1
    simp; omega
  rw [e1, e2]
  simp
theorem Blk.setCells {g : Nat} {E : TypeId} : ∀ (vs : List Value) (o : Nat) (w : World) (cs : List Value), Blk w g E cs → o + vs.length ≤ cs.length → Blk (w.setCells g o vs) g E (splice cs o vs)
  | [], o, w, cs, h, _ => by simpa [splice, World.setCells] using h
  | v :: r, o, w, cs, h, hl => by
    simp only [List.length_cons] at hl
    rw [World.setCells, ← splice_cons cs o v r (by omega)]
    exact Blk.setCells r (o + 1) _ _ (h.set o v) (by simp; omega)
theorem below_setCells {B g : Nat} {w0 : World} (hg : B ≤ g) : ∀ (vs : List Value) (o : Nat) (w : World), Below B w0 w → Below B w0 (w.setCells g o vs)
  | [], o, w, h => h
  | v :: r, o, w, h => below_setCells hg r (o + 1) _ (h.setCell (p := ⟨g, o, none⟩) hg v)
theorem Blk.farCells {g k : Nat} {E : TypeId} (hne : k ≠ g) : ∀ (vs : List Value) (o : Nat) (w : World) (cs : List Value), Blk w k E cs → Blk (w.setCells g o vs) k E cs
  | [], o, w, cs, h => h
  | v :: r, o, w, cs, h => Blk.farCells hne r (o + 1) _ cs (h.far (p := ⟨g, o, none⟩) hne v)
/-- a row's own block, whole -/
theorem own_blk {w : World} {base n g cap : Nat} {e : TypeId} {size : Nat} {xs : List Value} (h : w.ownsRow base e size (.slice (some ⟨g, 0, none⟩) n cap) n xs) :
    ∃ cur : List Value, Blk w g e cur ∧ base ≤ g ∧ n ≤ cap ∧ cap ≤ 9223372036854775807 ∧ cur.length = cap * size ∧ cur.take (n * size) = xs := by
  rcases h.2 with ⟨h1, _⟩ | ⟨g', cap', cur, h1, h2, h3, h4, h5, h6, h7⟩
  · cases h1
  · injection h1 with h1 _ h8
    injection h1 with h1
    injection h1 with h1
    subst h1; subst h8
    exact ⟨cur.toList, h3, h2, h4, by simpa [maxLen] using h5, by simpa using h6, h7⟩
theorem blk_own {w : World} {base n g cap : Nat} {e : TypeId} {size : Nat} {cur xs : List Value} (h : Blk w g e cur) (hb : base ≤ g) (hn : n ≤ cap) (hc : cap ≤ 9223372036854775807) (hl : cur.length = cap * size) (hx : cur.take (n * size) = xs) :
    w.ownsRow base e size (.slice (some ⟨g, 0, none⟩) n cap) n xs := by
  refine ⟨?_, .inr ⟨g, cap, cur.toArray, rfl, hb, h, hn, by simpa [maxLen] using hc, by simpa using hl, hx⟩⟩
  rw [← hx, List.length_take, hl]
  exact Nat.min_eq_left (Nat.mul_le_mul_right _ hn)
theorem rc_add {A : Option Addr} {w : World} {cs : List Value} {a : Addr} (h : Rc w A cs) (hA : A = some a) : ∀ j v, cs[j]? = some v → w.cell? (a.add j) = some v := by
  intro j v hj
  obtain ⟨b, off, e, hc⟩ := h j v hj
  rw [hA] at e
  injection e with e
  subst e
  rw [addr_add]; exact hc
section
variable {P : Program}
theorem run_copy_k (w : World) (dT sT ty elem : TypeId) (b o dLen dCap : Nat) (a : Addr) (sLen sCap k m : Nat) (cs : List Value)
    (hu : P.underlying dT = some (.slice elem)) (hs : (P.info? elem).map (·.size) = some k) (hm : Nat.min sLen dLen = m) (hn : cs.length = m * k)
    (hsrc : ∀ j v, cs[j]? = some v → w.cell? (a.add j) = some v) (hc : ∀ j, j < cs.length → (w.cell? ⟨b, o + j, none⟩).isSome = true) (hf : ∀ j, j < cs.length → w.frozen? ⟨b, o + j, none⟩ = false) (h1 : ∀ v ∈ cs, v.oneCell' = true) :
    (Builtin.copy_ #[dT, sT] ty #[.slice (some ⟨b, o, none⟩) dLen dCap, .slice (some a) sLen sCap]).run P w = .ok (goInt m) (w.setCells b o cs) := by
  have hl := run_loadCells_list (P := P) w a cs hsrc
  have hst := run_storeCells_cells (P := P) b o cs 0 w (by simpa using hc) (by simpa using hf) h1
  subst hm
  cases hq : P.info? elem with
  | none => simp [hq] at hs
  | some i =>
    have hi : i.size = k := by simpa [hq] using hs
    rw [hn] at hl
    simp [Builtin.copy_, run_underlying hu, Builtin.lenOf, Builtin.firstCells, sizeOf, typeInfo, hq, hi, hl, hst]
theorem run_clear_k (w : World) (t e ty : TypeId) (z : Value) (ht : P.underlying t = some (.slice e)) (hv : ∀ w, (zeroValue e).run P w = .ok z w) (b o n c : Nat) (hn : 0 < n) (zs : List Value) (hz : (Builtin.zeroCells z.cells n).toList = zs) (h1 : ∀ v ∈ zs, v.oneCell' = true)
    (hc : ∀ j, j < zs.length → (w.cell? ⟨b, o + j, none⟩).isSome = true) (hf : ∀ j, j < zs.length → w.frozen? ⟨b, o + j, none⟩ = false) :
    (Builtin.clear_ #[t] ty #[.slice (some ⟨b, o, none⟩) n c]).run P w = .ok (.tuple #[]) (w.setCells b o zs) := by
  have hst := run_storeCells_cells (P := P) b o zs 0 w (by simpa using hc) (by simpa using hf) h1
  simp only [Nat.add_zero] at hst
  obtain ⟨m, rfl⟩ : ∃ m, n = m + 1 := ⟨n - 1, by omega⟩
  simp [Builtin.clear_, run_underlying ht, hv, hz, hst]
theorem wpList_copy_by (w : World) {ops : Array Oper} {rest : List Oper} {o : Oper} {a : Act} {Q : Exit → Act → World → Prop} (hgd : o.guard = none) (d s : Operand) (t t' : TypeId)
    (ho : o.op = .call { callee := .builtin .copy, args := #[d, s], argTypes := #[t, t'] }) (v u : Value) (hd : a.eval d = v) (hs : a.eval s = u) {v' : Value} {w' : World}
    (hr : (Builtin.copy_ #[t, t'] o.type #[v, u]).run P w = .ok v' w') (h : wpList P ops Q rest (a.put o.dst v') w') : wpList P ops Q (o :: rest) a w :=
  wpList_plain hgd fun K hK => by
    unfold Oper.wp execOp
    simp only [ho, resolve, invoke, builtin, Sem.run_bind, Sem.run_pure, Result.andThen_ok, List.map_toArray, List.map_cons, List.map_nil, hd, hs, hr]
    exact hK _ _ h
theorem step_copy_by {ops : Array Oper} {o : Oper} {a : Act} {w : World} {K : Act → World → Prop} {Q : Exit → Act → World → Prop} {E : Prop}
    (hg : o.guard = none) (d x : Operand) (dT sT : TypeId) (hop : o.op = Op.call { callee := Callee.builtin Builtin.copy, args := #[d, x], argTypes := #[dT, sT] })
    (v u : Value) (hd : a.eval d = v) (hx : a.eval x = u) {v' : Value} {w' : World} (hr : (Builtin.copy_ #[dT, sT] o.type #[v, u]).run P w = .ok v' w') (hK : K (a.put o.dst v') w') :
    if Region.wanted o (yielded ops a.tmps) = true then Oper.wp P o a w K Q else E := by
  have hw : Region.wanted o (yielded ops a.tmps) = true := by simp [Region.wanted, hg]
  rw [if_pos hw]
  unfold Oper.wp
  simp [execOp, hop, resolve, invoke, builtin, hd, hx, hr, Result.andThen]
  exact hK
end
end Go.Sac
