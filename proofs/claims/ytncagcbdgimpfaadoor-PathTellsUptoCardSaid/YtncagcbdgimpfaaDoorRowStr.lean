/- Rows of texts, and paths, that came in: opened where their bulk is bounded. -/
import Derived.Test.YtncagcbdgimpfaaDoorRowUp
import Derived.Test.YtncagcbdgimpfaaDoorT15Box
import Derived.Lib.SmallJoins
namespace Go.Proofs.YtncagcbdgimpfaaDoor
open Go.ChangeShapes Go.WideShapes Go.ChangeAt Go.RowKit Go.Deep Go.Sac
set_option linter.unusedVariables false
set_option linter.unusedSimpArgs false

/-- the texts' bytes, and one more for each -/
def totS (xs : List ByteArray) : Nat := (xs.map fun x => x.size + 1).sum
section
variable {H : Type} {enc : TypeId × Value → H} {P : Program} {w : World} {base : Nat} {held : Bool}
theorem bulk_str (s : ByteArray) : Rows.uptoBulk (DataW.lit (H := H) (.string s.data.toList)) = s.size + 1 := by
  simp [Rows.uptoBulk]
theorem bulk_strs (xs : List ByteArray) : Rows.uptoBulkAll (xs.map fun x => DataW.lit (H := H) (.string x.data.toList)) = totS xs := by
  induction xs with
  | nil => rfl
  | cons x r ih => rw [List.map_cons, Rows.uptoBulkAll, bulk_str, ih]; simp [totS]
theorem up_strs {t e : TypeId} {fuel : Nat} {a : Option Addr} {len cap : Nat} {x : DataW H × List MemPlace} (ht : P.underlying t = some (.slice e)) (he : P.underlying e = some .string) (ce : P.cellsOf e = 1)
    (h : DataW.trod enc P w base (fun _ => true) held fuel t [.slice a len cap] = some x) :
    ∃ xs : List ByteArray, len = xs.length ∧ len ≤ cap ∧ totS xs + 1 ≤ Rows.uptoBulk x.1 ∧ Rc w a (svs xs) := by
  rcases open_slice1 ht ce h with ⟨hcs, rfl⟩ | ⟨y, len', cap', m, n, V, D, Pl, hcs, _, hl, hm, hmm, rfl, hx⟩
  · simp at hcs
    obtain ⟨rfl, rfl, rfl⟩ := hcs
    exact ⟨[], rfl, Nat.le_refl _, by simp [Rows.uptoBulk, totS], Rc.nil _ _⟩
  · simp at hcs
    obtain ⟨rfl, rfl, rfl⟩ := hcs
    simp only [if_true] at hmm
    have each : ∀ r, r < len → ∃ s : ByteArray, V r = .string s ∧ D r = .lit (.string s.data.toList) := by
      intro r hr
      obtain ⟨hv, hd⟩ := hx r (by omega)
      obtain ⟨s, h1, h2, _⟩ := DataW.trod_string he hd
      simp only [List.cons.injEq, and_true] at h1
      exact ⟨s, h1, by injection h2⟩
    obtain ⟨z, hz⟩ := choose_lt each
    refine ⟨(List.range len).map z, by simp, hl, ?_, ?_⟩
    · have e : (List.range len).map D = ((List.range len).map z).map fun x => DataW.lit (H := H) (.string x.data.toList) := by
        rw [List.map_map]
        apply List.map_congr_left
        intro i hi
        exact (hz i (List.mem_range.1 hi)).2
      simp only [Rows.uptoBulk]
      rw [e, bulk_strs]
      omega
    · refine rc_of_cells fun i u hu => ?_
      have hi : i < len := by have := (List.getElem?_eq_some_iff.1 hu).1; simpa [svs] using this
      unfold svs at hu
      rw [List.getElem?_map, List.getElem?_map, List.getElem?_range hi] at hu
      simp at hu
      subst hu
      rw [(hx i (by omega)).1, (hz i hi).1]
/-- a struct of a bool and texts, by value -/
theorem up_path {t e : TypeId} {r : Reach} {b0 : Nat} {f0 f1 : Field} {v : Value} {d : DataW H} {p : List MemPlace} (hs : P.underlying t = some (.struct #[f0, f1])) (hone : oneCellFields P #[f0, f1] = true) (hC : P.cellsOf t = 2) (h0 : P.underlying f0.type = some .bool) (h1 : P.underlying f1.type = some (.slice e)) (he : P.underlying e = some .string) (ce : P.cellsOf e = 1)
    (hv : Value.okWide P w r b0 t v) (h : DataW.Trod enc P w base (fun _ => true) held t v d p) :
    ∃ (b : Bool) (A : Option Addr) (c : Nat) (xs : List ByteArray), v = .agg #[.bool b, .slice A xs.length c] ∧ xs.length ≤ c ∧ totS xs + 1 ≤ Rows.uptoBulk d ∧ Rc w A (svs xs) := by
  obtain ⟨v0, v1, y0, y1, n, rfl, rfl, rfl, k0, k1⟩ := Joins.open_agg2 hs hone hC hv h
  obtain ⟨b, e0, _⟩ := DataW.trod_bool h0 k0
  simp only [List.cons.injEq, and_true] at e0
  subst e0
  have key : ∃ a len cap, v1 = .slice a len cap := by
    rcases open_slice1 h1 ce k1 with ⟨hcs, _⟩ | ⟨y, len', cap', _, _, _, _, _, hcs, _⟩
    · exact ⟨none, 0, 0, by simpa using hcs⟩
    · exact ⟨some y, len', cap', by simpa using hcs⟩
  obtain ⟨a, len, cap, rfl⟩ := key
  obtain ⟨xs, g1, g2, g3, g4⟩ := up_strs h1 he ce k1
  subst g1
  refine ⟨b, a, cap, xs, rfl, g2, ?_, g4⟩
  simp only [Rows.uptoBulk, Rows.uptoBulkAll]
  omega
end
end Go.Proofs.YtncagcbdgimpfaaDoor
