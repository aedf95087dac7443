/- How a law's arguments are opened where their bulk is bounded. -/
import Derived.Test.YtncagcbdgimpfaaDoorRows
import Derived.Test.YtncagcbdgimpfaaDoorRowBase
import Derived.JoinedCond
namespace Go.Proofs.YtncagcbdgimpfaaDoor
open Go.ChangeShapes Go.WideShapes Go.ChangeAt Go.RowKit Go.Deep Go.Sac
set_option linter.unusedVariables false
set_option linter.unusedSimpArgs false

theorem one_le {H : Type} (d : DataW H) : 1 ≤ Rows.uptoBulk d := by
  cases d with
  | lit l => cases l <;> simp [Rows.uptoBulk]
  | nil => simp [Rows.uptoBulk]
  | ptr d => simp [Rows.uptoBulk]
  | slice elems spare => simp [Rows.uptoBulk]
  | agg parts => simp [Rows.uptoBulk]
  | iface t d => simp [Rows.uptoBulk]
  | map entries => simp [Rows.uptoBulk]
  | held h => simp [Rows.uptoBulk]
theorem part_le {H : Type} {d : DataW H} {l : List (DataW H)} (h : d ∈ l) : Rows.uptoBulk d ≤ Rows.uptoBulkAll l := by
  induction l with
  | nil => cases h
  | cons x r ih =>
    simp only [Rows.uptoBulkAll]
    cases List.mem_cons.1 h with
    | inl e => subst e; omega
    | inr e => have := ih e; omega
theorem length_le {H : Type} (l : List (DataW H)) : l.length ≤ Rows.uptoBulkAll l := by
  induction l with
  | nil => simp [Rows.uptoBulkAll]
  | cons x r ih => have := one_le x; simp only [Rows.uptoBulkAll, List.length_cons]; omega
theorem bulk_of {H : Type} {l : List (DataW H)} (hk : Rows.uptoSmall H l = true) : Rows.uptoBulkAll l ≤ 1048576 := of_decide_eq_true hk
section
variable {H : Type} {enc : TypeId × Value → H} {P : Program} {w : World} {base : Nat} {held : Bool}
theorem up_nums {k : IntKind} {t e : TypeId} {fuel : Nat} {a : Option Addr} {len cap : Nat} {x : DataW H × List MemPlace} (ht : P.underlying t = some (.slice e)) (he : P.underlying e = some (.int k)) (hc : P.cellsOf e = 1)
    (h : DataW.trod enc P w base (fun _ => true) held fuel t [.slice a len cap] = some x) :
    ∃ zs : List Int, len = zs.length ∧ len ≤ cap ∧ len + 1 ≤ Rows.uptoBulk x.1 ∧ Rc w a (zs.map fun z => Value.int k z) ∧ ∀ n ∈ zs, (Lit.int k n).wf = true := by
  rcases open_ints ht he hc h with ⟨hcs, rfl⟩ | ⟨y, l, c, zs, hcs, _, hl, hm, hz, rfl, hcell, hwz⟩
  · simp at hcs
    obtain ⟨rfl, rfl, rfl⟩ := hcs
    exact ⟨[], rfl, Nat.le_refl _, by simp [Rows.uptoBulk], Rc.nil _ _, by simp⟩
  · simp at hcs
    obtain ⟨rfl, rfl, rfl⟩ := hcs
    simp only [if_true] at hz
    have hb := length_le (lits (H := H) k (zs.take len))
    have hlen : (lits (H := H) k (zs.take len)).length = len := by simp [lits]; omega
    refine ⟨zs.take len, by rw [List.length_take]; omega, hl, ?_, rc_nums (by omega) hcell, fun n hn => hwz n (List.mem_of_mem_take hn)⟩
    simp only [Rows.uptoBulk]
    omega
theorem up_bytes {t e : TypeId} {fuel : Nat} {a : Option Addr} {len cap : Nat} {x : DataW H × List MemPlace} (ht : P.underlying t = some (.slice e)) (he : P.underlying e = some (.int .u8)) (hc : P.cellsOf e = 1)
    (h : DataW.trod enc P w base (fun _ => true) held fuel t [.slice a len cap] = some x) :
    ∃ b : List UInt8, len = b.length ∧ len ≤ cap ∧ len + 1 ≤ Rows.uptoBulk x.1 ∧ Rc w a (bs b) := by
  obtain ⟨zs, h1, h2, h3, h4, h5⟩ := up_nums ht he hc h
  exact ⟨zs.map fun n => UInt8.ofNat n.toNat, by rw [List.length_map]; exact h1, h2, h3, by rw [← bs_of_nums zs h5]; exact h4⟩
theorem up_rows {t e q : TypeId} {fuel : Nat} {a : Option Addr} {len cap : Nat} {x : DataW H × List MemPlace} (ht : P.underlying t = some (.slice e)) (he : P.underlying e = some (.slice q)) (hq : P.underlying q = some (.int .u8)) (ce : P.cellsOf e = 1) (cq : P.cellsOf q = 1)
    (h : DataW.trod enc P w base (fun _ => true) held fuel t [.slice a len cap] = some x) :
    ∃ ls : List (List UInt8), len = ls.length ∧ len ≤ cap ∧ len + 1 ≤ Rows.uptoBulk x.1 ∧ ls.flatten.length + 1 ≤ Rows.uptoBulk x.1 ∧ Rcc w a ls := by
  rcases open_slice1 ht ce h with ⟨hcs, rfl⟩ | ⟨y, len', cap', m, n, V, D, Pl, hcs, _, hl, hm, hmm, rfl, hx⟩
  · simp at hcs
    obtain ⟨rfl, rfl, rfl⟩ := hcs
    exact ⟨[], rfl, Nat.le_refl _, by simp [Rows.uptoBulk], by simp [Rows.uptoBulk], ⟨[], Rc.nil _ _, rfl, by intro i l hl; simp at hl⟩⟩
  · simp at hcs
    obtain ⟨rfl, rfl, rfl⟩ := hcs
    simp only [if_true] at hmm
    have each : ∀ r, r < len → ∃ z : Option Addr × List UInt8 × Nat, V r = .slice z.1 z.2.1.length z.2.2 ∧ z.2.1.length ≤ z.2.2 ∧ z.2.1.length + 1 ≤ Rows.uptoBulk (D r) ∧ Rc w z.1 (bs z.2.1) := by
      intro r hr
      obtain ⟨hv, hd⟩ := hx r (by omega)
      have key : ∀ a' l' c', V r = .slice a' l' c' → ∃ z : Option Addr × List UInt8 × Nat, V r = .slice z.1 z.2.1.length z.2.2 ∧ z.2.1.length ≤ z.2.2 ∧ z.2.1.length + 1 ≤ Rows.uptoBulk (D r) ∧ Rc w z.1 (bs z.2.1) := by
        intro a' l' c' hV
        rw [hV] at hd
        obtain ⟨b, hb, h1, h2, h3⟩ := up_bytes he hq cq hd
        exact ⟨(a', b, c'), by rw [hV, hb], by rw [← hb]; exact h1, by rw [← hb]; exact h2, h3⟩
      rcases open_ints he hq cq hd with ⟨hcs, _⟩ | ⟨a', l', c', zs, hcs, _⟩
      · exact key none 0 0 (by simpa using hcs)
      · exact key (some a') l' c' (by simpa using hcs)
    obtain ⟨z, hz⟩ := choose_lt each
    have hbl := length_le ((List.range len).map D)
    rw [List.length_map, List.length_range] at hbl
    have hsum : ∀ k, k ≤ len → ((List.range k).map fun r => (z r).2.1).flatten.length ≤ Rows.uptoBulkAll ((List.range k).map D) := by
      have happ : ∀ l r : List (DataW H), Rows.uptoBulkAll (l ++ r) = Rows.uptoBulkAll l + Rows.uptoBulkAll r := by
        intro l r
        induction l with
        | nil => simp [Rows.uptoBulkAll]
        | cons x l ih => simp only [List.cons_append, Rows.uptoBulkAll, ih]; omega
      intro k
      induction k with
      | zero => simp
      | succ k ih =>
        intro hk
        have h1 := ih (by omega)
        have h2 := (hz k (by omega)).2.2.1
        rw [List.range_succ, List.map_append, List.map_append, List.flatten_append, List.length_append, happ]
        simp only [List.map_cons, List.map_nil, List.flatten_cons, List.flatten_nil, List.append_nil, Rows.uptoBulkAll]
        omega
    refine ⟨(List.range len).map fun r => (z r).2.1, by simp, hl, ?_, ?_, ⟨(List.range len).map V, ?_, by simp, ?_⟩⟩
    · simp only [Rows.uptoBulk]; omega
    · have := hsum len (Nat.le_refl _)
      simp only [Rows.uptoBulk]; omega
    · refine rc_of_cells fun i u hu => ?_
      have hi : i < len := by have := (List.getElem?_eq_some_iff.1 hu).1; simpa using this
      rw [List.getElem?_map, List.getElem?_range hi] at hu
      simp at hu
      subst hu
      exact (hx i (by omega)).1
    · intro i l hl'
      have hi : i < len := by have := (List.getElem?_eq_some_iff.1 hl').1; simpa using this
      rw [List.getElem?_map, List.getElem?_range hi] at hl'
      simp at hl'
      subst hl'
      obtain ⟨h1, h2, h3, h4⟩ := hz i hi
      exact ⟨(z i).1, (z i).2.2, by rw [List.getElem?_map, List.getElem?_range hi]; simp [h1], h2, h4⟩
end
end Go.Proofs.YtncagcbdgimpfaaDoor
