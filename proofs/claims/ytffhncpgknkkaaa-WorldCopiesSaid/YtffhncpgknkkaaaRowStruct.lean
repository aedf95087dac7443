/- Rows of structs, each of whose fields is one cell, that came in. No program in it. -/
import Derived.Deep.SlicePairs
import Derived.Lib.SmallJoins
import Derived.Test.YtffhncpgknkkaaaRowBase
namespace Go.Sac
open Go.ChangeShapes Go.WideShapes Go.ChangeAt Go.RowKit Go.Deep
set_option linter.unusedVariables false
set_option linter.unusedSimpArgs false
section
variable {H : Type} {enc : TypeId × Value → H} {P : Program} {w : World} {base : Nat} {held : Bool}
theorem open_structs {t e : TypeId} {fs : Array Field} {k B fuel : Nat} {a : Option Addr} {len cap : Nat} {x : DataW H × List MemPlace} (ht : P.underlying t = some (.slice e)) (he : P.underlying e = some (.struct fs)) (ce : P.cellsOf e = k) (hk : fs.size = k)
    (hof : ∀ (j : Nat) (f : Field), fs[j]? = some f → f.offset = j ∧ P.cellsOf f.type = 1) (hB : P.bytesOf e = B)
    (h : DataW.trod enc P w base (fun _ => true) held fuel t [.slice a len cap] = some x) (hw : ∀ m ∈ x.1.weights P t, m ≤ reachBytes) :
    len ≤ cap ∧ cap * B ≤ 140737488351232 ∧ ∃ V : Nat → Nat → Value, (∀ i j, i < len → j < k → ∃ b off, a = some ⟨b, off, none⟩ ∧ w.cell? ⟨b, off + (i * k + j), none⟩ = some (V i j)) ∧
      ∀ (i j : Nat) (f : Field), i < len → fs[j]? = some f → ∃ n y, DataW.trod enc P w base (fun _ => true) held n f.type [V i j] = some y ∧ ∀ m ∈ y.1.weights P f.type, m ≤ reachBytes := by
  rcases open_slice ht h with ⟨hcs, _⟩ | ⟨a', len', cap', m, n, D, Pl, hcs, _, hl, hm, hmm, rfl, hx⟩
  · simp at hcs
    obtain ⟨rfl, rfl, rfl⟩ := hcs
    exact ⟨Nat.le_refl _, by omega, fun _ _ => undef, fun i j hi _ => by omega, fun i j f hi _ => by omega⟩
  · simp at hcs
    obtain ⟨rfl, rfl, rfl⟩ := hcs
    simp only [if_true] at hmm
    have hcap : cap * B ≤ 140737488351232 := by
      have := hw ((((List.range len).map D).length + ((List.range (m - len)).map fun j => D (len + j)).length) * B) (by simp only [DataW.weights, ht, hB]; exact List.mem_cons_self ..)
      simp only [List.length_map, List.length_range] at this
      have h2 : reachBytes = 140737488351232 := rfl
      rw [show len + (m - len) = cap by omega] at this
      omega
    have hwd : ∀ r, r < len → ∀ q ∈ (D r).weights P e, q ≤ reachBytes := fun r hr q hq => hw q (by
      rw [DataW.weights, ht]
      refine List.mem_cons_of_mem _ (List.mem_append_left _ (weights_all (d := D r) ?_ q hq))
      exact List.mem_map.2 ⟨r, List.mem_range.2 hr, rfl⟩)
    have each : ∀ i, i < len → ∃ cs' : List Value, cs'.length = k ∧ (∀ j v, cs'[j]? = some v → w.cell? ((a'.add (i * k)).add j) = some v) ∧
        ∀ (j : Nat) (f : Field), fs[j]? = some f → ∃ n y, DataW.trod enc P w base (fun _ => true) held n f.type [cs'.getD j undef] = some y ∧ ∀ m ∈ y.1.weights P f.type, m ≤ reachBytes := by
      intro i hi
      obtain ⟨cs', h1, h2⟩ := hx i (by omega)
      rw [ce] at h1
      obtain ⟨_, hlen, hcell⟩ := World.cells?_some h1
      obtain ⟨xs, n', hn', hxy, _, hxl, hf⟩ := DataW.trod_struct he h2
      refine ⟨cs', hlen, fun j v hj => ?_, fun j f hj => ?_⟩
      · have hjl := (List.getElem?_eq_some_iff.1 hj).1
        have := hcell j (by omega)
        rw [this]; exact hj
      · have hg := hf j f hj
        obtain ⟨o, c⟩ := hof j f hj
        have hjk : j < k := by rw [← hk]; exact (Array.getElem?_eq_some_iff.1 hj).1
        rw [o, c] at hg
        have hd : (cs'.drop j).take 1 = [cs'.getD j undef] := by
          rw [List.drop_eq_getElem_cons (by omega), List.take_succ_cons, List.take_zero, List.getD_eq_getElem?_getD, List.getElem?_eq_getElem (by omega)]
          rfl
        rw [hd] at hg
        have hxj : xs[j]? = some xs[j] := List.getElem?_eq_getElem (by omega)
        rw [hxj] at hg
        refine ⟨n', xs[j], hg, fun q hq => hwd i hi q ?_⟩
        have hD : D i = .agg (xs.map (·.1)) := congrArg Prod.fst hxy
        rw [hD, DataW.weights, he]
        refine DataW.weights_mem_each (j := j) (t := f.type) (d := xs[j].1) ?_ ?_ q hq
        · simpa using ⟨f, by simpa using hj, rfl⟩
        · rw [List.getElem?_map, hxj]; rfl
    obtain ⟨C, hC⟩ := choose_lt each
    refine ⟨hl, hcap, fun i j => (C i).getD j undef, fun i j hi hj => ?_, fun i j f hi hf => (hC i hi).2.2 j f hf⟩
    obtain ⟨h1, h2, _⟩ := hC i hi
    have h3 := h2 j ((C i).getD j undef) (by rw [List.getD_eq_getElem?_getD, List.getElem?_eq_getElem (by omega)]; rfl)
    obtain ⟨q1, q2, _⟩ := hC 0 (by omega)
    have h0 := q2 0 ((C 0).getD 0 undef) (by rw [List.getD_eq_getElem?_getD, List.getElem?_eq_getElem (by omega)]; rfl)
    have e0 : a'.add 0 = a' := by simp [Addr.add]
    rw [Nat.zero_mul, e0, e0] at h0
    have ha := addr_of_cell h0
    refine ⟨a'.block, a'.off, by rw [← ha], ?_⟩
    rw [ha, addr_add, addr_add] at h3
    rw [← Nat.add_assoc]
    exact h3
end
end Go.Sac
