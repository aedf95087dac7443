/- Entries that came in: a row of them, one by value. -/
import Derived.Deep.SlicePairs
import Derived.Lib.SmallJoins
import Derived.Test.YtiloeaenpanjcaaRowBase
import Derived.Test.YtiloeaenpanjcaaE14Sorted
namespace Go.Proofs.Ytiloeaenpanjcaa
open Go.ChangeShapes Go.WideShapes Go.ChangeAt Go.RowKit Go.Deep Go.Sac
set_option linter.unusedVariables false
set_option linter.unusedSimpArgs false

def fldName : Field := { name := "Name", type := 9, offset := 0, embedded := false, tag := "", pkgPath := "", byteOffset := 0 }
def fldNode : Field := { name := "Node", type := 3, offset := 1, embedded := false, tag := "", pkgPath := "", byteOffset := 16 }
theorem ent_struct : Try.prog.underlying 31 = some (.struct #[fldName, fldNode]) := Try.underlying31
section
variable {H : Type} {enc : TypeId × Value → H} {w : World} {base : Nat} {held : Bool}
theorem open_ents {fuel : Nat} {a : Option Addr} {len cap : Nat} {x : DataW H × List MemPlace}
    (h : DataW.trod enc Try.prog w base (fun _ => true) held fuel 25 [.slice a len cap] = some x) (hw : ∀ m ∈ x.1.weights Try.prog 25, m ≤ reachBytes) :
    ∃ l : List Ent, len = l.length ∧ len ≤ cap ∧ cap * 24 ≤ 140737488351232 ∧ Rc w a (ens l) ∧ ∀ y ∈ l, y.1.size ≤ 140737488351232 := by
  have ht : Try.prog.underlying 25 = some (.slice 31) := Try.underlying25
  have hB : Try.prog.bytesOf 31 = 24 := by kernel_rfl
  rcases open_slice_pairs ht ent_struct (by kernel_rfl) rfl rfl (by kernel_rfl) (by kernel_rfl) h with ⟨hcs, _⟩ | ⟨y, len', cap', m, n, V0, V1, D0, D1, P0, P1, hcs, _, hl, hm, hmm, rfl, hx⟩
  · simp at hcs
    obtain ⟨rfl, rfl, rfl⟩ := hcs
    exact ⟨[], rfl, Nat.le_refl _, by omega, Rc.nil _ _, by simp⟩
  · simp at hcs
    obtain ⟨rfl, rfl, rfl⟩ := hcs
    simp only [if_true] at hmm
    have hcap : cap * 24 ≤ 140737488351232 := by
      have := hw ((((List.range len).map fun i => DataW.agg [D0 i, D1 i]).length + ((List.range (m - len)).map fun j => DataW.agg [D0 (len + j), D1 (len + j)]).length) * 24) (by simp only [DataW.weights, ht, hB]; exact List.mem_cons_self ..)
      simp only [List.length_map, List.length_range] at this
      have h2 : reachBytes = 140737488351232 := rfl
      omega
    have hwd : ∀ r, r < len → ∀ k ∈ (DataW.agg [D0 r, D1 r]).weights Try.prog 31, k ≤ reachBytes := fun r hr k hk => hw k (by
      rw [DataW.weights, ht]
      refine List.mem_cons_of_mem _ (List.mem_append_left _ (weights_all (d := DataW.agg [D0 r, D1 r]) ?_ k hk))
      exact List.mem_map.2 ⟨r, List.mem_range.2 hr, rfl⟩)
    have each : ∀ r, r < len → ∃ z : Ent, V0 r = .string z.1 ∧ V1 r = .int .i64 z.2 ∧ z.1.size ≤ 140737488351232 := by
      intro r hr
      obtain ⟨_, _, h0, h1⟩ := hx r (by omega)
      obtain ⟨s, e0, q0, _⟩ := DataW.trod_string Try.underlying9 h0
      obtain ⟨z, e1, q1, _⟩ := DataW.trod_int Try.underlying3 h1
      simp only [List.cons.injEq, and_true] at e0 e1
      refine ⟨(s, z), e0, e1, ?_⟩
      have hd : D0 r = .lit (.string s.data.toList) := congrArg Prod.fst q0
      have := hwd r hr s.data.toList.length (by
        rw [DataW.weights, ent_struct]
        show _ ∈ DataW.weightsEach Try.prog [fldName.type, fldNode.type] [D0 r, D1 r]
        rw [DataW.weightsEach, hd, DataW.weights]
        simp)
      simpa [reachBytes] using this
    obtain ⟨z, hz⟩ := choose_lt each
    refine ⟨(List.range len).map z, by simp, hl, hcap, ?_, ?_⟩
    · refine rc_of_cells fun i u hu => ?_
      have hil : i < len * 2 := by have := (List.getElem?_eq_some_iff.1 hu).1; unfold ens at this; rw [rowK_len ecs_len] at this; simpa using this
      have hq : i / 2 < len := by omega
      obtain ⟨c0, c1, _, _⟩ := hx (i / 2) (by omega)
      obtain ⟨z0, z1, _⟩ := hz (i / 2) hq
      have hlm : i / 2 < ((List.range len).map z).length := by simpa using hq
      have e := rowK_at (enc := ecs) ecs_len ((List.range len).map z) (i / 2) hlm (i % 2) (Nat.mod_lt _ (by decide))
      rw [show i / 2 * 2 + i % 2 = i by omega] at e
      unfold ens at hu
      rw [e] at hu
      have hg : ((List.range len).map z)[i / 2] = z (i / 2) := by simp
      rw [hg] at hu
      rcases (show i % 2 = 0 ∨ i % 2 = 1 by omega) with h2 | h2
      · rw [h2] at hu
        have : u = .string (z (i / 2)).1 := (Option.some.inj hu).symm
        rw [this, ← z0, ← c0, show i / 2 * 2 = i by omega]
      · rw [h2] at hu
        have : u = .int .i64 (z (i / 2)).2 := (Option.some.inj hu).symm
        rw [this, ← z1, ← c1, show i / 2 * 2 + 1 = i by omega]
    · intro y hy
      simp only [List.mem_map, List.mem_range] at hy
      obtain ⟨i, hi, rfl⟩ := hy
      exact (hz i hi).2.2
theorem open_ent {r : Reach} {b0 : Nat} {spare : Nat → Bool} {v : Value} {d : DataW H} {p : List MemPlace} (hv : Value.okWide Try.prog w r b0 31 v) (h : DataW.Trod enc Try.prog w base spare held 31 v d p) :
    ∃ x : Ent, v = ev x ∧ ((∀ m ∈ d.weights Try.prog 31, m ≤ reachBytes) → x.1.size ≤ 140737488351232) := by
  obtain ⟨v0, v1, y0, y1, n, rfl, rfl, _, k0, k1⟩ := Joins.open_agg2 ent_struct (by kernel_rfl) (by kernel_rfl) hv h
  obtain ⟨s, e0, q0, _⟩ := DataW.trod_string Try.underlying9 k0
  obtain ⟨z, e1, q1, _⟩ := DataW.trod_int Try.underlying3 k1
  simp only [List.cons.injEq, and_true] at e0 e1
  subst e0; subst e1
  refine ⟨(s, z), rfl, fun hw => ?_⟩
  have hd : y0.1 = .lit (.string s.data.toList) := congrArg Prod.fst q0
  have := hw s.data.toList.length (by
    rw [DataW.weights, ent_struct]
    show _ ∈ DataW.weightsEach Try.prog [fldName.type, fldNode.type] [y0.1, y1.1]
    rw [DataW.weightsEach, hd, DataW.weights]
    simp)
  simpa [reachBytes] using this
end
end Go.Proofs.Ytiloeaenpanjcaa
