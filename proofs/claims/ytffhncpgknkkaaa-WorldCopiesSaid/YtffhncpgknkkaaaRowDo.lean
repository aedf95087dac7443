/- Do that came in. -/
import Derived.Test.YtffhncpgknkkaaaRowStruct
import Derived.Test.YtffhncpgknkkaaaW06Do
namespace Go.Proofs.Ytffhncpgknkkaaa
open Go.ChangeShapes Go.WideShapes Go.ChangeAt Go.RowKit Go.Deep Go.Sac
set_option linter.unusedVariables false
set_option linter.unusedSimpArgs false
def fldKind : Field := { name := "Kind", type := 3, offset := 0, embedded := false, tag := "", pkgPath := "", byteOffset := 0 }
def fldAt : Field := { name := "At", type := 3, offset := 1, embedded := false, tag := "", pkgPath := "", byteOffset := 8 }
def fldSlot : Field := { name := "Slot", type := 3, offset := 2, embedded := false, tag := "", pkgPath := "", byteOffset := 16 }
def fldN : Field := { name := "N", type := 3, offset := 3, embedded := false, tag := "", pkgPath := "", byteOffset := 24 }
def fldB : Field := { name := "B", type := 22, offset := 4, embedded := false, tag := "", pkgPath := "", byteOffset := 32 }
theorem str_dos : Try.prog.underlying 44 = some (.struct #[fldKind, fldAt, fldSlot, fldN, fldB]) := Try.underlying44
instance : Inhabited Dd := ⟨⟨0, 0, 0, 0, none, [], 0⟩⟩
section
variable {H : Type} {enc : TypeId × Value → H} {w : World} {base : Nat} {held : Bool}
theorem open_dos {fuel : Nat} {a : Option Addr} {len cap : Nat} {x : DataW H × List MemPlace}
    (h : DataW.trod enc Try.prog w base (fun _ => true) held fuel 40 [.slice a len cap] = some x) (hw : ∀ m ∈ x.1.weights Try.prog 40, m ≤ reachBytes) :
    ∃ l : List Dd, len = l.length ∧ len ≤ cap ∧ cap * 56 ≤ 140737488351232 ∧ Rc w a (dds l) ∧ (HeldD w l ∧ ∀ y ∈ l, y.b.length ≤ 140737488355328) := by
  obtain ⟨h1, h2, V, h3, h4⟩ := open_structs (k := 5) (B := 56) Try.underlying40 str_dos (by kernel_rfl) rfl
    (by intro j f hf; match j, hf with
        | 0, hf => cases hf; exact ⟨rfl, by kernel_rfl⟩
        | 1, hf => cases hf; exact ⟨rfl, by kernel_rfl⟩
        | 2, hf => cases hf; exact ⟨rfl, by kernel_rfl⟩
        | 3, hf => cases hf; exact ⟨rfl, by kernel_rfl⟩
        | 4, hf => cases hf; exact ⟨rfl, by kernel_rfl⟩
        | j + 5, hf => simp at hf) (by kernel_rfl) h hw
  have each : ∀ i, i < len → ∃ z : Dd, V i 0 = .int .i64 z.kind ∧ V i 1 = .int .i64 z.at_ ∧ V i 2 = .int .i64 z.slot ∧ V i 3 = .int .i64 z.n ∧ V i 4 = .slice z.A z.b.length z.c ∧ z.b.length ≤ z.c ∧ z.c ≤ 140737488351232 ∧ Rc w z.A (bs z.b) := by
    intro i hi
    obtain ⟨n0, y0, t0, w0⟩ := h4 i 0 fldKind hi rfl
    obtain ⟨z0, e0, q0, _⟩ := DataW.trod_int Try.underlying3 t0
    simp only [List.cons.injEq, and_true] at e0
    obtain ⟨n1, y1, t1, w1⟩ := h4 i 1 fldAt hi rfl
    obtain ⟨z1, e1, q1, _⟩ := DataW.trod_int Try.underlying3 t1
    simp only [List.cons.injEq, and_true] at e1
    obtain ⟨n2, y2, t2, w2⟩ := h4 i 2 fldSlot hi rfl
    obtain ⟨z2, e2, q2, _⟩ := DataW.trod_int Try.underlying3 t2
    simp only [List.cons.injEq, and_true] at e2
    obtain ⟨n3, y3, t3, w3⟩ := h4 i 3 fldN hi rfl
    obtain ⟨z3, e3, q3, _⟩ := DataW.trod_int Try.underlying3 t3
    simp only [List.cons.injEq, and_true] at e3
    obtain ⟨n9, y9, t9, w9⟩ := h4 i 4 fldB hi rfl
    have key : ∀ a' l' c', V i 4 = .slice a' l' c' → ∃ z : Dd, V i 0 = .int .i64 z.kind ∧ V i 1 = .int .i64 z.at_ ∧ V i 2 = .int .i64 z.slot ∧ V i 3 = .int .i64 z.n ∧ V i 4 = .slice z.A z.b.length z.c ∧ z.b.length ≤ z.c ∧ z.c ≤ 140737488351232 ∧ Rc w z.A (bs z.b) := by
      intro a' l' c' hV
      rw [hV] at t9
      obtain ⟨b, hb, g1, g2, g3⟩ := open_bytes Try.underlying22 Try.underlying5 (by kernel_rfl) (by kernel_rfl) t9 w9
      exact ⟨⟨z0, z1, z2, z3, a', b, c'⟩, e0, e1, e2, e3, by rw [hV, hb], by rw [← hb]; exact g1, g2, g3⟩
    rcases open_ints Try.underlying22 Try.underlying5 (by kernel_rfl) t9 with ⟨hcs, _⟩ | ⟨a', l', c', zs, hcs, _⟩
    · exact key none 0 0 (by simpa using hcs)
    · exact key (some a') l' c' (by simpa using hcs)
  obtain ⟨z, hz⟩ := choose_lt each
  refine ⟨(List.range len).map z, by simp, h1, h2, ?_, fun y hy => ?_, fun y hy => ?_⟩
  · intro i u hu
    have hil : i < len * 5 := by have := (List.getElem?_eq_some_iff.1 hu).1; unfold dds at this; rw [rowK_len (k := 5) (fun _ => rfl)] at this; simpa using this
    have hlm : i / 5 < ((List.range len).map z).length := by simp; omega
    have e := rowK_at (enc := Dd.cells) (k := 5) (fun _ => rfl) ((List.range len).map z) (i / 5) hlm (i % 5) (Nat.mod_lt _ (by decide))
    rw [show i / 5 * 5 + i % 5 = i by omega] at e
    unfold dds at hu
    rw [e] at hu
    have hg : ((List.range len).map z)[i / 5] = z (i / 5) := by simp
    rw [hg] at hu
    have hzi := hz (i / 5) (by omega)
    obtain ⟨b, off, hA, hc⟩ := h3 (i / 5) (i % 5) (by omega) (Nat.mod_lt _ (by decide))
    rw [show i / 5 * 5 + i % 5 = i by omega] at hc
    refine ⟨b, off, hA, ?_⟩
    rw [hc]
    rcases (show i % 5 = 0 ∨ i % 5 = 1 ∨ i % 5 = 2 ∨ i % 5 = 3 ∨ i % 5 = 4 by omega) with q | q | q | q | q
    · rw [q] at hu ⊢; rw [hzi.1]; exact hu
    · rw [q] at hu ⊢; rw [hzi.2.1]; exact hu
    · rw [q] at hu ⊢; rw [hzi.2.2.1]; exact hu
    · rw [q] at hu ⊢; rw [hzi.2.2.2.1]; exact hu
    · rw [q] at hu ⊢; rw [hzi.2.2.2.2.1]; exact hu
  · simp only [List.mem_map, List.mem_range] at hy
    obtain ⟨i, hi, rfl⟩ := hy
    exact ⟨(hz i hi).2.2.2.2.2.2.2, (hz i hi).2.2.2.2.2.1⟩
  · simp only [List.mem_map, List.mem_range] at hy
    obtain ⟨i, hi, rfl⟩ := hy
    have := (hz i hi).2.2.2.2.2.1; have := (hz i hi).2.2.2.2.2.2.1; omega
end
end Go.Proofs.Ytffhncpgknkkaaa
