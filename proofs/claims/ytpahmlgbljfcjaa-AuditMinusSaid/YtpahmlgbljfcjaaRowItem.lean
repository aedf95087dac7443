/- Items that came in. -/
import Derived.Test.YtpahmlgbljfcjaaRowStruct
import Derived.Test.YtpahmlgbljfcjaaA10It
namespace Go.Proofs.Ytpahmlgbljfcjaa
open Go.ChangeShapes Go.WideShapes Go.ChangeAt Go.RowKit Go.Deep Go.Sac
set_option linter.unusedVariables false
set_option linter.unusedSimpArgs false
def fldAt : Field := { name := "At", type := 3, offset := 0, embedded := false, tag := "", pkgPath := "", byteOffset := 0 }
def fldBytes : Field := { name := "Bytes", type := 24, offset := 1, embedded := false, tag := "", pkgPath := "", byteOffset := 8 }
theorem item_struct : Try.prog.underlying 26 = some (.struct #[fldAt, fldBytes]) := Try.underlying26
instance : Inhabited It := ⟨⟨0, none, [], 0⟩⟩
section
variable {H : Type} {enc : TypeId × Value → H} {w : World} {base : Nat} {held : Bool}
theorem open_items {fuel : Nat} {a : Option Addr} {len cap : Nat} {x : DataW H × List MemPlace}
    (h : DataW.trod enc Try.prog w base (fun _ => true) held fuel 22 [.slice a len cap] = some x) (hw : ∀ m ∈ x.1.weights Try.prog 22, m ≤ reachBytes) :
    ∃ l : List It, len = l.length ∧ len ≤ cap ∧ cap * 32 ≤ 140737488351232 ∧ Rc w a (its l) ∧ (Held w l ∧ ∀ y ∈ l, y.b.length ≤ 140737488355328) := by
  obtain ⟨h1, h2, V, h3, h4⟩ := open_structs (k := 2) (B := 32) Try.underlying22 item_struct (by kernel_rfl) rfl
    (by intro j f hf; match j, hf with
        | 0, hf => cases hf; exact ⟨rfl, by kernel_rfl⟩
        | 1, hf => cases hf; exact ⟨rfl, by kernel_rfl⟩
        | j + 2, hf => simp at hf) (by kernel_rfl) h hw
  have each : ∀ i, i < len → ∃ z : It, V i 0 = .int .i64 z.at_ ∧ V i 1 = .slice z.A z.b.length z.c ∧ z.b.length ≤ z.c ∧ z.c ≤ 140737488351232 ∧ Rc w z.A (bs z.b) := by
    intro i hi
    obtain ⟨n0, y0, t0, w0⟩ := h4 i 0 fldAt hi rfl
    obtain ⟨n1, y1, t1, w1⟩ := h4 i 1 fldBytes hi rfl
    obtain ⟨z, e0, q0, _⟩ := DataW.trod_int Try.underlying3 t0
    simp only [List.cons.injEq, and_true] at e0
    have key : ∀ a' l' c', V i 1 = .slice a' l' c' → ∃ z : It, V i 0 = .int .i64 z.at_ ∧ V i 1 = .slice z.A z.b.length z.c ∧ z.b.length ≤ z.c ∧ z.c ≤ 140737488351232 ∧ Rc w z.A (bs z.b) := by
      intro a' l' c' hV
      rw [hV] at t1
      obtain ⟨b, hb, g1, g2, g3⟩ := open_bytes Try.underlying24 Try.underlying5 (by kernel_rfl) (by kernel_rfl) t1 w1
      exact ⟨⟨z, a', b, c'⟩, e0, by rw [hV, hb], by rw [← hb]; exact g1, g2, g3⟩
    rcases open_ints Try.underlying24 Try.underlying5 (by kernel_rfl) t1 with ⟨hcs, _⟩ | ⟨a', l', c', zs, hcs, _⟩
    · exact key none 0 0 (by simpa using hcs)
    · exact key (some a') l' c' (by simpa using hcs)
  obtain ⟨z, hz⟩ := choose_lt each
  refine ⟨(List.range len).map z, by simp, h1, h2, ?_, fun y hy => ?_, fun y hy => ?_⟩
  · intro i u hu
    have hil : i < len * 2 := by have := (List.getElem?_eq_some_iff.1 hu).1; unfold its at this; rw [rowK_len (k := 2) (fun _ => rfl)] at this; simpa using this
    have hlm : i / 2 < ((List.range len).map z).length := by simp; omega
    have e := rowK_at (enc := It.cells) (k := 2) (fun _ => rfl) ((List.range len).map z) (i / 2) hlm (i % 2) (Nat.mod_lt _ (by decide))
    rw [show i / 2 * 2 + i % 2 = i by omega] at e
    unfold its at hu
    rw [e] at hu
    have hg : ((List.range len).map z)[i / 2] = z (i / 2) := by simp
    rw [hg] at hu
    obtain ⟨z0, z1, _⟩ := hz (i / 2) (by omega)
    obtain ⟨b, off, hA, hc⟩ := h3 (i / 2) (i % 2) (by omega) (Nat.mod_lt _ (by decide))
    rw [show i / 2 * 2 + i % 2 = i by omega] at hc
    refine ⟨b, off, hA, ?_⟩
    rw [hc]
    rcases (show i % 2 = 0 ∨ i % 2 = 1 by omega) with q | q
    · rw [q] at hu ⊢; rw [z0]; exact hu
    · rw [q] at hu ⊢; rw [z1]; exact hu
  · simp only [List.mem_map, List.mem_range] at hy
    obtain ⟨i, hi, rfl⟩ := hy
    exact ⟨(hz i hi).2.2.2.2, (hz i hi).2.2.1⟩
  · simp only [List.mem_map, List.mem_range] at hy
    obtain ⟨i, hi, rfl⟩ := hy
    have := (hz i hi).2.2.1; have := (hz i hi).2.2.2.1; omega
end
end Go.Proofs.Ytpahmlgbljfcjaa
