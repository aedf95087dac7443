/- A struct of numbers, and an array of numbers, by value: opened. -/
import Derived.Test.YtmebgejjaljhgaaRowBase
import Derived.Test.YtmebgejjaljhgaaN13Eq
import Derived.Lib.SmallJoins
namespace Go.Proofs.Ytmebgejjaljhgaa
open Go.ChangeShapes Go.WideShapes Go.ChangeAt Go.RowKit Go.Deep Go.Sac
set_option linter.unusedVariables false
set_option linter.unusedSimpArgs false

theorem one_at {cs : List Value} {off : Nat} (h : off < cs.length) : (cs.drop off).take 1 = [cs[off]] := by
  rw [List.drop_eq_getElem_cons h, List.take_succ_cons, List.take_zero]
section
variable {H : Type} {enc : TypeId × Value → H} {w : World} {base : Nat} {held : Bool}
theorem open_inode {r : Reach} {b0 : Nat} {spare : Nat → Bool} {v : Value} {d : DataW H} {p : List MemPlace}
    (hv : Value.okWide Try.prog w r b0 24 v) (h : DataW.Trod enc Try.prog w base spare held 24 v d p) : ∃ xs : List Int, v = ino xs ∧ xs.length = 10 := by
  obtain ⟨cs, rfl, hsz⟩ := okWide_struct Try.underlying24 hv
  obtain ⟨fuel, hf⟩ := h
  have hl : cs.toList.length = 10 := by rw [Array.length_toList, hsz]; kernel_rfl
  have hc1 : Try.prog.cellsOf 3 = 1 := by kernel_rfl
  have hc6 : Try.prog.cellsOf 22 = 6 := by kernel_rfl
  change DataW.trod enc Try.prog w base spare held fuel 24 cs.toList = some (d, p) at hf
  obtain ⟨ys, n, _, hx, hl2, hlen, hf2⟩ := DataW.trod_struct Try.underlying24 hf
  have int1 : ∀ (off m : Nat) (y : DataW H × List MemPlace) (hoff : off < cs.toList.length), DataW.trod enc Try.prog w base spare held m 3 [cs.toList[off]] = some y → ∃ z : Int, cs.toList[off]? = some (.int .i64 z) := by
    intro off m y hoff h
    obtain ⟨x0, e0, _, _⟩ := DataW.trod_int (x := y) Try.underlying3 h
    simp only [List.cons.injEq, and_true] at e0
    exact ⟨x0, by rw [List.getElem?_eq_getElem hoff, e0]⟩
  have gy : ∀ k, k < 5 → ∃ y, ys[k]? = some y := fun k hk => ⟨_, List.getElem?_eq_getElem (by rw [hlen]; exact hk)⟩
  have each : ∀ i, i < 10 → ∃ z : Int, cs.toList[i]? = some (.int .i64 z) := by
    intro i hi
    by_cases h3 : 3 ≤ i ∧ i < 9
    · have h0 := hf2 3 { name := "Ptr", type := 22, offset := 3, embedded := false, tag := "", pkgPath := "", byteOffset := 24 } rfl
      obtain ⟨y, hy⟩ := gy 3 (by omega)
      have h : DataW.trod enc Try.prog w base spare held n 22 ((cs.toList.drop 3).take (Try.prog.cellsOf 22)) = some y := h0.trans hy
      rw [hc6] at h
      obtain ⟨xs, m, hxx, _, hl3, hx3, hall⟩ := DataW.trod_array Try.underlying22 h
      have h1 := hall (i - 3) (by omega)
      rw [hc1, Nat.mul_one] at h1
      have e : ((List.take 6 (List.drop 3 cs.toList)).drop (i - 3)).take 1 = [cs.toList[i]] := by
        have h5 : i - 3 < (List.take 6 (List.drop 3 cs.toList)).length := by rw [List.length_take, List.length_drop, hl]; omega
        rw [one_at h5, List.getElem_take, List.getElem_drop]
        congr 2
        omega
      rw [e] at h1
      obtain ⟨y2, hy2⟩ : ∃ y, xs[i - 3]? = some y := ⟨_, List.getElem?_eq_getElem (by omega)⟩
      exact int1 i _ _ (by omega) (h1.trans hy2)
    · rcases (show i = 0 ∨ i = 1 ∨ i = 2 ∨ i = 9 by omega) with rfl | rfl | rfl | rfl
      · obtain ⟨y, hy⟩ := gy 0 (by omega)
        have h : DataW.trod enc Try.prog w base spare held n 3 ((cs.toList.drop 0).take (Try.prog.cellsOf 3)) = some y := (hf2 0 { name := "Kind", type := 3, offset := 0, embedded := false, tag := "", pkgPath := "", byteOffset := 0 } rfl).trans hy
        rw [hc1, one_at (by omega)] at h
        exact int1 0 _ _ (by omega) h
      · obtain ⟨y, hy⟩ := gy 1 (by omega)
        have h : DataW.trod enc Try.prog w base spare held n 3 ((cs.toList.drop 1).take (Try.prog.cellsOf 3)) = some y := (hf2 1 { name := "Links", type := 3, offset := 1, embedded := false, tag := "", pkgPath := "", byteOffset := 8 } rfl).trans hy
        rw [hc1, one_at (by omega)] at h
        exact int1 1 _ _ (by omega) h
      · obtain ⟨y, hy⟩ := gy 2 (by omega)
        have h : DataW.trod enc Try.prog w base spare held n 3 ((cs.toList.drop 2).take (Try.prog.cellsOf 3)) = some y := (hf2 2 { name := "Size", type := 3, offset := 2, embedded := false, tag := "", pkgPath := "", byteOffset := 16 } rfl).trans hy
        rw [hc1, one_at (by omega)] at h
        exact int1 2 _ _ (by omega) h
      · obtain ⟨y, hy⟩ := gy 4 (by omega)
        have h : DataW.trod enc Try.prog w base spare held n 3 ((cs.toList.drop 9).take (Try.prog.cellsOf 3)) = some y := (hf2 4 { name := "Index", type := 3, offset := 9, embedded := false, tag := "", pkgPath := "", byteOffset := 72 } rfl).trans hy
        rw [hc1, one_at (by omega)] at h
        exact int1 9 _ _ (by omega) h
  obtain ⟨z, hz⟩ := choose_lt each
  refine ⟨(List.range 10).map z, ?_, by simp⟩
  unfold ino
  congr 1
  apply Array.ext_getElem?
  intro i
  by_cases hi : i < 10
  · rw [← Array.getElem?_toList, hz i hi]
    simp [ns, i64v, hi]
  · rw [Array.getElem?_eq_none (by rw [← Array.length_toList, hl]; omega)]
    simp [ns, hi]
end
end Go.Proofs.Ytmebgejjaljhgaa
