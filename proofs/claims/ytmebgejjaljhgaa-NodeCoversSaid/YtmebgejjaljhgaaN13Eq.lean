/- Inodes as rows of ten numbers: whether two are the same, whether one may be; a field by its number. -/
import Derived.Test.YtmebgejjaljhgaaN13Fields
namespace Go.Proofs.Ytmebgejjaljhgaa
open Go.RowKit Go.Sac
set_option linter.unusedVariables false
set_option linter.unusedSimpArgs false

def mostI (k : Nat) : Int := if k = 0 then 3 else if k = 1 then 65535 else if k = 2 then 17920 else 4095
def wideI (k : Nat) : Nat := if k = 0 then 1 else if k = 1 then 2 else 4
def inI (xs : List Int) (k : Nat) : Prop := 0 ≤ xs.getD k 0 ∧ xs.getD k 0 ≤ mostI k
instance (xs : List Int) (k : Nat) : Decidable (inI xs k) := by unfold inI; exact inferInstance
def zeroI : List Int := [0, 0, 0, 0, 0, 0, 0, 0, 0, 0]
def rightP (xs : List Int) : Prop := (∀ k, k < 10 → inI xs k) ∧ (xs.getD 0 0 ≠ 0 ∨ xs = zeroI)
instance (xs : List Int) : Decidable (rightP xs) := by unfold rightP; exact inferInstance
def rightB (xs : List Int) : Bool := decide (rightP xs)
/-- an inode as a value -/
def ino (xs : List Int) : Value := .agg (ns xs).toArray
theorem getD_at (xs : List Int) (k : Nat) (h : k < xs.length) : xs.getD k 0 = xs[k] := by rw [List.getD_eq_getElem?_getD, List.getElem?_eq_getElem h]; rfl
theorem ns_get (xs : List Int) (k : Nat) (h : k < xs.length) : (ns xs)[k]? = some (.int .i64 (xs.getD k 0)) := by rw [getD_at xs k h]; exact ns_at h
theorem ten (xs : List Int) (h : xs.length = 10) : ∃ a b c d e f g i j k, xs = [a, b, c, d, e, f, g, i, j, k] := by
  rcases xs with _ | ⟨a, _ | ⟨b, _ | ⟨c, _ | ⟨d, _ | ⟨e, _ | ⟨f, _ | ⟨g, _ | ⟨i, _ | ⟨j, _ | ⟨k, _ | ⟨l, r⟩⟩⟩⟩⟩⟩⟩⟩⟩⟩⟩ <;> first | exact ⟨_, _, _, _, _, _, _, _, _, _, rfl⟩ | (simp at h; done) | (simp at h; omega)
theorem eq_inode (xs ys : List Int) (hx : xs.length = 10) (hy : ys.length = 10) (w : World) :
    (Op.equalIn 10000 24 (ino xs) (ino ys)).run Try.prog w = .ok (xs == ys) w := by
  obtain ⟨a0, a1, a2, a3, a4, a5, a6, a7, a8, a9, rfl⟩ := ten xs hx
  obtain ⟨b0, b1, b2, b3, b4, b5, b6, b7, b8, b9, rfl⟩ := ten ys hy
  unfold ino
  rw [run_equalIn_struct (P := Try.prog) w 9999 24 _ _ (by kernel_rfl) (by kernel_rfl)]
  have hf : Try.prog.fieldsOf 24 = #[{ name := "Kind", type := 3, offset := 0, embedded := false, tag := "", pkgPath := "", byteOffset := 0 },
        { name := "Links", type := 3, offset := 1, embedded := false, tag := "", pkgPath := "", byteOffset := 8 },
        { name := "Size", type := 3, offset := 2, embedded := false, tag := "", pkgPath := "", byteOffset := 16 },
        { name := "Ptr", type := 22, offset := 3, embedded := false, tag := "", pkgPath := "", byteOffset := 24 },
        { name := "Index", type := 3, offset := 9, embedded := false, tag := "", pkgPath := "", byteOffset := 72 }] := by kernel_rfl
  have h6 := run_equalIn_nums (P := Try.prog) (k := .i64) (t := 22) Try.underlying22 Try.underlying3 (by kernel_rfl) Try.isAgg3 [a3, a4, a5, a6, a7, a8] [b3, b4, b5, b6, b7, b8] rfl rfl
  have h7 : ∀ w, (Op.equalIn 9999 22 (.agg #[Value.int .i64 a3, Value.int .i64 a4, Value.int .i64 a5, Value.int .i64 a6, Value.int .i64 a7, Value.int .i64 a8]) (.agg #[Value.int .i64 b3, Value.int .i64 b4, Value.int .i64 b5, Value.int .i64 b6, Value.int .i64 b7, Value.int .i64 b8])).run Try.prog w = .ok ([a3, a4, a5, a6, a7, a8] == [b3, b4, b5, b6, b7, b8]) w := by
    intro w
    obtain ⟨inf, hinf⟩ := info_of_underlying Try.underlying3
    have h := run_equalIn_array (P := Try.prog) w 9998 (t := 22) (([a3, a4, a5, a6, a7, a8] : List Int).map (Value.int .i64)).toArray (([b3, b4, b5, b6, b7, b8] : List Int).map (Value.int .i64)).toArray Try.underlying22 hinf
    have h2 := run_eqItems_nums (P := Try.prog) (k := .i64) Try.underlying3 (by kernel_rfl) Try.isAgg3 9997 [a3, a4, a5, a6, a7, a8] [b3, b4, b5, b6, b7, b8] rfl w 6 0 rfl
    rw [← List.range_eq_range', List.drop_zero, List.drop_zero] at h2
    exact h.trans h2
  have hs : ∀ w, (Go.sizeOf 22).run Try.prog w = .ok 6 w := Try.sizeOf22
  have ha : ∀ w, (isAgg 22).run Try.prog w = .ok true w := Try.isAgg22
  rw [hf]
  simp only [Op.eqFields, part, ns, Sem.run_bind, Try.isAgg3, hs, ha, Result.andThen_ok, Sem.run_pure, run_equalIn_int _ _ _ _ _ _ _ Try.underlying3]
  simp [i64v, run_equalIn_int _ _ _ _ _ _ _ Try.underlying3, h7, Result.andThen, Sem.run_bind]
  cases h0 : (a0 == b0) <;> cases h1 : (a1 == b1) <;> cases h2 : (a2 == b2) <;> cases h3 : ([a3, a4, a5, a6, a7, a8] == [b3, b4, b5, b6, b7, b8]) <;> cases h4 : (a9 == b9) <;> simp_all
theorem index_fields (g k : Nat) (hk : k < 10) (w : World) :
    (Instr.index 63 (.agg (fieldsOf g)) (.int .i64 (k : Int))).run Try.prog w = .ok (.agg #[.pointer (some ⟨g, k, none⟩), .int .i64 (wideI k : Int), .int .i64 (mostI k)]) w := by
  have h1 : ∀ w, (isAgg 62).run Try.prog w = .ok true w := Try.isAgg62
  have h2 : ∀ w, (Go.sizeOf 62).run Try.prog w = .ok 3 w := Try.sizeOf62
  have h3 : (k : Int) < 10 := by omega
  have h4 : (0 : Int) ≤ k := by omega
  have e : (Instr.index 63 (.agg (fieldsOf g)) (.int .i64 (k : Int))).run Try.prog w = .ok (.agg ((fieldsOf g).extract (k * 3) (k * 3 + 3))) w := by
    simp [Instr.index, asIntOf, run_underlying Try.underlying63, part, h1, h2, Sem.run_bind, h3, h4, Result.andThen]
    intro h; omega
  rw [e]
  rcases (show k = 0 ∨ k = 1 ∨ k = 2 ∨ k = 3 ∨ k = 4 ∨ k = 5 ∨ k = 6 ∨ k = 7 ∨ k = 8 ∨ k = 9 by omega) with rfl | rfl | rfl | rfl | rfl | rfl | rfl | rfl | rfl | rfl <;> rfl
end Go.Proofs.Ytmebgejjaljhgaa
