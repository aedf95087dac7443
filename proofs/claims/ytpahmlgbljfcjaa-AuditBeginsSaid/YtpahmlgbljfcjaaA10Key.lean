/- A10Key: the keys of audit's maps: items (key) and slots (place). -/
import Derived.Laws.StructEq
import Derived.Test.YtpahmlgbljfcjaaProg
import Derived.Test.YtpahmlgbljfcjaaBase17
namespace Go.Proofs.Ytpahmlgbljfcjaa
open Go.RowKit Go.Sac
set_option linter.unusedVariables false
set_option linter.unusedSimpArgs false

/-- key{at, bytes} -/
def ikey (k : Int × ByteArray) : Value := .agg #[.int .i64 k.1, .string k.2]
/-- place{at, slot} -/
def pkey (k : Int × Int) : Value := .agg #[.int .i64 k.1, .int .i64 k.2]
set_option maxHeartbeats 1000000 in
theorem ikey_eq (x y : Int × ByteArray) (w : World) : (Op.equal 36 (ikey x) (ikey y)).run Try.prog w = .ok (decide (x = y)) w := by
  obtain ⟨a, s⟩ := x
  obtain ⟨b, t⟩ := y
  unfold Op.equal ikey
  rw [show Op.maxDepth = 9999 + 1 from rfl]
  go_simp
  have hst : s.toList = t.toList ↔ s = t := ⟨fun h => (MapKept.bytes_beq s t).1 (by rw [beq_toListBytes]; simpa using h), fun h => by rw [h]⟩
  by_cases h1 : a = b <;> by_cases h2 : s = t <;> simp [h1, h2, hst]
set_option maxHeartbeats 1000000 in
theorem ikey_check (b : Bool) (k : Int × ByteArray) (w : World) : (Instr.checkKey b 10000 36 (ikey k)).run Try.prog w = .ok () w := by
  unfold Instr.checkKey ikey
  go_simp
  have h1 := MapKept.run_checkKey (P := Try.prog) (w := w) (kt := 3) (d := .int .i64) (k := .int .i64 k.1) rfl (by simp [MapKept.IsKey]) b 9998
  have h2 := MapKept.run_checkKey (P := Try.prog) (w := w) (kt := 9) (d := .string) (k := .string k.2) rfl (by simp [MapKept.IsKey]) b 9998
  rw [h1, Result.andThen_ok, h2]
theorem ikey_same (k : Int × ByteArray) : Instr.sameBits 10000 (ikey k) (ikey k) = true := by
  simp [ikey, Instr.sameBits, MapKept.bytes_beq]
theorem ikey_inj (x y : Int × ByteArray) (h : ikey x = ikey y) : x = y := by
  obtain ⟨a, s⟩ := x
  obtain ⟨b, t⟩ := y
  simpa [ikey] using h
theorem ikey_desc : ∃ D, Program.underlying Try.prog 36 = some D ∧ ∀ x y, Instr.sameNow D (ikey x) (ikey y) = none := ⟨_, rfl, fun _ _ => rfl⟩
theorem ikey_ok : KeyOk Try.prog 36 ikey := ⟨ikey_desc, ikey_check, ikey_eq, ikey_same, ikey_inj⟩
set_option maxHeartbeats 1000000 in
theorem pkey_eq (x y : Int × Int) (w : World) : (Op.equal 42 (pkey x) (pkey y)).run Try.prog w = .ok (decide (x = y)) w := by
  obtain ⟨a, s⟩ := x
  obtain ⟨b, t⟩ := y
  unfold Op.equal pkey
  rw [show Op.maxDepth = 9999 + 1 from rfl]
  go_simp
  by_cases h1 : a = b <;> by_cases h2 : s = t <;> simp [h1, h2]
set_option maxHeartbeats 1000000 in
theorem pkey_check (b : Bool) (k : Int × Int) (w : World) : (Instr.checkKey b 10000 42 (pkey k)).run Try.prog w = .ok () w := by
  unfold Instr.checkKey pkey
  go_simp
  have h1 := fun n => MapKept.run_checkKey (P := Try.prog) (w := w) (kt := 3) (d := .int .i64) (k := .int .i64 n) rfl (by simp [MapKept.IsKey]) b 9998
  rw [h1, Result.andThen_ok, h1]
theorem pkey_ok : KeyOk Try.prog 42 pkey :=
  ⟨⟨_, rfl, fun _ _ => rfl⟩, pkey_check, pkey_eq, fun k => by simp [pkey, Instr.sameBits], fun x y h => by
    obtain ⟨a, s⟩ := x
    obtain ⟨b, t⟩ := y
    simpa [pkey] using h⟩
end Go.Proofs.Ytpahmlgbljfcjaa
