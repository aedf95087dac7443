/- Plain laws of numbers as bytes (seats without the first seat's words). -/
import Derived.Test.YtohndablfjonhaaCGet
namespace Go.Proofs.Ytohndablfjonhaa
open Go.RowKit Go.Sac
set_option linter.unusedVariables false
set_option linter.unusedSimpArgs false

theorem num_app (a b : List UInt8) : num (a ++ b) = num a * 256 ^ b.length + num b := by
  have h : ∀ (r : List UInt8), num (a ++ r.reverse) = num a * 256 ^ r.length + num r.reverse := by
    intro r
    induction r with
    | nil => simp [num]
    | cons c r ih =>
      rw [List.reverse_cons, ← List.append_assoc, num_snoc, num_snoc, ih, List.length_cons, Nat.pow_succ, Nat.mul_add, ← Nat.mul_assoc, Nat.mul_comm 256 (num a), Nat.mul_assoc (num a), Nat.mul_comm 256 (256 ^ _)]
      omega
  have := h b.reverse
  simpa using this
theorem num_cons (x : UInt8) (l : List UInt8) : num (x :: l) = x.toNat * 256 ^ l.length + num l := by
  have := num_app [x] l
  simpa [num] using this
theorem putB_num (n k : Nat) : num (putB n k) = n % 256 ^ k := by
  induction k with
  | zero => simp [putB, num, Nat.mod_one]
  | succ k ih =>
    rw [putB, num_cons, putB_len, ih, UInt8.toNat_ofNat']
    show (n / 256 ^ k % 256) * 256 ^ k + n % 256 ^ k = n % (256 ^ k * 256)
    have h1 : n % (256 ^ k * 256) = n % 256 ^ k + 256 ^ k * (n / 256 ^ k % 256) := Nat.mod_mul
    rw [h1, Nat.mul_comm (256 ^ k) (n / 256 ^ k % 256)]
    exact Nat.add_comm _ _
theorem num_inj (l m : List UInt8) (h : l.length = m.length) (hn : num l = num m) : l = m := by
  induction l generalizing m with
  | nil => cases m with | nil => rfl | cons => simp at h
  | cons x l ih =>
    cases m with
    | nil => simp at h
    | cons y m =>
      have h' : l.length = m.length := by simpa using h
      rw [num_cons, num_cons, h'] at hn
      have hl := num_lt l
      have hm := num_lt m
      rw [h'] at hl
      have e : x.toNat = y.toNat := by
        generalize 256 ^ m.length = q at *
        rcases Nat.lt_trichotomy x.toNat y.toNat with h1 | h1 | h1
        · have : (x.toNat + 1) * q ≤ y.toNat * q := Nat.mul_le_mul_right _ h1
          rw [Nat.add_mul] at this; omega
        · exact h1
        · have : (y.toNat + 1) * q ≤ x.toNat * q := Nat.mul_le_mul_right _ h1
          rw [Nat.add_mul] at this; omega
      rw [e] at hn
      rw [UInt8.toNat_inj.1 e, ih m h' (by omega)]
theorem getB_small (l : List UInt8) (h : l.length ≤ 8) : getB l = num l := by
  unfold getB; rw [show l.length - 8 = 0 by omega]; rfl
end Go.Proofs.Ytohndablfjonhaa
