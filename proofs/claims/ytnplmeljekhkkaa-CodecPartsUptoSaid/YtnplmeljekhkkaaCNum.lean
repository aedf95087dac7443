/- Plain laws of numbers as bytes. -/
import Derived.Test.YtnplmeljekhkkaaCAny
namespace Go.Proofs.Ytnplmeljekhkkaa
open Go.RowKit Go.Sac
set_option linter.unusedVariables false
set_option linter.unusedSimpArgs false

theorem num_cons (x : UInt8) (l : List UInt8) : num (x :: l) = x.toNat * 256 ^ l.length + num l := by
  have := num_app [x] l
  simpa [num] using this
theorem putB_num (n k : Nat) : num (putB n k) = n % 256 ^ k := by
  induction k with
  | zero => simp [putB, num, Nat.mod_one]
  | succ k ih =>
    rw [putB, num_cons, putB_len, ih, UInt8.toNat_ofNat']
    show (n / 256 ^ k % 256) * 256 ^ k + n % 256 ^ k = n % (256 ^ k * 256)
    have h1 : n % (256 ^ k * 256) = n % 256 ^ k + 256 ^ k * (n / 256 ^ k % 256) := Nat.mod_mul
    rw [h1, Nat.mul_comm (256 ^ k) (n / 256 ^ k % 256)]
    exact Nat.add_comm _ _
theorem less_num : ∀ (l m : List UInt8), l.length = m.length → Op.bytesLess l m = decide (num l < num m)
  | [], [], _ => by simp [Op.bytesLess]
  | x :: l, y :: m, h => by
    have h' : l.length = m.length := by simpa using h
    rw [Op.bytesLess, less_num l m h', num_cons, num_cons, h']
    have hl := num_lt l
    have hm := num_lt m
    rw [h'] at hl
    have hx : x < y ↔ x.toNat < y.toNat := UInt8.lt_iff_toNat_lt
    have he : x = y ↔ x.toNat = y.toNat := UInt8.toNat_inj.symm
    rw [Bool.eq_iff_iff]
    simp only [Bool.or_eq_true, Bool.and_eq_true, decide_eq_true_eq, beq_iff_eq, hx, he]
    generalize 256 ^ m.length = q at *
    constructor
    · rintro (h | ⟨h1, h2⟩)
      · have : (x.toNat + 1) * q ≤ y.toNat * q := Nat.mul_le_mul_right _ h
        rw [Nat.add_mul] at this
        omega
      · rw [h1]; omega
    · intro h
      rcases Nat.lt_trichotomy x.toNat y.toNat with h1 | h1 | h1
      · exact Or.inl h1
      · exact Or.inr ⟨h1, by rw [h1] at h; omega⟩
      · have : (y.toNat + 1) * q ≤ x.toNat * q := Nat.mul_le_mul_right _ h1
        rw [Nat.add_mul] at this
        omega
theorem num_inj (l m : List UInt8) (h : l.length = m.length) (hn : num l = num m) : l = m := by
  induction l generalizing m with
  | nil => cases m with | nil => rfl | cons => simp at h
  | cons x l ih =>
    cases m with
    | nil => simp at h
    | cons y m =>
      have h' : l.length = m.length := by simpa using h
      rw [num_cons, num_cons, h'] at hn
      have hl := num_lt l
      have hm := num_lt m
      rw [h'] at hl
      have e : x.toNat = y.toNat := by
        generalize 256 ^ m.length = q at *
        rcases Nat.lt_trichotomy x.toNat y.toNat with h1 | h1 | h1
        · have : (x.toNat + 1) * q ≤ y.toNat * q := Nat.mul_le_mul_right _ h1
          rw [Nat.add_mul] at this; omega
        · exact h1
        · have : (y.toNat + 1) * q ≤ x.toNat * q := Nat.mul_le_mul_right _ h1
          rw [Nat.add_mul] at this; omega
      rw [e] at hn
      rw [UInt8.toNat_inj.1 e, ih m h' (by omega)]
theorem putB_drop (n k j : Nat) (h : j ≤ k) : (putB n k).drop (k - j) = putB n j := by
  induction k with
  | zero => have : j = 0 := by omega
            subst this; simp
  | succ k ih =>
    by_cases hj : j = k + 1
    · subst hj; simp
    · rw [show k + 1 - j = (k - j) + 1 by omega]
      simp only [putB, List.drop_succ_cons]
      exact ih (by omega)
theorem getB_small (l : List UInt8) (h : l.length ≤ 8) : getB l = num l := by
  unfold getB; rw [show l.length - 8 = 0 by omega]; rfl
theorem getB_zeros (l : List UInt8) (h : l.length ≤ 7) : getB ([0, 0, 0] ++ l) = num l := by
  have h0 : ∀ k, num (List.replicate k (0 : UInt8) ++ l) = num l := by
    intro k
    induction k with
    | zero => rfl
    | succ k ih => rw [List.replicate_succ, List.cons_append, num_cons, ih]; simp
  unfold getB
  have e : ([0, 0, 0] ++ l : List UInt8) = List.replicate 3 0 ++ l := rfl
  rw [e, List.length_append, List.length_replicate, List.drop_append_of_le_length (by simp; omega), List.drop_replicate]
  exact h0 _

end Go.Proofs.Ytnplmeljekhkkaa
