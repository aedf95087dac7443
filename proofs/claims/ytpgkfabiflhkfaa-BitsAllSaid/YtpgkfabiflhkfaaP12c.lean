/- Plain laws of bits: what the laws of the chapter say. No program in it. -/
import Derived.Test.YtpgkfabiflhkfaaP12b
namespace Go.Sac
open Go.RowKit
set_option linter.unusedVariables false
set_option linter.unusedSimpArgs false

theorem setI_nat (b : List UInt8) (j : Nat) (v : Bool) (h : j < 8 * b.length) : setI b (j : Int) v = setT b j v := by
  rw [setI, if_pos ⟨by omega, by omega⟩]; rfl
theorem getI_setI (b : List UInt8) (j : Nat) (v : Bool) (i : Int) (hj : j < 8 * b.length) : getI (setI b (j : Int) v) i = if i = j then v else getI b i := by
  by_cases hi : 0 ≤ i ∧ i < 8 * (b.length : Int)
  · obtain ⟨k, rfl⟩ := Int.eq_ofNat_of_zero_le hi.1
    rw [setI_nat b j v hj, getI_nat _ _ (by rw [setT_len]; omega), getI_nat b k (by omega), get_setT b j k v hj]
    by_cases h : k = j
    · rw [if_pos h, if_pos (by omega)]
    · rw [if_neg h, if_neg (by omega)]
  · rw [if_neg (by rintro rfl; exact hi ⟨by omega, by omega⟩)]
    unfold getI
    rw [setI_len]
    have : (decide (0 ≤ i) && decide (i < 8 * (b.length : Int))) = false := by
      rw [← Bool.not_eq_true, Bool.and_eq_true, decide_eq_true_eq, decide_eq_true_eq]; exact hi
    rw [this]; rfl
theorem getI_ext (b c : List UInt8) (hl : b.length = c.length) (h : ∀ i : Int, getI b i = getI c i) : b = c := by
  apply row_ext b c hl
  intro k hk
  rw [← getI_nat b k hk, ← getI_nat c k (by omega)]
  exact h k
theorem setI_back (b : List UInt8) (j : Nat) (v was : Bool) (hj : j < 8 * b.length) (hw : getI b (j : Int) = was) : setI (setI b (j : Int) v) (j : Int) was = b := by
  apply getI_ext _ _ (by rw [setI_len, setI_len])
  intro i
  rw [getI_setI _ j was i (by rw [setI_len]; exact hj), getI_setI b j v i hj]
  split
  · rename_i h; rw [h, hw]
  · rfl
theorem setI_swap (b : List UInt8) (p q : Nat) (x y : Bool) (hp : p < 8 * b.length) (hq : q < 8 * b.length) (hpq : p ≠ q) : setI (setI b (p : Int) x) (q : Int) y = setI (setI b (q : Int) y) (p : Int) x := by
  apply getI_ext _ _ (by rw [setI_len, setI_len, setI_len, setI_len])
  intro i
  rw [getI_setI _ q y i (by rw [setI_len]; exact hq), getI_setI b p x i hp, getI_setI _ p x i (by rw [setI_len]; exact hp), getI_setI b q y i hq]
  by_cases h1 : i = p
  · rw [if_neg (by omega), if_pos h1, if_pos h1]
  · rw [if_neg h1, if_neg h1]
theorem hiT_all (b : List UInt8) : hiT b (8 * (b.length : Int)) = 8 * b.length := by unfold hiT; omega
theorem hiT_of (b : List UInt8) (k : Nat) (h : k ≤ 8 * b.length) : hiT b (k : Int) = k := by unfold hiT; omega
/-- 1, or 0 -/
def b2n (v : Bool) : Nat := if v then 1 else 0
theorem cnT_set (b : List UInt8) (j : Nat) (v : Bool) (lo n : Nat) (hj : j < 8 * b.length) : cnT (setT b j v) lo n + (if lo ≤ j ∧ j < n then b2n (getT b j) else 0) = cnT b lo n + (if lo ≤ j ∧ j < n then b2n v else 0) := by
  induction n with
  | zero => simp [cnT]
  | succ n ih =>
    rw [cnT_succ, cnT_succ, get_setT b j n v hj]
    by_cases h : n = j
    · subst h
      rw [if_neg (by omega), if_neg (by omega)] at ih
      rw [if_pos rfl]
      by_cases hl : lo ≤ n
      · simp only [hl, true_and, Nat.lt_succ_self, if_true, and_self, b2n]
        cases v <;> cases hg : getT b n <;> simp <;> omega
      · simp [hl]; omega
    · have e : (lo ≤ j ∧ j < n + 1) ↔ (lo ≤ j ∧ j < n) := by omega
      rw [if_neg h]
      simp only [e]
      omega
theorem cnT_two (b : List UInt8) (y n : Nat) (h : y ≤ n) : cnT b 0 y + cnT b y n = cnT b 0 n := by
  obtain ⟨d, rfl⟩ := Nat.exists_eq_add_of_le h
  clear h
  induction d with
  | zero => rw [Nat.add_zero, cnT_low b y y (Nat.le_refl _), Nat.add_zero]
  | succ d ih => rw [← Nat.add_assoc, cnT_succ, cnT_succ, ← ih]; simp; omega
end Go.Sac
