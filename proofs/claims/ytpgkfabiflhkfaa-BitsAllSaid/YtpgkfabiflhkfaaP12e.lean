/- Plain laws of bits: those that are free, taken one by one. No program in it. -/
import Derived.Test.YtpgkfabiflhkfaaP12d
namespace Go.Sac
open Go.RowKit
set_option linter.unusedVariables false
set_option linter.unusedSimpArgs false

theorem frT_count (b : List UInt8) (lo n : Nat) : (frT b lo n).length + cnT b lo n = n - lo := by
  induction n with
  | zero => simp [frT, cnT]
  | succ n ih =>
    rw [frT_succ, cnT_succ, List.length_append]
    by_cases h : lo ≤ n
    · cases hg : getT b n <;> simp [h] <;> omega
    · simp [h]; omega
theorem frT_mem (b : List UInt8) (lo n : Nat) (x : Int) : x ∈ frT b lo n → ∃ k : Nat, x = (k : Int) ∧ lo ≤ k ∧ k < n ∧ getT b k = false := by
  intro h
  unfold frT at h
  rw [List.mem_map] at h
  obtain ⟨k, hk, rfl⟩ := h
  rw [List.mem_filter, List.mem_range] at hk
  refine ⟨k, rfl, ?_⟩
  have := hk.2
  simp at this
  exact ⟨this.1, hk.1, this.2⟩
theorem frT_rise (b : List UInt8) (lo n : Nat) : (frT b lo n).Pairwise (· < ·) := by
  induction n with
  | zero => simp [frT]
  | succ n ih =>
    rw [frT_succ, List.pairwise_append]
    refine ⟨ih, by split <;> simp, fun x hx y hy => ?_⟩
    obtain ⟨k, rfl, _, hk, _⟩ := frT_mem b lo n x hx
    split at hy
    · simp at hy; omega
    · simp at hy
theorem frT_set (b : List UInt8) (k lo n : Nat) (hk : k < 8 * b.length) : frT (setT b k true) lo n = (frT b lo n).filter (fun x => decide (x ≠ (k : Int))) := by
  induction n with
  | zero => simp [frT]
  | succ n ih =>
    rw [frT_succ, frT_succ, List.filter_append, ih, get_setT b k n true hk]
    congr 1
    by_cases h : n = k
    · subst h
      rw [if_pos rfl, if_neg (by simp)]
      split <;> simp
    · rw [if_neg h]
      split
      · have : (n : Int) ≠ (k : Int) := by omega
        rw [List.filter_cons, if_pos (by rw [decide_eq_true_eq]; exact this)]; rfl
      · rfl
theorem frT_tail (b : List UInt8) (k lo n : Nat) (rest : List Int) (hk : k < 8 * b.length) (h : frT b lo n = (k : Int) :: rest) : frT (setT b k true) lo n = rest := by
  have hr := frT_rise b lo n
  rw [h, List.pairwise_cons] at hr
  rw [frT_set b k lo n hk, h, List.filter_cons, if_neg (by simp)]
  rw [List.filter_eq_self]
  intro x hx
  have := hr.1 x hx
  simp
  omega
end Go.Sac
