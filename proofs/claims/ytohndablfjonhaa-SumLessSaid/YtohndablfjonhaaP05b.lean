/- Plain: what sums and differences of digests are. -/
import Derived.Test.YtohndablfjonhaaS05Known
namespace Go.Proofs.Ytohndablfjonhaa
open Go.RowKit Go.Sac
set_option linter.unusedVariables false
set_option linter.unusedSimpArgs false

theorem mod2 (x M : Nat) (h : x < M + M) : x % M = if x < M then x else x - M := by
  split
  · exact Nat.mod_eq_of_lt (by assumption)
  · rw [Nat.mod_eq_sub_mod (by omega), Nat.mod_eq_of_lt (by omega)]
theorem num_N32 : num N32 = 0 := by decide +kernel
theorem back_eq (a b : List UInt8) (ha : a.length = 32) (hb : b.length = 32) : subN (addN a b) b = a := by
  refine (eq_ofN a _ ha ?_).symm
  rw [addN, num_ofN]
  have h1 := num_MM a ha
  have h2 := num_MM b hb
  generalize num a = A at *
  generalize num b = B at *
  rw [mod2 (A + B) MM (by omega), mod2 A MM (by omega)]
  rw [if_pos h1]
  by_cases h : A + B < MM
  · rw [if_pos h, show A + B + MM - B = A + MM by omega, Nat.add_mod_right, Nat.mod_eq_of_lt h1]
  · rw [if_neg h, show A + B - MM + MM - B = A by omega, Nat.mod_eq_of_lt h1]
theorem add_comm_eq (a b : List UInt8) : addN b a = addN a b := by unfold addN; rw [Nat.add_comm]
theorem add_assoc_eq (a b c : List UInt8) : addN (addN a b) c = addN a (addN b c) := by
  refine num_inj _ _ (by rw [addN_len, addN_len]) ?_
  unfold addN
  rw [num_ofN, num_ofN, num_ofN, num_ofN]
  rw [Nat.mod_add_mod, Nat.add_mod_mod, Nat.add_assoc]
theorem sub_self_eq (a : List UInt8) (ha : a.length = 32) : subN a a = N32 := by
  refine num_inj _ _ (by rw [subN_len, N32_len]) ?_
  rw [subN, num_ofN, num_N32, Nat.add_sub_cancel_left, Nat.mod_self]
theorem add_zero_eq (a : List UInt8) (ha : a.length = 32) : addN a N32 = a := by
  rw [addN, num_N32, Nat.add_zero, ofN_num a ha]
theorem sub_zero_eq (a : List UInt8) (ha : a.length = 32) : subN a N32 = a := by
  refine (eq_ofN a _ ha ?_).symm
  rw [num_N32, Nat.sub_zero, Nat.add_mod_right]
theorem less_tri (a b : List UInt8) (ha : a.length = 32) (hb : b.length = 32) : (lessT a b = true ∧ lessT b a = false ∧ (a == b) = false) ∨ (lessT a b = false ∧ lessT b a = true ∧ (a == b) = false) ∨ (lessT a b = false ∧ lessT b a = false ∧ (a == b) = true) := by
  rw [lessT_num a b (by omega), lessT_num b a (by omega)]
  rcases Nat.lt_trichotomy (num a) (num b) with h | h | h
  · refine Or.inl ⟨by simp [h], by simp; omega, ?_⟩
    rw [beq_eq_false_iff_ne]; intro e; rw [e] at h; omega
  · exact Or.inr (Or.inr ⟨by simp; omega, by simp; omega, by rw [beq_iff_eq]; exact num_inj a b (by omega) h⟩)
  · refine Or.inr (Or.inl ⟨by simp; omega, by simp [h], ?_⟩)
    rw [beq_eq_false_iff_ne]; intro e; rw [e] at h; omega
theorem less_trans (a b c : List UInt8) (ha : a.length = 32) (hb : b.length = 32) (hc : c.length = 32) (h1 : lessT a b = true) (h2 : lessT b c = true) : lessT a c = true := by
  rw [lessT_num a b (by omega)] at h1
  rw [lessT_num b c (by omega)] at h2
  rw [lessT_num a c (by omega)]
  simp at h1 h2 ⊢
  omega
theorem F32_len : F32.length = 32 := by simp [F32]
theorem O32_len : O32.length = 32 := by simp [O32]
theorem num_F32 : num F32 + 1 = MM := by decide +kernel
theorem most_eq (a : List UInt8) (ha : a.length = 32) : lessT F32 a = false := by
  rw [lessT_num F32 a (by rw [ha, F32_len])]
  have h1 := num_MM a ha
  have h2 := num_F32
  simp; omega
theorem none_eq (a : List UInt8) (ha : a.length = 32) : lessT a N32 = false := by
  rw [lessT_num a N32 (by rw [ha, N32_len]), num_N32]; simp
end Go.Proofs.Ytohndablfjonhaa
