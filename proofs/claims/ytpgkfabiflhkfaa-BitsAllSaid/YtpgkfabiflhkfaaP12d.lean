/- Plain laws of bits: the first that is free. No program in it. -/
import Derived.Test.YtpgkfabiflhkfaaP12c
namespace Go.Sac
open Go.RowKit
set_option linter.unusedVariables false
set_option linter.unusedSimpArgs false

theorem head_snoc (l m : List Int) (z : Int) : (l ++ m).headD z = if l = [] then m.headD z else l.headD z := by cases l <;> simp
/-- the first that is free: none is, and all ahead are taken; or it is, and all ahead are taken -/
theorem frT_head (b : List UInt8) (lo n : Nat) : ((frT b lo n).headD (-1) = -1 ∧ frT b lo n = [] ∧ ∀ j, lo ≤ j → j < n → getT b j = true) ∨
    ∃ k : Nat, (frT b lo n).headD (-1) = (k : Int) ∧ frT b lo n ≠ [] ∧ lo ≤ k ∧ k < n ∧ getT b k = false ∧ ∀ j, lo ≤ j → j < k → getT b j = true := by
  induction n with
  | zero => exact .inl ⟨rfl, rfl, fun j _ h => absurd h (by omega)⟩
  | succ n ih =>
    rw [frT_succ]
    rcases ih with ⟨h1, h2, h3⟩ | ⟨k, h1, h2, h3, h4, h5, h6⟩
    · rw [h2, List.nil_append]
      by_cases hc : lo ≤ n ∧ getT b n = false
      · rw [if_pos hc]
        exact .inr ⟨n, rfl, by simp, hc.1, by omega, hc.2, fun j hj hl => h3 j hj hl⟩
      · rw [if_neg hc]
        refine .inl ⟨rfl, rfl, fun j hj hl => ?_⟩
        by_cases e : j = n
        · subst e
          cases hg : getT b j
          · exact absurd ⟨hj, hg⟩ hc
          · rfl
        · exact h3 j hj (by omega)
    · refine .inr ⟨k, ?_, by simp [h2], h3, by omega, h5, h6⟩
      rw [head_snoc, if_neg h2, h1]
theorem fiT_cases (b : List UInt8) (f t : Int) : (fiT b f t = -1 ∧ ∀ j : Nat, f ≤ j → (j : Int) < min t (8 * (b.length : Int)) → getI b (j : Int) = true) ∨
    ∃ k : Nat, fiT b f t = (k : Int) ∧ f ≤ k ∧ (k : Int) < min t (8 * (b.length : Int)) ∧ getI b (k : Int) = false ∧ ∀ j : Nat, f ≤ j → j < k → getI b (j : Int) = true := by
  unfold fiT
  rcases frT_head b f.toNat (hiT b t) with ⟨h1, _, h3⟩ | ⟨k, h1, _, h3, h4, h5, h6⟩
  · refine .inl ⟨h1, fun j hj hl => ?_⟩
    rw [getI_nat b j (by omega)]
    exact h3 j (by omega) (by unfold hiT; omega)
  · have hk : (k : Int) < min t (8 * (b.length : Int)) := by unfold hiT at h4; omega
    refine .inr ⟨k, h1, by omega, hk, by rw [getI_nat b k (by omega)]; exact h5, fun j hj hl => ?_⟩
    rw [getI_nat b j (by omega)]
    exact h6 j (by omega) hl
theorem getI_out (b : List UInt8) (i : Int) (h : ¬ (0 ≤ i ∧ i < 8 * (b.length : Int))) : getI b i = false := by
  unfold getI
  have : (decide (0 ≤ i) && decide (i < 8 * (b.length : Int))) = false := by
    rw [← Bool.not_eq_true, Bool.and_eq_true, decide_eq_true_eq, decide_eq_true_eq]; exact h
  rw [this]; rfl
end Go.Sac
