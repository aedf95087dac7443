/- Plain laws of bits: rows whose bits are taken from one place up to another. No program in it. -/
import Derived.Test.YtpgkfabiflhkfaaP12e
namespace Go.Sac
open Go.RowKit
set_option linter.unusedVariables false
set_option linter.unusedSimpArgs false

structure Fill (r : List UInt8) (L lo hi : Nat) : Prop where
  len : r.length = L
  bit : ∀ j, j < 8 * L → getT r j = decide (lo ≤ j ∧ j < hi)
theorem fill_zero (L n : Nat) : Fill (List.replicate L 0) L n n := by
  refine ⟨by simp, fun j hj => ?_⟩
  have h : getT (List.replicate L 0) j = false := by
    rw [getT_at _ j (by simp; omega), List.getElem_replicate]; simp
  rw [h]; symm; rw [decide_eq_false_iff_not]; omega
theorem fill_on {r : List UInt8} {L i : Nat} (h : Fill r L 0 i) (hi : i < 8 * L) : Fill (setI r (i : Int) true) L 0 (i + 1) := by
  have hl := h.len
  refine ⟨by rw [setI_len, hl], fun j hj => ?_⟩
  rw [setI_nat r i true (by omega), get_setT r i j true (by omega), h.bit j hj]
  by_cases e : j = i
  · rw [if_pos e]; symm; rw [decide_eq_true_eq]; omega
  · rw [if_neg e, decide_eq_decide]; omega
theorem fill_off {r : List UInt8} {L i k : Nat} (h : Fill r L i k) (hi : i < k) (hk : k ≤ 8 * L) : Fill (setI r (i : Int) false) L (i + 1) k := by
  have hl := h.len
  refine ⟨by rw [setI_len, hl], fun j hj => ?_⟩
  rw [setI_nat r i false (by omega), get_setT r i j false (by omega), h.bit j hj]
  by_cases e : j = i
  · rw [if_pos e]; symm; rw [decide_eq_false_iff_not]; omega
  · rw [if_neg e, decide_eq_decide]; omega
theorem fill_end {r : List UInt8} {L k : Nat} (h : Fill r L k k) : r = List.replicate L 0 :=
  row_ext r _ (by simp [h.len]) fun j hj => by
    rw [h.len] at hj
    rw [h.bit j hj, (fill_zero L k).bit j hj]
theorem fill_count {r : List UInt8} {L i : Nat} (h : Fill r L 0 i) (n : Nat) (hn : n ≤ 8 * L) : cnT r 0 n = min i n := by
  induction n with
  | zero => simp [cnT]
  | succ n ih =>
    rw [cnT_succ, ih (by omega), h.bit n (by omega)]
    simp
    split <;> omega
theorem fill_first {r : List UInt8} {L i k : Nat} (h : Fill r L 0 i) (hk : k ≤ 8 * L) (hi : i ≤ k) : fiT r 0 (k : Int) = if i < k then (i : Int) else -1 := by
  have hl := h.len
  have hg : ∀ j : Nat, j < k → getI r (j : Int) = decide (j < i) := fun j hj => by
    rw [getI_nat r j (by omega), h.bit j (by omega), decide_eq_decide]; omega
  rcases fiT_cases r 0 (k : Int) with ⟨e1, e2⟩ | ⟨q, e1, _, e3, e4, e5⟩
  · rw [e1]
    split
    · rename_i hik
      have := e2 i (by omega) (by omega)
      rw [hg i hik] at this
      simp at this
    · rfl
  · have hqk : q < k := by omega
    rw [hg q hqk, decide_eq_false_iff_not] at e4
    have hiq : i = q := by
      rcases Nat.lt_or_ge i q with hlt | hge
      · have := e5 i (by omega) hlt
        rw [hg i (by omega)] at this
        simp at this
      · omega
    rw [e1, if_pos (by omega), hiq]
end Go.Sac
