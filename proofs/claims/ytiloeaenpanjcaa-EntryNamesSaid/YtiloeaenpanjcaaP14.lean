/- Plain: names in order. -/
import Derived.Test.YtiloeaenpanjcaaE14Search
namespace Go.Proofs.Ytiloeaenpanjcaa
open Go.RowKit Go.Sac
set_option linter.unusedVariables false
set_option linter.unusedSimpArgs false

theorem cb_le_lt : ∀ (a b c : List UInt8), ¬ Lib.compareBytes b a < 0 → Lib.compareBytes b c < 0 → Lib.compareBytes a c < 0
  | [], b, [], h1, h2 => by
    cases b with
    | nil => simp [Lib.compareBytes] at h2
    | cons y b => simp [Lib.compareBytes] at h2
  | [], b, z :: c, h1, h2 => by simp [Lib.compareBytes]
  | x :: a, [], c, h1, h2 => by simp [Lib.compareBytes] at h1
  | x :: a, y :: b, [], h1, h2 => by simp [Lib.compareBytes] at h2
  | x :: a, y :: b, z :: c, h1, h2 => by
    have ih := cb_le_lt a b c
    simp only [Lib.compareBytes, UInt8.lt_iff_toNat_lt] at h1 h2 ⊢
    by_cases p1 : y.toNat < x.toNat
    · rw [if_pos p1] at h1; exact absurd h1 (by decide)
    · rw [if_neg p1] at h1
      by_cases q1 : y.toNat < z.toNat
      · have : x.toNat < z.toNat := by omega
        rw [if_pos this]; decide
      · rw [if_neg q1] at h2
        by_cases q2 : z.toNat < y.toNat
        · rw [if_pos q2] at h2; exact absurd h2 (by decide)
        · rw [if_neg q2] at h2
          by_cases p2 : x.toNat < y.toNat
          · have : x.toNat < z.toNat := by omega
            rw [if_pos this]; decide
          · rw [if_neg p2] at h1
            rw [if_neg (by omega), if_neg (by omega)]
            exact ih h1 h2
theorem cb_eq : ∀ (a b : List UInt8), Lib.compareBytes a b = 0 ↔ a = b
  | [], [] => by simp [Lib.compareBytes]
  | [], y :: b => by simp [Lib.compareBytes]
  | x :: a, [] => by simp [Lib.compareBytes]
  | x :: a, y :: b => by
    have ih := cb_eq a b
    simp only [Lib.compareBytes, UInt8.lt_iff_toNat_lt]
    by_cases p1 : x.toNat < y.toNat
    · rw [if_pos p1]
      constructor
      · intro h; cases h
      · intro h; injection h with h _; subst h; omega
    · rw [if_neg p1]
      by_cases p2 : y.toNat < x.toNat
      · rw [if_pos p2]
        constructor
        · intro h; cases h
        · intro h; injection h with h _; subst h; omega
      · rw [if_neg p2, ih]
        have : x = y := UInt8.toNat_inj.1 (by omega)
        subst this
        simp
theorem cmpN_eq (a b : ByteArray) : cmpN a b = 0 ↔ a = b := by
  unfold cmpN
  rw [cb_eq]
  constructor
  · intro h
    cases a; cases b
    congr 1
    exact Array.toList_inj.1 h
  · intro h; rw [h]
theorem down_at (l : List Ent) : ∀ (m : Nat), downE l m = true → ∀ i, i < m → (h : i + 1 < l.length) → ¬ cmpN l[i + 1].1 (l[i]'(by omega)).1 < 0
  | 0, _, i, hi, _ => by omega
  | m + 1, hd, i, hi, h => by
    rw [downE, Bool.and_eq_true] at hd
    rcases (show i < m ∨ i = m by omega) with hlt | rfl
    · exact down_at l m hd.2 i hlt h
    · have h1 := hd.1
      rw [getD_ent l (i + 1) h, getD_ent l i (by omega)] at h1
      simpa using h1
theorem sorted_mono (l : List Ent) (t : ByteArray) (hs : sortedE l = true) : ∀ (a b : Nat) (ha : a < l.length) (hb : b < l.length), a ≤ b → cmpN l[b].1 t < 0 → cmpN l[a].1 t < 0 := by
  intro a b ha hb hab
  induction b with
  | zero =>
    intro h
    obtain rfl : a = 0 := by omega
    exact h
  | succ b ih =>
    intro h
    rcases (show a ≤ b ∨ a = b + 1 by omega) with h1 | rfl
    · refine ih (by omega) h1 ?_
      have h2 := down_at l (l.length - 1) hs b (by omega) hb
      exact cb_le_lt _ _ _ h2 h
    · exact h
end Go.Proofs.Ytiloeaenpanjcaa
