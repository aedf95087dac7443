/- Plain: what is encoded is decoded as it was. -/
import Derived.Test.YtmebgejjaljhgaaN13Spans
namespace Go.Proofs.Ytmebgejjaljhgaa
open Go.RowKit Go.Sac
set_option linter.unusedVariables false
set_option linter.unusedSimpArgs false

theorem num_cons (c : UInt8) (r : List UInt8) : num (c :: r) = c.toNat * 256 ^ r.length + num r := by
  have := num_app [c] r
  simpa [num] using this
theorem num_putB (n k : Nat) : num (putB n k) = n % 256 ^ k := by
  induction k with
  | zero => simp [putB, num]; omega
  | succ k ih =>
    have h : n % (256 ^ k * 256) = n % 256 ^ k + 256 ^ k * (n / 256 ^ k % 256) := Nat.mod_mul
    have e : 256 ^ (k + 1) = 256 ^ k * 256 := Nat.pow_succ _ _
    have p : (2 : Nat) ^ 8 = 256 := rfl
    rw [putB, num_cons, putB_len, ih, UInt8.toNat_ofNat', p, e, h, Nat.mul_comm (256 ^ k), Nat.add_comm]
theorem encL_off (xs : List Int) (k : Nat) : (encL xs k).length = offI k := by
  induction k with
  | zero => rfl
  | succ k ih => rw [encL, List.length_append, oneI_len, ih]; rfl
theorem offI_mono2 {k n : Nat} (h : k ≤ n) : offI k ≤ offI n := by
  induction n with
  | zero => have : k = 0 := by omega
            subst this; exact Nat.le_refl _
  | succ n ih =>
    rcases (show k ≤ n ∨ k = n + 1 by omega) with h | rfl
    · have := ih h
      have e : offI (n + 1) = offI n + wideI n := rfl
      omega
    · exact Nat.le_refl _
theorem encL_fld (xs : List Int) (n : Nat) : ∀ k, k < n → ∀ r, ((encL xs n ++ r).drop (offI k)).take (wideI k) = oneI xs k := by
  induction n with
  | zero => intro k h; omega
  | succ n ih =>
    intro k hk r
    rcases (show k < n ∨ k = n by omega) with h | rfl
    · rw [encL, List.append_assoc]
      exact ih k h _
    · rw [encL, List.append_assoc, List.drop_left' (encL_off xs k), List.take_left' (oneI_len xs k)]
theorem mostI_lt (k : Nat) : mostI k < (256 ^ wideI k : Nat) := by
  unfold mostI wideI
  split
  · decide
  · split
    · decide
    · split <;> decide
theorem dec_enc {xs : List Int} (hx : xs.length = 10) (hr : rightB xs = true) : decL (encB xs) = xs := by
  have hI := (of_decide_eq_true hr).1
  have key : ∀ k, k < 10 → (fldI (encB xs) k : Int) = xs.getD k 0 := by
    intro k hk
    have hin := hI k hk
    unfold inI at hin
    have hm := mostI_lt k
    unfold fldI
    rw [getB_small _ (by have := fldL_le (encB xs) k; omega)]
    have e : fldL (encB xs) k = oneI xs k := by
      unfold fldL
      rw [encB_right hr]
      exact encL_fld xs 10 k hk _
    rw [e]
    unfold oneI
    rw [num_putB, Nat.mod_eq_of_lt (by omega)]
    omega
  apply List.ext_getElem
  · rw [hx]; exact decK_len _ 10
  · intro i h1 h2
    have hi : i < 10 := by rw [hx] at h2; exact h2
    have e1 := decL_at (encB xs) i hi
    have e2 := key i hi
    rw [getD_at _ _ h1] at e1
    rw [getD_at _ _ h2] at e2
    rw [e1, e2]
theorem encB_len {xs : List Int} (hr : rightB xs = true) : (encB xs).length = 64 := by
  rw [encB_right hr]
  unfold padB
  rw [List.length_append, List.length_replicate, encL_off, off10]
  rfl
theorem decP_enc {xs : List Int} (hx : xs.length = 10) (hr : rightB xs = true) : decP (encB xs) = true := by
  unfold decP
  rw [dec_enc hx hr, hr, encB_len hr]
  simp
theorem decX_enc {xs : List Int} (hx : xs.length = 10) (hr : rightB xs = true) : decX (encB xs) = xs ∧ decE (encB xs) = 0 := by
  have := dec_yes (decP_enc hx hr)
  rw [this.1, this.2]
  exact ⟨dec_enc hx hr, rfl⟩
end Go.Proofs.Ytmebgejjaljhgaa
