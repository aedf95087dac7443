/- Plain: bytes as ten numbers. -/
import Derived.Test.YtmebgejjaljhgaaN13RefEncode
import Derived.Test.YtmebgejjaljhgaaCGetRef
namespace Go.Proofs.Ytmebgejjaljhgaa
open Go.RowKit Go.Sac
set_option linter.unusedVariables false
set_option linter.unusedSimpArgs false

def offI : Nat → Nat
  | 0 => 0
  | k + 1 => offI k + wideI k
def fldL (b : List UInt8) (k : Nat) : List UInt8 := (b.drop (offI k)).take (wideI k)
def fldI (b : List UInt8) (k : Nat) : Nat := getB (fldL b k)
/-- the first k numbers, noughts behind -/
def decK (b : List UInt8) (k : Nat) : List Int := (List.range 10).map fun j => if j < k then (fldI b j : Int) else 0
def decL (b : List UInt8) : List Int := decK b 10
theorem decK_len (b : List UInt8) (k : Nat) : (decK b k).length = 10 := by simp [decK]
theorem decK_zero (b : List UInt8) : decK b 0 = zeroI := by simp [decK, zeroI]; rfl
theorem decK_step (b : List UInt8) (k : Nat) (h : k < 10) : (decK b k).set k (fldI b k : Int) = decK b (k + 1) := by
  apply List.ext_getElem
  · simp [decK]
  · intro i h1 h2
    simp only [decK, List.getElem_set, List.getElem_map, List.getElem_range]
    by_cases hik : k = i
    · subst hik; simp
    · rw [if_neg hik]
      by_cases hlt : i < k
      · rw [if_pos hlt, if_pos (by omega)]
      · rw [if_neg hlt, if_neg (by omega)]
theorem decL_at (b : List UInt8) (k : Nat) (h : k < 10) : (decL b).getD k 0 = (fldI b k : Int) := by
  unfold decL decK
  rw [List.getD_eq_getElem?_getD, List.getElem?_map, List.getElem?_range h]
  simp [h]
theorem offI_le (k : Nat) (h : k ≤ 10) : offI k ≤ 35 := by
  rcases (show k = 0 ∨ k = 1 ∨ k = 2 ∨ k = 3 ∨ k = 4 ∨ k = 5 ∨ k = 6 ∨ k = 7 ∨ k = 8 ∨ k = 9 ∨ k = 10 by omega) with rfl | rfl | rfl | rfl | rfl | rfl | rfl | rfl | rfl | rfl | rfl <;> decide
theorem fldL_le (b : List UInt8) (k : Nat) : (fldL b k).length ≤ 4 := by unfold fldL; rw [List.length_take]; have := wideI_le k; omega
theorem getB_small (l : List UInt8) (h : l.length ≤ 8) : getB l = num l := by unfold getB; rw [show l.length - 8 = 0 by omega, List.drop_zero]
theorem fldI_lt (b : List UInt8) (k : Nat) : fldI b k < 4294967296 := by
  unfold fldI
  have h := fldL_le b k
  rw [getB_small _ (by omega)]
  have h1 := num_lt (fldL b k)
  have h2 : 256 ^ (fldL b k).length ≤ 256 ^ 4 := Nat.pow_le_pow_right (by decide) h
  omega
theorem putB_num : ∀ (l : List UInt8), putB (num l) l.length = l := by
  have key : ∀ (l : List UInt8) (n : Nat), putB (n * 256 ^ l.length + num l) l.length = l := by
    intro l
    induction l with
    | nil => intro n; rfl
    | cons c r ih =>
      intro n
      have e : num (c :: r) = c.toNat * 256 ^ r.length + num r := by
        have := num_app [c] r
        simpa [num] using this
      have h2 : n * 256 ^ (c :: r).length + num (c :: r) = (n * 256 + c.toNat) * 256 ^ r.length + num r := by
        rw [e, List.length_cons, Nat.pow_succ, Nat.add_mul, Nat.mul_assoc, Nat.mul_comm 256]; omega
      rw [h2]
      show UInt8.ofNat (((n * 256 + c.toNat) * 256 ^ r.length + num r) / 256 ^ r.length) :: putB _ r.length = c :: r
      rw [ih]
      congr 1
      have h3 := num_lt r
      rw [Nat.mul_comm, Nat.mul_add_div (Nat.pow_pos (by decide)), Nat.div_eq_of_lt h3, Nat.add_zero]
      apply UInt8.toNat_inj.1
      rw [UInt8.toNat_ofNat']
      have := c.toNat_lt
      omega
  intro l
  have := key l 0
  simpa using this
theorem encL_dec (b : List UInt8) (k : Nat) (hk : k ≤ 10) (hb : offI k ≤ b.length) : encL (decL b) k = b.take (offI k) := by
  induction k with
  | zero => simp [encL, offI]
  | succ k ih =>
    have h1 : offI k ≤ b.length := by have : offI (k + 1) = offI k + wideI k := rfl; omega
    have h2 : offI k + wideI k ≤ b.length := hb
    rw [encL, ih (by omega) h1]
    have hl : (fldL b k).length = wideI k := by unfold fldL; rw [List.length_take, List.length_drop]; omega
    have e : oneI (decL b) k = fldL b k := by
      unfold oneI
      rw [decL_at b k (by omega), Int.toNat_natCast]
      unfold fldI
      rw [getB_small _ (by rw [hl]; have := wideI_le k; omega), ← hl, putB_num]
    rw [e]
    show _ = b.take (offI k + wideI k)
    rw [List.take_add]
    rfl
/-- may these bytes be an inode? -/
def decP (b : List UInt8) : Bool := decide (35 ≤ b.length) && rightB (decL b) && (b == encB (decL b))
theorem encB_right {xs : List Int} (h : rightB xs = true) : encB xs = padB (encL xs 10) 64 := if_pos h
theorem off10 : offI 10 = 35 := rfl
theorem decP_ref (b : List UInt8) : decP b = (decide (b.length = 64) && (b.drop 35).all (· == 0) && rightB (decL b)) := by
  unfold decP
  cases hr : rightB (decL b)
  · simp
  · by_cases h : 35 ≤ b.length
    · have he : encB (decL b) = b.take 35 ++ List.replicate 29 0 := by
        rw [encB_right hr, encL_dec b 10 (Nat.le_refl _) (by rw [off10]; exact h), off10]
        unfold padB
        rw [List.length_take, show (64 : Int).toNat - min 35 b.length = 29 by rw [Nat.min_eq_left h]; rfl]
      rw [he, Bool.eq_iff_iff]
      simp only [h, decide_true, Bool.true_and, Bool.and_true, beq_iff_eq, Bool.and_eq_true, decide_eq_true_eq, List.all_eq_true]
      constructor
      · intro e
        have hl : b.length = 64 := by
          have := congrArg List.length e
          rw [List.length_append, List.length_take, List.length_replicate] at this
          omega
        refine ⟨hl, fun x hx => ?_⟩
        have h3 : b.drop 35 = List.replicate 29 0 := by
          have h4 : b.take 35 ++ b.drop 35 = b.take 35 ++ List.replicate 29 0 := by rw [List.take_append_drop]; exact e
          exact List.append_cancel_left h4
        rw [h3] at hx
        exact (List.mem_replicate.1 hx).2
      · rintro ⟨hl, hz⟩
        have h3 : b.drop 35 = List.replicate 29 0 := List.eq_replicate_iff.2 ⟨by rw [List.length_drop]; omega, hz⟩
        rw [← h3, List.take_append_drop]
    · have h2 : ¬ b.length = 64 := by omega
      simp [h, h2]
end Go.Proofs.Ytmebgejjaljhgaa
