/- What the reference of bits reckons with, in plain words. No program in it. -/
import Derived.Test.YtpgkfabiflhkfaaP12
namespace Go.Sac
open Go.RowKit
set_option linter.unusedVariables false
set_option linter.unusedSimpArgs false

def hiT (b : List UInt8) (t : Int) : Nat := (min t (8 * (b.length : Int))).toNat
def shT (x k : Nat) : Nat := x / 2 ^ k
theorem shT_zero (x : Nat) : shT x 0 = x := by simp [shT]
theorem shT_succ (x k : Nat) : ((shT x (k + 1) : Nat) : Int) = ((shT x k : Nat) : Int) / 2 := by
  unfold shT
  rw [Nat.pow_succ, ← Nat.div_div_eq_div_mul]
  generalize x / 2 ^ k = y
  omega
theorem shT_le (x k : Nat) : shT x k ≤ x := Nat.div_le_self _ _
theorem getI_nat (b : List UInt8) (j : Nat) (h : j < 8 * b.length) : getI b (j : Int) = getT b j := by
  unfold getI
  rw [decide_eq_true (Int.natCast_nonneg j), decide_eq_true (show (j : Int) < 8 * b.length by omega)]; rfl
theorem getT_at (b : List UInt8) (j : Nat) (hj : j / 8 < b.length) : getT b j = b[j / 8].toNat.testBit (j % 8) := by
  unfold getT
  rw [List.getD_eq_getElem?_getD, List.getElem?_eq_getElem hj, Option.getD_some]
theorem shT_bit (b : List UInt8) (j : Nat) (hj : j / 8 < b.length) : (((shT b[j / 8].toNat (j % 8) : Nat) : Int) % 2 == 1) = getI b (j : Int) := by
  rw [getI_nat b j (by omega), getT_at b j hj, Nat.testBit_eq_decide_div_mod_eq]
  unfold shT
  generalize b[j / 8].toNat / 2 ^ (j % 8) = y
  rw [Bool.eq_iff_iff, beq_iff_eq, decide_eq_true_eq]
  omega
theorem setB_xor (x : UInt8) (r : Nat) (v : Bool) (hr : r < 8) (h : x.toNat.testBit r ≠ v) : bits BinOp.xor IntKind.u8 (x.toNat : Int) (2 ^ r % 256) = ((setB x r v).toNat : Int) := by
  have e : (((2 ^ r : Nat) : Int)) = ((UInt8.ofNat (2 ^ r)).toNat : Int) := by rw [UInt8.toNat_ofNat', Nat.mod_eq_of_lt (pow_wrap r hr).2]
  rw [(pow_wrap r hr).1, e, bits_xor_u8]
  congr 2
  apply byte_ext
  intro s hs
  rw [setB_bit _ _ _ hr hs, UInt8.toNat_xor, Nat.testBit_xor, UInt8.toNat_ofNat', Nat.mod_eq_of_lt (pow_wrap r hr).2, Nat.testBit_two_pow]
  by_cases hsr : s = r
  · subst hsr
    rw [if_pos rfl, decide_eq_true rfl]
    cases v <;> cases hx : x.toNat.testBit s <;> simp_all
  · rw [if_neg hsr, decide_eq_false (fun e => hsr e.symm), Bool.xor_false]
theorem setI_same (b : List UInt8) (i : Int) (v : Bool) (h : getI b i = v ∨ ¬ (0 ≤ i ∧ i < 8 * (b.length : Int))) : setI b i v = b := by
  unfold setI
  split
  · rename_i hr
    obtain ⟨h0, h1⟩ := hr
    obtain ⟨j, rfl⟩ := Int.eq_ofNat_of_zero_le h0
    rcases h with h | h
    · apply row_ext _ _ (setT_len _ _ _)
      intro k hk
      rw [setT_len] at hk
      show getT (setT b j v) k = _
      rw [get_setT b j k v (by omega)]
      rw [getI_nat b j (by omega)] at h
      split
      · rename_i e; rw [e, h]
      · rfl
    · exact absurd ⟨h0, h1⟩ h
  · rfl
def fU (b : List UInt8) (f t : Int) (k : Nat) : List Int := frT b f.toNat (min k t.toNat)
def cU (b : List UInt8) (f t : Int) (k : Nat) : Nat := cnT b f.toNat (min k t.toNat)
theorem fU_zero (b : List UInt8) (f t : Int) : fU b f t 0 = [] := by simp [fU, frT]
theorem fU_len (b : List UInt8) (f t : Int) (k : Nat) : (fU b f t k).length ≤ k := Nat.le_trans (frT_len _ _ _) (Nat.min_le_left _ _)
theorem cU_le (b : List UInt8) (f t : Int) (k : Nat) : cU b f t k ≤ k := Nat.le_trans (cnT_le _ _ _) (Nat.min_le_left _ _)
theorem fU_yes (b : List UInt8) (f t : Int) (k : Nat) (h1 : f ≤ k) (h2 : (k : Int) < t) (h3 : getT b k = false) : fU b f t (k + 1) = fU b f t k ++ [(k : Int)] := by
  unfold fU
  rw [Nat.min_eq_left (by omega), Nat.min_eq_left (by omega), frT_succ, if_pos ⟨by omega, h3⟩]
theorem fU_no (b : List UInt8) (f t : Int) (k : Nat) (h : ¬ (f ≤ k ∧ (k : Int) < t ∧ getT b k = false)) : fU b f t (k + 1) = fU b f t k := by
  unfold fU
  by_cases h2 : (k : Int) < t
  · rw [Nat.min_eq_left (by omega), Nat.min_eq_left (by omega), frT_succ, if_neg (by rintro ⟨a, b⟩; exact h ⟨by omega, h2, b⟩), List.append_nil]
  · rw [Nat.min_eq_right (by omega), Nat.min_eq_right (by omega)]
theorem fU_end (b : List UInt8) (f t : Int) : fU b f t (8 * b.length) = frT b f.toNat (hiT b t) := by
  unfold fU hiT; congr 1; omega
theorem cU_yes (b : List UInt8) (f t : Int) (k : Nat) (h1 : f ≤ k) (h2 : (k : Int) < t) (h3 : getT b k = true) : cU b f t (k + 1) = cU b f t k + 1 := by
  unfold cU
  rw [Nat.min_eq_left (by omega), Nat.min_eq_left (by omega), cnT_succ, if_pos ⟨by omega, h3⟩]
theorem cU_no (b : List UInt8) (f t : Int) (k : Nat) (h : ¬ (f ≤ k ∧ (k : Int) < t ∧ getT b k = true)) : cU b f t (k + 1) = cU b f t k := by
  unfold cU
  by_cases h2 : (k : Int) < t
  · rw [Nat.min_eq_left (by omega), Nat.min_eq_left (by omega), cnT_succ, if_neg (by rintro ⟨a, b⟩; exact h ⟨by omega, h2, b⟩), Nat.add_zero]
  · rw [Nat.min_eq_right (by omega), Nat.min_eq_right (by omega)]
theorem cU_end (b : List UInt8) (f t : Int) : cU b f t (8 * b.length) = cnT b f.toNat (hiT b t) := by
  unfold cU hiT; congr 1; omega
/-- the first that is free, or none -/
def fiT (b : List UInt8) (f t : Int) : Int := (frT b f.toNat (hiT b t)).headD (-1)
def soL (b : List UInt8) (n f t : Int) : List Int := if n ≤ ((frT b f.toNat (hiT b t)).length : Int) then (frT b f.toNat (hiT b t)).take n.toNat else []
def soE (b : List UInt8) (n f t : Int) : Int := if n ≤ ((frT b f.toNat (hiT b t)).length : Int) then 0 else 12
end Go.Sac
