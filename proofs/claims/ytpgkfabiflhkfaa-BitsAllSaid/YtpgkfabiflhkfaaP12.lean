/- Bits of rows, in plain words. No program in it. -/
import Derived.Test.YtpgkfabiflhkfaaBase3
import Derived.Lib.BitFns
namespace Go.Sac
open Go.RowKit
set_option linter.unusedVariables false
set_option linter.unusedSimpArgs false

/-- The j-th bit of a row. -/
def getT (b : List UInt8) (j : Nat) : Bool := (b.getD (j / 8) 0).toNat.testBit (j % 8)
/-- A byte with its r-th bit so. -/
def setB (x : UInt8) (r : Nat) (v : Bool) : UInt8 := if v then x ||| UInt8.ofNat (2 ^ r) else x &&& ~~~ UInt8.ofNat (2 ^ r)
def setT (b : List UInt8) (j : Nat) (v : Bool) : List UInt8 := b.set (j / 8) (setB (b.getD (j / 8) 0) (j % 8) v)
def getI (b : List UInt8) (i : Int) : Bool := decide (0 ≤ i) && decide (i < 8 * b.length) && getT b i.toNat
def setI (b : List UInt8) (i : Int) (v : Bool) : List UInt8 := if 0 ≤ i ∧ i < 8 * b.length then setT b i.toNat v else b

theorem u8_bit (x : UInt8) (s : Nat) : x.toNat.testBit s = x.toBitVec.getLsbD s := rfl
theorem setB_bit (x : UInt8) (r s : Nat) (hr : r < 8) (hs : s < 8) (v : Bool) : (setB x r v).toNat.testBit s = if s = r then v else x.toNat.testBit s := by
  unfold setB
  have hp : (UInt8.ofNat (2 ^ r)).toBitVec.getLsbD s = decide (s = r) := by
    rw [← u8_bit, UInt8.toNat_ofNat', Nat.testBit_mod_two_pow, Nat.testBit_two_pow]
    have : s < 8 := hs
    simp [this, eq_comm]
  cases v
  · rw [if_neg (by simp), u8_bit, UInt8.toBitVec_and, UInt8.toBitVec_not, BitVec.getLsbD_and, BitVec.getLsbD_not, hp, ← u8_bit]
    by_cases h : s = r <;> simp [h, hs]
  · rw [if_pos rfl, u8_bit, UInt8.toBitVec_or, BitVec.getLsbD_or, hp, ← u8_bit]
    by_cases h : s = r <;> simp [h]
theorem byte_ext (x y : UInt8) (h : ∀ s < 8, x.toNat.testBit s = y.toNat.testBit s) : x = y := by
  apply UInt8.toNat_inj.1
  apply Nat.eq_of_testBit_eq
  intro s
  by_cases hs : s < 8
  · exact h s hs
  · have hp : (2 : Nat) ^ 8 ≤ 2 ^ s := Nat.pow_le_pow_right (by decide) (by omega)
    rw [Nat.testBit_lt_two_pow (Nat.lt_of_lt_of_le x.toNat_lt hp), Nat.testBit_lt_two_pow (Nat.lt_of_lt_of_le y.toNat_lt hp)]
theorem pow_wrap (r : Nat) (hr : r < 8) : ((2 : Int) ^ r % 256) = ((2 ^ r : Nat) : Int) ∧ 2 ^ r < 256 := by
  have hp : (2 : Nat) ^ r < 256 := Nat.lt_of_lt_of_le (Nat.pow_lt_pow_right (by decide) hr) (by decide)
  have e : ((2 : Int) ^ r) = ((2 ^ r : Nat) : Int) := by rw [Int.natCast_pow]; rfl
  exact ⟨by rw [e]; exact Int.emod_eq_of_lt (Int.natCast_nonneg _) (Int.ofNat_lt.2 hp), hp⟩
theorem setB_off (x : UInt8) (r : Nat) (hr : r < 8) : bits BinOp.andNot IntKind.u8 (x.toNat : Int) (2 ^ r % 256) = ((setB x r false).toNat : Int) := by
  rw [(pow_wrap r hr).1]
  have hv : (BitVec.ofInt 8 (x.toNat : Int) &&& ~~~ BitVec.ofInt 8 ((2 ^ r : Nat) : Int)) = (setB x r false).toBitVec := by
    rw [BitVec.ofInt_natCast, BitVec.ofInt_natCast, setB, if_neg (by simp), UInt8.toBitVec_and, UInt8.toBitVec_not]
    congr 1
    exact BitVec.ofNat_toNat ..
  show IntKind.u8.wrap ((BitVec.ofInt 8 (x.toNat : Int) &&& ~~~ BitVec.ofInt 8 ((2 ^ r : Nat) : Int)).toNat : Int) = _
  rw [hv]
  have := (setB x r false).toNat_lt
  exact wrap_u8_small _ (Int.natCast_nonneg _) (by show (((setB x r false).toNat : Nat) : Int) < 256; omega)
theorem setB_on (x : UInt8) (r : Nat) (hr : r < 8) : bits BinOp.or IntKind.u8 (x.toNat : Int) (2 ^ r % 256) = ((setB x r true).toNat : Int) := by
  have e : (((2 ^ r : Nat) : Int)) = ((UInt8.ofNat (2 ^ r)).toNat : Int) := by rw [UInt8.toNat_ofNat', Nat.mod_eq_of_lt (pow_wrap r hr).2]
  rw [(pow_wrap r hr).1, e, bits_or_u8]; rfl
theorem setB_two (x : UInt8) (r : Nat) (hr : r < 8) : setB (setB x r false) r true = setB x r true := by
  apply byte_ext
  intro s hs
  rw [setB_bit _ _ _ hr hs, setB_bit _ _ _ hr hs, setB_bit _ _ _ hr hs]
  split <;> rfl
theorem setT_len (b : List UInt8) (j : Nat) (v : Bool) : (setT b j v).length = b.length := by simp [setT]
theorem get_setT (b : List UInt8) (j k : Nat) (v : Bool) (hj : j < 8 * b.length) : getT (setT b j v) k = if k = j then v else getT b k := by
  unfold getT setT
  by_cases h : k / 8 = j / 8
  · have hl : j / 8 < b.length := by omega
    rw [h, List.getD_eq_getElem?_getD, List.getElem?_set_self hl, Option.getD_some, setB_bit _ _ _ (Nat.mod_lt _ (by decide)) (Nat.mod_lt _ (by decide))]
    by_cases hk : k = j
    · simp [hk]
    · rw [if_neg hk, if_neg (by omega)]
  · rw [List.getD_eq_getElem?_getD, List.getElem?_set_ne (by omega), ← List.getD_eq_getElem?_getD, if_neg (by rintro rfl; exact h rfl)]
theorem setI_len (b : List UInt8) (i : Int) (v : Bool) : (setI b i v).length = b.length := by unfold setI; split <;> simp [setT_len]
theorem row_ext (b c : List UInt8) (hl : b.length = c.length) (h : ∀ k < 8 * b.length, getT b k = getT c k) : b = c := by
  apply List.ext_getElem hl
  intro i h1 h2
  apply byte_ext
  intro s hs
  have hk := h (8 * i + s) (by omega)
  unfold getT at hk
  rw [show (8 * i + s) / 8 = i by omega, show (8 * i + s) % 8 = s by omega] at hk
  simpa [List.getD_eq_getElem?_getD, List.getElem?_eq_getElem h1, List.getElem?_eq_getElem h2] using hk

/-! ### which are free, and how many are taken -/
def frT (b : List UInt8) (lo n : Nat) : List Int := ((List.range n).filter (fun j => decide (lo ≤ j) && !getT b j)).map Int.ofNat
def cnT (b : List UInt8) (lo n : Nat) : Nat := ((List.range n).filter (fun j => decide (lo ≤ j) && getT b j)).length
theorem frT_succ (b : List UInt8) (lo n : Nat) : frT b lo (n + 1) = frT b lo n ++ (if lo ≤ n ∧ getT b n = false then [(n : Int)] else []) := by
  unfold frT
  rw [List.range_succ, List.filter_append, List.map_append]
  congr 1
  by_cases h1 : lo ≤ n <;> cases h2 : getT b n <;> simp [h1, h2]
theorem cnT_succ (b : List UInt8) (lo n : Nat) : cnT b lo (n + 1) = cnT b lo n + (if lo ≤ n ∧ getT b n = true then 1 else 0) := by
  unfold cnT
  rw [List.range_succ, List.filter_append, List.length_append]
  congr 1
  by_cases h1 : lo ≤ n <;> cases h2 : getT b n <;> simp [h1, h2]
theorem frT_low (b : List UInt8) (lo n : Nat) (h : n ≤ lo) : frT b lo n = [] := by
  induction n with
  | zero => rfl
  | succ n ih => rw [frT_succ, ih (by omega), if_neg (by omega)]; rfl
theorem cnT_low (b : List UInt8) (lo n : Nat) (h : n ≤ lo) : cnT b lo n = 0 := by
  induction n with
  | zero => rfl
  | succ n ih => rw [cnT_succ, ih (by omega), if_neg (by omega)]
theorem frT_len (b : List UInt8) (lo n : Nat) : (frT b lo n).length ≤ n := by
  induction n with
  | zero => simp [frT]
  | succ n ih => rw [frT_succ, List.length_append]; split <;> simp <;> omega
theorem cnT_le (b : List UInt8) (lo n : Nat) : cnT b lo n ≤ n := by
  induction n with
  | zero => simp [cnT]
  | succ n ih => rw [cnT_succ]; split <;> omega
/-- ones of a byte, of k bits from the r-th on -/
def ones (x : Nat) (r : Nat) : Nat → Nat
  | 0 => 0
  | k + 1 => ones x r k + (if x.testBit (r + k) then 1 else 0)
theorem cnT_add (b : List UInt8) (lo i k : Nat) (hl : lo ≤ i) (hk : i % 8 + k ≤ 8) : cnT b lo (i + k) = cnT b lo i + ones (b.getD (i / 8) 0).toNat (i % 8) k := by
  induction k with
  | zero => simp [ones]
  | succ k ih =>
    rw [← Nat.add_assoc, cnT_succ, ih (by omega), ones, Nat.add_assoc]
    congr 2
    unfold getT
    rw [show (i + k) / 8 = i / 8 by omega, show (i + k) % 8 = i % 8 + k by omega]
    simp [show lo ≤ i + k by omega]
theorem ones_le (x r k : Nat) : ones x r k ≤ k := by
  induction k with
  | zero => simp [ones]
  | succ k ih => rw [ones]; split <;> omega
theorem mask_val (x : UInt8) (r k : Nat) (h : r + k ≤ 8) (hr : r < 8) : bits BinOp.and IntKind.u8 (x.toNat : Int) (wrap64 (wrap64 (wrap64 (2 ^ k) - 1) * 2 ^ r) % 256) = ((x.toNat &&& ((2 ^ k - 1) * 2 ^ r) : Nat) : Int) := by
  have hp : (2 ^ k - 1) * 2 ^ r < 256 := by
    have h1 : 2 ^ (r + k) ≤ 2 ^ 8 := Nat.pow_le_pow_right (by decide) h
    have h2 : 0 < 2 ^ r := Nat.pow_pos (by decide)
    rw [Nat.pow_add] at h1
    rw [Nat.sub_mul, Nat.one_mul, Nat.mul_comm]
    omega
  have hk : 0 < 2 ^ k := Nat.pow_pos (by decide)
  have hk2 : 2 ^ k ≤ 2 ^ 8 := Nat.pow_le_pow_right (by decide) (by omega)
  have e1 : ((2 : Int) ^ k) = ((2 ^ k : Nat) : Int) := by rw [Int.natCast_pow]; rfl
  have e2 : ((2 : Int) ^ r) = ((2 ^ r : Nat) : Int) := by rw [Int.natCast_pow]; rfl
  have small : ∀ m : Nat, m ≤ 256 → wrap64 (m : Int) = (m : Int) := by intro m hm; unfold wrap64; omega
  rw [e1, e2, small _ hk2, show ((2 ^ k : Nat) : Int) - 1 = ((2 ^ k - 1 : Nat) : Int) by rw [Int.natCast_sub hk]; rfl, small _ (by omega), ← Int.natCast_mul, small _ (by omega)]
  have e3 : ((((2 ^ k - 1) * 2 ^ r : Nat) : Int) % 256) = (((2 ^ k - 1) * 2 ^ r : Nat) : Int) := Int.emod_eq_of_lt (Int.natCast_nonneg _) (Int.ofNat_lt.2 hp)
  rw [e3, (bits_nat .u8 8 (by decide) (fun n h0 h1 => wrap_u8_small n h0 (by omega)) x.toNat _ x.toNat_lt hp).1]
theorem ones_all : ∀ x : Fin 256, Lib.onesCount x.val = ones x.val 0 8 := by decide +kernel
theorem ones_low (x k : Nat) : ones x 0 k = ((List.range k).map (fun s => if x.testBit s then 1 else 0)).sum := by
  induction k with
  | zero => rfl
  | succ k ih => rw [ones, ih, List.range_succ, List.map_append, List.sum_append]; simp
theorem ones_mask (x r k : Nat) (j : Nat) : ones (x &&& ((2 ^ k - 1) * 2 ^ r)) 0 j = if j ≤ r then 0 else if j ≤ r + k then ones x r (j - r) else ones x r k := by
  induction j with
  | zero => simp [ones]
  | succ j ih =>
    have hb : (x &&& ((2 ^ k - 1) * 2 ^ r)).testBit (0 + j) = (x.testBit j && (decide (r ≤ j) && decide (j < r + k))) := by
      rw [Nat.zero_add, Nat.testBit_and, Nat.testBit_mul_two_pow, Nat.testBit_two_pow_sub_one]
      by_cases hr : r ≤ j
      · have : (j - r < k) ↔ (j < r + k) := by omega
        simp [hr, this]
      · simp [hr]
    rw [ones, ih, hb]
    by_cases h1 : j + 1 ≤ r
    · rw [if_pos h1, if_pos (show j ≤ r by omega)]; simp [show ¬ r ≤ j by omega]
    · rw [if_neg h1]
      by_cases h2 : j + 1 ≤ r + k
      · rw [if_pos h2, show j + 1 - r = (j - r) + 1 by omega, ones, show r + (j - r) = j by omega]
        by_cases h3 : j ≤ r
        · obtain rfl : j = r := by omega
          rw [if_pos (Nat.le_refl _), Nat.sub_self]
          cases h4 : x.testBit j <;> simp [ones, show 0 < k by omega]
        · rw [if_neg h3, if_pos (by omega)]
          congr 1
          cases h4 : x.testBit j <;> simp
          omega
      · rw [if_neg h2]
        have h5 : ¬ j < r + k := by omega
        by_cases h3 : j ≤ r
        · have : k = 0 := by omega
          subst this
          rw [if_pos h3]; simp [ones, h5]
        · rw [if_neg h3]
          by_cases h4 : j ≤ r + k
          · obtain rfl : j = r + k := by omega
            rw [if_pos (Nat.le_refl _), show r + k - r = k by omega]; simp [h5]
          · rw [if_neg h4]; simp [h5]
theorem mask_ones (x r k : Nat) (hx : x < 256) (h : r + k ≤ 8) : Lib.onesCount (x &&& ((2 ^ k - 1) * 2 ^ r)) = ones x r k := by
  have h1 := ones_all ⟨x &&& ((2 ^ k - 1) * 2 ^ r), Nat.lt_of_le_of_lt Nat.and_le_left hx⟩
  simp only at h1
  rw [h1, ones_mask]
  by_cases h2 : 8 ≤ r
  · have : k = 0 := by omega
    subst this
    rw [if_pos h2]; rfl
  · rw [if_neg h2]
    by_cases h3 : 8 ≤ r + k
    · rw [if_pos h3, show 8 - r = k by omega]
    · rw [if_neg h3]
end Go.Sac
