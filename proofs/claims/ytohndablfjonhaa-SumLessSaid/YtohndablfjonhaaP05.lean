/- Plain: digests as numbers. No program in it. -/
import Derived.Test.YtohndablfjonhaaNumMore
import Derived.Test.YtohndablfjonhaaS05Digest
namespace Go.Proofs.Ytohndablfjonhaa
open Go.RowKit Go.Sac
set_option linter.unusedVariables false
set_option linter.unusedSimpArgs false

/-- how many digests there are -/
def MM : Nat := 256 ^ 32
theorem MM_eq : MM = 115792089237316195423570985008687907853269984665640564039457584007913129639936 := by decide +kernel
theorem MM_pos : 0 < MM := by unfold MM; exact Nat.pow_pos (by decide)
theorem num_MM (d : List UInt8) (h : d.length = 32) : num d < MM := by have := num_lt d; rw [h] at this; exact this
/-- a number as a digest -/
def ofN (n : Nat) : List UInt8 := putB n 32
theorem ofN_len (n : Nat) : (ofN n).length = 32 := putB_len n 32
theorem num_ofN (n : Nat) : num (ofN n) = n % MM := putB_num n 32
theorem ofN_num (d : List UInt8) (h : d.length = 32) : ofN (num d) = d := by
  refine num_inj _ _ (by rw [ofN_len, h]) ?_
  rw [num_ofN, Nat.mod_eq_of_lt (num_MM d h)]
theorem eq_ofN (d : List UInt8) (n : Nat) (h : d.length = 32) (hn : num d % MM = n % MM) : d = ofN n := by
  refine num_inj _ _ (by rw [ofN_len, h]) ?_
  rw [num_ofN, ← hn, Nat.mod_eq_of_lt (num_MM d h)]
def addN (a b : List UInt8) : List UInt8 := ofN (num a + num b)
def subN (a b : List UInt8) : List UInt8 := ofN (num a + MM - num b)
theorem addN_len (a b : List UInt8) : (addN a b).length = 32 := ofN_len _
theorem subN_len (a b : List UInt8) : (subN a b).length = 32 := ofN_len _

/-- a digest's number, of its words -/
theorem num_words (d : List UInt8) (h : d.length = 32) : num d = wordT d 0 + 18446744073709551616 * (wordT d 1 + 18446744073709551616 * (wordT d 2 + 18446744073709551616 * wordT d 3)) := by
  have e : ∀ i, i < 4 → wordT d i = num ((d.take (32 - 8 * i)).drop (24 - 8 * i)) := by
    intro i hi
    unfold wordT
    exact getB_small _ (by rw [List.length_drop, List.length_take]; omega)
  rw [e 0 (by omega), e 1 (by omega), e 2 (by omega), e 3 (by omega)]
  simp only [Nat.mul_zero, Nat.sub_zero, Nat.mul_one, Nat.reduceMul, Nat.reduceSub, List.drop_zero]
  have h4 : d = d.take 8 ++ ((d.take 16).drop 8 ++ ((d.take 24).drop 16 ++ (d.take 32).drop 24)) := by
    apply List.ext_getElem
    · simp only [List.length_append, List.length_drop, List.length_take, h]; omega
    · intro i h1 h2
      simp only [List.getElem_append, List.getElem_drop, List.getElem_take, List.length_append, List.length_drop, List.length_take, h]
      split
      · rfl
      · split
        · congr 1; omega
        · split
          · congr 1; omega
          · congr 1; omega
  have l1 : ((d.take 16).drop 8).length = 8 := by simp [h]
  have l2 : ((d.take 24).drop 16).length = 8 := by simp [h]
  have l3 : ((d.take 32).drop 24).length = 8 := by simp [h]
  conv => lhs; rw [h4]
  rw [num_app, num_app, num_app, List.length_append, List.length_append, l1, l2, l3]
  generalize num (d.take 8) = A
  generalize num ((d.take 16).drop 8) = B
  generalize num ((d.take 24).drop 16) = C
  generalize num ((d.take 32).drop 24) = D
  omega
theorem word_lt (d : List UInt8) (i : Nat) : wordT d i < 18446744073709551616 := by
  unfold wordT getB
  have := num_lt ((((d.take (32 - 8 * i)).drop (24 - 8 * i))).drop (((d.take (32 - 8 * i)).drop (24 - 8 * i)).length - 8))
  have h8 : ((((d.take (32 - 8 * i)).drop (24 - 8 * i))).drop (((d.take (32 - 8 * i)).drop (24 - 8 * i)).length - 8)).length ≤ 8 := by rw [List.length_drop]; omega
  have := Nat.pow_le_pow_right (n := 256) (by decide) h8
  omega
theorem num_digT (x y z u : Nat) (hx : x < 18446744073709551616) (hy : y < 18446744073709551616) (hz : z < 18446744073709551616) (hu : u < 18446744073709551616) :
    num (digT [x, y, z, u] 4) = x + 18446744073709551616 * (y + 18446744073709551616 * (z + 18446744073709551616 * u)) := by
  have e : digT [x, y, z, u] 4 = putB u 8 ++ (putB z 8 ++ (putB y 8 ++ putB x 8)) := by simp [digT]
  rw [e, num_app, num_app, num_app, List.length_append, List.length_append]
  simp only [putB_len, putB_num]
  omega
/-- carries -/
def car (x y : Nat → Nat) : Nat → Nat
  | 0 => 0
  | k + 1 => (x k + y k + car x y k) / 18446744073709551616
def sumw (x y : Nat → Nat) (k : Nat) : Nat := (x k + y k + car x y k) % 18446744073709551616
def bor (x y : Nat → Nat) : Nat → Nat
  | 0 => 0
  | k + 1 => if x k < y k + bor x y k then 1 else 0
def difw (x y : Nat → Nat) (k : Nat) : Nat := (x k + 18446744073709551616 - y k - bor x y k) % 18446744073709551616
theorem difw_eq (x y : Nat → Nat) (k : Nat) : (x k + 18446744073709551616 - y k - bor x y k) % 18446744073709551616 = difw x y k := by rw [difw]
theorem bor_eq (x y : Nat → Nat) (k : Nat) : (if x k < y k + bor x y k then 1 else 0) = bor x y (k + 1) := by rw [bor]
theorem sumw_eq (x y : Nat → Nat) (k : Nat) : (x k + y k + car x y k) % 18446744073709551616 = sumw x y k := by rw [sumw]
theorem car_eq (x y : Nat → Nat) (k : Nat) : (x k + y k + car x y k) / 18446744073709551616 = car x y (k + 1) := by rw [car]
theorem difw_le (x y : Nat → Nat) (k : Nat) : difw x y k ≤ 18446744073709551615 := by
  have := Nat.mod_lt (x k + 18446744073709551616 - y k - bor x y k) (show 18446744073709551616 > 0 by decide)
  rw [difw]; omega
theorem sumw_le (x y : Nat → Nat) (k : Nat) : sumw x y k ≤ 18446744073709551615 := by
  have := Nat.mod_lt (x k + y k + car x y k) (show 18446744073709551616 > 0 by decide)
  rw [sumw]; omega
theorem car_le (x y : Nat → Nat) (hx : ∀ k, x k < 18446744073709551616) (hy : ∀ k, y k < 18446744073709551616) : ∀ k, car x y k ≤ 1
  | 0 => by simp [car]
  | k + 1 => by have h1 := car_le x y hx hy k; have h2 := hx k; have h3 := hy k; rw [car]; omega
theorem bor_le (x y : Nat → Nat) : ∀ k, bor x y k ≤ 1
  | 0 => by simp [bor]
  | k + 1 => by rw [bor]; split <;> omega
theorem carry_eq (x y : Nat → Nat) (k : Nat) : sumw x y k + 18446744073709551616 * car x y (k + 1) = x k + y k + car x y k := Nat.mod_add_div _ _
theorem add_words (a b : List UInt8) (ha : a.length = 32) (hb : b.length = 32) : digT [sumw (wordT a) (wordT b) 0, sumw (wordT a) (wordT b) 1, sumw (wordT a) (wordT b) 2, sumw (wordT a) (wordT b) 3] 4 = addN a b := by
  refine eq_ofN _ _ (digT_len _ 4 (by omega) rfl) ?_
  have hs : ∀ k, sumw (wordT a) (wordT b) k < 18446744073709551616 := fun k => Nat.mod_lt _ (by decide)
  rw [num_digT _ _ _ _ (hs 0) (hs 1) (hs 2) (hs 3), num_words a ha, num_words b hb]
  have e0 := carry_eq (wordT a) (wordT b) 0
  have e1 := carry_eq (wordT a) (wordT b) 1
  have e2 := carry_eq (wordT a) (wordT b) 2
  have e3 := carry_eq (wordT a) (wordT b) 3
  have c0 : car (wordT a) (wordT b) 0 = 0 := rfl
  rw [← Nat.add_mul_mod_self_left _ MM (car (wordT a) (wordT b) 4)]
  congr 1
  rw [MM_eq]
  simp only [Nat.zero_add, Nat.reduceAdd] at e0 e1 e2 e3
  generalize sumw (wordT a) (wordT b) 0 = s0 at *
  generalize sumw (wordT a) (wordT b) 1 = s1 at *
  generalize sumw (wordT a) (wordT b) 2 = s2 at *
  generalize sumw (wordT a) (wordT b) 3 = s3 at *
  generalize car (wordT a) (wordT b) 1 = c1 at *
  generalize car (wordT a) (wordT b) 2 = c2 at *
  generalize car (wordT a) (wordT b) 3 = c3 at *
  generalize car (wordT a) (wordT b) 4 = c4 at *
  generalize wordT a 0 = a0 at *
  generalize wordT a 1 = a1 at *
  generalize wordT a 2 = a2 at *
  generalize wordT a 3 = a3 at *
  generalize wordT b 0 = b0 at *
  generalize wordT b 1 = b1 at *
  generalize wordT b 2 = b2 at *
  generalize wordT b 3 = b3 at *
  omega
theorem borrow_eq (x y : Nat → Nat) (k : Nat) (hx : x k < 18446744073709551616) (hy : y k < 18446744073709551616) : difw x y k + y k + bor x y k = x k + 18446744073709551616 * bor x y (k + 1) := by
  have h := bor_le x y k
  have e : bor x y (k + 1) = if x k < y k + bor x y k then 1 else 0 := rfl
  unfold difw
  generalize bor x y k = b at *
  generalize bor x y (k + 1) = c at *
  generalize x k = p at *
  generalize y k = q at *
  split at e <;> subst e <;> omega
theorem sub_words (a b : List UInt8) (ha : a.length = 32) (hb : b.length = 32) : digT [difw (wordT a) (wordT b) 0, difw (wordT a) (wordT b) 1, difw (wordT a) (wordT b) 2, difw (wordT a) (wordT b) 3] 4 = subN a b := by
  refine eq_ofN _ _ (digT_len _ 4 (by omega) rfl) ?_
  have hs : ∀ k, difw (wordT a) (wordT b) k < 18446744073709551616 := fun k => Nat.mod_lt _ (by decide)
  have ba := num_MM a ha
  have bb := num_MM b hb
  have key : num (digT [difw (wordT a) (wordT b) 0, difw (wordT a) (wordT b) 1, difw (wordT a) (wordT b) 2, difw (wordT a) (wordT b) 3] 4) + num b = num a + MM * bor (wordT a) (wordT b) 4 := by
    rw [num_digT _ _ _ _ (hs 0) (hs 1) (hs 2) (hs 3), num_words a ha, num_words b hb, MM_eq]
    have e0 := borrow_eq (wordT a) (wordT b) 0 (word_lt a 0) (word_lt b 0)
    have e1 := borrow_eq (wordT a) (wordT b) 1 (word_lt a 1) (word_lt b 1)
    have e2 := borrow_eq (wordT a) (wordT b) 2 (word_lt a 2) (word_lt b 2)
    have e3 := borrow_eq (wordT a) (wordT b) 3 (word_lt a 3) (word_lt b 3)
    have c0 : bor (wordT a) (wordT b) 0 = 0 := rfl
    simp only [Nat.zero_add, Nat.reduceAdd] at e0 e1 e2 e3
    clear ba bb hs
    generalize difw (wordT a) (wordT b) 0 = s0 at *
    generalize difw (wordT a) (wordT b) 1 = s1 at *
    generalize difw (wordT a) (wordT b) 2 = s2 at *
    generalize difw (wordT a) (wordT b) 3 = s3 at *
    generalize bor (wordT a) (wordT b) 1 = c1 at *
    generalize bor (wordT a) (wordT b) 2 = c2 at *
    generalize bor (wordT a) (wordT b) 3 = c3 at *
    generalize bor (wordT a) (wordT b) 4 = c4 at *
    generalize wordT a 0 = a0 at *
    generalize wordT a 1 = a1 at *
    generalize wordT a 2 = a2 at *
    generalize wordT a 3 = a3 at *
    generalize wordT b 0 = b0 at *
    generalize wordT b 1 = b1 at *
    generalize wordT b 2 = b2 at *
    generalize wordT b 3 = b3 at *
    omega
  have hr := bor_le (wordT a) (wordT b) 4
  generalize num (digT [difw (wordT a) (wordT b) 0, difw (wordT a) (wordT b) 1, difw (wordT a) (wordT b) 2, difw (wordT a) (wordT b) 3] 4) = D at *
  generalize bor (wordT a) (wordT b) 4 = r at *
  generalize num a = A at *
  generalize num b = B at *
  rcases (by omega : r = 0 ∨ r = 1) with e | e
  · subst e
    rw [show A + MM - B = D + MM by omega, Nat.add_mod_right]
  · subst e
    rw [show A + MM - B = D by omega]
/-- which is less -/
theorem lessT_num : ∀ (l m : List UInt8), l.length = m.length → lessT l m = decide (num l < num m)
  | [], [], _ => by simp [lessT]
  | x :: l, y :: m, h => by
    have h' : l.length = m.length := by simpa using h
    rw [lessT, num_cons, num_cons, h']
    have hl := num_lt l
    have hm := num_lt m
    rw [h'] at hl
    split
    · rename_i e
      subst e
      rw [lessT_num l m h', Bool.eq_iff_iff]
      simp
    · rename_i e
      have e' : x.toNat ≠ y.toNat := fun h => e (UInt8.toNat_inj.1 h)
      rw [Bool.eq_iff_iff]
      simp only [decide_eq_true_eq]
      generalize 256 ^ m.length = q at *
      constructor
      · intro h
        have : (x.toNat + 1) * q ≤ y.toNat * q := Nat.mul_le_mul_right _ h
        rw [Nat.add_mul] at this
        omega
      · intro h
        rcases Nat.lt_or_ge x.toNat y.toNat with h1 | h1
        · exact h1
        · exfalso
          have : (y.toNat + 1) * q ≤ x.toNat * q := Nat.mul_le_mul_right _ (by omega)
          rw [Nat.add_mul] at this
          omega
end Go.Proofs.Ytohndablfjonhaa
