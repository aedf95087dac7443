/- P14d: NumMore, P14d, P14e. -/
import Derived.Test.YtiloeaenpanjcaaCGet
import Derived.Test.YtiloeaenpanjcaaE14Enc
/-! from NumMore -/
namespace Go.Proofs.Ytiloeaenpanjcaa
open Go.RowKit Go.Sac
set_option linter.unusedVariables false
set_option linter.unusedSimpArgs false

theorem num_app (a b : List UInt8) : num (a ++ b) = num a * 256 ^ b.length + num b := by
  have h : ∀ (r : List UInt8), num (a ++ r.reverse) = num a * 256 ^ r.length + num r.reverse := by
    intro r
    induction r with
    | nil => simp [num]
    | cons c r ih =>
      rw [List.reverse_cons, ← List.append_assoc, num_snoc, num_snoc, ih, List.length_cons, Nat.pow_succ, Nat.mul_add, ← Nat.mul_assoc, Nat.mul_comm 256 (num a), Nat.mul_assoc (num a), Nat.mul_comm 256 (256 ^ _)]
      omega
  have := h b.reverse
  simpa using this
theorem num_cons (x : UInt8) (l : List UInt8) : num (x :: l) = x.toNat * 256 ^ l.length + num l := by
  have := num_app [x] l
  simpa [num] using this
theorem putB_num (n k : Nat) : num (putB n k) = n % 256 ^ k := by
  induction k with
  | zero => simp [putB, num, Nat.mod_one]
  | succ k ih =>
    rw [putB, num_cons, putB_len, ih, UInt8.toNat_ofNat']
    show (n / 256 ^ k % 256) * 256 ^ k + n % 256 ^ k = n % (256 ^ k * 256)
    have h1 : n % (256 ^ k * 256) = n % 256 ^ k + 256 ^ k * (n / 256 ^ k % 256) := Nat.mod_mul
    rw [h1, Nat.mul_comm (256 ^ k) (n / 256 ^ k % 256)]
    exact Nat.add_comm _ _
theorem num_inj (l m : List UInt8) (h : l.length = m.length) (hn : num l = num m) : l = m := by
  induction l generalizing m with
  | nil => cases m with | nil => rfl | cons => simp at h
  | cons x l ih =>
    cases m with
    | nil => simp at h
    | cons y m =>
      have h' : l.length = m.length := by simpa using h
      rw [num_cons, num_cons, h'] at hn
      have hl := num_lt l
      have hm := num_lt m
      rw [h'] at hl
      have e : x.toNat = y.toNat := by
        generalize 256 ^ m.length = q at *
        rcases Nat.lt_trichotomy x.toNat y.toNat with h1 | h1 | h1
        · have : (x.toNat + 1) * q ≤ y.toNat * q := Nat.mul_le_mul_right _ h1
          rw [Nat.add_mul] at this; omega
        · exact h1
        · have : (y.toNat + 1) * q ≤ x.toNat * q := Nat.mul_le_mul_right _ h1
          rw [Nat.add_mul] at this; omega
      rw [e] at hn
      rw [UInt8.toNat_inj.1 e, ih m h' (by omega)]
theorem getB_small (l : List UInt8) (h : l.length ≤ 8) : getB l = num l := by
  unfold getB; rw [show l.length - 8 = 0 by omega]; rfl
end Go.Proofs.Ytiloeaenpanjcaa
/-! from P14d -/
namespace Go.Proofs.Ytiloeaenpanjcaa
open Go.RowKit Go.Sac
set_option linter.unusedVariables false
set_option linter.unusedSimpArgs false

def headC (C : List UInt8) : UInt8 := C.getD 0 0
def lenC (C : List UInt8) : Nat := min (headC C).toNat 27
def rowC (C : List UInt8) : Ent := (⟨((C.drop 1).take (lenC C)).toArray⟩, (getB (C.drop 28) : Int))
def okC (C : List UInt8) : Prop := (headC C).toNat ≤ 27 ∧ ∀ j, 1 + (headC C).toNat ≤ j → j < 28 → C.getD j 0 = 0
def chunk (b : List UInt8) (k : Nat) : List UInt8 := (b.drop (32 * k)).take 32
def decRow (b : List UInt8) (k : Nat) : Ent := rowC (chunk b k)
def decRows (b : List UInt8) (k : Nat) : List Ent := (List.range k).map (decRow b)
theorem chunk_len {b : List UInt8} {k : Nat} (h : 32 * k + 32 ≤ b.length) : (chunk b k).length = 32 := by
  unfold chunk; rw [List.length_take, List.length_drop]; omega
theorem decRows_len (b : List UInt8) (k : Nat) : (decRows b k).length = k := by simp [decRows]
theorem decRows_snoc (b : List UInt8) (k : Nat) : decRows b (k + 1) = decRows b k ++ [decRow b k] := by simp [decRows, List.range_succ]
theorem rowC_size {C : List UInt8} (h : C.length = 32) : (rowC C).1.size = lenC C := by
  unfold rowC lenC
  show ((List.drop 1 C).take _).toArray.size = _
  simp
  omega
theorem lenC_le (C : List UInt8) : lenC C ≤ 27 := Nat.min_le_right _ _
theorem put_get (l : List UInt8) (h : l.length = 4) : putB (getB l) 4 = l := by
  rw [getB_small l (by omega)]
  refine num_inj _ _ (by rw [putB_len, h]) ?_
  rw [putB_num]
  refine Nat.mod_eq_of_lt ?_
  have := num_lt l
  rwa [h] at this
theorem enc_row {C : List UInt8} (h : C.length = 32) : encE (rowC C) = ([UInt8.ofNat (lenC C)] ++ ((C.drop 1).take (lenC C) ++ List.replicate (27 - lenC C) 0)) ++ C.drop 28 := by
  have h1 := rowC_size h
  have hle := lenC_le C
  unfold encE
  rw [h1]
  congr 1
  · congr 1
    unfold padB rowC
    dsimp only
    have : ((C.drop 1).take (lenC C)).length = lenC C := by rw [List.length_take, List.length_drop]; omega
    congr 2
    rw [this]
    omega
  · show putB ((rowC C).2.toNat) 4 = _
    unfold rowC
    dsimp only
    rw [Int.toNat_natCast, put_get _ (by rw [List.length_drop]; omega)]
theorem head_at {C : List UInt8} (h : C.length = 32) : headC C = C[0] := by
  unfold headC
  rw [List.getD_eq_getElem?_getD, List.getElem?_eq_getElem (by omega)]; rfl
theorem enc_ok {C : List UInt8} (h : C.length = 32) (ho : okC C) : encE (rowC C) = C := by
  rw [enc_row h]
  obtain ⟨h27, hz⟩ := ho
  have hl : lenC C = (headC C).toNat := Nat.min_eq_left h27
  rw [hl]
  have hlen : (([UInt8.ofNat (headC C).toNat] ++ ((C.drop 1).take (headC C).toNat ++ List.replicate (27 - (headC C).toNat) 0)) ++ C.drop 28).length = 32 := by
    simp; omega
  apply List.ext_getElem (by rw [hlen, h])
  intro j h1 h2
  rw [hlen] at h1
  have hC : C[j] = C.getD j 0 := by rw [List.getD_eq_getElem?_getD, List.getElem?_eq_getElem h2]; rfl
  by_cases j0 : j = 0
  · subst j0
    simp [head_at h]
  · by_cases j28 : j < 28
    · rw [List.getElem_append_left (by simp; omega), List.getElem_append_right (by simp; omega)]
      simp only [List.length_singleton]
      by_cases jn : j - 1 < (headC C).toNat
      · rw [List.getElem_append_left (by simp; omega), List.getElem_take, List.getElem_drop]
        congr 1
        omega
      · rw [List.getElem_append_right (by simp; omega), List.getElem_replicate, hC, hz j (by omega) j28]
    · rw [List.getElem_append_right (by simp; omega), List.getElem_drop]
      congr 1
      simp
      omega
theorem ok_enc {C : List UInt8} (h : C.length = 32) (he : encE (rowC C) = C) : okC C := by
  rw [enc_row h] at he
  have hle := lenC_le C
  have hat : ∀ j, (hj : j < 32) → (([UInt8.ofNat (lenC C)] ++ ((C.drop 1).take (lenC C) ++ List.replicate (27 - lenC C) 0)) ++ C.drop 28)[j]? = C[j]? := fun j _ => by rw [he]
  have h0 : UInt8.ofNat (lenC C) = headC C := by
    have := hat 0 (by omega)
    rw [List.getElem?_eq_getElem (show 0 < C.length by omega)] at this
    simp at this
    rw [head_at h]; exact this
  have h27 : (headC C).toNat ≤ 27 := by
    rw [← h0, UInt8.toNat_ofNat']
    omega
  have hl : lenC C = (headC C).toNat := Nat.min_eq_left h27
  refine ⟨h27, fun j hj1 hj2 => ?_⟩
  have := hat j (by omega)
  rw [List.getD_eq_getElem?_getD, ← this, List.getElem?_append_left (by simp; omega), List.getElem?_append_right (by simp; omega), List.getElem?_append_right (by simp; omega), List.getElem?_replicate]
  simp only [List.length_singleton, List.length_take, List.length_drop]
  rw [if_pos (by omega)]
  rfl
/-- b, up to a chunk -/
theorem take_chunk (b : List UInt8) (k : Nat) : b.take (32 * (k + 1)) = b.take (32 * k) ++ chunk b k := by
  unfold chunk
  rw [show 32 * (k + 1) = 32 * k + 32 by omega, List.take_add]
theorem enc_take {b : List UInt8} : ∀ (k : Nat), 32 * k ≤ b.length → (∀ j, j < k → okC (chunk b j)) → encRows (decRows b k) = b.take (32 * k)
  | 0, _, _ => by simp [decRows, encRows]
  | k + 1, h, ho => by
    have ih := enc_take k (by omega) (fun j hj => ho j (by omega))
    rw [decRows_snoc, take_chunk, ← ih]
    unfold encRows
    rw [List.map_append, List.flatten_append]
    congr 1
    show [encE (rowC (chunk b k))].flatten = _
    rw [enc_ok (chunk_len (by omega)) (ho k (by omega))]
    simp
theorem dec_small {b : List UInt8} {n : Nat} (h : 32 * n ≤ b.length) : ∀ y ∈ decRows b n, y.1.size ≤ 27 := by
  intro y hy
  simp only [decRows, List.mem_map, List.mem_range] at hy
  obtain ⟨k, hk, rfl⟩ := hy
  unfold decRow
  rw [rowC_size (chunk_len (by omega))]
  exact lenC_le _
theorem enc_at {b : List UInt8} {n : Nat} (h : b.length = 32 * n) (he : encRows (decRows b n) = b) : ∀ k, k < n → okC (chunk b k) := by
  have hpre : ∀ k, k ≤ n → encRows (decRows b k) = b.take (32 * k) := by
    intro k hk
    have hs : decRows b n = decRows b k ++ (decRows b n).drop k := by
      have h2 : decRows b k = (decRows b n).take k := by
        unfold decRows
        rw [← List.map_take, List.take_range, Nat.min_eq_left hk]
      rw [h2, List.take_append_drop]
    have hl : (encRows (decRows b k)).length = 32 * k := by
      rw [encRows_len _ (dec_small (by omega)), decRows_len]; omega
    rw [hs] at he
    conv => rhs; rw [← he]
    unfold encRows at hl ⊢
    rw [List.map_append, List.flatten_append, List.take_left' hl]
  intro k hk
  have h1 := hpre (k + 1) (by omega)
  rw [decRows_snoc, take_chunk, ← hpre k (by omega)] at h1
  unfold encRows at h1
  rw [List.map_append, List.flatten_append] at h1
  have h2 := List.append_cancel_left h1
  refine ok_enc (chunk_len (by omega)) ?_
  simpa [decRow] using h2
def decOk (b : List UInt8) : Prop := b.length % 32 = 0 ∧ rightE (decRows b (b.length / 32)) = true ∧ encRows (decRows b (b.length / 32)) = b
instance (b : List UInt8) : Decidable (decOk b) := by unfold decOk; exact inferInstance
def decL (b : List UInt8) : List Ent := if decOk b then decRows b (b.length / 32) else []
def decR (b : List UInt8) : Int := if decOk b then 0 else 4
theorem dec_no {b : List UInt8} (h : ¬ decOk b) : decL b = [] ∧ decR b = 4 := by unfold decL decR; rw [if_neg h, if_neg h]; exact ⟨rfl, rfl⟩
theorem dec_yes {b : List UInt8} (h : decOk b) : decL b = decRows b (b.length / 32) ∧ decR b = 0 := by unfold decL decR; rw [if_pos h, if_pos h]; exact ⟨rfl, rfl⟩
theorem dec_bad {b : List UInt8} {k : Nat} (hk : 32 * k + 32 ≤ b.length) (h : ¬ okC (chunk b k)) : ¬ decOk b := by
  rintro ⟨h1, _, h3⟩
  exact h (enc_at (n := b.length / 32) (by omega) h3 k (by omega))
theorem dec_all {b : List UInt8} (h : b.length % 32 = 0) (hr : rightE (decRows b (b.length / 32)) = true) (ho : ∀ k, k < b.length / 32 → okC (chunk b k)) : decOk b :=
  ⟨h, hr, by rw [enc_take _ (by omega) ho, List.take_of_length_le (by omega)]⟩
/-- a name's bytes, and a node's, as they are cut out -/
theorem cut_name (b : List UInt8) (p m : Nat) (hm : m ≤ 31) : (b.take (p + 1 + m)).drop (p + 1) = (((b.drop p).take 32).drop 1).take m := by
  rw [List.drop_take, List.drop_take, List.drop_drop, List.take_take, show p + 1 + m - (p + 1) = m by omega, Nat.min_eq_left (by omega)]
theorem cut_node (b : List UInt8) (p : Nat) : (b.take (p + 32)).drop (p + 28) = ((b.drop p).take 32).drop 28 := by
  rw [List.drop_take, List.drop_take, List.drop_drop, show p + 32 - (p + 28) = 32 - 28 by omega]
end Go.Proofs.Ytiloeaenpanjcaa
/-! from P14e -/
namespace Go.Proofs.Ytiloeaenpanjcaa
open Go.RowKit Go.Sac
set_option linter.unusedVariables false
set_option linter.unusedSimpArgs false

theorem row_enc {x : Ent} (hn : x.1.size ≤ 27) (h1 : 1 ≤ x.2) (h2 : x.2 ≤ 65535) : rowC (encE x) = x := by
  have hl := encE_len hn
  obtain ⟨xn, xk⟩ := x
  dsimp only at hn h1 h2
  have hsz : xn.data.toList.length = xn.size := by simp
  have hh : headC (encE (xn, xk)) = UInt8.ofNat xn.size := by
    rw [head_at hl]
    simp [encE]
  have hlc : lenC (encE (xn, xk)) = xn.size := by
    unfold lenC
    rw [hh, UInt8.toNat_ofNat']
    omega
  have hp : (padB xn.data.toList 27).length = 27 := padB_len xn.data.toList 27 (by omega)
  unfold rowC
  rw [hlc]
  have e1 : ((encE (xn, xk)).drop 1).take xn.size = xn.data.toList := by
    unfold encE padB
    dsimp only
    rw [List.append_assoc, List.singleton_append, List.drop_succ_cons, List.drop_zero, List.append_assoc, ← hsz, List.take_left]
  have e2 : (encE (xn, xk)).drop 28 = putB xk.toNat 4 := by
    unfold encE
    dsimp only
    rw [List.drop_left' (by rw [List.length_append, hp]; rfl)]
  rw [e1, e2, getB_small _ (by rw [putB_len]; omega), putB_num]
  refine Prod.ext ?_ ?_
  · show (⟨xn.data.toList.toArray⟩ : ByteArray) = xn
    cases xn; simp
  · show ((xk.toNat % 256 ^ 4 : Nat) : Int) = xk
    rw [Nat.mod_eq_of_lt (by omega)]
    omega
theorem chunk_enc {l : List Ent} (h : ∀ y ∈ l, y.1.size ≤ 27) {k : Nat} (hk : k < l.length) : chunk (encRows l) k = encE l[k] := by
  have hs : l = l.take k ++ (l[k] :: l.drop (k + 1)) := by rw [← List.drop_eq_getElem_cons hk, List.take_append_drop]
  have hlen : (encRows (l.take k)).length = 32 * k := by
    rw [encRows_len _ (fun y hy => h y (List.mem_of_mem_take hy)), List.length_take, Nat.min_eq_left (by omega)]; omega
  have e : encRows l = encRows (l.take k) ++ (encE l[k] ++ encRows (l.drop (k + 1))) := by
    conv => lhs; rw [hs]
    unfold encRows
    rw [List.map_append, List.flatten_append, List.map_cons, List.flatten_cons]
  unfold chunk
  rw [e, List.drop_left' hlen, List.take_left' (encE_len (h _ (List.getElem_mem hk)))]
theorem dec_enc_rows {l : List Ent} (h : ∀ y ∈ l, y.1.size ≤ 27 ∧ 1 ≤ y.2 ∧ y.2 ≤ 65535) : decRows (encRows l) l.length = l := by
  apply List.ext_getElem (by rw [decRows_len])
  intro k h1 h2
  simp only [decRows, List.getElem_map, List.getElem_range]
  unfold decRow
  rw [chunk_enc (fun y hy => (h y hy).1) h2]
  obtain ⟨a, b, c⟩ := h _ (List.getElem_mem h2)
  exact row_enc a b c
theorem right_small {l : List Ent} (h : rightE l = true) : ∀ y ∈ l, y.1.size ≤ 27 ∧ 1 ≤ y.2 ∧ y.2 ≤ 65535 := fun y hy => by
  obtain ⟨a, b, c⟩ := (right_is h).2.2 y hy
  exact ⟨(named_len a).2, b, c⟩
theorem enc_len {l : List Ent} (h : rightE l = true) : (encRows l).length = 32 * l.length := by
  rw [encRows_len _ (fun y hy => (right_small h y hy).1)]; omega
theorem dec_enc {l : List Ent} (h : rightE l = true) : decL (encRows l) = l ∧ decR (encRows l) = 0 := by
  have hl := enc_len h
  have hd := dec_enc_rows (right_small h)
  have hq : (encRows l).length / 32 = l.length := by omega
  have hok : decOk (encRows l) := ⟨by omega, by rw [hq, hd]; exact h, by rw [hq, hd]⟩
  obtain ⟨e1, e2⟩ := dec_yes hok
  rw [e1, hq, hd]
  exact ⟨rfl, e2⟩
theorem enc_right {l : List Ent} (h : rightE l = true) : encB l = encRows l ∧ encR l = 0 := by unfold encB encR; rw [h]; exact ⟨rfl, rfl⟩
theorem enc_wrong {l : List Ent} (h : rightE l = false) : encB l = [] ∧ encR l = 2 := by unfold encB encR; rw [h]; exact ⟨rfl, rfl⟩
theorem enc_dec {b : List UInt8} (h : decOk b) : rightE (decL b) = true ∧ encB (decL b) = b ∧ encR (decL b) = 0 := by
  obtain ⟨e1, _⟩ := dec_yes h
  obtain ⟨_, h2, h3⟩ := h
  rw [← e1] at h2 h3
  obtain ⟨e2, e3⟩ := enc_right h2
  exact ⟨h2, by rw [e2]; exact h3, e3⟩
theorem right_take {l : List Ent} (h : rightE l = true) (k : Nat) : rightE (l.take k) = true := by
  obtain ⟨h1, h2⟩ := of_decide_eq_true h
  refine right_all (by rw [List.length_take]; omega) fun j hj => ?_
  rw [List.length_take] at hj
  have h3 := h2 j (by omega)
  rw [okAt_eq (by omega)] at h3
  rw [okAt_eq (by rw [List.length_take]; exact hj), List.getElem_take]
  have hp : prevN (l.take k) j = prevN l j := by
    unfold prevN
    by_cases h0 : j = 0
    · rw [if_pos h0, if_pos h0]
    · rw [if_neg h0, if_neg h0, List.getElem?_take, if_pos (by omega)]
  rw [hp]; exact h3
theorem enc_take_len {l : List Ent} (h : rightE l = true) {k : Nat} (hk : k ≤ l.length) : (encRows l).take (32 * k) = encRows (l.take k) := by
  have hs : encRows l = encRows (l.take k) ++ encRows (l.drop k) := by
    conv => lhs; rw [← List.take_append_drop k l]
    unfold encRows
    rw [List.map_append, List.flatten_append]
  rw [hs, List.take_left']
  rw [enc_len (right_take h k), List.length_take, Nat.min_eq_left hk]
theorem dec_odd {b : List UInt8} (h : b.length % 32 ≠ 0) : decL b = [] ∧ decR b = 4 := dec_no fun ⟨a, _, _⟩ => h a
end Go.Proofs.Ytiloeaenpanjcaa
