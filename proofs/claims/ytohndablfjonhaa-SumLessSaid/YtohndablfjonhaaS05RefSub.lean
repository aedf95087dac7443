/- Walks: the reference's differences of digests. -/
import Derived.Test.YtohndablfjonhaaS05RefAdd
namespace Go.Proofs.Ytohndablfjonhaa
open Go.RowKit Go.Sac
set_option linter.unusedVariables false
set_option linter.unusedSimpArgs false

/-- what is lent to byte i, from behind -/
def qc1 (a b : List UInt8) : Nat → Nat
  | 0 => 0
  | k + 1 => if (a.getD (31 - k) 0).toNat < (b.getD (31 - k) 0).toNat + qc1 a b k then 1 else 0
def qs1 (a b : List UInt8) (k : Nat) : UInt8 := UInt8.ofNat (((a.getD (31 - k) 0).toNat + 256 - (b.getD (31 - k) 0).toNat - qc1 a b k) % 256)
def qd1 (a b : List UInt8) : Nat → List UInt8
  | 0 => []
  | k + 1 => qs1 a b k :: qd1 a b k
theorem qd1_len (a b : List UInt8) (k : Nat) : (qd1 a b k).length = k := by induction k with | zero => rfl | succ k ih => simp [qd1, ih]
theorem qc1_le (a b : List UInt8) : ∀ k, qc1 a b k ≤ 1
  | 0 => by simp [qc1]
  | k + 1 => by rw [qc1]; split <;> omega
theorem qd1_num (a b : List UInt8) (ha : a.length = 32) (hb : b.length = 32) : ∀ k, k ≤ 32 → num (qd1 a b k) + num (b.drop (32 - k)) = num (a.drop (32 - k)) + 256 ^ k * qc1 a b k
  | 0, _ => by
    rw [List.drop_eq_nil_of_le (by omega), List.drop_eq_nil_of_le (by omega)]; simp [qd1, qc1, num]
  | k + 1, hk => by
    have ih := qd1_num a b ha hb k (by omega)
    rw [drop_num a k ha (by omega), drop_num b k hb (by omega), qd1, num_cons, qd1_len]
    have e : (qs1 a b k).toNat = ((a.getD (31 - k) 0).toNat + 256 - (b.getD (31 - k) 0).toNat - qc1 a b k) % 256 := by
      unfold qs1; rw [UInt8.toNat_ofNat']; omega
    have e2 : qc1 a b (k + 1) = if (a.getD (31 - k) 0).toNat < (b.getD (31 - k) 0).toNat + qc1 a b k then 1 else 0 := rfl
    have hp := (a.getD (31 - k) 0).toNat_lt
    have hq := (b.getD (31 - k) 0).toNat_lt
    have hc := qc1_le a b k
    rw [e, Nat.pow_succ]
    generalize (a.getD (31 - k) 0).toNat = p at *
    generalize (b.getD (31 - k) 0).toNat = q at *
    generalize qc1 a b (k + 1) = d at *
    generalize qc1 a b k = c at *
    generalize num (qd1 a b k) = n at *
    generalize num (a.drop (32 - k)) = A at *
    generalize num (b.drop (32 - k)) = B at *
    generalize 256 ^ k = z at *
    have h : (p + 256 - q - c) % 256 + q + c = p + 256 * d := by
      split at e2 <;> subst e2 <;> omega
    generalize (p + 256 - q - c) % 256 = u at *
    have h2 : z * (u + q + c) = z * (p + 256 * d) := by rw [h]
    rw [Nat.mul_add, Nat.mul_add, Nat.mul_add] at h2
    have h3 : z * 256 * d = z * (256 * d) := Nat.mul_assoc _ _ _
    rw [Nat.mul_comm u z, h3, Nat.mul_comm p z, Nat.mul_comm q z]
    omega
theorem qd1_sub (a b : List UInt8) (ha : a.length = 32) (hb : b.length = 32) : qd1 a b 32 = subN a b := by
  refine eq_ofN _ _ (qd1_len a b 32) ?_
  have h := qd1_num a b ha hb 32 (Nat.le_refl _)
  rw [Nat.sub_self, List.drop_zero, List.drop_zero] at h
  have hr := qc1_le a b 32
  have ba := num_MM a ha
  have bb := num_MM b hb
  have hm : (256 : Nat) ^ 32 = MM := rfl
  rw [hm] at h
  generalize num (qd1 a b 32) = D at *
  generalize qc1 a b 32 = r at *
  generalize num a = A at *
  generalize num b = B at *
  rcases (by omega : r = 0 ∨ r = 1) with e | e
  · subst e
    rw [show A + MM - B = D + MM by omega, Nat.add_mod_right]
  · subst e
    rw [show A + MM - B = D by omega]
set_option maxHeartbeats 4000000 in
theorem rsub_calls (a b : List UInt8) (w : World) (ha : a.length = 32) (hb : b.length = 32) :
    Calls Try.prog 9 #[dg a, dg b] w fun e w' => e = .returned (dg (subN a b)) ∧ Below w.heap.size w w' := by
  unfold dg
  have B0 := Hd.mk (wTwo_a w a b)
  have B1 := Hd.mk (wTwo_b w a b)
  have B2 := Hd.mk (wTwo_c w a b)
  have B3 := Hd.mk (wTwo_d w a b)
  have HB := Hd.mk (wTwo_below w a b)
  have hsz := wTwo_size w a b
  go_enter Try.func9, Try.ntmps9
  go_wp2_with ((refine wpList_store_row rfl 23 (.tmp 5) (.tmp 9) rfl (w.heap.size + 1 + 1 + 1) Z32.toArray rfl rfl 23 Z32.toArray B3.out (info_dg.trans (by simp [Z32_len])) rfl Z32_one ?_); (change wpList Try.prog _ _ _ _ ((wTwo w a b).setRow (w.heap.size + 1 + 1 + 1) Z32.toArray)); (generalize hwx : (wTwo w a b).setRow (w.heap.size + 1 + 1 + 1) Z32.toArray = wx); have B0 : Hd (Blk wx w.heap.size 23 (bs a)) := ⟨by rw [← hwx]; exact B0.out.rowFar (by omega) _⟩; have B1 : Hd (Blk wx (w.heap.size + 1) 23 (bs b)) := ⟨by rw [← hwx]; exact B1.out.rowFar (by omega) _⟩; have B2 : Hd (Blk wx (w.heap.size + 1 + 1) 23 Z32) := ⟨by rw [← hwx]; exact B2.out.rowFar (by omega) _⟩; have B3 : Hd (Blk wx (w.heap.size + 1 + 1 + 1) 23 Z32) := ⟨by rw [← hwx]; exact B3.out.putRow _⟩; have HB : Hd (Below w.heap.size w wx) := ⟨by rw [← hwx]; exact below_row HB.out (by omega) _⟩; clear hwx)
  go_loopw [6, 7] (fun c i wr => ∃ k : Nat, k ≤ 32 ∧ i = .int .i64 (31 - (k : Int)) ∧ c = .int .i64 (qc1 a b k : Int) ∧ Hd (Blk wr w.heap.size 23 (bs a)) ∧ Hd (Blk wr (w.heap.size + 1) 23 (bs b)) ∧ Hd (Blk wr (w.heap.size + 1 + 1) 23 Z32) ∧ Hd (Blk wr (w.heap.size + 1 + 1 + 1) 23 (bs (List.replicate (32 - k) 0 ++ qd1 a b k))) ∧ Hd (Below w.heap.size w wr)) (fun _ i _ => (intOf i + 1).toNat)
  case atStart => exact ⟨0, by omega, rfl, rfl, B0, B1, B2, B3, HB⟩
  case round =>
    clear B0 B1 B2 B3 HB
    obtain ⟨k, hk, rfl, rfl, B0, B1, B2, B3, HB⟩ := hrel
    by_cases hlt : k < 32
    · obtain ⟨j, hj⟩ : ∃ j : Nat, (31 - (k : Int)) = (j : Int) := ⟨31 - k, by omega⟩
      have hjk : j = 31 - k := by omega
      have ca : wr.cell? ⟨w.heap.size, j, none⟩ = some (.int .u8 ((a.getD (31 - k) 0).toNat : Int)) := by
        have h : j < a.length := by omega
        have := B0.out.cell (bs_at h)
        rw [this, ← hjk]; simp [List.getD_eq_getElem?_getD, List.getElem?_eq_getElem h]
      have cb : wr.cell? ⟨w.heap.size + 1, j, none⟩ = some (.int .u8 ((b.getD (31 - k) 0).toNat : Int)) := by
        have h : j < b.length := by omega
        have := B1.out.cell (bs_at h)
        rw [this, ← hjk]; simp [List.getD_eq_getElem?_getD, List.getElem?_eq_getElem h]
      obtain ⟨u, hu⟩ : ∃ u, wr.cell? ⟨w.heap.size + 1 + 1 + 1, j, none⟩ = some u := ⟨_, B3.out.cell (bs_at (by simp [qd1_len]; omega))⟩
      have hf := B3.out.frz j
      have har : Try.prog.arrayLen 23 = 32 := by kernel_rfl
      have i1 : (0 : Int) ≤ (j : Int) := by omega
      have i2 : (j : Int) < (32 : Int) := by omega
      have HSET : Hd ((List.replicate (32 - k) (0 : UInt8) ++ qd1 a b k).set j (qs1 a b k) = List.replicate (32 - (k + 1)) 0 ++ qd1 a b (k + 1)) := ⟨by rw [hjk]; exact rd_row _ k _ hlt (qd1_len a b k)⟩
      have hcl := qc1_le a b k
      have HRC : Hd (qc1 a b (k + 1) = if (a.getD (31 - k) 0).toNat < (b.getD (31 - k) 0).toNat + qc1 a b k then 1 else 0) := ⟨rfl⟩
      have HRS : Hd ((qs1 a b k).toNat = ((a.getD (31 - k) 0).toNat + 256 - (b.getD (31 - k) 0).toNat - qc1 a b k) % 256) := ⟨by unfold qs1; rw [UInt8.toNat_ofNat']; omega⟩
      have ha8 := (a.getD (31 - k) 0).toNat_lt
      have hb8 := (b.getD (31 - k) 0).toNat_lt
      generalize (a.getD (31 - k) 0).toNat = p at *
      generalize (b.getD (31 - k) 0).toNat = q at *
      generalize qc1 a b k = cc at *
      rw [hj]
      have HJ := Hd.mk hj
      clear hj hjk
      have HQ : Hd ((qs1 a b k).toNat < 256) := ⟨(qs1 a b k).toNat_lt⟩
      by_cases hx : (p : Int) - q - cc < 0
      all_goals
        go_wp2_with (fail)
        go_region
        all_goals
          go_wp2_with (fail)
          go_roundw
          case rel =>
            refine ⟨k + 1, by omega, by have := HJ.out; congr 1; omega, by rw [HRC.out]; first | (rw [if_pos (by omega)]; rfl) | (rw [if_neg (by omega)]; rfl), ⟨B0.out.drew.far (show w.heap.size ≠ w.heap.size + 1 + 1 + 1 by omega) _⟩, ⟨B1.out.drew.far (show w.heap.size + 1 ≠ w.heap.size + 1 + 1 + 1 by omega) _⟩, ⟨B2.out.drew.far (show w.heap.size + 1 + 1 ≠ w.heap.size + 1 + 1 + 1 by omega) _⟩, ⟨?_⟩, ⟨(HB.out.drew).setCell (p := ⟨w.heap.size + 1 + 1 + 1, j, none⟩) (by show w.heap.size ≤ w.heap.size + 1 + 1 + 1; omega) _⟩⟩
            have h := B3.out.drew.set j (u8v (qs1 a b k))
            rw [bs, ← List.map_set, HSET.out] at h
            have e : ∀ z : Int, z = (((p + 256 - q - cc) % 256 : Nat) : Int) → Value.int .u8 z = u8v (qs1 a b k) := by
              intro z hz; unfold u8v; rw [HRS.out, hz]
            rw [e _ (by omega)]
            exact h
          case measure => (simp [intOf] <;> try omega)
    · obtain rfl : k = 32 := by omega
      have hf : (31 - ((32 : Nat) : Int)) = -1 := by omega
      rw [hf]
      have B3 : Hd (Blk wr (w.heap.size + 1 + 1 + 1) 23 (bs (subN a b))) := ⟨by have h := B3.out; rw [Nat.sub_self, List.replicate_zero, List.nil_append, qd1_sub a b ha hb] at h; exact h⟩
      clear hf
      go_wp2_with (first
        | (refine wpList_load_row rfl 23 (.tmp 5) rfl (w.heap.size + 1 + 1 + 1) rfl 23 (bs (subN a b)).toArray (0, 0) (.array 32 5) B3.out Try.underlying23 rfl (info_dg.trans (by simp [subN_len])) ?_)
        | (refine wpList_store_row rfl 23 (.tmp 4) (.tmp 33) rfl (w.heap.size + 1 + 1) (bs (subN a b)).toArray rfl rfl 23 Z32.toArray B2.out (info_dg.trans (by simp [subN_len])) (by simp [subN_len, Z32_len]) (by simp [u8v, Value.oneCell']) ?_))
      refine bodyPost_ret (results_cell_row rfl _ _ (w.heap.size + 1 + 1) 23 (bs (subN a b)).toArray (0, 0) (.array 32 5) rfl (B2.out.putRow _) Try.underlying23 rfl (info_dg.trans (by simp [subN_len]))) rfl ?_
      exact ⟨rfl, below_row HB.out (by omega) _⟩
end Go.Proofs.Ytohndablfjonhaa
