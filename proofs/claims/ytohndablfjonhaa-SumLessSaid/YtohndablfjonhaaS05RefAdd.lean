/- Walks: the reference's sums and differences of digests. -/
import Derived.Test.YtohndablfjonhaaP05
import Derived.Test.YtohndablfjonhaaBase6
namespace Go.Proofs.Ytohndablfjonhaa
open Go.RowKit Go.Sac
set_option linter.unusedVariables false
set_option linter.unusedSimpArgs false

/-- the carry into byte i, from behind: k bytes are done -/
def rc1 (a b : List UInt8) : Nat → Nat
  | 0 => 0
  | k + 1 => (rc1 a b k + (a.getD (31 - k) 0).toNat + (b.getD (31 - k) 0).toNat) / 256
def rs1 (a b : List UInt8) (k : Nat) : UInt8 := UInt8.ofNat ((rc1 a b k + (a.getD (31 - k) 0).toNat + (b.getD (31 - k) 0).toNat) % 256)
def rd1 (a b : List UInt8) : Nat → List UInt8
  | 0 => []
  | k + 1 => rs1 a b k :: rd1 a b k
theorem rd1_len (a b : List UInt8) (k : Nat) : (rd1 a b k).length = k := by induction k with | zero => rfl | succ k ih => simp [rd1, ih]
theorem rc1_le (a b : List UInt8) : ∀ k, rc1 a b k ≤ 1
  | 0 => by simp [rc1]
  | k + 1 => by have h := rc1_le a b k; have h1 := (a.getD (31 - k) 0).toNat_lt; have h2 := (b.getD (31 - k) 0).toNat_lt; rw [rc1]; omega
theorem drop_num (a : List UInt8) (k : Nat) (ha : a.length = 32) (hk : k < 32) : num (a.drop (32 - (k + 1))) = (a.getD (31 - k) 0).toNat * 256 ^ k + num (a.drop (32 - k)) := by
  have h : 31 - k < a.length := by omega
  rw [show 32 - (k + 1) = 31 - k by omega, List.drop_eq_getElem_cons h, num_cons, show 31 - k + 1 = 32 - k by omega, List.length_drop, ha, show 32 - (32 - k) = k by omega]
  simp [List.getD_eq_getElem?_getD, List.getElem?_eq_getElem h]
theorem rd1_num (a b : List UInt8) (ha : a.length = 32) (hb : b.length = 32) : ∀ k, k ≤ 32 → num (rd1 a b k) + 256 ^ k * rc1 a b k = num (a.drop (32 - k)) + num (b.drop (32 - k))
  | 0, _ => by
    rw [List.drop_eq_nil_of_le (by omega), List.drop_eq_nil_of_le (by omega)]; simp [rd1, rc1, num]
  | k + 1, hk => by
    have ih := rd1_num a b ha hb k (by omega)
    rw [drop_num a k ha (by omega), drop_num b k hb (by omega), rd1, num_cons, rd1_len]
    have e : (rs1 a b k).toNat = (rc1 a b k + (a.getD (31 - k) 0).toNat + (b.getD (31 - k) 0).toNat) % 256 := by
      unfold rs1; rw [UInt8.toNat_ofNat']; omega
    have e2 : rc1 a b (k + 1) = (rc1 a b k + (a.getD (31 - k) 0).toNat + (b.getD (31 - k) 0).toNat) / 256 := rfl
    rw [e, e2, Nat.pow_succ]
    generalize (a.getD (31 - k) 0).toNat = p at *
    generalize (b.getD (31 - k) 0).toNat = q at *
    generalize rc1 a b k = c at *
    generalize num (rd1 a b k) = n at *
    generalize num (a.drop (32 - k)) = A at *
    generalize num (b.drop (32 - k)) = B at *
    generalize 256 ^ k = z at *
    have h := Nat.mod_add_div (c + p + q) 256
    generalize (c + p + q) % 256 = u at *
    generalize (c + p + q) / 256 = v at *
    have h2 : z * (u + 256 * v) = z * (c + p + q) := by rw [h]
    rw [Nat.mul_add, Nat.mul_add, Nat.mul_add] at h2
    have h3 : z * 256 * v = z * (256 * v) := Nat.mul_assoc _ _ _
    rw [Nat.mul_comm u z, h3, Nat.mul_comm p z, Nat.mul_comm q z]
    omega
theorem rd1_add (a b : List UInt8) (ha : a.length = 32) (hb : b.length = 32) : rd1 a b 32 = addN a b := by
  refine eq_ofN _ _ (rd1_len a b 32) ?_
  have h := rd1_num a b ha hb 32 (Nat.le_refl _)
  rw [Nat.sub_self, List.drop_zero, List.drop_zero] at h
  rw [← h]
  exact (Nat.add_mul_mod_self_left _ _ _).symm
theorem rd_row (l : List UInt8) (k : Nat) (x : UInt8) (hk : k < 32) (hl : l.length = k) : (List.replicate (32 - k) (0 : UInt8) ++ l).set (31 - k) x = List.replicate (32 - (k + 1)) 0 ++ (x :: l) := by
  rw [show 32 - k = (31 - k) + 1 by omega, show 32 - (k + 1) = 31 - k by omega, List.replicate_succ', List.append_assoc, List.set_append_right _ _ (by simp)]
  simp
def N32 : List UInt8 := List.replicate 32 0
theorem N32_len : N32.length = 32 := by simp [N32]
def Z32 : List Value := bs N32
theorem Z32_len : Z32.length = 32 := by simp [Z32, N32]
theorem Z32_one : Z32.toArray.all (·.oneCell') = true := by simp [Z32, N32, u8v, Value.oneCell']
/-- two digests in their boxes, two rows of noughts -/
def wTwo (w : World) (a b : List UInt8) : World := (((w.alloc (.cells (bs a).toArray 23)).alloc (.cells (bs b).toArray 23)).alloc (.cells Z32.toArray 23)).alloc (.cells Z32.toArray 23)
theorem wTwo_size (w : World) (a b : List UInt8) : (wTwo w a b).heap.size = w.heap.size + 1 + 1 + 1 + 1 := by unfold wTwo; simp
theorem wTwo_a (w : World) (a b : List UInt8) : Blk (wTwo w a b) w.heap.size 23 (bs a) := (((Blk.new w _ _).alloc _).alloc _).alloc _
theorem wTwo_b (w : World) (a b : List UInt8) : Blk (wTwo w a b) (w.heap.size + 1) 23 (bs b) := by
  have := ((Blk.new (w.alloc (.cells (bs a).toArray 23)) 23 (bs b)).alloc (.cells Z32.toArray 23)).alloc (.cells Z32.toArray 23)
  rw [World.size_alloc] at this; exact this
theorem wTwo_c (w : World) (a b : List UInt8) : Blk (wTwo w a b) (w.heap.size + 1 + 1) 23 Z32 := by
  have := (Blk.new ((w.alloc (.cells (bs a).toArray 23)).alloc (.cells (bs b).toArray 23)) 23 Z32).alloc (.cells Z32.toArray 23)
  rw [World.size_alloc, World.size_alloc] at this; exact this
theorem wTwo_d (w : World) (a b : List UInt8) : Blk (wTwo w a b) (w.heap.size + 1 + 1 + 1) 23 Z32 := by
  have := Blk.new (((w.alloc (.cells (bs a).toArray 23)).alloc (.cells (bs b).toArray 23)).alloc (.cells Z32.toArray 23)) 23 Z32
  rw [World.size_alloc, World.size_alloc, World.size_alloc] at this; exact this
theorem wTwo_below (w : World) (a b : List UInt8) : Below w.heap.size w (wTwo w a b) := ((((Below.refl _ w).alloc (Nat.le_refl _) _).alloc (by simp) _).alloc (by simp; omega) _).alloc (by simp; omega) _
set_option maxHeartbeats 4000000 in
theorem radd_calls (a b : List UInt8) (w : World) (ha : a.length = 32) (hb : b.length = 32) :
    Calls Try.prog 7 #[dg a, dg b] w fun e w' => e = .returned (dg (addN a b)) ∧ Below w.heap.size w w' := by
  unfold dg
  have B0 := Hd.mk (wTwo_a w a b)
  have B1 := Hd.mk (wTwo_b w a b)
  have B2 := Hd.mk (wTwo_c w a b)
  have B3 := Hd.mk (wTwo_d w a b)
  have HB := Hd.mk (wTwo_below w a b)
  have hsz := wTwo_size w a b
  go_enter Try.func7, Try.ntmps7
  go_wp2_with ((refine wpList_store_row rfl 23 (.tmp 5) (.tmp 8) rfl (w.heap.size + 1 + 1 + 1) Z32.toArray rfl rfl 23 Z32.toArray B3.out (info_dg.trans (by simp [Z32_len])) rfl Z32_one ?_); (change wpList Try.prog _ _ _ _ ((wTwo w a b).setRow (w.heap.size + 1 + 1 + 1) Z32.toArray)); (generalize hwx : (wTwo w a b).setRow (w.heap.size + 1 + 1 + 1) Z32.toArray = wx); have B0 : Hd (Blk wx w.heap.size 23 (bs a)) := ⟨by rw [← hwx]; exact B0.out.rowFar (by omega) _⟩; have B1 : Hd (Blk wx (w.heap.size + 1) 23 (bs b)) := ⟨by rw [← hwx]; exact B1.out.rowFar (by omega) _⟩; have B2 : Hd (Blk wx (w.heap.size + 1 + 1) 23 Z32) := ⟨by rw [← hwx]; exact B2.out.rowFar (by omega) _⟩; have B3 : Hd (Blk wx (w.heap.size + 1 + 1 + 1) 23 Z32) := ⟨by rw [← hwx]; exact B3.out.putRow _⟩; have HB : Hd (Below w.heap.size w wx) := ⟨by rw [← hwx]; exact below_row HB.out (by omega) _⟩; clear hwx)
  go_loopw [6, 7] (fun c i wr => ∃ k : Nat, k ≤ 32 ∧ i = .int .i64 (31 - (k : Int)) ∧ c = .int .i64 (rc1 a b k : Int) ∧ Hd (Blk wr w.heap.size 23 (bs a)) ∧ Hd (Blk wr (w.heap.size + 1) 23 (bs b)) ∧ Hd (Blk wr (w.heap.size + 1 + 1) 23 Z32) ∧ Hd (Blk wr (w.heap.size + 1 + 1 + 1) 23 (bs (List.replicate (32 - k) 0 ++ rd1 a b k))) ∧ Hd (Below w.heap.size w wr)) (fun _ i _ => (intOf i + 1).toNat)
  case atStart => exact ⟨0, by omega, rfl, rfl, B0, B1, B2, B3, HB⟩
  case round =>
    clear B0 B1 B2 B3 HB
    obtain ⟨k, hk, rfl, rfl, B0, B1, B2, B3, HB⟩ := hrel
    by_cases hlt : k < 32
    · obtain ⟨j, hj⟩ : ∃ j : Nat, (31 - (k : Int)) = (j : Int) := ⟨31 - k, by omega⟩
      have hjk : j = 31 - k := by omega
      have ca : wr.cell? ⟨w.heap.size, j, none⟩ = some (.int .u8 ((a.getD (31 - k) 0).toNat : Int)) := by
        have h : j < a.length := by omega
        have := B0.out.cell (bs_at h)
        rw [this, ← hjk]; simp [List.getD_eq_getElem?_getD, List.getElem?_eq_getElem h]
      have cb : wr.cell? ⟨w.heap.size + 1, j, none⟩ = some (.int .u8 ((b.getD (31 - k) 0).toNat : Int)) := by
        have h : j < b.length := by omega
        have := B1.out.cell (bs_at h)
        rw [this, ← hjk]; simp [List.getD_eq_getElem?_getD, List.getElem?_eq_getElem h]
      obtain ⟨u, hu⟩ : ∃ u, wr.cell? ⟨w.heap.size + 1 + 1 + 1, j, none⟩ = some u := ⟨_, B3.out.cell (bs_at (by simp [rd1_len]; omega))⟩
      have hf := B3.out.frz j
      have har : Try.prog.arrayLen 23 = 32 := by kernel_rfl
      have i1 : (0 : Int) ≤ (j : Int) := by omega
      have i2 : (j : Int) < (32 : Int) := by omega
      have HSET : Hd ((List.replicate (32 - k) (0 : UInt8) ++ rd1 a b k).set j (rs1 a b k) = List.replicate (32 - (k + 1)) 0 ++ rd1 a b (k + 1)) := ⟨by rw [hjk]; exact rd_row _ k _ hlt (rd1_len a b k)⟩
      have hcl := rc1_le a b k
      have HRC : Hd (rc1 a b (k + 1) = (rc1 a b k + (a.getD (31 - k) 0).toNat + (b.getD (31 - k) 0).toNat) / 256) := ⟨rfl⟩
      have HRS : Hd ((rs1 a b k).toNat = (rc1 a b k + (a.getD (31 - k) 0).toNat + (b.getD (31 - k) 0).toNat) % 256) := ⟨by unfold rs1; rw [UInt8.toNat_ofNat']; omega⟩
      have ha8 := (a.getD (31 - k) 0).toNat_lt
      have hb8 := (b.getD (31 - k) 0).toNat_lt
      generalize (a.getD (31 - k) 0).toNat = p at *
      generalize (b.getD (31 - k) 0).toNat = q at *
      generalize rc1 a b k = cc at *
      rw [hj]
      have HJ := Hd.mk hj
      clear hj hjk
      go_wp2_with (fail)
      go_region
      all_goals
        go_wp2_with (fail)
        go_roundw
        case rel =>
          refine ⟨k + 1, by omega, by have := HJ.out; congr 1; omega, by rw [HRC.out]; simp, ⟨B0.out.drew.far (show w.heap.size ≠ w.heap.size + 1 + 1 + 1 by omega) _⟩, ⟨B1.out.drew.far (show w.heap.size + 1 ≠ w.heap.size + 1 + 1 + 1 by omega) _⟩, ⟨B2.out.drew.far (show w.heap.size + 1 + 1 ≠ w.heap.size + 1 + 1 + 1 by omega) _⟩, ⟨?_⟩, ⟨(HB.out.drew).setCell (p := ⟨w.heap.size + 1 + 1 + 1, j, none⟩) (by show w.heap.size ≤ w.heap.size + 1 + 1 + 1; omega) _⟩⟩
          have h := B3.out.drew.set j (u8v (rs1 a b k))
          rw [bs, ← List.map_set, HSET.out] at h
          have e : Value.int .u8 (((cc : Int) + p + q) % 256) = u8v (rs1 a b k) := by
            unfold u8v; rw [HRS.out]; simp
          rw [e]
          exact h
        case measure => (simp [intOf] <;> try omega)
    · obtain rfl : k = 32 := by omega
      have hf : (31 - ((32 : Nat) : Int)) = -1 := by omega
      rw [hf]
      have B3 : Hd (Blk wr (w.heap.size + 1 + 1 + 1) 23 (bs (addN a b))) := ⟨by have h := B3.out; rw [Nat.sub_self, List.replicate_zero, List.nil_append, rd1_add a b ha hb] at h; exact h⟩
      clear hf
      go_wp2_with (first
        | (refine wpList_load_row rfl 23 (.tmp 5) rfl (w.heap.size + 1 + 1 + 1) rfl 23 (bs (addN a b)).toArray (0, 0) (.array 32 5) B3.out Try.underlying23 rfl (info_dg.trans (by simp [addN_len])) ?_)
        | (refine wpList_store_row rfl 23 (.tmp 4) (.tmp 31) rfl (w.heap.size + 1 + 1) (bs (addN a b)).toArray rfl rfl 23 Z32.toArray B2.out (info_dg.trans (by simp [addN_len])) (by simp [addN_len, Z32_len]) (by simp [u8v, Value.oneCell']) ?_))
      refine bodyPost_ret (results_cell_row rfl _ _ (w.heap.size + 1 + 1) 23 (bs (addN a b)).toArray (0, 0) (.array 32 5) rfl (B2.out.putRow _) Try.underlying23 rfl (info_dg.trans (by simp [addN_len]))) rfl ?_
      exact ⟨rfl, below_row HB.out (by omega) _⟩
end Go.Proofs.Ytohndablfjonhaa
