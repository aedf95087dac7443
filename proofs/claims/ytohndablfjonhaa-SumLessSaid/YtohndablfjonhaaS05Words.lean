/- Walks: a digest's words; its order; sums. -/
import Derived.Test.YtohndablfjonhaaCGet
import Derived.Test.YtohndablfjonhaaBase4
namespace Go.Proofs.Ytohndablfjonhaa
open Go.RowKit Go.Sac
set_option linter.unusedVariables false
set_option linter.unusedSimpArgs false

/-- a digest: 32 bytes -/
def dg (d : List UInt8) : Value := .agg (bs d).toArray
def u64v (n : Nat) : Value := .int .u64 (n : Int)
def wd (l : List Nat) : Value := .agg (l.map u64v).toArray
/-- the i-th word, the least first -/
def wordT (d : List UInt8) (i : Nat) : Nat := getB ((d.take (32 - 8 * i)).drop (24 - 8 * i))

theorem info_w4 : (Try.prog.info? 29).map (·.size) = some 4 := by kernel_rfl
theorem info_dg : (Try.prog.info? 23).map (·.size) = some 32 := by kernel_rfl
def wordsU (d : List UInt8) (k : Nat) : List Nat := ((List.range k).map (wordT d)) ++ List.replicate (4 - k) 0
theorem slice_word (g k : Nat) (hk : k < 4) (w : World) : (Instr.sliceAt 23 (.pointer (some ⟨g, 0, none⟩)) (some (.int .i64 (24 - 8 * (k : Int)))) (some (.int .i64 (32 - 8 * (k : Int)))) none).run Try.prog w = .ok (.slice (some ⟨g, 24 - 8 * k, none⟩) 8 (8 + 8 * k)) w := by
  have har : Try.prog.arrayLen 23 = 32 := by kernel_rfl
  have hel : Try.prog.elem 23 = 5 := by kernel_rfl
  rw [run_sliceAt_array_lh w 23 ⟨g, 0, none⟩ (by rw [har, hel]; exact Try.underlying23) .i64 .i64 _ _ (by omega) (by omega) (by rw [har]; omega), hel, Try.sizeOf5, har]
  have e1 : (24 - 8 * (k : Int)).toNat = 24 - 8 * k := by omega
  have e2 : (32 - 8 * (k : Int)).toNat = 32 - 8 * k := by omega
  rw [e1, e2]
  show Result.ok (slicedAt ⟨g, 0, none⟩ (24 - 8 * k) (32 - 8 * k) 32 1) w = _
  unfold slicedAt
  rw [if_neg (by omega), addr_add, show 32 - 8 * k - (24 - 8 * k) = 8 by omega, show 32 - (24 - 8 * k) = 8 + 8 * k by omega, Nat.mul_one, Nat.zero_add]
theorem wordsU_len (d : List UInt8) (k : Nat) (h : k ≤ 4) : (wordsU d k).length = 4 := by unfold wordsU; simp; omega
theorem wordsU_set (d : List UInt8) (k : Nat) (h : k < 4) : (wordsU d k).set k (wordT d k) = wordsU d (k + 1) := by
  match k, h with
  | 0, _ => rfl
  | 1, _ => rfl
  | 2, _ => rfl
  | 3, _ => rfl
set_option maxHeartbeats 2000000 in
theorem words_calls (d : List UInt8) (w : World) (hd : d.length = 32) :
    Calls Try.prog 13 #[dg d] w fun e w' => e = .returned (wd [wordT d 0, wordT d 1, wordT d 2, wordT d 3]) ∧ Below w.heap.size w w' := by
  unfold dg
  go_enter Try.func13, Try.ntmps13
  go_wp2_with (fail)
  have B0 : Hd (Blk (((w.alloc (.cells (bs d).toArray 23)).alloc (.cells #[u64v 0, u64v 0, u64v 0, u64v 0] 29)).alloc (.cells #[u64v 0, u64v 0, u64v 0, u64v 0] 29)) w.heap.size 23 (bs d)) := ⟨((Blk.new w _ _).alloc _).alloc _⟩
  have B1 : Hd (Blk (((w.alloc (.cells (bs d).toArray 23)).alloc (.cells #[u64v 0, u64v 0, u64v 0, u64v 0] 29)).alloc (.cells #[u64v 0, u64v 0, u64v 0, u64v 0] 29)) (w.heap.size + 1) 29 ((wordsU d 0).map u64v)) := ⟨by
    have := (Blk.new (w.alloc (.cells (bs d).toArray 23)) 29 ((wordsU d 0).map u64v)).alloc (.cells #[u64v 0, u64v 0, u64v 0, u64v 0] 29)
    rw [World.size_alloc] at this; exact this⟩
  have B2 : Hd (Blk (((w.alloc (.cells (bs d).toArray 23)).alloc (.cells #[u64v 0, u64v 0, u64v 0, u64v 0] 29)).alloc (.cells #[u64v 0, u64v 0, u64v 0, u64v 0] 29)) (w.heap.size + 1 + 1) 29 ((wordsU d 0).map u64v)) := ⟨by
    have := (Blk.new ((w.alloc (.cells (bs d).toArray 23)).alloc (.cells #[u64v 0, u64v 0, u64v 0, u64v 0] 29)) 29 ((wordsU d 0).map u64v))
    rw [World.size_alloc, World.size_alloc] at this; exact this⟩
  have HB : Hd (Below w.heap.size w (((w.alloc (.cells (bs d).toArray 23)).alloc (.cells #[u64v 0, u64v 0, u64v 0, u64v 0] 29)).alloc (.cells #[u64v 0, u64v 0, u64v 0, u64v 0] 29))) := ⟨(((Below.refl _ w).alloc (Nat.le_refl _) _).alloc (by simp) _).alloc (by simp; omega) _⟩
  go_loopw [4, 5] (fun _ i wr => ∃ k : Nat, k ≤ 4 ∧ i = .int .i64 k ∧ Hd (Blk wr w.heap.size 23 (bs d)) ∧ Hd (Blk wr (w.heap.size + 1) 29 ((wordsU d 0).map u64v)) ∧ Hd (Blk wr (w.heap.size + 1 + 1) 29 ((wordsU d k).map u64v)) ∧ Hd (Below w.heap.size w wr)) (fun _ i _ => 4 - (intOf i).toNat)
  case atStart => exact ⟨0, by omega, rfl, B0, B1, B2, HB⟩
  case round =>
    clear B0 B1 B2 HB
    obtain ⟨k, hk, rfl, B0, B1, B2, HB⟩ := hrel
    by_cases hlt : k < 4
    · have hcell : ∃ u, wr.cell? ⟨w.heap.size + 1 + 1, k, none⟩ = some u := ⟨_, B2.out.cell (i := k) (List.getElem?_eq_getElem (by rw [List.length_map, wordsU_len d k hk]; exact hlt))⟩
      obtain ⟨u, hu⟩ := hcell
      have hf := B2.out.frz k
      have har : Try.prog.arrayLen 23 = 32 := by kernel_rfl
      have hsl := slice_word w.heap.size k hlt wr
      have hrc : Rc wr (some ⟨w.heap.size, 24 - 8 * k, none⟩) (bs ((d.take (32 - 8 * k)).drop (24 - 8 * k))) := by
        have h := ((B0.out.rc).take (32 - 8 * k)).drop (24 - 8 * k)
        rw [Nat.zero_add] at h
        rw [bs, List.map_drop, List.map_take]; exact h
      have HR := Hd.mk hrc
      have HLn : Hd (8 = ((d.take (32 - 8 * k)).drop (24 - 8 * k)).length) := ⟨by rw [List.length_drop, List.length_take, hd]; omega⟩
      clear hrc
      go_wp2_with (go_at_call 17; refine (get_any _ _ _ _ _ HR.out (by rw [← HLn.out]; omega) (by rw [← HLn.out]; omega) HLn.out).mono ?_; rintro e w2 ⟨rfl, rfl⟩)
      go_roundw
      case rel =>
        refine ⟨k + 1, by omega, by go_num, ⟨B0.out.far (show w.heap.size ≠ w.heap.size + 1 + 1 by omega) _⟩, ⟨B1.out.far (show w.heap.size + 1 ≠ w.heap.size + 1 + 1 by omega) _⟩, ⟨?_⟩, ⟨HB.out.setCell (p := ⟨w.heap.size + 1 + 1, k, none⟩) (by simp; omega) _⟩⟩
        have h := B2.out.set k (u64v (wordT d k))
        rw [← List.map_set, wordsU_set d k hlt] at h
        exact h
      case measure => simp [intOf]; omega
    · obtain rfl : k = 4 := by omega
      go_wp2_with (first
        | (refine wpList_load_row rfl 29 (.tmp 3) rfl (w.heap.size + 1 + 1) rfl 29 ((wordsU d 4).map u64v).toArray (0, 0) (.array 4 28) B2.out Try.underlying29 rfl (info_w4.trans (by simp [wordsU_len])) ?_)
        | (refine wpList_store_row rfl 29 (.tmp 2) (.tmp 19) rfl (w.heap.size + 1) ((wordsU d 4).map u64v).toArray rfl rfl 29 ((wordsU d 0).map u64v).toArray B1.out (info_w4.trans (by simp [wordsU_len])) (by simp [wordsU_len]) (by simp [wordsU, u64v, Value.oneCell']) ?_))
      refine bodyPost_ret (results_cell_row rfl _ _ (w.heap.size + 1) 29 ((wordsU d 4).map u64v).toArray (0, 0) (.array 4 28) rfl (B1.out.putRow _) Try.underlying29 rfl (info_w4.trans (by simp [wordsU_len]))) rfl ?_
      exact ⟨rfl, below_row HB.out (by omega) _⟩
end Go.Proofs.Ytohndablfjonhaa
