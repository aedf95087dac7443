/- The law SumBack, walked. -/
import Derived.Test.YtohndablfjonhaaP05b
namespace Go.Proofs.Ytohndablfjonhaa
open Go.RowKit Go.Sac
set_option linter.unusedVariables false
set_option linter.unusedSimpArgs false

set_option maxHeartbeats 8000000 in
theorem lawBack (a b c : List UInt8) (w : World) (ha : a.length = 32) (hb : b.length = 32) (hc : c.length = 32) :
    Calls Try.prog 4 #[dg a, dg b, dg c] w (RetT w) := by
  unfold dg
  have LA := Hd.mk ha
  have LB := Hd.mk hb
  have LC := Hd.mk hc
  have BA := Hd.mk ((((Blk.new w 23 (bs a))).alloc (.cells (bs b).toArray 23)).alloc (.cells (bs c).toArray 23))
  have BB := Hd.mk ((Blk.new (w.alloc (.cells (bs a).toArray 23)) 23 (bs b)).alloc (.cells (bs c).toArray 23))
  have BC := Hd.mk (Blk.new ((w.alloc (.cells (bs a).toArray 23)).alloc (.cells (bs b).toArray 23)) 23 (bs c))
  rw [World.size_alloc] at BB
  rw [World.size_alloc, World.size_alloc] at BC
  have HB : Hd (Below w.heap.size w (((w.alloc (.cells (bs a).toArray 23)).alloc (.cells (bs b).toArray 23)).alloc (.cells (bs c).toArray 23))) := ⟨(((Below.refl _ w).alloc (Nat.le_refl _) _).alloc (by simp) _).alloc (by simp; omega) _⟩
  have HZ : Hd (w.heap.size + 3 ≤ (((w.alloc (.cells (bs a).toArray 23)).alloc (.cells (bs b).toArray 23)).alloc (.cells (bs c).toArray 23)).heap.size) := ⟨by simp⟩
  have e1 := eql_dg a b ha hb
  have guard := guard_dg
  rcases less_tri a b ha hb with ⟨r1, r2, r3⟩ | ⟨r1, r2, r3⟩ | ⟨r1, r2, r3⟩
  all_goals
    rw [r3] at e1
    have R1 := Hd.mk r1
    have R2 := Hd.mk r2
    clear r1 r2 r3 ha hb hc
    go_enter Try.func4, Try.ntmps4
    go_wp2_with (first
      | (refine wpList_load_row_w (by rfl) 23 (.tmp 3) rfl (w.heap.size) rfl 23 (bs a).toArray (0, 0) (.array 32 5) BA.out Try.underlying23 rfl (info_dg.trans (by rw [List.size_toArray, bs_len, LA.out])) ?_)
      | (refine wpList_load_row_w (by rfl) 23 (.tmp 4) rfl (w.heap.size + 1) rfl 23 (bs b).toArray (0, 0) (.array 32 5) BB.out Try.underlying23 rfl (info_dg.trans (by rw [List.size_toArray, bs_len, LB.out])) ?_)
      | (go_at_call 6; refine (add_calls _ _ _ LA.out LB.out).mono ?_; rintro e w2 ⟨rfl, hb2⟩; simp only [dg]; have BA := Hd.mk (BA.out.below hb2 BA.out.lt); have BB := Hd.mk (BB.out.below hb2 BB.out.lt); have BC := Hd.mk (BC.out.below hb2 BC.out.lt); have HB := Hd.mk (below_then HB.out HB.out.size hb2); have HZ : Hd (w.heap.size + 3 ≤ w2.heap.size) := ⟨Nat.le_trans HZ.out hb2.size⟩; clear hb2)
      | (refine wpList_store_row rfl 23 (.tmp 7) (.tmp 11) rfl w2.heap.size (bs (addN a b)).toArray rfl rfl 23 Z32.toArray (Blk.new w2 23 Z32) (info_dg.trans (by rw [List.size_toArray, bs_len, addN_len])) (by simp [Z32_len, bs_len, addN_len]) (by simp [u8v, Value.oneCell']) ?_; change wpList Try.prog _ _ _ _ ((w2.alloc (.cells Z32.toArray 23)).setRow w2.heap.size (bs (addN a b)).toArray); have hz2 := HZ.out; clear HZ; generalize hwx : (w2.alloc (.cells Z32.toArray 23)).setRow w2.heap.size (bs (addN a b)).toArray = wx; have BA : Hd (Blk wx w.heap.size 23 (bs a)) := ⟨by rw [← hwx]; exact (BA.out.alloc _).rowFar (by omega) _⟩; have BB : Hd (Blk wx (w.heap.size + 1) 23 (bs b)) := ⟨by rw [← hwx]; exact (BB.out.alloc _).rowFar (by omega) _⟩; have BC : Hd (Blk wx (w.heap.size + 1 + 1) 23 (bs c)) := ⟨by rw [← hwx]; exact (BC.out.alloc _).rowFar (by omega) _⟩; have HB : Hd (Below w.heap.size w wx) := ⟨by rw [← hwx]; exact below_row (HB.out.alloc (by omega) _) (by omega) _⟩; have HZ : Hd (w.heap.size + 3 ≤ wx.heap.size) := ⟨by rw [← hwx]; simp; omega⟩; have BS : Hd (Blk wx w2.heap.size 23 (bs (addN a b))) := ⟨by rw [← hwx]; exact (Blk.new w2 23 Z32).putRow _⟩; have HG : Hd (w.heap.size ≤ w2.heap.size) := ⟨by omega⟩; generalize w2.heap.size = gs at *; clear hwx hz2)
      | (go_at_call 10; refine (less_calls _ _ _ (by first | exact LA.out | exact LB.out | exact LC.out | exact F32_len | exact O32_len) (by first | exact LA.out | exact LB.out | exact LC.out | exact F32_len | exact O32_len)).mono ?_; rintro e w2 ⟨rfl, hb2⟩; (first | rw [R1.out] | rw [R2.out]); have BA := Hd.mk (BA.out.below hb2 BA.out.lt); have BB := Hd.mk (BB.out.below hb2 BB.out.lt); have BC := Hd.mk (BC.out.below hb2 BC.out.lt); have HB := Hd.mk (below_then HB.out HB.out.size hb2); have HZ : Hd (w.heap.size + 3 ≤ w2.heap.size) := ⟨Nat.le_trans HZ.out hb2.size⟩; have BS := Hd.mk (BS.out.below hb2 BS.out.lt); clear hb2))
    generalize hww : w2 = wz at *
    have HA : ∀ w', Aft wz w' → w'.heap[w.heap.size]? = some (.cells (bs a).toArray 23 (0, 0)) := fun w' h => h.blk BA.out
    have HO : ∀ w', Aft wz w' → w'.heap[w.heap.size + 1]? = some (.cells (bs b).toArray 23 (0, 0)) := fun w' h => h.blk BB.out
    have HC : ∀ w', Aft wz w' → w'.heap[w.heap.size + 1 + 1]? = some (.cells (bs c).toArray 23 (0, 0)) := fun w' h => h.blk BC.out
    have HS : ∀ w', Aft wz w' → w'.heap[gs]? = some (.cells (bs (addN a b)).toArray 23 (0, 0)) := fun w' h => h.blk BS.out
    have ha := LA.out
    have hb := LB.out
    have hc := LC.out
    refine region_class (Aft wz) (by kernel_rfl) (by kernel_rfl) (Aft.start wz) ?_
    refine qs_row (by rfl) 23 (.tmp 7) rfl (gs) rfl 23 (bs (addN a b)).toArray (0, 0) (.array 32 5) HS Try.underlying23 rfl (info_dg.trans (by rw [List.size_toArray, bs_len, (addN_len a b)])) ?_; simp only [Act.put, List.setIfInBounds_toArray, List.set_cons_zero, List.set_cons_succ]
    refine qs_row (by rfl) 23 (.tmp 4) rfl (w.heap.size + 1) rfl 23 (bs b).toArray (0, 0) (.array 32 5) HO Try.underlying23 rfl (info_dg.trans (by rw [List.size_toArray, bs_len, hb])) ?_; simp only [Act.put, List.setIfInBounds_toArray, List.set_cons_zero, List.set_cons_succ]
    refine qs_call (.agg (bs (subN (addN a b) b)).toArray) 8 #[.agg (bs (addN a b)).toArray, .agg (bs b).toArray] (by rfl) (fun _ => by go_simp) (fun w' h => aft_calls h (sub_calls _ _ w' (addN_len a b) hb)) ?_; simp only [Act.put, List.setIfInBounds_toArray, List.set_cons_zero, List.set_cons_succ]
    refine qs_row (by rfl) 23 (.tmp 3) rfl (w.heap.size) rfl 23 (bs a).toArray (0, 0) (.array 32 5) HA Try.underlying23 rfl (info_dg.trans (by rw [List.size_toArray, bs_len, ha])) ?_; simp only [Act.put, List.setIfInBounds_toArray, List.set_cons_zero, List.set_cons_succ]
    refine qs_eql true (by rfl) 23 _ _ _ rfl _ _ rfl rfl guard_dg (fun w' => by rw [eql_dg _ _ (subN_len _ _) ha, back_eq a b ha hb, beq_self_eq_true]) ?_; simp only [Act.put, List.setIfInBounds_toArray, List.set_cons_zero, List.set_cons_succ]
    refine qs_take (.bool true) (by rfl) (fun w' _ => by go_simp) ?_; simp only [Act.put, List.setIfInBounds_toArray, List.set_cons_zero, List.set_cons_succ]
    refine qs_row (by rfl) 23 (.tmp 4) rfl (w.heap.size + 1) rfl 23 (bs b).toArray (0, 0) (.array 32 5) HO Try.underlying23 rfl (info_dg.trans (by rw [List.size_toArray, bs_len, hb])) ?_; simp only [Act.put, List.setIfInBounds_toArray, List.set_cons_zero, List.set_cons_succ]
    refine qs_row (by rfl) 23 (.tmp 3) rfl (w.heap.size) rfl 23 (bs a).toArray (0, 0) (.array 32 5) HA Try.underlying23 rfl (info_dg.trans (by rw [List.size_toArray, bs_len, ha])) ?_; simp only [Act.put, List.setIfInBounds_toArray, List.set_cons_zero, List.set_cons_succ]
    refine qs_call (.agg (bs (addN b a)).toArray) 6 #[.agg (bs b).toArray, .agg (bs a).toArray] (by rfl) (fun _ => by go_simp) (fun w' h => aft_calls h (add_calls _ _ w' hb ha)) ?_; simp only [Act.put, List.setIfInBounds_toArray, List.set_cons_zero, List.set_cons_succ]
    refine qs_row (by rfl) 23 (.tmp 7) rfl (gs) rfl 23 (bs (addN a b)).toArray (0, 0) (.array 32 5) HS Try.underlying23 rfl (info_dg.trans (by rw [List.size_toArray, bs_len, (addN_len a b)])) ?_; simp only [Act.put, List.setIfInBounds_toArray, List.set_cons_zero, List.set_cons_succ]
    refine qs_eql true (by rfl) 23 _ _ _ rfl _ _ rfl rfl guard_dg (fun w' => by rw [eql_dg _ _ (addN_len _ _) (addN_len a b), add_comm_eq a b, beq_self_eq_true]) ?_; simp only [Act.put, List.setIfInBounds_toArray, List.set_cons_zero, List.set_cons_succ]
    refine qs_take (.bool true) (by rfl) (fun w' _ => by go_simp) ?_; simp only [Act.put, List.setIfInBounds_toArray, List.set_cons_zero, List.set_cons_succ]
    refine qs_take (.bool true) (by rfl) (fun w' _ => by go_simp) ?_; simp only [Act.put, List.setIfInBounds_toArray, List.set_cons_zero, List.set_cons_succ]
    refine qs_row (by rfl) 23 (.tmp 7) rfl (gs) rfl 23 (bs (addN a b)).toArray (0, 0) (.array 32 5) HS Try.underlying23 rfl (info_dg.trans (by rw [List.size_toArray, bs_len, (addN_len a b)])) ?_; simp only [Act.put, List.setIfInBounds_toArray, List.set_cons_zero, List.set_cons_succ]
    refine qs_row (by rfl) 23 (.tmp 5) rfl (w.heap.size + 1 + 1) rfl 23 (bs c).toArray (0, 0) (.array 32 5) HC Try.underlying23 rfl (info_dg.trans (by rw [List.size_toArray, bs_len, hc])) ?_; simp only [Act.put, List.setIfInBounds_toArray, List.set_cons_zero, List.set_cons_succ]
    refine qs_call (.agg (bs (addN (addN a b) c)).toArray) 6 #[.agg (bs (addN a b)).toArray, .agg (bs c).toArray] (by rfl) (fun _ => by go_simp) (fun w' h => aft_calls h (add_calls _ _ w' (addN_len a b) hc)) ?_; simp only [Act.put, List.setIfInBounds_toArray, List.set_cons_zero, List.set_cons_succ]
    refine qs_row (by rfl) 23 (.tmp 3) rfl (w.heap.size) rfl 23 (bs a).toArray (0, 0) (.array 32 5) HA Try.underlying23 rfl (info_dg.trans (by rw [List.size_toArray, bs_len, ha])) ?_; simp only [Act.put, List.setIfInBounds_toArray, List.set_cons_zero, List.set_cons_succ]
    refine qs_row (by rfl) 23 (.tmp 4) rfl (w.heap.size + 1) rfl 23 (bs b).toArray (0, 0) (.array 32 5) HO Try.underlying23 rfl (info_dg.trans (by rw [List.size_toArray, bs_len, hb])) ?_; simp only [Act.put, List.setIfInBounds_toArray, List.set_cons_zero, List.set_cons_succ]
    refine qs_row (by rfl) 23 (.tmp 5) rfl (w.heap.size + 1 + 1) rfl 23 (bs c).toArray (0, 0) (.array 32 5) HC Try.underlying23 rfl (info_dg.trans (by rw [List.size_toArray, bs_len, hc])) ?_; simp only [Act.put, List.setIfInBounds_toArray, List.set_cons_zero, List.set_cons_succ]
    refine qs_call (.agg (bs (addN b c)).toArray) 6 #[.agg (bs b).toArray, .agg (bs c).toArray] (by rfl) (fun _ => by go_simp) (fun w' h => aft_calls h (add_calls _ _ w' hb hc)) ?_; simp only [Act.put, List.setIfInBounds_toArray, List.set_cons_zero, List.set_cons_succ]
    refine qs_call (.agg (bs (addN a (addN b c))).toArray) 6 #[.agg (bs a).toArray, .agg (bs (addN b c)).toArray] (by rfl) (fun _ => by go_simp) (fun w' h => aft_calls h (add_calls _ _ w' ha (addN_len _ _))) ?_; simp only [Act.put, List.setIfInBounds_toArray, List.set_cons_zero, List.set_cons_succ]
    refine qs_eql true (by rfl) 23 _ _ _ rfl _ _ rfl rfl guard_dg (fun w' => by rw [eql_dg _ _ (addN_len _ _) (addN_len _ _), add_assoc_eq a b c, beq_self_eq_true]) ?_; simp only [Act.put, List.setIfInBounds_toArray, List.set_cons_zero, List.set_cons_succ]
    refine qs_take (.bool true) (by rfl) (fun w' _ => by go_simp) ?_; simp only [Act.put, List.setIfInBounds_toArray, List.set_cons_zero, List.set_cons_succ]
    refine qs_take (.bool true) (by rfl) (fun w' _ => by go_simp) ?_; simp only [Act.put, List.setIfInBounds_toArray, List.set_cons_zero, List.set_cons_succ]
    refine qs_row (by rfl) 23 (.tmp 3) rfl (w.heap.size) rfl 23 (bs a).toArray (0, 0) (.array 32 5) HA Try.underlying23 rfl (info_dg.trans (by rw [List.size_toArray, bs_len, ha])) ?_; simp only [Act.put, List.setIfInBounds_toArray, List.set_cons_zero, List.set_cons_succ]
    refine qs_row (by rfl) 23 (.tmp 3) rfl (w.heap.size) rfl 23 (bs a).toArray (0, 0) (.array 32 5) HA Try.underlying23 rfl (info_dg.trans (by rw [List.size_toArray, bs_len, ha])) ?_; simp only [Act.put, List.setIfInBounds_toArray, List.set_cons_zero, List.set_cons_succ]
    refine qs_call (.agg (bs (subN a a)).toArray) 8 #[.agg (bs a).toArray, .agg (bs a).toArray] (by rfl) (fun _ => by go_simp) (fun w' h => aft_calls h (sub_calls _ _ w' ha ha)) ?_; simp only [Act.put, List.setIfInBounds_toArray, List.set_cons_zero, List.set_cons_succ]
    refine qs_build (.agg (bs N32).toArray) (by rfl) 23 #[] rfl #[] (by simp) build_dg ?_; simp only [Act.put, List.setIfInBounds_toArray, List.set_cons_zero, List.set_cons_succ]
    refine qs_eql true (by rfl) 23 _ _ _ rfl _ _ rfl rfl guard_dg (fun w' => by rw [eql_dg _ _ (subN_len _ _) N32_len, sub_self_eq a ha, beq_self_eq_true]) ?_; simp only [Act.put, List.setIfInBounds_toArray, List.set_cons_zero, List.set_cons_succ]
    refine qs_take (.bool true) (by rfl) (fun w' _ => by go_simp) ?_; simp only [Act.put, List.setIfInBounds_toArray, List.set_cons_zero, List.set_cons_succ]
    refine qs_take (.bool true) (by rfl) (fun w' _ => by go_simp) ?_; simp only [Act.put, List.setIfInBounds_toArray, List.set_cons_zero, List.set_cons_succ]
    refine qs_take (.int .i64 1) (by rfl) (fun w' _ => by go_simp) ?_; simp only [Act.put, List.setIfInBounds_toArray, List.set_cons_zero, List.set_cons_succ]
    refine qs_take (.bool true) (by rfl) (fun w' _ => by go_simp) ?_; simp only [Act.put, List.setIfInBounds_toArray, List.set_cons_zero, List.set_cons_succ]
    refine qs_take (.bool true) (by rfl) (fun w' _ => by go_simp) ?_; simp only [Act.put, List.setIfInBounds_toArray, List.set_cons_zero, List.set_cons_succ]
    refine qs_take (.bool true) (by rfl) (fun w' _ => by go_simp) ?_; simp only [Act.put, List.setIfInBounds_toArray, List.set_cons_zero, List.set_cons_succ]
    refine qs_call (.bool true) 12 #[] (by rfl) (fun _ => by go_simp) (fun w' h => aft_calls h (known_calls w')) ?_; simp only [Act.put, List.setIfInBounds_toArray, List.set_cons_zero, List.set_cons_succ]
    refine qs_take (.bool true) (by rfl) (fun w' _ => by go_simp) ?_; simp only [Act.put, List.setIfInBounds_toArray, List.set_cons_zero, List.set_cons_succ]
    refine qs_take (.bool true) (by rfl) (fun w' _ => by go_simp) ?_; simp only [Act.put, List.setIfInBounds_toArray, List.set_cons_zero, List.set_cons_succ]
    refine wpQuiet_nil ?_
    intro w' hC
    have HE : Hd (Below w.heap.size w w') := ⟨HB.out.trans (hC.mono HB.out.size)⟩
    clear hC
    go_wp2_with (fail)
    go_ret
    exact ⟨rfl, HE.out⟩
end Go.Proofs.Ytohndablfjonhaa
