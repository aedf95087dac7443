/- The law SumAdds, walked. -/
import Derived.Test.YtohndablfjonhaaS05Known
namespace Go.Proofs.Ytohndablfjonhaa
open Go.RowKit Go.Sac
set_option linter.unusedVariables false
set_option linter.unusedSimpArgs false

set_option maxHeartbeats 4000000 in
theorem lawAdds (a b : List UInt8) (w : World) (ha : a.length = 32) (hb : b.length = 32) :
    Calls Try.prog 3 #[dg a, dg b] w (RetT w) := by
  unfold dg
  have B0 := Hd.mk (((Blk.new w 23 (bs a))).alloc (.cells (bs b).toArray 23))
  have B1 := Hd.mk (Blk.new (w.alloc (.cells (bs a).toArray 23)) 23 (bs b))
  rw [World.size_alloc] at B1
  have HB : Hd (Below w.heap.size w ((w.alloc (.cells (bs a).toArray 23)).alloc (.cells (bs b).toArray 23))) := ⟨((Below.refl _ w).alloc (Nat.le_refl _) _).alloc (by simp) _⟩
  go_enter Try.func3, Try.ntmps3
  go_wp2_with (fail)
  generalize ((w.alloc (.cells (bs a).toArray 23)).alloc (.cells (bs b).toArray 23)) = w0 at *
  have HA : ∀ w', Aft w0 w' → w'.heap[w.heap.size]? = some (.cells (bs a).toArray 23 (0, 0)) := fun w' h => h.blk B0.out
  have HO : ∀ w', Aft w0 w' → w'.heap[w.heap.size + 1]? = some (.cells (bs b).toArray 23 (0, 0)) := fun w' h => h.blk B1.out
  have HL := Hd.mk (rfl : lessT a b = lessT a b)
  obtain ⟨r, hr⟩ : ∃ r, lessT a b = r := ⟨_, rfl⟩
  refine region_class (Aft w0) (by kernel_rfl) (by kernel_rfl) (Aft.start w0) ?_
  refine qs_row (by rfl) 23 (.tmp 2) rfl (w.heap.size) rfl 23 (bs a).toArray (0, 0) (.array 32 5) HA Try.underlying23 rfl (info_dg.trans (by rw [List.size_toArray, bs_len, ha])) ?_; simp only [Act.put, List.setIfInBounds_toArray, List.set_cons_zero, List.set_cons_succ]
  refine qs_row (by rfl) 23 (.tmp 3) rfl (w.heap.size + 1) rfl 23 (bs b).toArray (0, 0) (.array 32 5) HO Try.underlying23 rfl (info_dg.trans (by rw [List.size_toArray, bs_len, hb])) ?_; simp only [Act.put, List.setIfInBounds_toArray, List.set_cons_zero, List.set_cons_succ]
  refine qs_call (.agg (bs (addN a b)).toArray) 6 #[.agg (bs a).toArray, .agg (bs b).toArray] (by rfl) (fun _ => by go_simp) (fun w' h => aft_calls h (add_calls _ _ w' ha hb)) ?_; simp only [Act.put, List.setIfInBounds_toArray, List.set_cons_zero, List.set_cons_succ]
  refine qs_row (by rfl) 23 (.tmp 2) rfl (w.heap.size) rfl 23 (bs a).toArray (0, 0) (.array 32 5) HA Try.underlying23 rfl (info_dg.trans (by rw [List.size_toArray, bs_len, ha])) ?_; simp only [Act.put, List.setIfInBounds_toArray, List.set_cons_zero, List.set_cons_succ]
  refine qs_row (by rfl) 23 (.tmp 3) rfl (w.heap.size + 1) rfl 23 (bs b).toArray (0, 0) (.array 32 5) HO Try.underlying23 rfl (info_dg.trans (by rw [List.size_toArray, bs_len, hb])) ?_; simp only [Act.put, List.setIfInBounds_toArray, List.set_cons_zero, List.set_cons_succ]
  refine qs_call (.agg (bs (addN a b)).toArray) 7 #[.agg (bs a).toArray, .agg (bs b).toArray] (by rfl) (fun _ => by go_simp) (fun w' h => aft_calls h (radd_calls _ _ w' ha hb)) ?_; simp only [Act.put, List.setIfInBounds_toArray, List.set_cons_zero, List.set_cons_succ]
  refine qs_eql true (by rfl) 23 _ _ _ rfl _ _ rfl rfl guard_dg (fun w' => by rw [eql_dg _ _ (addN_len _ _) (addN_len _ _), beq_self_eq_true]) ?_; simp only [Act.put, List.setIfInBounds_toArray, List.set_cons_zero, List.set_cons_succ]
  refine qs_take (.bool true) (by rfl) (fun w' _ => by go_simp) ?_; simp only [Act.put, List.setIfInBounds_toArray, List.set_cons_zero, List.set_cons_succ]
  refine qs_row (by rfl) 23 (.tmp 2) rfl (w.heap.size) rfl 23 (bs a).toArray (0, 0) (.array 32 5) HA Try.underlying23 rfl (info_dg.trans (by rw [List.size_toArray, bs_len, ha])) ?_; simp only [Act.put, List.setIfInBounds_toArray, List.set_cons_zero, List.set_cons_succ]
  refine qs_row (by rfl) 23 (.tmp 3) rfl (w.heap.size + 1) rfl 23 (bs b).toArray (0, 0) (.array 32 5) HO Try.underlying23 rfl (info_dg.trans (by rw [List.size_toArray, bs_len, hb])) ?_; simp only [Act.put, List.setIfInBounds_toArray, List.set_cons_zero, List.set_cons_succ]
  refine qs_call (.agg (bs (subN a b)).toArray) 8 #[.agg (bs a).toArray, .agg (bs b).toArray] (by rfl) (fun _ => by go_simp) (fun w' h => aft_calls h (sub_calls _ _ w' ha hb)) ?_; simp only [Act.put, List.setIfInBounds_toArray, List.set_cons_zero, List.set_cons_succ]
  refine qs_row (by rfl) 23 (.tmp 2) rfl (w.heap.size) rfl 23 (bs a).toArray (0, 0) (.array 32 5) HA Try.underlying23 rfl (info_dg.trans (by rw [List.size_toArray, bs_len, ha])) ?_; simp only [Act.put, List.setIfInBounds_toArray, List.set_cons_zero, List.set_cons_succ]
  refine qs_row (by rfl) 23 (.tmp 3) rfl (w.heap.size + 1) rfl 23 (bs b).toArray (0, 0) (.array 32 5) HO Try.underlying23 rfl (info_dg.trans (by rw [List.size_toArray, bs_len, hb])) ?_; simp only [Act.put, List.setIfInBounds_toArray, List.set_cons_zero, List.set_cons_succ]
  refine qs_call (.agg (bs (subN a b)).toArray) 9 #[.agg (bs a).toArray, .agg (bs b).toArray] (by rfl) (fun _ => by go_simp) (fun w' h => aft_calls h (rsub_calls _ _ w' ha hb)) ?_; simp only [Act.put, List.setIfInBounds_toArray, List.set_cons_zero, List.set_cons_succ]
  refine qs_eql true (by rfl) 23 _ _ _ rfl _ _ rfl rfl guard_dg (fun w' => by rw [eql_dg _ _ (subN_len _ _) (subN_len _ _), beq_self_eq_true]) ?_; simp only [Act.put, List.setIfInBounds_toArray, List.set_cons_zero, List.set_cons_succ]
  refine qs_take (.bool true) (by rfl) (fun w' _ => by go_simp) ?_; simp only [Act.put, List.setIfInBounds_toArray, List.set_cons_zero, List.set_cons_succ]
  refine qs_take (.bool true) (by rfl) (fun w' _ => by go_simp) ?_; simp only [Act.put, List.setIfInBounds_toArray, List.set_cons_zero, List.set_cons_succ]
  refine qs_row (by rfl) 23 (.tmp 2) rfl (w.heap.size) rfl 23 (bs a).toArray (0, 0) (.array 32 5) HA Try.underlying23 rfl (info_dg.trans (by rw [List.size_toArray, bs_len, ha])) ?_; simp only [Act.put, List.setIfInBounds_toArray, List.set_cons_zero, List.set_cons_succ]
  refine qs_row (by rfl) 23 (.tmp 3) rfl (w.heap.size + 1) rfl 23 (bs b).toArray (0, 0) (.array 32 5) HO Try.underlying23 rfl (info_dg.trans (by rw [List.size_toArray, bs_len, hb])) ?_; simp only [Act.put, List.setIfInBounds_toArray, List.set_cons_zero, List.set_cons_succ]
  refine qs_call (.bool r) 10 #[.agg (bs a).toArray, .agg (bs b).toArray] (by rfl) (fun _ => by go_simp) (fun w' h => aft_calls h (by have h2 := less_calls a b w' ha hb; rw [hr] at h2; exact h2)) ?_; simp only [Act.put, List.setIfInBounds_toArray, List.set_cons_zero, List.set_cons_succ]
  refine qs_row (by rfl) 23 (.tmp 2) rfl (w.heap.size) rfl 23 (bs a).toArray (0, 0) (.array 32 5) HA Try.underlying23 rfl (info_dg.trans (by rw [List.size_toArray, bs_len, ha])) ?_; simp only [Act.put, List.setIfInBounds_toArray, List.set_cons_zero, List.set_cons_succ]
  refine qs_row (by rfl) 23 (.tmp 3) rfl (w.heap.size + 1) rfl 23 (bs b).toArray (0, 0) (.array 32 5) HO Try.underlying23 rfl (info_dg.trans (by rw [List.size_toArray, bs_len, hb])) ?_; simp only [Act.put, List.setIfInBounds_toArray, List.set_cons_zero, List.set_cons_succ]
  refine qs_call (.bool r) 11 #[.agg (bs a).toArray, .agg (bs b).toArray] (by rfl) (fun _ => by go_simp) (fun w' h => aft_calls h (by have h2 := rless_calls a b w' ha hb; rw [hr] at h2; exact h2)) ?_; simp only [Act.put, List.setIfInBounds_toArray, List.set_cons_zero, List.set_cons_succ]
  refine qs_take (.bool true) (by rfl) (fun w' _ => by go_simp) ?_; simp only [Act.put, List.setIfInBounds_toArray, List.set_cons_zero, List.set_cons_succ]
  refine qs_take (.bool true) (by rfl) (fun w' _ => by go_simp) ?_; simp only [Act.put, List.setIfInBounds_toArray, List.set_cons_zero, List.set_cons_succ]
  refine qs_take (.bool true) (by rfl) (fun w' _ => by go_simp) ?_; simp only [Act.put, List.setIfInBounds_toArray, List.set_cons_zero, List.set_cons_succ]
  refine qs_call (.bool true) 12 #[] (by rfl) (fun _ => by go_simp) (fun w' h => aft_calls h (known_calls w')) ?_; simp only [Act.put, List.setIfInBounds_toArray, List.set_cons_zero, List.set_cons_succ]
  refine qs_take (.bool true) (by rfl) (fun w' _ => by go_simp) ?_; simp only [Act.put, List.setIfInBounds_toArray, List.set_cons_zero, List.set_cons_succ]
  refine qs_take (.bool true) (by rfl) (fun w' _ => by go_simp) ?_; simp only [Act.put, List.setIfInBounds_toArray, List.set_cons_zero, List.set_cons_succ]
  refine wpQuiet_nil ?_
  intro w' hC
  have HE : Hd (Below w.heap.size w w') := ⟨HB.out.trans (hC.mono HB.out.size)⟩
  clear hC
  go_wp2_with (fail)
  go_ret
  exact ⟨rfl, HE.out⟩
end Go.Proofs.Ytohndablfjonhaa
