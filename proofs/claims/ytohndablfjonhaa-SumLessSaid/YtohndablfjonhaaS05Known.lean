/- Walks: what the chapter's example fixes. -/
import Derived.Test.YtohndablfjonhaaS05Add
import Derived.Test.YtohndablfjonhaaS05Sub
import Derived.Test.YtohndablfjonhaaS05RefSub
namespace Go.Proofs.Ytohndablfjonhaa
open Go.RowKit Go.Sac
set_option linter.unusedVariables false
set_option linter.unusedSimpArgs false

def F32 : List UInt8 := List.replicate 32 255
def O32 : List UInt8 := List.replicate 31 0 ++ [1]
theorem known_add : addN F32 O32 = N32 := by decide +kernel
theorem known_sub : subN N32 O32 = F32 := by decide +kernel
theorem known_less : lessT O32 F32 = true := by decide +kernel
theorem guard_dg : Try.prog.eqGuardType Try.prog.depth 23 = false := by kernel_rfl
theorem eql_dg (xs ys : List UInt8) (hx : xs.length = 32) (hy : ys.length = 32) (w : World) :
    (Op.equalIn 10000 23 (.agg (bs xs).toArray) (.agg (bs ys).toArray)).run Try.prog w = .ok (xs == ys) w :=
  run_equalIn_bytes (e := 5) (n := 32) Try.underlying23 Try.underlying5 (by kernel_rfl) Try.isAgg5 xs ys hx hy w
theorem build_dg (w : World) : (Instr.build 23 #[]).run Try.prog w = .ok (.agg Z32.toArray) w := by kernel_rfl
set_option maxHeartbeats 600000 in
theorem known_calls (w : World) : Calls Try.prog 12 #[] w (RetT w) := by
  go_enter Try.func12, Try.ntmps12
  have B0 := Hd.mk (Blk.new w 23 Z32)
  go_wp2_with (first
    | (refine wpList_store_row rfl 23 (.tmp 1) (.tmp 4) rfl w.heap.size Z32.toArray rfl rfl 23 Z32.toArray B0.out (info_dg.trans (by simp [Z32_len])) rfl Z32_one ?_; change wpList Try.prog _ _ _ _ ((w.alloc (.cells Z32.toArray 23)).setRow w.heap.size Z32.toArray); generalize hwx : (w.alloc (.cells Z32.toArray 23)).setRow w.heap.size Z32.toArray = w1; have B1 : Hd (Blk w1 w.heap.size 23 Z32) := ⟨by rw [← hwx]; exact B0.out.putRow _⟩; have HB1 : Hd (Below w.heap.size w w1) := ⟨by rw [← hwx]; exact below_row ((Below.refl _ _).alloc (Nat.le_refl _) _) (Nat.le_refl _) _⟩; have hs1 : w1.heap.size = w.heap.size + 1 := (by rw [← hwx]; simp); have B2 := Hd.mk (Blk.new w1 23 Z32); rw [hs1] at B2; clear B0 hwx)
    | (refine wpList_store_row rfl 23 (.tmp 2) (.tmp 5) rfl (w.heap.size + 1) Z32.toArray rfl rfl 23 Z32.toArray B2.out (info_dg.trans (by simp [Z32_len])) rfl Z32_one ?_; change wpList Try.prog _ _ _ _ ((w1.alloc (.cells Z32.toArray 23)).setRow (w.heap.size + 1) Z32.toArray); generalize hwx : (w1.alloc (.cells Z32.toArray 23)).setRow (w.heap.size + 1) Z32.toArray = w2; have C1 : Hd (Blk w2 w.heap.size 23 Z32) := ⟨by rw [← hwx]; exact (B1.out.alloc _).rowFar (by omega) _⟩; have C2 : Hd (Blk w2 (w.heap.size + 1) 23 Z32) := ⟨by rw [← hwx]; exact B2.out.putRow _⟩; have HB2 : Hd (Below w.heap.size w w2) := ⟨by rw [← hwx]; exact below_row (HB1.out.alloc (by omega) _) (by omega) _⟩; obtain ⟨u, hu⟩ : ∃ u, w2.cell? ⟨w.heap.size + 1, 31, none⟩ = some u := ⟨_, C2.out.cell (i := 31) (bs_at (l := N32) (by simp [N32]))⟩; have hf := C2.out.frz 31; have har : Try.prog.arrayLen 23 = 32 := (by kernel_rfl); clear B1 B2 HB1 hs1 hwx))
  have D1 : Hd (Blk (w2.setCell ⟨w.heap.size + 1, 31, none⟩ (.int .u8 1)) w.heap.size 23 (bs (List.replicate 0 255 ++ List.replicate (32 - 0) 0))) := ⟨C1.out.far (show w.heap.size ≠ w.heap.size + 1 by omega) _⟩
  have D2 : Hd (Blk (w2.setCell ⟨w.heap.size + 1, 31, none⟩ (.int .u8 1)) (w.heap.size + 1) 23 (bs O32)) := ⟨C2.out.set 31 _⟩
  have HB3 : Hd (Below w.heap.size w (w2.setCell ⟨w.heap.size + 1, 31, none⟩ (.int .u8 1))) := ⟨HB2.out.setCell (p := ⟨w.heap.size + 1, 31, none⟩) (by show w.heap.size ≤ w.heap.size + 1; omega) _⟩
  clear hu hf C1 C2 HB2
  generalize w2.setCell ⟨w.heap.size + 1, 31, none⟩ (.int .u8 1) = w3 at *
  go_loopw [3] (fun i wr => ∃ k : Nat, k ≤ 32 ∧ i = .int .i64 k ∧ Hd (Blk wr w.heap.size 23 (bs (List.replicate k 255 ++ List.replicate (32 - k) 0))) ∧ Hd (Blk wr (w.heap.size + 1) 23 (bs O32)) ∧ Hd (Below w.heap.size w wr)) (fun i _ => 32 - (intOf i).toNat)
  case atStart => exact ⟨0, by omega, rfl, D1, D2, HB3⟩
  case round =>
    clear D1 D2 HB3
    obtain ⟨k, hk, rfl, D1, D2, HB3⟩ := hrel
    by_cases hlt : k < 32
    · obtain ⟨u, hu⟩ : ∃ u, wr.cell? ⟨w.heap.size, k, none⟩ = some u := ⟨_, D1.out.cell (i := k) (bs_at (by simp; omega))⟩
      have hf := D1.out.frz k
      have i1 : (0 : Int) ≤ (k : Int) := by omega
      have i2 : (k : Int) < (32 : Int) := by omega
      go_wp2_with (fail)
      go_roundw
      case rel =>
        refine ⟨k + 1, by omega, by go_num, ⟨?_⟩, ⟨D2.out.far (show w.heap.size + 1 ≠ w.heap.size by omega) _⟩, ⟨HB3.out.setCell (p := ⟨w.heap.size, k, none⟩) (Nat.le_refl _) _⟩⟩
        have h := D1.out.set k (u8v 255)
        rw [bs, ← List.map_set] at h
        have e : (List.replicate k (255 : UInt8) ++ List.replicate (32 - k) 0).set k 255 = List.replicate (k + 1) 255 ++ List.replicate (32 - (k + 1)) 0 := by
          rw [List.set_append_right _ _ (by simp), List.length_replicate, Nat.sub_self, show 32 - k = (32 - (k + 1)) + 1 by omega, List.replicate_succ, List.set_cons_zero, List.replicate_succ', List.append_assoc]; rfl
        rw [e] at h
        exact h
      case measure => simp [intOf]; omega
    · obtain rfl : k = 32 := by omega
      have D1 : Hd (Blk wr w.heap.size 23 (bs F32)) := ⟨D1.out⟩
      go_wp2_with (fail)
      have HA : ∀ w', Aft wr w' → w'.heap[w.heap.size]? = some (.cells (bs F32).toArray 23 (0, 0)) := fun w' h => h.blk D1.out
      have HO : ∀ w', Aft wr w' → w'.heap[w.heap.size + 1]? = some (.cells (bs O32).toArray 23 (0, 0)) := fun w' h => h.blk D2.out
      have q1 : ∀ w, (Op.equalIn 10000 23 (.agg (bs (addN F32 O32)).toArray) (.agg (bs N32).toArray)).run Try.prog w = .ok true w := fun w => by rw [eql_dg _ _ (addN_len _ _) N32_len, known_add]; simp
      have q2 : ∀ w, (Op.equalIn 10000 23 (.agg (bs (subN N32 O32)).toArray) (.agg (bs F32).toArray)).run Try.prog w = .ok true w := fun w => by rw [eql_dg _ _ (subN_len _ _) (by simp [F32]), known_sub]; simp
      have hF : F32.length = 32 := by simp [F32]
      have hO : O32.length = 32 := by simp [O32]
      refine region_class (Aft wr) (by kernel_rfl) (by kernel_rfl) (Aft.start wr) ?_
      refine qs_row (by rfl) 23 (.tmp 1) rfl w.heap.size rfl 23 (bs F32).toArray (0, 0) (.array 32 5) HA Try.underlying23 rfl (info_dg.trans (by simp [hF])) ?_; simp only [Act.put, List.setIfInBounds_toArray, List.set_cons_zero, List.set_cons_succ]
      refine qs_row (by rfl) 23 (.tmp 2) rfl (w.heap.size + 1) rfl 23 (bs O32).toArray (0, 0) (.array 32 5) HO Try.underlying23 rfl (info_dg.trans (by simp [hO])) ?_; simp only [Act.put, List.setIfInBounds_toArray, List.set_cons_zero, List.set_cons_succ]
      refine qs_call (.agg (bs (addN F32 O32)).toArray) 6 #[.agg (bs F32).toArray, .agg (bs O32).toArray] (by rfl) (fun _ => by go_simp) (fun w' h => aft_calls h (add_calls _ _ w' hF hO)) ?_; simp only [Act.put, List.setIfInBounds_toArray, List.set_cons_zero, List.set_cons_succ]
      refine qs_build (.agg (bs N32).toArray) (by rfl) 23 #[] rfl #[] (by simp) build_dg ?_; simp only [Act.put, List.setIfInBounds_toArray, List.set_cons_zero, List.set_cons_succ]
      refine qs_eql true (by rfl) 23 _ _ _ rfl _ _ rfl rfl guard_dg q1 ?_; simp only [Act.put, List.setIfInBounds_toArray, List.set_cons_zero, List.set_cons_succ]
      refine qs_take (.bool true) (by rfl) (fun w' _ => by go_simp) ?_; simp only [Act.put, List.setIfInBounds_toArray, List.set_cons_zero, List.set_cons_succ]
      refine qs_build (.agg (bs N32).toArray) (by rfl) 23 #[] rfl #[] (by simp) build_dg ?_; simp only [Act.put, List.setIfInBounds_toArray, List.set_cons_zero, List.set_cons_succ]
      refine qs_row (by rfl) 23 (.tmp 2) rfl (w.heap.size + 1) rfl 23 (bs O32).toArray (0, 0) (.array 32 5) HO Try.underlying23 rfl (info_dg.trans (by simp [hO])) ?_; simp only [Act.put, List.setIfInBounds_toArray, List.set_cons_zero, List.set_cons_succ]
      refine qs_call (.agg (bs (subN N32 O32)).toArray) 8 #[.agg (bs N32).toArray, .agg (bs O32).toArray] (by rfl) (fun _ => by go_simp) (fun w' h => aft_calls h (sub_calls _ _ w' N32_len hO)) ?_; simp only [Act.put, List.setIfInBounds_toArray, List.set_cons_zero, List.set_cons_succ]
      refine qs_row (by rfl) 23 (.tmp 1) rfl w.heap.size rfl 23 (bs F32).toArray (0, 0) (.array 32 5) HA Try.underlying23 rfl (info_dg.trans (by simp [hF])) ?_; simp only [Act.put, List.setIfInBounds_toArray, List.set_cons_zero, List.set_cons_succ]
      refine qs_eql true (by rfl) 23 _ _ _ rfl _ _ rfl rfl guard_dg q2 ?_; simp only [Act.put, List.setIfInBounds_toArray, List.set_cons_zero, List.set_cons_succ]
      refine qs_take (.bool true) (by rfl) (fun w' _ => by go_simp) ?_; simp only [Act.put, List.setIfInBounds_toArray, List.set_cons_zero, List.set_cons_succ]
      refine qs_take (.bool true) (by rfl) (fun w' _ => by go_simp) ?_; simp only [Act.put, List.setIfInBounds_toArray, List.set_cons_zero, List.set_cons_succ]
      refine qs_row (by rfl) 23 (.tmp 2) rfl (w.heap.size + 1) rfl 23 (bs O32).toArray (0, 0) (.array 32 5) HO Try.underlying23 rfl (info_dg.trans (by simp [hO])) ?_; simp only [Act.put, List.setIfInBounds_toArray, List.set_cons_zero, List.set_cons_succ]
      refine qs_row (by rfl) 23 (.tmp 1) rfl w.heap.size rfl 23 (bs F32).toArray (0, 0) (.array 32 5) HA Try.underlying23 rfl (info_dg.trans (by simp [hF])) ?_; simp only [Act.put, List.setIfInBounds_toArray, List.set_cons_zero, List.set_cons_succ]
      refine qs_call (.bool true) 10 #[.agg (bs O32).toArray, .agg (bs F32).toArray] (by rfl) (fun _ => by go_simp) (fun w' h => aft_calls h (by have h2 := less_calls O32 F32 w' hO hF; rw [known_less] at h2; exact h2)) ?_; simp only [Act.put, List.setIfInBounds_toArray, List.set_cons_zero, List.set_cons_succ]
      refine qs_take (.bool true) (by rfl) (fun w' _ => by go_simp) ?_; simp only [Act.put, List.setIfInBounds_toArray, List.set_cons_zero, List.set_cons_succ]
      refine qs_take (.bool true) (by rfl) (fun w' _ => by go_simp) ?_; simp only [Act.put, List.setIfInBounds_toArray, List.set_cons_zero, List.set_cons_succ]
      refine wpQuiet_nil ?_
      intro w' hC
      have HE : Hd (Below w.heap.size w w') := ⟨HB3.out.trans (hC.mono HB3.out.size)⟩
      clear hC
      go_wp2_with (fail)
      go_ret
      exact ⟨rfl, HE.out⟩
end Go.Proofs.Ytohndablfjonhaa
