/- Walks: whether an inode may be. -/
import Derived.BigQuiet
import Derived.Test.YtmebgejjaljhgaaN13Eq
namespace Go.Proofs.Ytmebgejjaljhgaa
open Go.RowKit Go.Sac
set_option linter.unusedVariables false
set_option linter.unusedSimpArgs false

section
variable {P : Program} {ops : Array Oper} {rest : List Oper} {o : Oper} {a : Act} {w : World} {Q : Exit → Act → World → Prop}
theorem wpList_val_w (v : Value) (hw : Region.wanted o (yielded ops a.tmps) = true) (h : (execOp a.eval o).run P w = .ok (.value v) w) (hk : wpList P ops Q rest (a.put o.dst v) w) : wpList P ops Q (o :: rest) a w := by
  unfold wpList
  rw [if_pos hw]
  refine .inl ?_
  unfold Oper.wp
  rw [h]
  exact hk
theorem wpList_eql_w (r : Bool) (hw : Region.wanted o (yielded ops a.tmps) = true) (t rt : TypeId) (x y : Operand) (ho : o.op = .binOp .eql t x y rt) (xs ys : Array Value) (hx : a.eval x = .agg xs) (hy : a.eval y = .agg ys)
    (hg : P.eqGuardType P.depth t = false) (h : (Op.equalIn 10000 t (.agg xs) (.agg ys)).run P w = .ok r w) (hk : wpList P ops Q rest (a.put o.dst (.bool r)) w) : wpList P ops Q (o :: rest) a w := by
  refine wpList_val_w (.bool r) hw ?_ hk
  unfold execOp
  simp only [ho, hx, hy, Sem.run_bind, run_eqGuard_agg w .eql t x y xs ys hg, run_eql_struct w t xs ys, h, Result.andThen_ok, Sem.run_pure]
end
theorem info_inode : (Try.prog.info? 24).map (·.size) = some 10 := by kernel_rfl
theorem rightB_no {xs : List Int} {k : Nat} (hk : k < 10) (h : ¬ inI xs k) : rightB xs = false := decide_eq_false fun hr => h (hr.1 k hk)
set_option maxHeartbeats 4000000 in
theorem right_calls (xs : List Int) (w : World) (hx : xs.length = 10) :
    Calls Try.prog 12 #[ino xs] w fun e w' => e = .returned (.bool (rightB xs)) ∧ Below w.heap.size w w' := by
  unfold ino
  have HK : Hd (Blk (w.alloc (.cells (ns xs).toArray 24)) w.heap.size 24 (ns xs)) := ⟨Blk.new w _ _⟩
  have HB : Hd (Below w.heap.size w (w.alloc (.cells (ns xs).toArray 24))) := ⟨(Below.refl _ w).alloc (Nat.le_refl _) _⟩
  go_enter Try.func12, Try.ntmps12
  go_wp2_with (go_at_call 29; refine (fields_calls _ _).mono ?_; rintro e w1 ⟨rfl, hb⟩; have HK := Hd.mk (HK.out.below hb HK.out.lt); have HB := Hd.mk (below_then HB.out HB.out.size hb); clear hb)
  go_loopw [6] (fun i wr => ∃ k : Nat, k ≤ 10 ∧ i = .int .i64 k ∧ Hd (Blk wr w.heap.size 24 (ns xs)) ∧ Hd (Below w.heap.size w wr) ∧ Hd (∀ j, j < k → inI xs j)) (fun i _ => 10 - (intOf i).toNat)
  case atStart => exact ⟨0, by omega, rfl, HK, HB, ⟨fun j hj => by omega⟩⟩
  case round =>
    clear HK HB
    obtain ⟨k, hk, rfl, HK, HB, HI⟩ := hrel
    by_cases hlt : k < 10
    · have hix := index_fields w.heap.size k hlt wr
      have hcx := HK.out.cell (ns_get xs k (by omega))
      have hcx2 : ∀ o : Obj, (wr.alloc o).cell? ⟨w.heap.size, k, none⟩ = some (.int .i64 (xs.getD k 0)) := fun o => (HK.out.alloc o).cell (ns_get xs k (by omega))
      have HQ := Hd.mk (HB.out.alloc HB.out.size (.cells #[.pointer (some ⟨w.heap.size, k, none⟩), .int .i64 (wideI k : Int), .int .i64 (mostI k)] 62))
      have HP := Hd.mk (HK.out.alloc (.cells #[.pointer (some ⟨w.heap.size, k, none⟩), .int .i64 (wideI k : Int), .int .i64 (mostI k)] 62))
      obtain ⟨x, hx0⟩ : ∃ x, xs.getD k 0 = x := ⟨_, rfl⟩
      obtain ⟨m, hm0⟩ : ∃ m, mostI k = m := ⟨_, rfl⟩
      rw [hx0] at hcx hcx2
      rw [hm0] at hix HQ HP
      by_cases hin : inI xs k
      · have c1 : decide (x < 0) = false := by have := hin.1; simp; omega
        have c2 : decide (x > m) = false := by have := hin.2; simp; omega
        have HIN := Hd.mk hin
        clear hin hx0 hm0
        go_wp2
        go_quiet (fail)
        go_wp2
        go_roundw
        case rel =>
          refine ⟨k + 1, by omega, by go_num, ⟨HP.out⟩, ⟨below_drewN HQ.out _⟩, ⟨fun j hj => ?_⟩⟩
          rcases (show j < k ∨ j = k by omega) with h | rfl
          · exact HI.out j h
          · exact HIN.out
        case measure => simp [intOf]; omega
      · have HR := Hd.mk (rightB_no hlt hin)
        by_cases hneg : x < 0
        · have c1 : decide (x < 0) = true := by simpa using hneg
          clear hin hx0 hm0
          go_wp2
          go_quiet (fail)
          go_wp2
          go_ret
          exact ⟨by rw [HR.out]; rfl, below_drewN HQ.out _⟩
        · have c1 : decide (x < 0) = false := by simpa using hneg
          have c2 : decide (x > m) = true := by
            simp only [decide_eq_true_eq]
            have : ¬ (0 ≤ x ∧ x ≤ m) := by rw [← hx0, ← hm0]; exact hin
            omega
          clear hin hx0 hm0 hneg
          go_wp2
          go_quiet (fail)
          go_wp2
          go_ret
          exact ⟨by rw [HR.out]; rfl, below_drewN HQ.out _⟩
    · obtain rfl : k = 10 := by omega
      have hc0 := HK.out.cell (ns_get xs 0 (by omega))
      obtain ⟨x, hx0⟩ : ∃ x, xs.getD 0 0 = x := ⟨_, rfl⟩
      rw [hx0] at hc0
      have HL := Hd.mk hx
      by_cases hz : x = 0
      · have c1 : (x != 0) = false := by simp [hz]
        have HE := Hd.mk (eq_inode xs zeroI hx rfl wr)
        have HR : Hd (rightB xs = (xs == zeroI)) := ⟨by
          unfold rightB
          rw [Bool.eq_iff_iff, decide_eq_true_eq, beq_iff_eq]
          exact ⟨fun h => h.2.resolve_left (by rw [hx0, hz]; simp), fun h => ⟨HI.out, .inr h⟩⟩⟩
        clear hz hx0 hx
        go_wp2_with (first
          | (refine wpList_load_row_w rfl 24 (.tmp 1) rfl w.heap.size rfl 24 _ (0, 0) _ HK.out Try.underlying24 rfl (info_inode.trans (by simp [HL.out])) ?_)
          | (refine wpList_eql_w (xs == zeroI) rfl 24 _ (.tmp 28) (.tmp 29) rfl (ns xs).toArray (ns zeroI).toArray rfl rfl (by kernel_rfl) HE.out ?_))
        go_ret
        exact ⟨by rw [HR.out]; rfl, HB.out⟩
      · have c1 : (x != 0) = true := by simpa using hz
        have HR : Hd (rightB xs = true) := ⟨decide_eq_true ⟨HI.out, .inl (by rw [hx0]; exact hz)⟩⟩
        clear hz hx0
        go_wp2
        go_ret
        exact ⟨by rw [HR.out]; rfl, HB.out⟩
end Go.Proofs.Ytmebgejjaljhgaa
