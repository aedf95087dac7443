/- Walks of the functions that the law reaches. -/
import Derived.Test.YtnplmeljekhkkaaCAny
import Derived.Test.YtnplmeljekhkkaaCNum
import Derived.Test.YtnplmeljekhkkaaBase2
import Derived.Deep.RegionLaw
namespace Go.Proofs.Ytnplmeljekhkkaa
open Go.RowKit Go.Sac
set_option linter.unusedVariables false
set_option linter.unusedSimpArgs false

set_option maxHeartbeats 4000000 in
theorem lawOrders (a b wide : Int) (w : World) (ha : 0 ≤ a ∧ a ≤ 18446744073709551615) (hb : 0 ≤ b ∧ b ≤ 18446744073709551615) (hw : 0 ≤ wide ∧ wide ≤ 255) :
    Calls Try.prog 9 #[.int .u64 a, .int .u64 b, .int .u8 wide] w fun e w' => RetTrue w e w' := by
  have HA := Hd.mk ha
  have HB := Hd.mk hb
  obtain ⟨k, hk⟩ : ∃ k : Nat, wide % 8 = (k : Int) := ⟨(wide % 8).toNat, by omega⟩
  have hk8 : k < 8 := by omega
  obtain ⟨x, hx⟩ : ∃ x, putB a.toNat (putW 8) = x := ⟨_, rfl⟩
  obtain ⟨y, hy⟩ : ∃ y, putB b.toNat (putW 8) = y := ⟨_, rfl⟩
  have p8 : putW 8 = 8 := by decide
  have hxl : x.length = 8 := by rw [← hx, putB_len, p8]
  have hyl : y.length = 8 := by rw [← hy, putB_len, p8]
  have hxn : num x = a.toNat := by rw [← hx, putB_num, p8]; exact Nat.mod_eq_of_lt (by omega)
  have hyn : num y = b.toNat := by rw [← hy, putB_num, p8]; exact Nat.mod_eq_of_lt (by omega)
  have hless : Op.bytesLess x y = decide (a < b) := by rw [less_num x y (by rw [hxl, hyl]), hxn, hyn]; congr 1; exact propext (by omega)
  have heq : (x == y) = (a == b) := by
    rw [Bool.eq_iff_iff, beq_iff_eq, beq_iff_eq]
    constructor
    · intro h; rw [h, hyn] at hxn; omega
    · intro h; exact num_inj x y (by rw [hxl, hyl]) (by rw [hxn, hyn, h])
  have hz : x.drop (8 - k) = putB a.toNat k := by rw [← hx, p8]; exact putB_drop _ 8 k (by omega)
  have HX := Hd.mk (And.intro hx (And.intro hy (And.intro hxl (And.intro hyl hz))))
  have HL := Hd.mk (And.intro hless heq)
  have HK := Hd.mk hk
  clear hx hy hxl hyl hxn hyn hless heq hz ha hb p8
  go_enter Try.func9, Try.ntmps9
  go_wp2_with fail
  refine (put_any _ _ _ HA.out).mono ?_
  rintro e w1 ⟨v, rfl, ho1, hb1⟩
  rw [HX.out.1, HX.out.2.2.1] at ho1
  obtain ⟨A1, c1, rfl, hc1, hr1, _⟩ := own_rc ho1
  have HR1 := Hd.mk hr1
  have HB1 := Hd.mk hb1
  clear ho1 hr1 hb1
  go_wp2_with fail
  refine (put_any _ _ _ HB.out).mono ?_
  rintro e w2 ⟨v, rfl, ho1, hb1⟩
  rw [HX.out.2.1, HX.out.2.2.2.1] at ho1
  obtain ⟨A2, c2, rfl, hc2, hr2, _⟩ := own_rc ho1
  have HR2 := Hd.mk hr2
  have HR1' := Hd.mk (HR1.out.below hb1)
  have HB2 := Hd.mk (below_then HB1.out HB1.out.size hb1)
  clear ho1 hr2 hb1 HB1 HR1
  have h1 := run_str (P := Try.prog) w2 22 5 9 Try.underlying22 Try.underlying5 Try.underlying9 A1 c1 x HR1'.out
  have h2 := run_str (P := Try.prog) w2 22 5 9 Try.underlying22 Try.underlying5 Try.underlying9 A2 c2 y HR2.out
  rw [HX.out.2.2.1] at h1
  rw [HX.out.2.2.2.1] at h2
  have hl1 := HL.out.1
  have hl2 := HL.out.2
  go_wp2_with fail
  refine (put_any _ _ _ HA.out).mono ?_
  rw [show putW (k : Int) = k by unfold putW; omega]
  rintro e w3 ⟨v, rfl, ho1, hb1⟩
  obtain ⟨z, hz⟩ : ∃ z, putB a.toNat k = z := ⟨_, rfl⟩
  have hzl : z.length = k := by rw [← hz, putB_len]
  rw [hz, hzl] at ho1
  have hdz := HX.out.2.2.2.2
  rw [hz] at hdz
  obtain ⟨A3, c3, rfl, hc3, hr3, _⟩ := own_rc ho1
  have HR3 := Hd.mk hr3
  have HR1 := Hd.mk (HR1'.out.below hb1)
  have HB3 := Hd.mk (below_then HB2.out HB2.out.size hb1)
  have hxl := HX.out.2.2.1
  obtain ⟨A4, hcut, hrc, _⟩ := cut_low (P := Try.prog) 22 5 Try.underlying22 info_u8 A1 8 c1 (8 - k) (by omega) hc1
  rw [show 8 - (8 - k) = k by omega] at hcut
  obtain ⟨j, hj⟩ : ∃ j, 8 - k = j := ⟨_, rfl⟩
  rw [hj] at hcut hrc hdz
  have hwr : IntKind.i64.wrap (8 - (k : Int)) = (j : Int) := by rw [IntKind.wrap_i64]; omega
  clear hj
  have hr4 : Rc w3 A4 (bs z) := by
    have := hrc w3 (bs x) (by rw [bs_len, hxl]) HR1.out
    rw [bs, ← List.map_drop, hdz] at this
    exact this
  have HR4 := Hd.mk hr4
  have HZ := Hd.mk (And.intro hz hzl)
  clear ho1 hr3 hb1 HB2 HR1' HR2 hrc hr4 hdz hxl hz hzl h1 h2 hl1 hl2 HX HL HA HB
  go_wp2_with fail
  have hmake : ∀ W : World, (Instr.makeSlice 22 (.int .i64 3) (.int .i64 3)).run Try.prog W = .ok (.slice (some ⟨W.heap.size, 0, none⟩) 3 3) (W.alloc (.cells (zeroRow 3) 5)) := run_make_u8 (P := Try.prog) 22 5 Try.underlying22 info_u8 3 (by omega)
  have HJ : Hd (Rcc (((w3.alloc (.cells (zeroRow 3) 5)).alloc (.cells #[.slice (some ⟨w3.heap.size, 0, none⟩) 3 3, .slice A3 k c3] 22)).drew) (some ⟨w3.heap.size + 1, 0, none⟩) [[0, 0, 0], z]) := ⟨by
    have h := rcc_two (w := w3.alloc (.cells (zeroRow 3) 5)) 22 (n := 3) (k := k) (zero_rc w3 5 3) (HR3.out.below ((Below.refl _ _).alloc (Nat.le_refl _) _)) (Nat.le_refl _) (by rw [HZ.out.2]; exact hc3) rfl HZ.out.2.symm
    rw [show (w3.alloc (.cells (zeroRow 3) 5)).heap.size = w3.heap.size + 1 by simp] at h
    exact h.below (Below.refl _ _).drew⟩
  obtain ⟨zz, hzz⟩ : ∃ zz, [[0, 0, 0], z].flatten = zz := ⟨_, rfl⟩
  have hzl : zz.length = k + 3 := by rw [← hzz]; simp [HZ.out.2]
  have hzg : (getB zz : Int) = getB z := by
    have e : [[0, 0, 0], z].flatten = [0, 0, 0] ++ z := by simp
    rw [← hzz, e, getB_zeros z (by rw [HZ.out.2]; omega), getB_small z (by rw [HZ.out.2]; omega)]
  have HZZ := Hd.mk (And.intro hzz (And.intro hzl hzg))
  clear hzz hzl hzg
  go_region_law (first
    | (go_simp; go_at_call 14; refine (same_any _ _ _ _ _ _ z z _ (HR3.out.below (Below.refl _ _).drew) (HR4.out.below (Below.refl _ _).drew) HZ.out.2.symm HZ.out.2.symm).mono ?_; rintro e w4 ⟨rfl, rfl⟩; rw [show (z == z) = true by simp])
    | (go_simp; go_at_call 22; with_reducible refine (get_any A3 k c3 z _ ?_ (by rw [HZ.out.2]; exact hc3) (by rw [HZ.out.2]; omega) HZ.out.2.symm).mono ?_; exact HR3.out.below (by first | exact (Below.refl _ _).drew | exact ((Below.refl _ _).alloc (Nat.le_refl _) _).drew | exact (((Below.refl _ _).alloc (Nat.le_refl _) _).alloc (by simp) _).drew); rintro e w4 ⟨rfl, rfl⟩)
    | (go_simp; go_at_call 18; refine (join_any (some ⟨w3.heap.size + 1, 0, none⟩) 2 2 [[0, 0, 0], z] _ HJ.out (by simp [HZ.out.2]; omega) (by simp) rfl).mono ?_; rintro e w5 ⟨v5, rfl, ho5, hb5⟩; rw [HZZ.out.1, HZZ.out.2.1] at ho5; obtain ⟨A5, c5, rfl, hc5, hr5, _⟩ := own_rc ho5; have HR5 := Hd.mk (And.intro hr5 hc5); have HB5 := Hd.mk hb5; clear ho5 hb5 hr5 hc5)
    | (go_simp; go_at_call 22; with_reducible refine (get_any A5 (k + 3) c5 zz _ HR5.out.1 (by rw [HZZ.out.2.1]; exact HR5.out.2) (by rw [HZZ.out.2.1]; omega) HZZ.out.2.1.symm).mono ?_; rintro e w6 ⟨rfl, rfl⟩; rw [HZZ.out.2.2])
    | (go_simp; go_at_call 10; refine (known_calls _).mono ?_; rintro e w9 ⟨rfl, hb9⟩; have HB9 := Hd.mk hb9; clear hb9))
  all_goals
    go_wp2
    go_ret
    have s3 := HB3.out.size
    have b5 := below_then (((HB3.out.alloc s3 (.cells (zeroRow 3) 5)).alloc (by simp; omega) (.cells #[.slice (some ⟨w3.heap.size, 0, none⟩) 3 3, .slice A3 k c3] 22)).drew) (by simp; omega) HB5.out
    exact ⟨rfl, below_then b5 b5.size HB9.out⟩
end Go.Proofs.Ytnplmeljekhkkaa
