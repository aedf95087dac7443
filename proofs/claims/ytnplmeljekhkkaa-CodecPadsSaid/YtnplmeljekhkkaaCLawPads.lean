/- Walks of the functions that the law reaches. -/
import Derived.Test.YtnplmeljekhkkaaCAny
namespace Go.Proofs.Ytnplmeljekhkkaa
open Go.RowKit Go.Sac
set_option linter.unusedVariables false
set_option linter.unusedSimpArgs false

theorem padB_len (l : List UInt8) (k : Nat) : ((padB l (k : Int)).length : Int) = max (l.length : Int) (k : Int) := by unfold padB; simp; omega
theorem padB_idem (l : List UInt8) (k : Nat) : padB (padB l (k : Int)) (k : Int) = padB l (k : Int) := by
  have h := padB_len l k
  show padB l (k : Int) ++ List.replicate ((k : Int).toNat - (padB l (k : Int)).length) 0 = _
  have : (k : Int).toNat - (padB l (k : Int)).length = 0 := by omega
  rw [this]; simp
theorem padB_zero (l : List UInt8) (k i : Nat) (h1 : l.length ≤ i) (h2 : i < (padB l (k : Int)).length) : (padB l (k : Int))[i] = 0 := by
  have h : (padB l (k : Int))[i]? = some 0 := by
    have hl := padB_len l k
    unfold padB
    rw [List.getElem?_append_right h1, List.getElem?_replicate, if_pos (by omega)]
  rw [List.getElem?_eq_getElem h2] at h
  exact Option.some.inj h

set_option maxHeartbeats 2000000 in
theorem lawPads (A : Option Addr) (c : Nat) (b : List UInt8) (wide : Int) (w : World) (hr : Rc w A (bs b)) (hc : b.length ≤ c) (hm : b.length ≤ 140737488351232) (hw : 0 ≤ wide ∧ wide ≤ 65535) :
    Calls Try.prog 4 #[.slice A b.length c, .int .u16 wide] w fun e w' => RetTrue w e w' := by
  by_cases h : 400 < b.length
  · have h1 : decide (400 < b.length) = true := by simpa using h
    go_enter Try.func4, Try.ntmps4
    go_wp2_with (go_at_call 10; refine (known_calls _).mono ?_; rintro e w1 ⟨rfl, hb⟩)
    go_ret
    exact ⟨rfl, hb⟩
  · have h1 : decide (400 < b.length) = false := by simpa using h
    have HA := Hd.mk hr
    clear hr
    go_enter Try.func4, Try.ntmps4
    go_wp2_with fail
    obtain ⟨k, hk⟩ : ∃ k : Nat, wide % 400 = (k : Int) := ⟨(wide % 400).toNat, by omega⟩
    have hk4 : k < 400 := by omega
    rw [hk]
    clear hk
    refine (pad_any _ _ _ b (k : Int) _ HA.out (by omega) (by omega) (by omega) rfl).mono ?_
    rintro e w1 ⟨v, rfl, ho1, hb1⟩
    obtain ⟨A1, c1, rfl, hc1, hr1, _⟩ := own_rc ho1
    have HR1 := Hd.mk hr1
    have HB1 := Hd.mk hb1
    clear ho1 hr1 hb1
    obtain ⟨x, hx⟩ : ∃ x, padB b (k : Int) = x := ⟨_, rfl⟩
    have hxl : (x.length : Int) = max (b.length : Int) (k : Int) := by rw [← hx]; exact padB_len b k
    have hxi : padB x (k : Int) = x := by rw [← hx]; exact padB_idem b k
    have hxt : x.take b.length = b := by rw [← hx]; unfold padB; simp
    have hxz : ∀ i (h1 : b.length ≤ i) (h2 : i < x.length), x[i] = 0 := by subst hx; exact fun i h1 h2 => padB_zero b k i h1 h2
    have hneq : ((x.length : Int) != max (b.length : Int) (k : Int)) = false := by rw [bne_eq_false_iff_eq]; exact hxl
    have hlb : b.length ≤ x.length := by omega
    have hxb : x.length ≤ 400 := by omega
    rw [hx] at HR1 hc1 ⊢
    have HX := Hd.mk (And.intro hxi (And.intro hxt hxz))
    clear hx hxl hxi hxt hxz
    have hcutH := cut_high (P := Try.prog) 22 5 Try.underlying22 info_u8 A1 x.length c1 b.length (Nat.le_trans hlb hc1)
    go_wp2_with fail
    clear hcutH
    refine (same_any _ _ _ _ _ _ (x.take b.length) b _ (by rw [bs, List.map_take]; exact HR1.out.take _) (HA.out.below HB1.out) (by rw [HX.out.2.1]) rfl).mono ?_
    rintro e w2 ⟨rfl, rfl⟩
    rw [show (x.take b.length == b) = true by rw [HX.out.2.1]; simp]
    go_wp2_with fail
    refine (pad_any _ _ _ x (k : Int) _ HR1.out (by omega) (by omega) (by omega) rfl).mono ?_
    rintro e w3 ⟨v, rfl, ho1, hb1⟩
    rw [HX.out.1] at ho1
    obtain ⟨A3, c3, rfl, hc3, hr1, _⟩ := own_rc ho1
    have HR3 := Hd.mk hr1
    have HR1' := Hd.mk (HR1.out.below hb1)
    have HB3 := Hd.mk (below_then HB1.out HB1.out.size hb1)
    clear ho1 hr1 hb1 HB1 HR1
    go_wp2_with fail
    refine (equal_any _ _ _ _ _ _ x x _ HR3.out HR1'.out (by omega) rfl rfl).mono ?_
    rintro e w4 ⟨rfl, hb⟩
    have HR4 := Hd.mk (HR1'.out.below hb)
    have HB4 := Hd.mk (below_then HB3.out HB3.out.size hb)
    clear hb HR1' HB3 HR3
    rw [show (x == x) = true by simp]
    go_wp2
    go_loopw [7] (fun i wr => ∃ j : Nat, b.length ≤ j ∧ j ≤ x.length ∧ i = .int .i64 j ∧ wr = w4) (fun i _ => x.length - (intOf i).toNat)
    case atStart => exact ⟨b.length, Nat.le_refl _, hlb, rfl, rfl⟩
    case round =>
      obtain ⟨j, hj1, hj2, rfl, rfl⟩ := hrel
      by_cases hlt : j < x.length
      · obtain ⟨bb, off, rfl, hbb, hcc⟩ := HR4.out.form (by rw [bs_len]; omega)
        have hz := HX.out.2.2 j hj1 hlt
        have hcell : wr.cell? ⟨bb, off + j, none⟩ = some (.int .u8 0) := by rw [hcc j _ (bs_at hlt), hz]; rfl
        clear hcc hz
        go_wp2
        go_roundw
        case rel => exact ⟨j + 1, by omega, by omega, by go_num, by first | trivial | rfl⟩
        case measure => simp [intOf]; omega
      · obtain rfl : j = x.length := by omega
        go_wp2_with (go_at_call 10; refine (known_calls _).mono ?_; rintro e w5 ⟨rfl, hb⟩)
        go_ret
        exact ⟨rfl, below_then HB4.out HB4.out.size hb⟩
end Go.Proofs.Ytnplmeljekhkkaa
