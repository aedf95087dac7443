/- Walks of the functions that the law reaches. -/
import Derived.Test.YtnplmeljekhkkaaCAny
namespace Go.Proofs.Ytnplmeljekhkkaa
open Go.RowKit Go.Sac
set_option linter.unusedVariables false
set_option linter.unusedSimpArgs false

set_option maxHeartbeats 2000000 in
theorem lawPuts (n wide : Int) (A : Option Addr) (c : Nat) (a : List UInt8) (B : Option Addr) (d : Nat) (b : List UInt8) (w : World)
    (hn : 0 ≤ n ∧ n ≤ 18446744073709551615) (hwide : -9223372036854775808 ≤ wide ∧ wide ≤ 9223372036854775807)
    (hr1 : Rc w A (bs a)) (hc1 : a.length ≤ c) (hm1 : a.length ≤ 140737488351232) (hr2 : Rc w B (bs b)) (hc2 : b.length ≤ d) (hm2 : b.length ≤ 140737488351232) :
    Calls Try.prog 7 #[.int .u64 n, .int .i64 wide, .slice A a.length c, .slice B b.length d] w fun e w' => RetTrue w e w' := by
  by_cases h : 500 < a.length + b.length
  · have h1 : decide ((500 : Int) < (a.length : Int) + (b.length : Int)) = true := by simp; omega
    go_enter Try.func7, Try.ntmps7
    go_wp2_with (go_at_call 10; refine (known_calls _).mono ?_; rintro e w1 ⟨rfl, hb⟩)
    go_ret
    exact ⟨rfl, hb⟩
  · have h1 : decide ((500 : Int) < (a.length : Int) + (b.length : Int)) = false := by simp; omega
    have HA := Hd.mk hr1
    have HB := Hd.mk hr2
    have HN := Hd.mk hn
    clear hr1 hr2 hn
    go_enter Try.func7, Try.ntmps7
    go_wp2_with fail
    refine (put_any _ _ _ HN.out).mono ?_
    rintro e w1 ⟨v, rfl, ho1, hb1⟩
    obtain ⟨A1, c1, rfl, _, hr1, _⟩ := own_rc ho1
    have HR1 := Hd.mk hr1
    have HB1 := Hd.mk hb1
    clear ho1 hr1 hb1
    go_wp2_with fail
    refine (rput_any _ _ _ HN.out).mono ?_
    rintro e w2 ⟨v, rfl, ho1, hb1⟩
    obtain ⟨A2, c2, rfl, _, hr1, _⟩ := own_rc ho1
    have HR2 := Hd.mk hr1
    have HB2 := Hd.mk (below_then HB1.out HB1.out.size hb1)
    have HR1' := Hd.mk (HR1.out.below hb1)
    clear ho1 hr1 hb1
    go_wp2_with fail
    refine (same_any _ _ _ _ _ _ _ _ _ HR1'.out HR2.out rfl rfl).mono ?_
    rintro e w3 ⟨rfl, rfl⟩
    rw [show (putB n.toNat (putW wide) == putB n.toNat (putW wide)) = true by simp]
    clear HR1 HR1' HR2 HB1
    go_wp2_with fail
    refine (get_any _ _ _ a _ (HA.out.below HB2.out) hc1 (by omega) rfl).mono ?_
    rintro e w3 ⟨rfl, rfl⟩
    go_wp2_with fail
    refine (rget_any _ _ _ a _ (HA.out.below HB2.out) hc1 (by omega) rfl).mono ?_
    rintro e w3 ⟨rfl, rfl⟩
    go_wp2_with fail
    generalize hk : wide.tmod 300 = k
    have hkb : -300 ≤ k ∧ k ≤ 300 := by
      have h1 := Int.tmod_lt_of_pos wide (b := 300) (by decide)
      have h2 := Int.lt_tmod_of_pos wide (b := 300) (by decide)
      omega
    clear hk
    refine (pad_any _ _ _ a k _ (HA.out.below HB2.out) (by omega) (by omega) (by omega) rfl).mono ?_
    rintro e w4 ⟨v, rfl, ho1, hb1⟩
    obtain ⟨A4, c4, rfl, _, hr1, _⟩ := own_rc ho1
    have HR4 := Hd.mk hr1
    have HB4 := Hd.mk (below_then HB2.out HB2.out.size hb1)
    clear ho1 hr1 hb1
    go_wp2_with fail
    refine (rpad_calls _ _ _ a k _ (HA.out.below HB4.out) (by omega) (by omega) rfl).mono ?_
    rintro e w5 ⟨v, rfl, ho1, hb1⟩
    obtain ⟨A5, c5, rfl, _, hr1, _⟩ := own_rc ho1
    have HR5 := Hd.mk hr1
    have HR4' := Hd.mk (HR4.out.below hb1)
    have HB5 := Hd.mk (below_then HB4.out HB4.out.size hb1)
    clear ho1 hr1 hb1
    go_wp2_with fail
    refine (same_any _ _ _ _ _ _ _ _ _ HR4'.out HR5.out rfl rfl).mono ?_
    rintro e w6 ⟨rfl, rfl⟩
    rw [show (padB a k == padB a k) = true by simp]
    clear HR4 HR4' HR5 HB4 HB2
    go_wp2_with fail
    refine (equal_any _ _ _ _ _ _ a b _ (HA.out.below HB5.out) (HB.out.below HB5.out) (by omega) rfl rfl).mono ?_
    rintro e w6 ⟨rfl, hb⟩
    have HB6 := Hd.mk (below_then HB5.out HB5.out.size hb)
    clear hb
    go_wp2_with fail
    refine (same_any _ _ _ _ _ _ _ _ _ (HA.out.below HB6.out) (HB.out.below HB6.out) rfl rfl).mono ?_
    rintro e w7 ⟨rfl, rfl⟩
    have hbb : ((a == b) == (a == b)) = true := by simp
    go_wp2_with fail
    refine (equal_any _ _ _ _ _ _ a a _ (HA.out.below HB6.out) (HA.out.below HB6.out) (by omega) rfl rfl).mono ?_
    rintro e w8 ⟨rfl, hb⟩
    have HB8 := Hd.mk (below_then HB6.out HB6.out.size hb)
    clear hb
    rw [show (a == a) = true by simp]
    go_wp2_with fail
    refine (known_calls _).mono ?_
    rintro e w9 ⟨rfl, hb⟩
    have HB9 := Hd.mk (below_then HB8.out HB8.out.size hb)
    clear hb
    go_wp2
    go_ret
    exact ⟨rfl, HB9.out⟩
end Go.Proofs.Ytnplmeljekhkkaa
