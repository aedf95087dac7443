/- Walks of the functions that the law reaches. -/
import Derived.Test.YtnplmeljekhkkaaCLawCuts
import Derived.Test.YtnplmeljekhkkaaCNum
namespace Go.Proofs.Ytnplmeljekhkkaa
open Go.RowKit Go.Sac
set_option linter.unusedVariables false
set_option linter.unusedSimpArgs false

theorem info_int : (Try.prog.info? 3).map (fun i => (i.zero, i.size, i.bytes)) = some (some (.int .i64 0), 1, 8) := by kernel_rfl
def lens (ls : List (List UInt8)) (k : Nat) : List Int := (ls.take k).map fun l => (l.length : Int)
theorem lens_step (ls : List (List UInt8)) (k : Nat) (h : k < ls.length) : lens ls (k + 1) = lens ls k ++ [(ls[k].length : Int)] := by
  unfold lens; rw [List.take_succ_eq_append_getElem h, List.map_append]; rfl
theorem lens_len (ls : List (List UInt8)) (k : Nat) (h : k ≤ ls.length) : (lens ls k).length = k := by
  unfold lens; rw [List.length_map, List.length_take]; omega
def allLens (ls : List (List UInt8)) : List Int := ls.map fun l => (l.length : Int)
theorem cut_back (ls : List (List UInt8)) (more : List UInt8) : cutR (ls.flatten ++ more) (allLens ls) = ls ∧ cutE (ls.flatten ++ more) (allLens ls) = if more.length = 0 then 0 else 4 := by
  induction ls with
  | nil => exact ⟨rfl, by simp [allLens, cutE_end]⟩
  | cons l ls ih =>
    have e : (l :: ls).flatten ++ more = l ++ (ls.flatten ++ more) := by simp
    have e2 : allLens (l :: ls) = (l.length : Int) :: allLens ls := rfl
    rw [e, e2, cutR, cutE_cons, Int.toNat_natCast, if_neg (by simp), List.take_left, List.drop_left]
    exact ⟨by rw [ih.1], ih.2⟩
theorem cut_fewer (ls : List (List UInt8)) (h : 0 < ls.flatten.length) : cutE (ls.flatten.take (ls.flatten.length - 1)) (allLens ls) = 3 := by
  induction ls with
  | nil => simp at h
  | cons l ls ih =>
    have e2 : allLens (l :: ls) = (l.length : Int) :: allLens ls := rfl
    have e : (l :: ls).flatten = l ++ ls.flatten := by simp
    rw [e] at h ⊢
    rw [e2, cutE_cons, Int.toNat_natCast, List.length_take, List.length_append]
    by_cases h0 : ls.flatten.length = 0
    · rw [if_pos]
      rw [List.length_append, h0] at h
      omega
    · rw [if_neg (by omega)]
      have : (l ++ ls.flatten).take (l.length + ls.flatten.length - 1) = l ++ ls.flatten.take (ls.flatten.length - 1) := by
        rw [List.take_append, List.take_of_length_le (by omega)]
        congr 2; omega
      rw [this, List.drop_left]
      exact ih (by omega)

theorem pow_facts (wide : Int) (d : Nat) (hd : wide % 9 = (d : Int)) (h : d < 8) : IntKind.u64.wrap (2 ^ (8 * (wide % 9)).toNat) = ((256 ^ d : Nat) : Int) := by
  rw [hd]
  have : ∀ d : Fin 8, IntKind.u64.wrap (2 ^ (8 * (d.val : Int)).toNat) = ((256 ^ d.val : Nat) : Int) := by decide
  exact this ⟨d, h⟩
theorem back_m (n : Int) (d : Nat) (h : 0 ≤ n ∧ n ≤ 18446744073709551615) (hd : d ≤ 8) : (getB (putB n.toNat (putW (d : Int))) : Int) = if d < 8 then n.tmod ((256 ^ d : Nat) : Int) else n := by
  have hw : putW (d : Int) = d := by unfold putW; omega
  rw [hw, getB_small _ (by rw [putB_len]; exact hd), putB_num]
  split
  · rw [Int.tmod_eq_emod_of_nonneg h.1]
    rw [Int.natCast_emod, Int.toNat_of_nonneg h.1]
  · have e : d = 8 := by omega
    subst e
    rw [Nat.mod_eq_of_lt (by omega)]
    omega

set_option maxHeartbeats 4000000 in
theorem lawBack (C : Option Addr) (f : Nat) (ls : List (List UInt8)) (n wide more : Int) (w : World)
    (hr3 : Rcc w C ls) (hc3 : ls.length ≤ f) (hm3 : ls.length * 24 ≤ 140737488351232) (hi3 : ∀ l ∈ ls, l.length ≤ 140737488351232)
    (hn : 0 ≤ n ∧ n ≤ 18446744073709551615) (hwide : 0 ≤ wide ∧ wide ≤ 255) (hmore : 0 ≤ more ∧ more ≤ 255) :
    Calls Try.prog 8 #[.slice C ls.length f, .int .u64 n, .int .u8 wide, .int .u8 more] w fun e w' => RetTrue w e w' := by
  have H3 := Hd.mk hr3
  have HF := Hd.mk (fun k => flat_take_le ls 140737488351232 k hi3)
  have HN := Hd.mk hn
  have HM := Hd.mk hmore
  clear hr3 hi3 hn hmore
  go_enter Try.func8, Try.ntmps8
  go_wp2
  go_loopw [9, 10, 11] (fun n v i wr => ∃ (k : Nat) (N : Int), k ≤ ls.length ∧ i = .int .i64 k ∧ n = .int .i64 N ∧ Hd (k ≤ 50 → N = (ls.take k).flatten.length) ∧ Hd (wr.ownsRow w.heap.size 3 1 v k (ns (lens ls k))) ∧ Hd (Below w.heap.size w wr)) (fun _ _ i _ => ls.length - (intOf i).toNat)
  case atStart => exact ⟨0, 0, Nat.zero_le _, rfl, rfl, ⟨fun _ => by simp⟩, ⟨World.ownsRow_nil _ _ _ _⟩, ⟨Below.refl _ _⟩⟩
  case round =>
    obtain ⟨k, N, hk, rfl, rfl, HNN, HO, HB⟩ := hrel
    obtain ⟨A1, c1, rfl, hc1, hr1, _⟩ := own_rc HO.out
    by_cases hlt : k < ls.length
    · obtain ⟨b1, off, a, c2, rfl, hc, hle, hr⟩ := (H3.out.below HB.out).at k hlt
      have hs := Hd.mk (flat_snoc ls k hlt)
      have hl := Hd.mk (lens_step ls k hlt)
      clear hr H3 hr1
      go_wp2_with (at_builtin; refine app_rc w.heap.size 30 3 (.int .i64 0) 1 8 (.tmp 35) (.tmp 41) rfl rfl Try.underlying30 info_int rfl (by decide) (by decide) (.slice A1 k c1) k (ns (lens ls k)) [.int .i64 (ls[k].length : Int)] (some ⟨wr.heap.size, 0, none⟩) 1 1 rfl rfl (own_alloc HO.out _) (Rc.one _ _ _) (by simp) (by simp [Value.oneCell']) (Nat.le_trans HB.out.size (by simp)) (by omega) (k + 1) (ns (lens ls (k + 1))) rfl (by rw [hl.out]; simp [i64v]) ?_; intro v1 w1 ho hg hat; have HO1 := Hd.mk ho; have HG := Hd.mk hg; clear ho hg hat)
      go_roundw
      case rel =>
        refine ⟨k + 1, _, by omega, by go_num, rfl, ⟨fun h50 => ?_⟩, HO1, ⟨below_lift (HB.out.alloc HB.out.size _) (Nat.le_trans HB.out.size (by simp)) HG.out (fun b hb => (own_lt HO.out b hb).1)⟩⟩
        have h1 := HNN.out (by omega)
        have h2 := HF.out k
        have h3 := HF.out (k + 1)
        have h4 := hs.out
        rw [hs.out, List.length_append] at h3 ⊢
        have : (k + 1) * 140737488351232 ≤ 50 * 140737488351232 := Nat.mul_le_mul_right _ h50
        unfold wrap64
        omega
      case measure => simp [intOf]; omega
    · obtain rfl : k = ls.length := by omega
      have HN2 : Hd (ls.length ≤ 50 → N = ls.flatten.length) := ⟨fun h => by have := HNN.out h; rwa [List.take_length] at this⟩
      have hlens : lens ls ls.length = allLens ls := by unfold lens allLens; rw [List.take_length]
      rw [hlens] at hr1
      have HR1 := Hd.mk hr1
      clear HNN HF hlens hr1
      by_cases g1 : 800 < N
      · have g1' : decide (800 < N) = true := by simpa using g1
        go_wp2_with (go_at_call 10; refine (known_calls _).mono ?_; rintro e w1 ⟨rfl, hb⟩)
        go_ret
        exact ⟨rfl, below_then HB.out HB.out.size hb⟩
      · have g1' : decide (800 < N) = false := by simpa using g1
        by_cases g3 : 50 < ls.length
        · have g3' : decide (50 < ls.length) = true := by simpa using g3
          go_wp2_with (go_at_call 10; refine (known_calls _).mono ?_; rintro e w1 ⟨rfl, hb⟩)
          go_ret
          exact ⟨rfl, below_then HB.out HB.out.size hb⟩
        · have g3' : decide (50 < ls.length) = false := by simpa using g3
          obtain ⟨fl, hfl⟩ : ∃ fl, ls.flatten = fl := ⟨_, rfl⟩
          have hN : N = fl.length := by rw [← hfl]; exact HN2.out (by omega)
          have hfl8 : fl.length ≤ 800 := by omega
          subst hN
          have HFL := Hd.mk hfl
          clear hfl HN2
          go_wp2_with fail
          refine (join_any _ _ _ ls _ (H3.out.below HB.out) (by rw [HFL.out]; omega) (by omega) rfl).mono ?_
          rintro e w4 ⟨v, rfl, ho, hb⟩
          rw [HFL.out] at ho
          obtain ⟨A4, c4, rfl, hc4, hr, _⟩ := own_rc ho
          have HR4 := Hd.mk hr
          have HW4 := Hd.mk (HR1.out.below hb)
          have HB4 := Hd.mk (below_then HB.out HB.out.size hb)
          clear ho hr hb
          go_wp2_with fail
          have hcb := cut_back ls []
          rw [List.append_nil, HFL.out] at hcb
          have hE0 : cutE fl (allLens ls) = 0 := by rw [hcb.2]; rfl
          have hL0 : cutL fl (allLens ls) = ls := by unfold cutL; rw [if_pos hE0, hcb.1]
          have hal : (allLens ls).length = ls.length := by unfold allLens; simp
          have HAL := Hd.mk hal
          clear hcb hal
          refine (cut_any _ _ _ _ _ _ fl (allLens ls) _ HR4.out hc4 HW4.out (by omega) (by rw [HAL.out]; omega) rfl HAL.out.symm).mono ?_
          rw [hL0, hE0]
          clear hL0 hE0
          rintro e w5 ⟨A5, c5, rfl, hr, hcc, hb⟩
          have HR5 := Hd.mk hr
          have HR4' := Hd.mk (HR4.out.below hb)
          have HW5 := Hd.mk (HW4.out.below hb)
          have HB5 := Hd.mk (below_then HB4.out HB4.out.size hb)
          clear hr hcc hb HB4 HR4 HW4 HB HR1
          go_wp2_with fail
          refine (lists_any _ _ _ _ _ _ ls ls _ HR5.out (H3.out.below HB5.out) (by omega) rfl rfl).mono ?_
          rintro e w6 ⟨rfl, hd⟩
          have HR6 := Hd.mk (HR4'.out.below (hd.below _))
          have HW6 := Hd.mk (HW5.out.below (hd.below _))
          have HB6 := Hd.mk (below_then HB5.out HB5.out.size (hd.below _))
          clear hd HR5 HR4' HW5 HB5
          rw [show (ls == ls) = true by simp]
          go_wp2_with fail
          refine (copy_any _ _ _ fl _ HR6.out (by omega) rfl).mono ?_
          rintro e w7 ⟨v, rfl, ho7, hb⟩
          obtain ⟨A7, c7, rfl, hc7, _, _⟩ := own_rc ho7
          have HO7 := Hd.mk ho7
          have HB7 := Hd.mk hb
          clear ho7 hb
          obtain ⟨mb, hmb⟩ : ∃ mb : UInt8, more = (mb.toNat : Int) := ⟨UInt8.ofNat more.toNat, by rw [UInt8.toNat_ofNat']; have := HM.out; omega⟩
          subst hmb
          go_wp2_with (at_builtin; refine app_rc w6.heap.size 22 5 (.int .u8 0) 1 1 (.tmp 75) (.tmp 77) rfl rfl Try.underlying22 info_u8 rfl (by decide) (by decide) (.slice A7 fl.length c7) fl.length (bs fl) [.int .u8 (mb.toNat : Int)] (some ⟨w7.heap.size, 0, none⟩) 1 1 rfl rfl (own_alloc HO7.out _) (Rc.one _ _ _) (by simp) (by simp [Value.oneCell']) (Nat.le_trans HB7.out.size (by simp)) (by omega) (fl.length + 1) (bs (fl ++ [mb])) rfl (by simp [u8v]) ?_; intro v1 w8 ho hg hat; have HO8 := Hd.mk ho; have HG8 := Hd.mk hg; clear ho hg hat)
          obtain ⟨A8, c8, rfl, hc8, hr8, _⟩ := own_rc HO8.out
          have HB8 : Hd (Below w6.heap.size w6 w8) := ⟨below_lift (HB7.out.alloc HB7.out.size _) (Nat.le_trans HB7.out.size (by simp)) HG8.out (fun k hk => (own_lt HO7.out k hk).1)⟩
          have HR8 := Hd.mk hr8
          have HR6' := Hd.mk (HR6.out.below HB8.out)
          have HW8 := Hd.mk (HW6.out.below HB8.out)
          have HB08 := Hd.mk (below_then HB6.out HB6.out.size HB8.out)
          clear hr8 HB8 HB7 HG8 HO7 HO8 HR6 HW6 HB6
          have hcb := cut_back ls [mb]
          rw [HFL.out] at hcb
          have hE4 : cutE (fl ++ [mb]) (allLens ls) = 4 := by rw [hcb.2]; rfl
          have hL4 : cutL (fl ++ [mb]) (allLens ls) = [] := by unfold cutL; rw [if_neg (by omega)]
          clear hcb
          go_wp2_with fail
          refine (cut_any _ _ _ _ _ _ (fl ++ [mb]) (allLens ls) _ HR8.out (by simpa using hc8) HW8.out (by simp; omega) (by rw [HAL.out]; omega) (by simp) HAL.out.symm).mono ?_
          rw [hL4, hE4]
          clear hL4 hE4
          rintro e w9 ⟨A9, c9, rfl, hr, hcc, hb⟩
          have HR9 := Hd.mk (HR6'.out.below hb)
          have HW9 := Hd.mk (HW8.out.below hb)
          have HB9 := Hd.mk (below_then HB08.out HB08.out.size hb)
          clear hr hcc hb HR6' HW8 HB08 HR8
          by_cases hk0 : 0 < fl.length
          · have hk0' : decide (0 < fl.length) = true := by simpa using hk0
            have hcutH := cut_high (P := Try.prog) 22 5 Try.underlying22 info_u8 A4 fl.length c4 (fl.length - 1) (by omega)
            rw [Int.natCast_sub (by omega)] at hcutH
            have hE3 := cut_fewer ls (by rw [HFL.out]; exact hk0)
            rw [HFL.out] at hE3
            have hL3 : cutL (fl.take (fl.length - 1)) (allLens ls) = [] := by unfold cutL; rw [if_neg (by omega)]
            have HE3 := Hd.mk (And.intro hE3 hL3)
            clear hE3 hL3
            go_wp2_with fail
            clear hcutH
            refine (cut_any _ _ _ _ _ _ (fl.take (fl.length - 1)) (allLens ls) _ (by rw [bs, List.map_take]; exact HR9.out.take _) (by rw [List.length_take]; omega) HW9.out (by rw [List.length_take]; omega) (by rw [HAL.out]; omega) (by rw [List.length_take]; omega) HAL.out.symm).mono ?_
            rw [HE3.out.1, HE3.out.2]
            rintro e w10 ⟨A10, c10, rfl, hr, hcc, hb⟩
            have HB10 := Hd.mk (below_then HB9.out HB9.out.size hb)
            clear hr hcc hb HB9 HR9 HW9 HE3
            obtain ⟨d, hd⟩ : ∃ d : Nat, wide % 9 = (d : Int) := ⟨(wide % 9).toNat, by omega⟩
            have hd8 : d ≤ 8 := by omega
            have HD := Hd.mk hd
            have HP := Hd.mk (fun h => pow_facts wide d hd h)
            have hmm := back_m n d HN.out hd8
            have HDW : Hd (putW (wide % 9) = d) := ⟨by unfold putW; omega⟩
            by_cases h8 : d < 8
            · have hlt : decide (wide % 9 < 8) = true := by simp; omega
              have hpow := HP.out h8
              have hpos : ¬ (((256 ^ d : Nat) : Int) = 0) := by have := Nat.pow_pos (n := d) (show 0 < 256 by decide); omega
              obtain ⟨q, hq⟩ : ∃ q : Int, ((256 ^ d : Nat) : Int) = q := ⟨_, rfl⟩
              rw [hq] at hpow hpos hmm
              rw [if_pos h8] at hmm
              have HMM := Hd.mk hmm
              clear hmm hd hq HP
              go_wp2_with fail
              clear hpow
              refine (put_any _ _ _ HN.out).mono ?_
              rintro e w11 ⟨v, rfl, ho, hb⟩
              obtain ⟨A11, c11, rfl, hc11, hr, _⟩ := own_rc ho
              have HR11 := Hd.mk hr
              have HB11 := Hd.mk (below_then HB10.out HB10.out.size hb)
              clear ho hr hb
              go_wp2_with fail
              refine (get_any _ _ _ _ _ HR11.out hc11 (by rw [putB_len, HDW.out]; omega) rfl).mono ?_
              rintro e w12 ⟨rfl, rfl⟩
              rw [HD.out, HMM.out, ← HD.out]
              go_wp2_with fail
              refine (put_any _ _ _ HN.out).mono ?_
              rintro e w13 ⟨v, rfl, ho, hb⟩
              rw [putB_len, HDW.out] at ho
              obtain ⟨A13, c13, rfl, hc13, hr, _⟩ := own_rc ho
              have HB13 := Hd.mk (below_then HB11.out HB11.out.size hb)
              clear ho hr hb
              have hle : ((d : Int) == wide % 9) = true := by rw [HD.out]; simp
              go_wp2_with fail
              refine (known_calls _).mono ?_
              rintro e w14 ⟨rfl, hb⟩
              have HB14 := Hd.mk (below_then HB13.out HB13.out.size hb)
              clear hb
              go_wp2
              go_ret
              exact ⟨rfl, HB14.out⟩
            · have hlt : decide (wide % 9 < 8) = false := by simp; omega
              rw [if_neg h8] at hmm
              have HMM := Hd.mk hmm
              clear hmm hd HP
              go_wp2_with fail
              refine (put_any _ _ _ HN.out).mono ?_
              rintro e w11 ⟨v, rfl, ho, hb⟩
              obtain ⟨A11, c11, rfl, hc11, hr, _⟩ := own_rc ho
              have HR11 := Hd.mk hr
              have HB11 := Hd.mk (below_then HB10.out HB10.out.size hb)
              clear ho hr hb
              go_wp2_with fail
              refine (get_any _ _ _ _ _ HR11.out hc11 (by rw [putB_len, HDW.out]; omega) rfl).mono ?_
              rintro e w12 ⟨rfl, rfl⟩
              rw [HD.out, HMM.out, ← HD.out]
              go_wp2_with fail
              refine (put_any _ _ _ HN.out).mono ?_
              rintro e w13 ⟨v, rfl, ho, hb⟩
              rw [putB_len, HDW.out] at ho
              obtain ⟨A13, c13, rfl, hc13, hr, _⟩ := own_rc ho
              have HB13 := Hd.mk (below_then HB11.out HB11.out.size hb)
              clear ho hr hb
              have hle : ((d : Int) == wide % 9) = true := by rw [HD.out]; simp
              go_wp2_with fail
              refine (known_calls _).mono ?_
              rintro e w14 ⟨rfl, hb⟩
              have HB14 := Hd.mk (below_then HB13.out HB13.out.size hb)
              clear hb
              go_wp2
              go_ret
              exact ⟨rfl, HB14.out⟩
          · have hk0' : decide (0 < fl.length) = false := by simpa using hk0
            obtain ⟨d, hd⟩ : ∃ d : Nat, wide % 9 = (d : Int) := ⟨(wide % 9).toNat, by omega⟩
            have hd8 : d ≤ 8 := by omega
            have HD := Hd.mk hd
            have HP := Hd.mk (fun h => pow_facts wide d hd h)
            have hmm := back_m n d HN.out hd8
            have HDW : Hd (putW (wide % 9) = d) := ⟨by unfold putW; omega⟩
            by_cases h8 : d < 8
            · have hlt : decide (wide % 9 < 8) = true := by simp; omega
              have hpow := HP.out h8
              have hpos : ¬ (((256 ^ d : Nat) : Int) = 0) := by have := Nat.pow_pos (n := d) (show 0 < 256 by decide); omega
              obtain ⟨q, hq⟩ : ∃ q : Int, ((256 ^ d : Nat) : Int) = q := ⟨_, rfl⟩
              rw [hq] at hpow hpos hmm
              rw [if_pos h8] at hmm
              have HMM := Hd.mk hmm
              clear hmm hd hq HP
              go_wp2_with fail
              clear hpow
              refine (put_any _ _ _ HN.out).mono ?_
              rintro e w11 ⟨v, rfl, ho, hb⟩
              obtain ⟨A11, c11, rfl, hc11, hr, _⟩ := own_rc ho
              have HR11 := Hd.mk hr
              have HB11 := Hd.mk (below_then HB9.out HB9.out.size hb)
              clear ho hr hb
              go_wp2_with fail
              refine (get_any _ _ _ _ _ HR11.out hc11 (by rw [putB_len, HDW.out]; omega) rfl).mono ?_
              rintro e w12 ⟨rfl, rfl⟩
              rw [HD.out, HMM.out, ← HD.out]
              go_wp2_with fail
              refine (put_any _ _ _ HN.out).mono ?_
              rintro e w13 ⟨v, rfl, ho, hb⟩
              rw [putB_len, HDW.out] at ho
              obtain ⟨A13, c13, rfl, hc13, hr, _⟩ := own_rc ho
              have HB13 := Hd.mk (below_then HB11.out HB11.out.size hb)
              clear ho hr hb
              have hle : ((d : Int) == wide % 9) = true := by rw [HD.out]; simp
              go_wp2_with fail
              refine (known_calls _).mono ?_
              rintro e w14 ⟨rfl, hb⟩
              have HB14 := Hd.mk (below_then HB13.out HB13.out.size hb)
              clear hb
              go_wp2
              go_ret
              exact ⟨rfl, HB14.out⟩
            · have hlt : decide (wide % 9 < 8) = false := by simp; omega
              rw [if_neg h8] at hmm
              have HMM := Hd.mk hmm
              clear hmm hd HP
              go_wp2_with fail
              refine (put_any _ _ _ HN.out).mono ?_
              rintro e w11 ⟨v, rfl, ho, hb⟩
              obtain ⟨A11, c11, rfl, hc11, hr, _⟩ := own_rc ho
              have HR11 := Hd.mk hr
              have HB11 := Hd.mk (below_then HB9.out HB9.out.size hb)
              clear ho hr hb
              go_wp2_with fail
              refine (get_any _ _ _ _ _ HR11.out hc11 (by rw [putB_len, HDW.out]; omega) rfl).mono ?_
              rintro e w12 ⟨rfl, rfl⟩
              rw [HD.out, HMM.out, ← HD.out]
              go_wp2_with fail
              refine (put_any _ _ _ HN.out).mono ?_
              rintro e w13 ⟨v, rfl, ho, hb⟩
              rw [putB_len, HDW.out] at ho
              obtain ⟨A13, c13, rfl, hc13, hr, _⟩ := own_rc ho
              have HB13 := Hd.mk (below_then HB11.out HB11.out.size hb)
              clear ho hr hb
              have hle : ((d : Int) == wide % 9) = true := by rw [HD.out]; simp
              go_wp2_with fail
              refine (known_calls _).mono ?_
              rintro e w14 ⟨rfl, hb⟩
              have HB14 := Hd.mk (below_then HB13.out HB13.out.size hb)
              clear hb
              go_wp2
              go_ret
              exact ⟨rfl, HB14.out⟩
end Go.Proofs.Ytnplmeljekhkkaa
