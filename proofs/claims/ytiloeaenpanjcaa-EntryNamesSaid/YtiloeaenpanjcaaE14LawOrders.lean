/- Walks: the law EntryOrders. -/
import Derived.Test.YtiloeaenpanjcaaP14c
namespace Go.Proofs.Ytiloeaenpanjcaa
open Go.RowKit Go.Sac
set_option linter.unusedVariables false
set_option linter.unusedSimpArgs false

theorem gath_start (l : List Ent) : Gath l [] [] 0 := ⟨rises_nil, List.Perm.refl _, nofun, Nat.le_refl _⟩
set_option maxHeartbeats 8000000 in
theorem law_orders (A : Option Addr) (c : Nat) (l : List Ent) (w : World) (hl : Rc w A (ens l)) (hc : l.length ≤ c) (hn : l.length ≤ 5864062014634) (hi : ∀ y ∈ l, y.1.size ≤ 140737488351232) :
    Calls Try.prog 4 #[.slice A l.length c] w (RetT w) := by
  obtain ⟨n, e1⟩ : ∃ n, n = l.length := ⟨_, rfl⟩
  rw [← e1] at hc hn ⊢
  have HL := Hd.mk hl
  have HE := Hd.mk e1
  have HN : Hd (l.length ≤ 5864062014634) := ⟨by omega⟩
  have HI := Hd.mk hi
  have HB : Hd (Below w.heap.size w w) := ⟨Below.refl _ _⟩
  clear hl e1 hi
  obtain ⟨z, hz⟩ : ∃ z, longZ l = z := ⟨_, rfl⟩
  have HZ := Hd.mk hz
  clear hz
  cases d1 : decide (z > 1000)
  · cases d2 : decide ((n : Int) > 30)
    · have hn30 : n ≤ 30 := by simp at d2; omega
      go_enter Try.func4, Try.ntmps4
      go_wp2_with (go_at_call 13; refine (long_calls _ _ _ l _ (HL.out.below HB.out) HE.out HN.out).mono ?_; rintro e w1 ⟨rfl, hw⟩; obtain rfl : w = w1 := hw.symm; rw [HZ.out])
      go_loopw [3, 5, 6] (fun av mv iv wr => ∃ (i k : Nat) (aL mL : List Ent) (B : Option Addr) (cb : Nat), iv = .int .i64 (i : Int) ∧ i ≤ n ∧ k ≤ i ∧ av = .slice B k cb ∧ Hd (aL.length = k) ∧ Hd (mL.length = k) ∧ Hd (Gath l aL mL i) ∧ Hd (Rc wr B (ens aL)) ∧ Hd (wr.ownsRow w.heap.size 31 2 mv k (ens mL)) ∧ Hd (Off wr B mv) ∧ Hd (Below w.heap.size w wr)) (fun _ _ iv _ => n - (intOf iv).toNat)
      case atStart => exact ⟨0, 0, [], [], none, 0, rfl, Nat.zero_le _, Nat.le_refl _, rfl, ⟨rfl⟩, ⟨rfl⟩, ⟨gath_start l⟩, ⟨Rc.nil _ _⟩, ⟨World.ownsRow_nil _ _ _ _⟩, ⟨nofun⟩, HB⟩
      case round =>
        clear HB
        obtain ⟨i, k, aL, mL, B, cb, rfl, hi, hk, rfl, HAL, HML, HG, HA, HM, HO, HB⟩ := hrel
        by_cases hlt : i < n
        · have hil : i < l.length := by rw [← HE.out]; exact hlt
          have hil2 : (i : Int) < (n : Int) := by omega
          obtain ⟨b, off, rfl, hb, hr⟩ := rcK_form ecs_len (by decide) HL.out (by omega)
          have hxm := List.getElem_mem hil
          have hsz := HI.out _ hxm
          obtain ⟨⟨xn, xk⟩, hx0⟩ : ∃ x, l[i] = x := ⟨_, rfl⟩
          have hx := hr i hil
          rw [hx0] at hx hxm hsz
          have HX := Hd.mk hx
          have HXM := Hd.mk hxm
          have HSZ : Hd (xn.size ≤ 140737488351232) := ⟨hsz⟩
          clear hr hx hb hx0 hxm hsz hil
          obtain ⟨pe, hpe⟩ : ∃ z, putE aL (xn, xk) = z := ⟨_, rfl⟩
          have HPE := Hd.mk hpe
          by_cases hp0 : pe = 0
          · subst hp0
            obtain ⟨hnm, hat, hpl⟩ := put_zero hpe
            have HPL := Hd.mk hpl
            have HG1 := Hd.mk (HG.out.put HXM.out hnm hat)
            have HIL : Hd ((insE aL (xn, xk)).length = k + 1) := ⟨by rw [insE_len, HAL.out]⟩
            clear hpe hnm hat hpl
            have T1 : Hd True := ⟨trivial⟩
            go_wp2_with (first
              | (clear T1; refine wpList_ldmid rfl 31 (.tmp 34) rfl b (off + i * 2) rfl [.string xn, .int .i64 xk] _ (HX.out _ HB.out) Try.underlying31 rfl (ent_info.trans rfl) ?_)
              | (go_at_call 14; refine (put_calls _ _ _ aL (xn, xk) _ HA.out HAL.out.symm (by rw [HAL.out]; omega) HSZ.out).mono ?_; rw [HPE.out, HPL.out]; rintro e w5 ⟨v5, rfl, ho, hb⟩; obtain ⟨A5, c5, rfl, _, hr5, hA5⟩ := own_rc ho; rw [HIL.out]; have R5 := Hd.mk hr5; have HF5 := Hd.mk (off_new hA5 (fun q hq => (own_lt HM.out q hq).2)); have HM := Hd.mk (own_below HM.out hb); have HB := Hd.mk (below_then HB.out HB.out.size hb); clear hb ho hr5 hA5)
              | (refine wpList_ldmid rfl 31 (.tmp 45) rfl b (off + i * 2) rfl [.string xn, .int .i64 xk] _ (HX.out _ HB.out) Try.underlying31 rfl (ent_info.trans rfl) ?_)
              | (at_builtin; refine app_rc w.heap.size 25 31 _ 2 24 _ _ rfl rfl Try.underlying25 info_ent rfl (by decide) (by decide) _ k (ens mL) (ecs (xn, xk)) _ 1 1 rfl rfl (own_alloc HM.out _) (Blk.new w5 31 (ecs (xn, xk))).rc rfl (ecs_one _) (by rw [World.size_alloc]; have := HB.out.size; omega) (by omega) (k + 1) (ens (mL ++ [(xn, xk)])) rfl (by rw [ens_app, ens_single]) ?_
                 intro v6 w6 ho hg hat
                 have HF := Hd.mk (((HF5.out.below ((Below.refl _ _).alloc (Nat.le_refl _) (.cells (ecs (xn, xk)).toArray 31)))).grown hg.size hat)
                 have R6 := Hd.mk ((R5.out.alloc (.cells (ecs (xn, xk)).toArray 31)).grown hg (fun a ha => (HF5.out a ha).2))
                 have HB := Hd.mk (below_lift (HB.out.alloc HB.out.size _) (by rw [World.size_alloc]; have := HB.out.size; omega) hg (fun q hq => (own_lt HM.out q hq).1)); have HM := Hd.mk ho; clear ho hg hat))
            go_roundw
            case rel => exact ⟨i + 1, k + 1, insE aL (xn, xk), mL ++ [(xn, xk)], _, _, by go_num, by omega, by omega, rfl, HIL, ⟨by rw [List.length_append, HML.out]; rfl⟩, HG1, R6, HM, HF, HB⟩
            case measure => first | (simp [intOf]; done) | (simp [intOf]; omega)
          · have hp1 : (pe == 0) = false := by simpa using hp0
            clear hpe
            go_wp2_with (first
              | (refine wpList_ldmid rfl 31 (.tmp 34) rfl b (off + i * 2) rfl [.string xn, .int .i64 xk] _ (HX.out _ HB.out) Try.underlying31 rfl (ent_info.trans rfl) ?_)
              | (go_at_call 14; refine (put_calls _ _ _ aL (xn, xk) _ HA.out HAL.out.symm (by rw [HAL.out]; omega) HSZ.out).mono ?_; rw [HPE.out]; rintro e w5 ⟨v5, rfl, ho, hb⟩; have HF := Hd.mk (HO.out.below hb); have HA := Hd.mk (HA.out.below hb); have HM := Hd.mk (own_below HM.out hb); have HB := Hd.mk (below_then HB.out HB.out.size hb); clear hb ho))
            go_roundw
            case rel => exact ⟨i + 1, k, aL, mL, B, cb, by go_num, by omega, by omega, rfl, HAL, HML, ⟨HG.out.past⟩, HA, HM, HF, HB⟩
            case measure => first | (simp [intOf]; done) | (simp [intOf]; omega)
        · obtain rfl : i = n := by omega
          obtain ⟨M, cm, rfl, hmc, hrm, hMb⟩ := own_rc HM.out
          have HRM := Hd.mk hrm
          have HSZ : Hd (∀ y ∈ mL, y.1.size ≤ 140737488351232) := ⟨fun y hy => HI.out y (HG.out.nam y hy).2⟩
          clear hrm hMb HM HO hlt
          go_wp2
          go_loopw [4, 9] (fun bv iv wr => ∃ (j q : Nat) (bL : List Ent) (D : Option Addr) (cd : Nat), iv = .int .i64 ((j : Int) - 1) ∧ j + q = k ∧ bv = .slice D q cd ∧ Hd (bL.length = q) ∧ Hd (bL.Perm (mL.drop j)) ∧ Hd (Rises bL) ∧ Hd (Rc wr D (ens bL)) ∧ Hd (Below w.heap.size w wr) ∧ Hd (Rc wr B (ens aL)) ∧ Hd (Rc wr M (ens mL))) (fun _ iv _ => (intOf iv + 1).toNat)
          case atStart => exact ⟨k, 0, [], none, 0, by go_num, by omega, rfl, ⟨rfl⟩, ⟨by rw [List.drop_eq_nil_of_le (Nat.le_of_eq HML.out)]⟩, ⟨rises_nil⟩, ⟨Rc.nil _ _⟩, HB, HA, HRM⟩
          case round =>
            clear HB HA HRM
            obtain ⟨j, q, bL, D, cd, rfl, hjq, rfl, HBL, HBP, HBR, HD, HB, HA, HRM⟩ := hrel
            by_cases hj0 : 0 < j
            · obtain ⟨p, rfl⟩ : ∃ p, j = p + 1 := ⟨j - 1, by omega⟩
              have hpm : p < mL.length := by rw [HML.out]; omega
              have hjm : (((p + 1 : Nat) : Int) - 1) = (p : Int) := by omega
              rw [hjm]
              obtain ⟨b, off, rfl, hb, hr⟩ := rcK_form ecs_len (by decide) HRM.out (by omega)
              have hxm := List.getElem_mem hpm
              have hnm := (HG.out.nam _ hxm).1
              have hsz := HSZ.out _ hxm
              have hbn := back_none HG.out hpm HBP.out
              have hbp := back_perm hpm HBP.out
              obtain ⟨⟨xn, xk⟩, hx0⟩ : ∃ x, mL[p] = x := ⟨_, rfl⟩
              have hx := hr p hpm wr (Below.refl _ _)
              rw [hx0] at hx hnm hsz hbn hbp
              obtain ⟨hp1, hp2⟩ := put_ok hnm hbn
              have HX := Hd.mk hx
              have HSX : Hd (xn.size ≤ 140737488351232) := ⟨hsz⟩
              have HP1 := Hd.mk hp1
              have HP2 := Hd.mk hp2
              have HBP1 := Hd.mk hbp
              have HBR1 := Hd.mk (ins_rises HBR.out hbn)
              have HIL : Hd ((insE bL (xn, xk)).length = q + 1) := ⟨by rw [insE_len, HBL.out]⟩
              have hpk : (p : Int) < (k : Int) := by omega
              have hp0 : (0 : Int) ≤ (p : Int) := by omega
              have hpw : IntKind.i64.wrap ((p : Int) - 1) = (p : Int) - 1 := by rw [IntKind.wrap_i64]; omega
              clear hx0 hx hnm hsz hbn hbp hp1 hp2 hr hb hxm hpm hjm hj0
              go_wp2_with (first
                | (refine wpList_ldmid rfl 31 (.tmp 60) rfl b (off + p * 2) rfl [.string xn, .int .i64 xk] _ HX.out Try.underlying31 rfl (ent_info.trans rfl) ?_)
                | (go_at_call 14; refine (put_calls _ _ _ bL (xn, xk) _ HD.out HBL.out.symm (by rw [HBL.out]; omega) HSX.out).mono ?_; rw [HP1.out, HP2.out]; rintro e w5 ⟨v5, rfl, ho, hb⟩; obtain ⟨A5, c5, rfl, _, hr5, _⟩ := own_rc ho; rw [HIL.out]; have R5 := Hd.mk hr5; have HA := Hd.mk (HA.out.below hb); have HRM := Hd.mk (HRM.out.below hb); have HB := Hd.mk (below_then HB.out HB.out.size hb); clear hb ho hr5))
              go_roundw
              case rel => exact ⟨p, q + 1, insE bL (xn, xk), _, _, by go_num, by omega, rfl, HIL, HBP1, HBR1, R5, HB, HA, HRM⟩
              case measure => first | (simp [intOf]; done) | (simp [intOf]; omega)
            · obtain rfl : j = 0 := by omega
              have hjm : (((0 : Nat) : Int) - 1) = -1 := by omega
              rw [hjm]
              have hqk : q = k := by omega
              subst hqk
              have HEQ : Hd (aL = bL) := ⟨rises_perm HG.out.rise HBR.out (HG.out.perm.trans (by have := HBP.out; rw [List.drop_zero] at this; exact this.symm))⟩
              clear hjm hjq
              go_wp2_with (go_at_call 15; refine (ents_same' _ _ _ _ _ _ aL bL _ HA.out HD.out HAL.out.symm HBL.out.symm (by rw [HAL.out]; omega)).mono ?_; rintro e w6 ⟨rfl, hb⟩; rw [decide_eq_true HEQ.out]; have HA := Hd.mk (HA.out.below hb); have HRM := Hd.mk (HRM.out.below hb); have HB := Hd.mk (below_then HB.out HB.out.size hb); clear hb)
              go_loopw [3, 12] (fun av iv wr => ∃ (j p : Nat) (cL : List Ent) (D : Option Addr) (cd : Nat), iv = .int .i64 (j : Int) ∧ j + p = q ∧ av = .slice D p cd ∧ Hd (cL.length = p) ∧ Hd (cL.Perm (mL.drop j)) ∧ Hd (Rc wr D (ens cL)) ∧ Hd (Below w.heap.size w wr) ∧ Hd (Rc wr M (ens mL))) (fun _ iv _ => q - (intOf iv).toNat)
              case atStart => exact ⟨0, q, aL, B, cb, rfl, by omega, rfl, HAL, ⟨by rw [List.drop_zero]; exact HG.out.perm⟩, HA, HB, HRM⟩
              case round =>
                clear HB HA HRM HD
                obtain ⟨j, p, cL, D, cd, rfl, hjp, rfl, HCL, HCP, HD, HB, HRM⟩ := hrel
                by_cases hjq : j < q
                · have hjm : j < mL.length := by rw [HML.out]; exact hjq
                  have hjq2 : (j : Int) < (q : Int) := by omega
                  obtain ⟨b, off, rfl, hc⟩ := node_cell HRM.out j hjm
                  have hcc := (hc wr (Below.refl _ _)).1
                  obtain ⟨hfb, hdp⟩ := drop_found HG.out hjm HCP.out
                  obtain ⟨t, ht⟩ : ∃ t, mL[j].1 = t := ⟨_, rfl⟩
                  rw [ht] at hcc hfb hdp
                  have HFB := Hd.mk hfb
                  have HDP := Hd.mk hdp
                  have HDL : Hd ((dropL cL t).length = p - 1) := ⟨by rw [hdp.length_eq, List.length_drop, HML.out]; omega⟩
                  clear hc ht hfb hdp hjm
                  go_wp2_with (go_at_call 16; refine (drop_calls _ _ _ cL t _ HD.out HCL.out.symm (by rw [HCL.out]; omega)).mono ?_; rw [HFB.out]; rintro e w7 ⟨v7, rfl, ho, hb⟩; obtain ⟨A7, c7, rfl, _, hr7, _⟩ := own_rc ho; rw [HDL.out]; have R7 := Hd.mk hr7; have HRM := Hd.mk (HRM.out.below hb); have HB := Hd.mk (below_then HB.out HB.out.size hb); clear hb ho hr7)
                  go_roundw
                  case rel => exact ⟨j + 1, p - 1, dropL cL t, _, _, by go_num, by omega, rfl, HDL, HDP, R7, HB, HRM⟩
                  case measure => first | (simp [intOf]; done) | (simp [intOf]; omega)
                · obtain rfl : p = 0 := by omega
                  have hjq3 : j = q := by omega
                  subst hjq3
                  go_wp2_with (go_at_call 11; refine (known_calls _).mono ?_; rintro e w12 ⟨rfl, hb⟩; have HB := Hd.mk (below_then HB.out HB.out.size hb); clear hb)
                  go_ret
                  exact ⟨rfl, HB.out⟩
    · go_enter Try.func4, Try.ntmps4
      go_wp2_with (first
        | (go_at_call 13; refine (long_calls _ _ _ l _ (HL.out.below HB.out) HE.out HN.out).mono ?_; rintro e w1 ⟨rfl, hw⟩; obtain rfl := hw; rw [HZ.out])
        | (go_at_call 11; refine (known_calls _).mono ?_; rintro e w12 ⟨rfl, hb⟩; have HB := Hd.mk (below_then HB.out HB.out.size hb); clear hb))
      go_ret
      exact ⟨rfl, HB.out⟩
  · go_enter Try.func4, Try.ntmps4
    go_wp2_with (first
      | (go_at_call 13; refine (long_calls _ _ _ l _ (HL.out.below HB.out) HE.out HN.out).mono ?_; rintro e w1 ⟨rfl, hw⟩; obtain rfl := hw; rw [HZ.out])
      | (go_at_call 11; refine (known_calls _).mono ?_; rintro e w12 ⟨rfl, hb⟩; have HB := Hd.mk (below_then HB.out HB.out.size hb); clear hb))
    go_ret
    exact ⟨rfl, HB.out⟩
end Go.Proofs.Ytiloeaenpanjcaa
