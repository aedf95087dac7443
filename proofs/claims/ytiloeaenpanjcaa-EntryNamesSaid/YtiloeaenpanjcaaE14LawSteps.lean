/- Walks: the law EntrySteps. -/
import Derived.Test.YtiloeaenpanjcaaE14LawOrders
namespace Go.Proofs.Ytiloeaenpanjcaa
open Go.RowKit Go.Sac
set_option linter.unusedVariables false
set_option linter.unusedSimpArgs false

theorem findB_none {l : List Ent} {t : ByteArray} (h : findB l t = false) : atE l t = -1 := by
  unfold findB at h
  rcases atE_ways l t with ha | ⟨k, ha, _⟩
  · exact ha
  · rw [ha] at h; have := of_decide_eq_false h; omega
theorem findB_some {l : List Ent} {t : ByteArray} (h : findB l t = true) : (dropL l t).length + 1 = l.length := by
  unfold findB at h
  have h0 := of_decide_eq_true h
  rcases atE_ways l t with ha | ⟨k, ha, hk⟩
  · omega
  · obtain ⟨hk, hp⟩ := drop_perm ha
    have := hp.length_eq
    simpa using this
theorem findB_gone {l : List Ent} {t : ByteArray} (h : Rises l) : findB (dropL l t) t = false ∧ findN (dropL l t) t = 0 := by
  have := drop_gone t h
  unfold findB findN
  rw [this]
  exact ⟨rfl, rfl⟩
theorem putE_bad {l : List Ent} {x : Ent} (h : namedL x.1.data.toList = false) : putE l x = 11 := by unfold putE; rw [h]; rfl
set_option maxHeartbeats 8000000 in
set_option maxRecDepth 100000 in
theorem law_steps (A : Option Addr) (c : Nat) (l : List Ent) (w : World) (hl : Rc w A (ens l)) (hc : l.length ≤ c) (hn : l.length ≤ 5864062014634) (hi : ∀ y ∈ l, y.1.size ≤ 140737488351232) :
    Calls Try.prog 6 #[.slice A l.length c] w (RetT w) := by
  obtain ⟨n, e1⟩ : ∃ n, n = l.length := ⟨_, rfl⟩
  rw [← e1] at hc hn ⊢
  have HL := Hd.mk hl
  have HE := Hd.mk e1
  have HN : Hd (l.length ≤ 5864062014634) := ⟨by omega⟩
  have HI := Hd.mk hi
  have HB : Hd (Below w.heap.size w w) := ⟨Below.refl _ _⟩
  clear hl e1 hi
  obtain ⟨z, hz⟩ : ∃ z, longZ l = z := ⟨_, rfl⟩
  have HZ := Hd.mk hz
  clear hz
  cases d1 : decide (z > 1200)
  · cases d2 : decide ((n : Int) > 40)
    · have hn40 : n ≤ 40 := by simp at d2; omega
      go_enter Try.func6, Try.ntmps6
      go_wp2_with (go_at_call 13; refine (long_calls _ _ _ l _ (HL.out.below HB.out) HE.out HN.out).mono ?_; rintro e w1 ⟨rfl, hw⟩; obtain rfl : w = w1 := hw.symm; rw [HZ.out])
      go_loopw [3, 4] (fun av iv wr => ∃ (i k : Nat) (aL : List Ent) (B : Option Addr) (cb : Nat), iv = .int .i64 (i : Int) ∧ i ≤ n ∧ k ≤ i ∧ av = .slice B k cb ∧ Hd (aL.length = k) ∧ Hd (Rises aL) ∧ Hd (Rc wr B (ens aL)) ∧ Hd (Below w.heap.size w wr)) (fun _ iv _ => n - (intOf iv).toNat)
      case atStart => exact ⟨0, 0, [], none, 0, rfl, Nat.zero_le _, Nat.le_refl _, rfl, ⟨rfl⟩, ⟨rises_nil⟩, ⟨Rc.nil _ _⟩, HB⟩
      case round =>
        clear HB
        obtain ⟨i, k, aL, B, cb, rfl, hi, hk, rfl, HAL, HR, HA, HB⟩ := hrel
        by_cases hlt : i < n
        · have hil : i < l.length := by rw [← HE.out]; exact hlt
          have hil2 : (i : Int) < (n : Int) := by omega
          obtain ⟨b, off, rfl, hb, hr⟩ := rcK_form ecs_len (by decide) HL.out (by omega)
          have hsz := HI.out _ (List.getElem_mem hil)
          obtain ⟨⟨xn, xk⟩, hx0⟩ : ∃ x, l[i] = x := ⟨_, rfl⟩
          have hx := hr i hil wr HB.out
          rw [hx0] at hx hsz
          have HX := Hd.mk hx
          have HSZ : Hd (xn.size ≤ 140737488351232) := ⟨hsz⟩
          have K0 : Hd (Blk (wr.alloc (.cells #[.string xn, .int .i64 xk] 31)) wr.heap.size 31 (ecs (xn, xk))) := ⟨Blk.new wr _ _⟩
          have hc0 : (wr.alloc (.cells #[.string xn, .int .i64 xk] 31)).cell? ⟨wr.heap.size, 0, none⟩ = some (.string xn) := K0.out.cell rfl
          have HA := Hd.mk (HA.out.alloc (.cells #[.string xn, .int .i64 xk] 31))
          have HB := Hd.mk (HB.out.alloc HB.out.size (.cells #[.string xn, .int .i64 xk] 31))
          clear hr hx hb hx0 hsz hil
          obtain ⟨fn, hfn⟩ : ∃ z, findN aL xn = z := ⟨_, rfl⟩
          have HFN := Hd.mk hfn
          cases hfb : findB aL xn
          · have HFB := Hd.mk hfb
            have hat := findB_none hfb
            cases hnm : namedL xn.data.toList
            · have HNM := Hd.mk hnm
              have HPE := Hd.mk (putE_bad (l := aL) (x := (xn, xk)) hnm)
              clear hfn hfb hat hnm
              go_wp2_with (first
                | (refine wpList_ldmid rfl 31 (.tmp 34) rfl b (off + i * 2) rfl [.string xn, .int .i64 xk] _ HX.out Try.underlying31 rfl (ent_info.trans rfl) ?_)
                | (go_at_call 17; refine (find_calls _ _ _ aL _ _ HA.out HAL.out.symm (by rw [HAL.out]; omega)).mono ?_; rintro e w4 ⟨rfl, hb⟩; rw [HFN.out, HFB.out]; have K0 := Hd.mk (K0.out.below hb K0.out.lt); have hc4 : w4.cell? ⟨wr.heap.size, 0, none⟩ = some (.string xn) := K0.out.cell rfl; have HA := Hd.mk (HA.out.below hb); have HB := Hd.mk (below_then HB.out HB.out.size hb); clear hb)
                | (refine wpList_load_row rfl 31 (.tmp 5) rfl wr.heap.size rfl 31 #[.string xn, .int .i64 xk] (0, 0) _ K0.out Try.underlying31 rfl (ent_info.trans rfl) ?_)
                | (go_at_call 14; refine (put_calls _ _ _ aL (xn, xk) _ HA.out HAL.out.symm (by rw [HAL.out]; omega) HSZ.out).mono ?_; rw [HPE.out]; rintro e w5 ⟨v5, rfl, ho, hb⟩; have K0 := Hd.mk (K0.out.below hb K0.out.lt); have hc5 : w5.cell? ⟨wr.heap.size, 0, none⟩ = some (.string xn) := K0.out.cell rfl; have HA := Hd.mk (HA.out.below hb); have HB := Hd.mk (below_then HB.out HB.out.size hb); clear hb ho)
                | (go_at_call 12; refine (named_calls _ _ HSZ.out).mono ?_; rintro e w6 ⟨rfl, hb⟩; rw [HNM.out]; have HA := Hd.mk (HA.out.below hb); have HB := Hd.mk (below_then HB.out HB.out.size hb); clear hb))
              go_roundw
              case rel => exact ⟨i + 1, k, aL, B, cb, by go_num, by omega, by omega, rfl, HAL, HR, HA, HB⟩
              case measure => simp [intOf]; omega
            · have HNM := Hd.mk hnm
              obtain ⟨hp1, hp2⟩ := put_ok (l := aL) (x := (xn, xk)) hnm hat
              obtain ⟨hf1, hf2⟩ := find_ins (l := aL) (x := (xn, xk)) hat
              have HP1 := Hd.mk hp1
              have HP2 := Hd.mk hp2
              have hri := ins_rises (x := (xn, xk)) HR.out hat
              obtain ⟨X, hX⟩ : ∃ X, insE aL (xn, xk) = X := ⟨_, rfl⟩
              have hXl : X.length = k + 1 := by rw [← hX, insE_len, HAL.out]
              rw [hX] at hf1 hf2 hri
              have HX1 := Hd.mk hX
              have HXL := Hd.mk hXl
              have HXR := Hd.mk hri
              have HF1 : Hd (findB X xn = true) := ⟨hf1⟩
              have HF2 : Hd (findN X xn = xk) := ⟨hf2⟩
              have wk : IntKind.i64.wrap ((k : Int) + 1) = (k : Int) + 1 := by rw [IntKind.wrap_i64]; omega
              have T1 : Hd True := ⟨trivial⟩
              have T2 : Hd True := ⟨trivial⟩
              clear hfn hfb hat hnm hp1 hp2 hf1 hf2 hri hX hXl
              go_wp2_with (first
                | (refine wpList_ldmid rfl 31 (.tmp 34) rfl b (off + i * 2) rfl [.string xn, .int .i64 xk] _ HX.out Try.underlying31 rfl (ent_info.trans rfl) ?_)
                | (clear T1; go_at_call 17; refine (find_calls _ _ _ aL _ _ HA.out HAL.out.symm (by rw [HAL.out]; omega)).mono ?_; rintro e w4 ⟨rfl, hb⟩; rw [HFN.out, HFB.out]; have K0 := Hd.mk (K0.out.below hb K0.out.lt); have hc4 : w4.cell? ⟨wr.heap.size, 0, none⟩ = some (.string xn) := K0.out.cell rfl; have HA := Hd.mk (HA.out.below hb); have HB := Hd.mk (below_then HB.out HB.out.size hb); clear hb)
                | (refine wpList_load_row rfl 31 (.tmp 5) rfl wr.heap.size rfl 31 #[.string xn, .int .i64 xk] (0, 0) _ K0.out Try.underlying31 rfl (ent_info.trans rfl) ?_)
                | (go_at_call 14; refine (put_calls _ _ _ aL (xn, xk) _ HA.out HAL.out.symm (by rw [HAL.out]; omega) HSZ.out).mono ?_; rw [HP1.out, HP2.out, HX1.out]; rintro e w5 ⟨v5, rfl, ho, hb⟩; obtain ⟨A5, c5, rfl, _, hr5, _⟩ := own_rc ho; rw [HXL.out]; have R5 := Hd.mk hr5; have K0 := Hd.mk (K0.out.below hb K0.out.lt); have hc5 : w5.cell? ⟨wr.heap.size, 0, none⟩ = some (.string xn) := K0.out.cell rfl; have HB := Hd.mk (below_then HB.out HB.out.size hb); clear hb ho hr5)
                | (go_at_call 12; refine (named_calls _ _ HSZ.out).mono ?_; rintro e w6 ⟨rfl, hb⟩; rw [HNM.out]; have K0 := Hd.mk (K0.out.below hb K0.out.lt); have hc6 : w6.cell? ⟨wr.heap.size, 0, none⟩ = some (.string xn) := K0.out.cell rfl; have R5 := Hd.mk (R5.out.below hb); have HB := Hd.mk (below_then HB.out HB.out.size hb); clear hb)
                | (clear T2; go_at_call 17; refine (find_calls _ _ _ X _ _ R5.out HXL.out.symm (by rw [HXL.out]; omega)).mono ?_; rintro e w7 ⟨rfl, hb⟩; rw [HF1.out, HF2.out]; have K0 := Hd.mk (K0.out.below hb K0.out.lt); have hc7 : w7.cell? ⟨wr.heap.size, 1, none⟩ = some (.int .i64 xk) := K0.out.cell rfl; have R5 := Hd.mk (R5.out.below hb); have HB := Hd.mk (below_then HB.out HB.out.size hb); clear hb))
              go_loopw [14] (fun iv wq => ∃ j : Nat, iv = .int .i64 (j : Int) ∧ 1 ≤ j ∧ j ≤ (k + 1) + 1 ∧ Hd (Rc wq A5 (ens X)) ∧ Hd (Below w.heap.size w wq) ∧ Hd (Blk wq wr.heap.size 31 (ecs (xn, xk)))) (fun iv _ => (k + 1) + 1 - (intOf iv).toNat)
              case atStart => exact ⟨1, rfl, Nat.le_refl _, by omega, R5, HB, K0⟩
              case round =>
                clear R5 HB HA
                obtain ⟨j, rfl, hj1, hj2, R5, HB, K0⟩ := hrel
                by_cases hjl : j < (k + 1)
                · obtain ⟨p, hp⟩ : ∃ p, j = p + 1 := ⟨j - 1, by omega⟩
                  have hjX : j < X.length := by rw [HXL.out]; exact hjl
                  have hpX : p < X.length := by omega
                  obtain ⟨b5, off5, rfl, hc⟩ := node_cell R5.out j hjX
                  obtain ⟨b6, off6, e6, hc6⟩ := node_cell R5.out p hpX
                  injection e6 with e6
                  injection e6 with e61 e62
                  subst e61; subst e62
                  have hcj := (hc _ (Below.refl _ _)).1
                  have hcp := (hc6 _ (Below.refl _ _)).1
                  have hgt : gtN X[j].1 X[p].1 = true := List.pairwise_iff_getElem.1 HXR.out p j hpX hjX (by omega)
                  obtain ⟨y, hy⟩ : ∃ y, X[j].1 = y := ⟨_, rfl⟩
                  obtain ⟨y2, hy2⟩ : ∃ y, X[p].1 = y := ⟨_, rfl⟩
                  rw [hy] at hcj hgt
                  rw [hy2] at hcp hgt
                  have hjl2 : (j : Int) < ((k : Int) + 1) := by omega
                  have hpl2 : (p : Int) < ((k : Int) + 1) := by omega
                  have hpm : (j : Int) - 1 = (p : Int) := by omega
                  have hpw : IntKind.i64.wrap (p : Int) = (p : Int) := by rw [IntKind.wrap_i64]; omega
                  rcases gt_ways y y2 with ⟨g0, _⟩ | ⟨g0, _, _⟩ | ⟨_, g1, g2⟩
                  · rw [hgt] at g0; cases g0
                  · rw [hgt] at g0; cases g0
                  clear hc hc6 hgt hy hy2 hjX hpX hp
                  go_wp2
                  go_quiet (fail)
                  have R5 := Hd.mk (R5.out.below (below_drewN (Below.refl _ _) nq))
                  have K0 := Hd.mk (K0.out.below (below_drewN (Below.refl _ _) nq) K0.out.lt)
                  have HB := Hd.mk (below_drewN HB.out nq)
                  go_wp2
                  go_roundw
                  case rel => exact ⟨j + 1, by go_num, by omega, by omega, R5, HB, K0⟩
                  case measure => first | (simp [intOf]; done) | (simp [intOf]; omega)
                · have hjl2 : ¬ ((j : Int) < ((k : Int) + 1)) := by omega
                  go_wp2
                  go_roundw
                  case rel => exact ⟨i + 1, k + 1, X, A5, c5, by go_num, by omega, by omega, rfl, HXL, HXR, R5, HB⟩
                  case measure => simp [intOf]; omega
          · have HFB := Hd.mk hfb
            have hdl := findB_some hfb
            obtain ⟨hg1, hg2⟩ := findB_gone (t := xn) HR.out
            have hdr := drop_rises xn HR.out
            obtain ⟨X, hX⟩ : ∃ X, dropL aL xn = X := ⟨_, rfl⟩
            obtain ⟨m, hm⟩ : ∃ m, X.length = m := ⟨_, rfl⟩
            rw [hX] at hg1 hg2 hdr hdl
            rw [hm, HAL.out] at hdl
            have HX1 := Hd.mk hX
            have HXL := Hd.mk hm
            have HXR := Hd.mk hdr
            have HG1 := Hd.mk hg1
            have HG2 := Hd.mk hg2
            have hkm : (k : Int) - 1 = (m : Int) := by omega
            have wk : IntKind.i64.wrap (m : Int) = (m : Int) := by rw [IntKind.wrap_i64]; omega
            have T1 : Hd True := ⟨trivial⟩
            clear hfn hfb hg1 hg2 hdr hX hm
            go_wp2_with (first
              | (refine wpList_ldmid rfl 31 (.tmp 34) rfl b (off + i * 2) rfl [.string xn, .int .i64 xk] _ HX.out Try.underlying31 rfl (ent_info.trans rfl) ?_)
              | (go_at_call 17; refine (find_calls _ _ _ aL _ _ HA.out HAL.out.symm (by rw [HAL.out]; omega)).mono ?_; rintro e w4 ⟨rfl, hb⟩; rw [HFN.out, HFB.out]; have K0 := Hd.mk (K0.out.below hb K0.out.lt); have hc4 : w4.cell? ⟨wr.heap.size, 0, none⟩ = some (.string xn) := K0.out.cell rfl; have HA := Hd.mk (HA.out.below hb); have HB := Hd.mk (below_then HB.out HB.out.size hb); clear hb)
              | (go_at_call 16; refine (drop_calls _ _ _ aL xn _ HA.out HAL.out.symm (by rw [HAL.out]; omega)).mono ?_; rw [HFB.out, HX1.out]; rintro e w5 ⟨v5, rfl, ho, hb⟩; obtain ⟨A5, c5, rfl, _, hr5, _⟩ := own_rc ho; rw [HXL.out]; have R5 := Hd.mk hr5; have K0 := Hd.mk (K0.out.below hb K0.out.lt); have HB := Hd.mk (below_then HB.out HB.out.size hb); clear hb ho hr5))
            go_loopw [14] (fun iv wq => ∃ j : Nat, iv = .int .i64 (j : Int) ∧ 1 ≤ j ∧ j ≤ m + 1 ∧ Hd (Rc wq A5 (ens X)) ∧ Hd (Below w.heap.size w wq) ∧ Hd (Blk wq wr.heap.size 31 (ecs (xn, xk)))) (fun iv _ => m + 1 - (intOf iv).toNat)
            case atStart => exact ⟨1, rfl, Nat.le_refl _, by omega, R5, HB, K0⟩
            case round =>
              clear R5 HB HA
              obtain ⟨j, rfl, hj1, hj2, R5, HB, K0⟩ := hrel
              by_cases hjl : j < m
              · obtain ⟨p, hp⟩ : ∃ p, j = p + 1 := ⟨j - 1, by omega⟩
                have hjX : j < X.length := by rw [HXL.out]; exact hjl
                have hpX : p < X.length := by omega
                obtain ⟨b5, off5, rfl, hc⟩ := node_cell R5.out j hjX
                obtain ⟨b6, off6, e6, hc6⟩ := node_cell R5.out p hpX
                injection e6 with e6
                injection e6 with e61 e62
                subst e61; subst e62
                have hcj := (hc _ (Below.refl _ _)).1
                have hcp := (hc6 _ (Below.refl _ _)).1
                have hgt : gtN X[j].1 X[p].1 = true := List.pairwise_iff_getElem.1 HXR.out p j hpX hjX (by omega)
                obtain ⟨y, hy⟩ : ∃ y, X[j].1 = y := ⟨_, rfl⟩
                obtain ⟨y2, hy2⟩ : ∃ y, X[p].1 = y := ⟨_, rfl⟩
                rw [hy] at hcj hgt
                rw [hy2] at hcp hgt
                have hjl2 : (j : Int) < (m : Int) := by omega
                have hpl2 : (p : Int) < (m : Int) := by omega
                have hpm : (j : Int) - 1 = (p : Int) := by omega
                have hpw : IntKind.i64.wrap (p : Int) = (p : Int) := by rw [IntKind.wrap_i64]; omega
                rcases gt_ways y y2 with ⟨g0, _⟩ | ⟨g0, _, _⟩ | ⟨_, g1, g2⟩
                · rw [hgt] at g0; cases g0
                · rw [hgt] at g0; cases g0
                clear hc hc6 hgt hy hy2 hjX hpX hp
                go_wp2
                go_quiet (fail)
                have R5 := Hd.mk (R5.out.below (below_drewN (Below.refl _ _) nq))
                have K0 := Hd.mk (K0.out.below (below_drewN (Below.refl _ _) nq) K0.out.lt)
                have HB := Hd.mk (below_drewN HB.out nq)
                go_wp2
                go_roundw
                case rel => exact ⟨j + 1, by go_num, by omega, by omega, R5, HB, K0⟩
                case measure => first | (simp [intOf]; done) | (simp [intOf]; omega)
              · have hjl2 : ¬ ((j : Int) < (m : Int)) := by omega
                have hcq := K0.out.cell (i := 0) rfl
                go_wp2_with (clear T1; go_at_call 17; refine (find_calls _ _ _ X _ _ R5.out HXL.out.symm (by rw [HXL.out]; omega)).mono ?_; rintro e w7 ⟨rfl, hb⟩; rw [HG1.out, HG2.out]; have R5 := Hd.mk (R5.out.below hb); have HB := Hd.mk (below_then HB.out HB.out.size hb); clear hb)
                go_roundw
                case rel => exact ⟨i + 1, m, X, A5, c5, by go_num, by omega, by omega, rfl, HXL, HXR, R5, HB⟩
                case measure => simp [intOf]; omega
        · obtain rfl : i = n := by omega
          go_wp2_with (go_at_call 11; refine (known_calls _).mono ?_; rintro e w12 ⟨rfl, hb⟩; have HB := Hd.mk (below_then HB.out HB.out.size hb); clear hb)
          go_ret
          exact ⟨rfl, HB.out⟩
    · go_enter Try.func6, Try.ntmps6
      go_wp2_with (first
        | (go_at_call 13; refine (long_calls _ _ _ l _ (HL.out.below HB.out) HE.out HN.out).mono ?_; rintro e w1 ⟨rfl, hw⟩; obtain rfl := hw; rw [HZ.out])
        | (go_at_call 11; refine (known_calls _).mono ?_; rintro e w12 ⟨rfl, hb⟩; have HB := Hd.mk (below_then HB.out HB.out.size hb); clear hb))
      go_ret
      exact ⟨rfl, HB.out⟩
  · go_enter Try.func6, Try.ntmps6
    go_wp2_with (first
      | (go_at_call 13; refine (long_calls _ _ _ l _ (HL.out.below HB.out) HE.out HN.out).mono ?_; rintro e w1 ⟨rfl, hw⟩; obtain rfl := hw; rw [HZ.out])
      | (go_at_call 11; refine (known_calls _).mono ?_; rintro e w12 ⟨rfl, hb⟩; have HB := Hd.mk (below_then HB.out HB.out.size hb); clear hb))
    go_ret
    exact ⟨rfl, HB.out⟩
end Go.Proofs.Ytiloeaenpanjcaa
