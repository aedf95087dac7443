/- W06LawTears: the law WorldTears. -/
import Derived.Test.YtffhncpgknkkaaaW06Tear
namespace Go.Proofs.Ytffhncpgknkkaaa
open Go.RowKit Go.Sac
set_option linter.unusedVariables false
set_option linter.unusedSimpArgs false
def tD1 (a : List UInt8) : DD := updD (fun _ => nought) (1, 0) (wideW a)
def tB (a b : List UInt8) (q : Nat) : List UInt8 := overB (wideW a) ((wideW b).take q)
def tD4 (a b : List UInt8) (q : Nat) : DD := updD (tD1 a) (1, 0) (tB a b q)
theorem tD1_at (a : List UInt8) : tD1 a (1, 0) = wideW a := by unfold tD1 updD; exact if_pos rfl
theorem tD4_at (a b : List UInt8) (q : Nat) : tD4 a b q (1, 0) = tB a b q := by unfold tD4 updD; exact if_pos rfl
theorem tD4_of (a b : List UInt8) (q : Nat) : updD (tD1 a) (1, 0) (overB (tD1 a (1, 0)) ((wideW b).take q)) = tD4 a b q := by rw [tD1_at]; rfl
theorem tB_len (a b : List UInt8) (q : Nat) (hq : q ≤ 272) : (tB a b q).length = 272 := over_len _ _ (wideW_len a) q hq (wideW_len b)
theorem tB_low (a b : List UInt8) (q i : Nat) (hq : q ≤ 272) (hi : i < q) : (tB a b q)[i]? = some (b.getD i 0) := by
  unfold tB
  rw [over_at _ _ (wideW_len a) q hq (wideW_len b) i (by omega), if_pos hi, List.getElem?_eq_getElem (by rw [wideW_len]; omega), wide_at]
theorem tB_high (a b : List UInt8) (q i : Nat) (hq : q ≤ 272) (hi : ¬ i < q) (h : i < 272) : (tB a b q)[i]? = some (a.getD i 0) := by
  unfold tB
  rw [over_at _ _ (wideW_len a) q hq (wideW_len b) i h, if_neg hi, List.getElem?_eq_getElem (by rw [wideW_len]; omega), wide_at]
theorem bs_cell {w : World} {A : Option Addr} {l : List UInt8} (hr : Rc w A (bs l)) {q off : Nat} (e : A = some ⟨q, off, none⟩) {i : Nat} {u : UInt8} (h : l[i]? = some u) : w.cell? ⟨q, off + i, none⟩ = some (.int .u8 (u.toNat : Int)) := by
  obtain ⟨q2, off2, e2, hc⟩ := hr i (u8v u) (by unfold bs; rw [List.getElem?_map, h]; rfl)
  rw [e] at e2
  injection e2 with e2
  injection e2 with e3 e4
  subst e3; subst e4
  exact hc
set_option maxRecDepth 100000 in
set_option maxHeartbeats 8000000 in
theorem law_tears (A B : Option Addr) (n m ca cb : Nat) (a b : List UInt8) (power : Int) (w : World) (ha : Rc w A (bs a)) (hb : Rc w B (bs b))
    (e1 : n = a.length) (e2 : m = b.length) (hn : n ≤ 140737488355328) (hm : m ≤ 140737488355328) (h1 : 0 ≤ power ∧ power ≤ 65535) :
    Calls Try.prog 5 #[.slice A n ca, .slice B m cb, .int .u16 power] w (RetT w) := by
  have HRA := Hd.mk ha
  have HRB := Hd.mk hb
  have E1 := Hd.mk e1
  have E2 := Hd.mk e2
  clear ha hb e1 e2
  by_cases hsm : n + m ≤ 800
  · have hsm2 : ¬ (800 : Int) < (n : Int) + (m : Int) := by omega
    have HSM := Hd.mk hsm
    clear hsm
    obtain ⟨k, hk⟩ : ∃ k : Nat, power % 300 = (k : Int) := ⟨(power % 300).toNat, by omega⟩
    have HKK := Hd.mk hk
    have hk3 : k < 300 := by omega
    have HK3 := Hd.mk hk3
    clear hk hk3
    by_cases h272 : k < 272
    · have HC := Hd.mk h272
      have h272i : (k : Int) < 272 := by omega
      have h273i : ¬ (272 : Int) < (k : Int) := by omega
      have T1 : Hd True := ⟨trivial⟩
      have T2 : Hd True := ⟨trivial⟩
      have T3 : Hd True := ⟨trivial⟩
      have T4 : Hd True := ⟨trivial⟩
      go_enter Try.func5, Try.ntmps5
      go_wp2_with (first
        | (go_at_call 11; refine (wq_new _ ⟨by decide, by decide⟩).mono ?_; rintro e w1 ⟨g, K1, rfl, h, _⟩; have W1 := Hd.mk h; clear h)
        | (go_at_call 12; clear T1; refine (wq_write W1.out (by decide) (by decide) (by decide) (by decide) (by decide) A n ca a (W1.out.arg HRA.out) E1.out (by have := E1.out; have := HSM.out; omega)).mono ?_; rintro e w2 ⟨rfl, K2, h, _⟩; have W2 : Hd (Wq w w2 g K2 (tD1 a) _ _ _ _) := ⟨h⟩; clear h W1)
        | (go_at_call 13; clear T2; refine (wq_read W2.out (by decide) (by decide) (by decide) (by decide) (by decide) (wideW a) (tD1_at a) 272 (wideW_len a).symm).mono ?_; rintro e w3 ⟨A3, c3, K3, rfl, h4, hf, h, _⟩; have W3 := Hd.mk h; have F3 := Hd.mk hf; clear h h4 hf W2)
        | (go_at_call 16; rw [HKK.out]; refine (wq_arm W3.out (by omega) (by have := HK3.out; omega)).mono ?_; rintro e w4 ⟨rfl, K4, h, hs⟩; have W4 := Hd.mk h; have F4 := Hd.mk (F3.out.step hs); clear h hs W3 F3)
        | (go_at_call 12; clear T3; refine (wa_write W4.out (by decide) (by decide) (by decide) (by decide) (by decide) (by omega) B m cb b (W4.out.arg HRB.out) E2.out (by have := E2.out; have := HSM.out; omega) k (by have := HC.out; omega) 0 (by have := HC.out; omega) true (by have := HC.out; first | exact decide_eq_true (by omega) | exact decide_eq_false (by omega)) (tD4 a b k) (tD4_of a b k)).mono ?_
           rintro e w5 ⟨rfl, K5, h, hs⟩; have W5 := Hd.mk h; have F5 := Hd.mk (F4.out.step hs); have T5 : Hd True := ⟨trivial⟩; clear h hs W4 F4)
        | (go_at_call 17; clear T5; refine (wa_dead W5.out).mono ?_; rintro e w6 ⟨rfl, hw⟩; obtain rfl := hw.symm)
        | (go_at_call 18; refine (wa_bump_lost W5.out (by decide)).mono ?_; rintro e w6 ⟨rfl, K6, h, hs⟩; have W6 := Hd.mk h; have F6 := Hd.mk (F5.out.step hs); have T6 : Hd True := ⟨trivial⟩; clear h hs W5 F5)
        | (go_at_call 12; clear T6; refine (wa_write_lost W6.out (by decide) (by decide) 0 0 B m cb b (W6.out.arg HRB.out) E2.out (by have := E2.out; have := HSM.out; omega)).mono ?_; rintro e w7 ⟨rfl, K7, h, hs⟩; have W7 := Hd.mk h; have F7 := Hd.mk (F6.out.step hs); have T7 : Hd True := ⟨trivial⟩; clear h hs W6 F6)
        | (go_at_call 13; clear T7; refine (wa_read_lost W7.out (by decide) (by decide) 1 0).mono ?_; rintro e w8 ⟨A8, c8, K8, rfl, h, hs⟩; have W8 := Hd.mk h; have F8 := Hd.mk (F7.out.step hs); clear h hs W7 F7)
        | (go_at_call 19; refine (wa_counter W8.out).mono ?_; rintro e w9 ⟨rfl, hw⟩; obtain rfl := hw.symm)
        | (go_at_call 20; refine (wa_restart W8.out).mono ?_; rintro e w10 ⟨rfl, KA, h, hs⟩; have WA := Hd.mk h; have FA := Hd.mk (F8.out.step hs); have T8 : Hd True := ⟨trivial⟩; clear h hs W8 F8)
        | (go_at_call 13; clear T8; refine (wq_read WA.out (by decide) (by decide) (by decide) (by decide) (by decide) (tB a b k) (tD4_at a b k) 272 (tB_len a b k (by have := HC.out; omega)).symm).mono ?_; rintro e w11 ⟨AB, cB, KB, rfl, h4, hf, h, hs⟩; have WB := Hd.mk h; have FB := Hd.mk hf; have GB := Hd.mk (FA.out.step hs); clear h h4 hf hs WA FA))
      go_loopw [13, 14] (fun iv _ wr => ∃ q : Nat, iv = .int .i64 (q : Int) ∧ q ≤ 272 ∧ wr = w11) (fun iv _ _ => 272 - (intOf iv).toNat)
      case atStart => exact ⟨0, rfl, Nat.zero_le _, rfl⟩
      case round =>
        obtain ⟨q, rfl, hq, rfl⟩ := hrel
        by_cases hlt : q < 272
        · have hqi : (q : Int) < 272 := by omega
          obtain ⟨bn, on, rfl, _, _⟩ := FB.out.rc.form (by rw [bs_len, tB_len a b k (by have := HC.out; omega)]; decide)
          by_cases hqm : q < m
          · have hqmi : (q : Int) < (m : Int) := by omega
            obtain ⟨bb, ob, rfl, _, _⟩ := HRB.out.form (by rw [bs_len]; have := E2.out; omega)
            have hcb : wr.cell? ⟨bb, ob + q, none⟩ = some (.int .u8 ((b.getD q 0).toNat : Int)) := bs_cell (WB.out.arg HRB.out).rc rfl (by rw [List.getD_eq_getElem?_getD, List.getElem?_eq_getElem (by have := E2.out; omega)]; rfl)
            by_cases hqk : q < k
            · have hqki : (q : Int) < (k : Int) := by omega
              have hcn := bs_cell FB.out.rc rfl (tB_low a b k q (by have := HC.out; omega) (by have := HC.out; omega))
              obtain ⟨u, hu⟩ : ∃ u, b.getD q 0 = u := ⟨_, rfl⟩
              rw [hu] at hcn hcb
              clear hu
              go_wp2_with fail
              go_roundw
              case rel => exact ⟨q + 1, by go_num, by omega, trivial⟩
              case measure => simp [intOf]; omega
            · have hqki : ¬ (q : Int) < (k : Int) := by omega
              have hcn := bs_cell FB.out.rc rfl (tB_high a b k q (by have := HC.out; omega) (by have := HC.out; omega) hlt)
              obtain ⟨ba, oa, rfl, _, _⟩ := GB.out.rc.form (by rw [bs_len, wideW_len]; decide)
              have hca : wr.cell? ⟨ba, oa + q, none⟩ = some (.int .u8 ((a.getD q 0).toNat : Int)) := bs_cell GB.out.rc rfl (by rw [List.getElem?_eq_getElem (by rw [wideW_len]; exact hlt), wide_at])
              obtain ⟨u, hu⟩ : ∃ u, a.getD q 0 = u := ⟨_, rfl⟩
              obtain ⟨v, hv⟩ : ∃ v, b.getD q 0 = v := ⟨_, rfl⟩
              rw [hu] at hcn hca
              rw [hv] at hcb
              clear hu hv
              go_wp2_with fail
              go_roundw
              case rel => exact ⟨q + 1, by go_num, by omega, trivial⟩
              case measure => simp [intOf]; omega
          · have hqmi : ¬ (q : Int) < (m : Int) := by omega
            by_cases hqk : q < k
            · have hqki : (q : Int) < (k : Int) := by omega
              have hcn := bs_cell FB.out.rc rfl (tB_low a b k q (by have := HC.out; omega) (by have := HC.out; omega))
              rw [show b.getD q 0 = 0 by rw [List.getD_eq_getElem?_getD, List.getElem?_eq_none (by have := E2.out; omega), Option.getD_none]] at hcn
              go_wp2_with fail
              go_roundw
              case rel => exact ⟨q + 1, by go_num, by omega, trivial⟩
              case measure => simp [intOf]; omega
            · have hqki : ¬ (q : Int) < (k : Int) := by omega
              have hcn := bs_cell FB.out.rc rfl (tB_high a b k q (by have := HC.out; omega) (by have := HC.out; omega) hlt)
              obtain ⟨ba, oa, rfl, _, _⟩ := GB.out.rc.form (by rw [bs_len, wideW_len]; decide)
              have hca : wr.cell? ⟨ba, oa + q, none⟩ = some (.int .u8 ((a.getD q 0).toNat : Int)) := bs_cell GB.out.rc rfl (by rw [List.getElem?_eq_getElem (by rw [wideW_len]; exact hlt), wide_at])
              obtain ⟨u, hu⟩ : ∃ u, a.getD q 0 = u := ⟨_, rfl⟩
              rw [hu] at hcn hca
              clear hu
              go_wp2_with fail
              go_roundw
              case rel => exact ⟨q + 1, by go_num, by omega, trivial⟩
              case measure => simp [intOf]; omega
        · obtain rfl : q = 272 := by omega
          go_wp2_with (first
            | (go_at_call 17; refine (wq_dead WB.out).mono ?_; rintro e w12 ⟨rfl, hw⟩; obtain rfl := hw.symm)
            | (go_at_call 12; refine (wq_write WB.out (by decide) (by decide) (by decide) (by decide) (by decide) B m cb b (WB.out.arg HRB.out) E2.out (by have := E2.out; have := HSM.out; omega)).mono ?_; rintro e w13 ⟨rfl, KC, h, _⟩; have WC := Hd.mk h; clear h WB)
            | (go_at_call 10; refine (known_calls _).mono ?_; rintro e w14 ⟨rfl, hb⟩))
          go_ret
          exact ⟨rfl, below_then WC.out.bel WC.out.bel.size hb⟩
    · by_cases h273 : k = 272
      · subst h273
        have HC : Hd (272 = 272) := ⟨rfl⟩
        have T1 : Hd True := ⟨trivial⟩
        have T2 : Hd True := ⟨trivial⟩
        have T3 : Hd True := ⟨trivial⟩
        have T4 : Hd True := ⟨trivial⟩
        go_enter Try.func5, Try.ntmps5
        go_wp2_with (first
          | (go_at_call 11; refine (wq_new _ ⟨by decide, by decide⟩).mono ?_; rintro e w1 ⟨g, K1, rfl, h, _⟩; have W1 := Hd.mk h; clear h)
          | (go_at_call 12; clear T1; refine (wq_write W1.out (by decide) (by decide) (by decide) (by decide) (by decide) A n ca a (W1.out.arg HRA.out) E1.out (by have := E1.out; have := HSM.out; omega)).mono ?_; rintro e w2 ⟨rfl, K2, h, _⟩; have W2 : Hd (Wq w w2 g K2 (tD1 a) _ _ _ _) := ⟨h⟩; clear h W1)
          | (go_at_call 13; clear T2; refine (wq_read W2.out (by decide) (by decide) (by decide) (by decide) (by decide) (wideW a) (tD1_at a) 272 (wideW_len a).symm).mono ?_; rintro e w3 ⟨A3, c3, K3, rfl, h4, hf, h, _⟩; have W3 := Hd.mk h; have F3 := Hd.mk hf; clear h h4 hf W2)
          | (go_at_call 16; rw [HKK.out]; refine (wq_arm W3.out (by omega) (by have := HK3.out; omega)).mono ?_; rintro e w4 ⟨rfl, K4, h, hs⟩; have W4 := Hd.mk h; have F4 := Hd.mk (F3.out.step hs); clear h hs W3 F3)
          | (go_at_call 12; clear T3; refine (wa_write W4.out (by decide) (by decide) (by decide) (by decide) (by decide) (by omega) B m cb b (W4.out.arg HRB.out) E2.out (by have := E2.out; have := HSM.out; omega) 272 (by have := HC.out; omega) 0 (by have := HC.out; omega) false (by have := HC.out; first | exact decide_eq_true (by omega) | exact decide_eq_false (by omega)) (tD4 a b 272) (tD4_of a b 272)).mono ?_
             rintro e w5 ⟨rfl, K5, h, hs⟩; have W5 := Hd.mk h; have F5 := Hd.mk (F4.out.step hs); have T5 : Hd True := ⟨trivial⟩; clear h hs W4 F4)
          | (go_at_call 17; clear T5; refine (wa_dead W5.out).mono ?_; rintro e w6 ⟨rfl, hw⟩; obtain rfl := hw.symm)
          | (go_at_call 18; refine (wa_bump0 W5.out (by decide)).mono ?_; rintro e w8 ⟨rfl, K8, h, hs⟩; have W8 := Hd.mk h; have F8 := Hd.mk (F5.out.step hs); clear h hs W5 F5)
          | (go_at_call 20; refine (wa_restart W8.out).mono ?_; rintro e w10 ⟨rfl, KA, h, hs⟩; have WA := Hd.mk h; have FA := Hd.mk (F8.out.step hs); have T8 : Hd True := ⟨trivial⟩; clear h hs W8 F8)
          | (go_at_call 13; clear T8; refine (wq_read WA.out (by decide) (by decide) (by decide) (by decide) (by decide) (tB a b 272) (tD4_at a b 272) 272 (tB_len a b 272 (by have := HC.out; omega)).symm).mono ?_; rintro e w11 ⟨AB, cB, KB, rfl, h4, hf, h, hs⟩; have WB := Hd.mk h; have FB := Hd.mk hf; have GB := Hd.mk (FA.out.step hs); clear h h4 hf hs WA FA))
        go_loopw [13, 14] (fun iv _ wr => ∃ q : Nat, iv = .int .i64 (q : Int) ∧ q ≤ 272 ∧ wr = w11) (fun iv _ _ => 272 - (intOf iv).toNat)
        case atStart => exact ⟨0, rfl, Nat.zero_le _, rfl⟩
        case round =>
          obtain ⟨q, rfl, hq, rfl⟩ := hrel
          by_cases hlt : q < 272
          · have hqi : (q : Int) < 272 := by omega
            obtain ⟨bn, on, rfl, _, _⟩ := FB.out.rc.form (by rw [bs_len, tB_len a b 272 (by have := HC.out; omega)]; decide)
            by_cases hqm : q < m
            · have hqmi : (q : Int) < (m : Int) := by omega
              obtain ⟨bb, ob, rfl, _, _⟩ := HRB.out.form (by rw [bs_len]; have := E2.out; omega)
              have hcb : wr.cell? ⟨bb, ob + q, none⟩ = some (.int .u8 ((b.getD q 0).toNat : Int)) := bs_cell (WB.out.arg HRB.out).rc rfl (by rw [List.getD_eq_getElem?_getD, List.getElem?_eq_getElem (by have := E2.out; omega)]; rfl)
              by_cases hqk : q < 272
              · have hqki : (q : Int) < (272 : Int) := by omega
                have hcn := bs_cell FB.out.rc rfl (tB_low a b 272 q (by have := HC.out; omega) (by have := HC.out; omega))
                obtain ⟨u, hu⟩ : ∃ u, b.getD q 0 = u := ⟨_, rfl⟩
                rw [hu] at hcn hcb
                clear hu
                go_wp2_with fail
                go_roundw
                case rel => exact ⟨q + 1, by go_num, by omega, trivial⟩
                case measure => simp [intOf]; omega
              · exfalso; have := HC.out; omega
            · have hqmi : ¬ (q : Int) < (m : Int) := by omega
              by_cases hqk : q < 272
              · have hqki : (q : Int) < (272 : Int) := by omega
                have hcn := bs_cell FB.out.rc rfl (tB_low a b 272 q (by have := HC.out; omega) (by have := HC.out; omega))
                rw [show b.getD q 0 = 0 by rw [List.getD_eq_getElem?_getD, List.getElem?_eq_none (by have := E2.out; omega), Option.getD_none]] at hcn
                go_wp2_with fail
                go_roundw
                case rel => exact ⟨q + 1, by go_num, by omega, trivial⟩
                case measure => simp [intOf]; omega
              · exfalso; have := HC.out; omega
          · obtain rfl : q = 272 := by omega
            go_wp2_with (first
              | (go_at_call 17; refine (wq_dead WB.out).mono ?_; rintro e w12 ⟨rfl, hw⟩; obtain rfl := hw.symm)
              | (go_at_call 12; refine (wq_write WB.out (by decide) (by decide) (by decide) (by decide) (by decide) B m cb b (WB.out.arg HRB.out) E2.out (by have := E2.out; have := HSM.out; omega)).mono ?_; rintro e w13 ⟨rfl, KC, h, _⟩; have WC := Hd.mk h; clear h WB)
              | (go_at_call 10; refine (known_calls _).mono ?_; rintro e w14 ⟨rfl, hb⟩))
            go_ret
            exact ⟨rfl, below_then WC.out.bel WC.out.bel.size hb⟩
      · have hgt : 272 < k := by omega
        have HC := Hd.mk hgt
        have h272i : ¬ (k : Int) < 272 := by omega
        have h273i : (272 : Int) < (k : Int) := by omega
        have T1 : Hd True := ⟨trivial⟩
        have T2 : Hd True := ⟨trivial⟩
        have T3 : Hd True := ⟨trivial⟩
        have T4 : Hd True := ⟨trivial⟩
        go_enter Try.func5, Try.ntmps5
        go_wp2_with (first
          | (go_at_call 11; refine (wq_new _ ⟨by decide, by decide⟩).mono ?_; rintro e w1 ⟨g, K1, rfl, h, _⟩; have W1 := Hd.mk h; clear h)
          | (go_at_call 12; clear T1; refine (wq_write W1.out (by decide) (by decide) (by decide) (by decide) (by decide) A n ca a (W1.out.arg HRA.out) E1.out (by have := E1.out; have := HSM.out; omega)).mono ?_; rintro e w2 ⟨rfl, K2, h, _⟩; have W2 : Hd (Wq w w2 g K2 (tD1 a) _ _ _ _) := ⟨h⟩; clear h W1)
          | (go_at_call 13; clear T2; refine (wq_read W2.out (by decide) (by decide) (by decide) (by decide) (by decide) (wideW a) (tD1_at a) 272 (wideW_len a).symm).mono ?_; rintro e w3 ⟨A3, c3, K3, rfl, h4, hf, h, _⟩; have W3 := Hd.mk h; have F3 := Hd.mk hf; clear h h4 hf W2)
          | (go_at_call 16; rw [HKK.out]; refine (wq_arm W3.out (by omega) (by have := HK3.out; omega)).mono ?_; rintro e w4 ⟨rfl, K4, h, hs⟩; have W4 := Hd.mk h; have F4 := Hd.mk (F3.out.step hs); clear h hs W3 F3)
          | (go_at_call 12; clear T3; refine (wa_write W4.out (by decide) (by decide) (by decide) (by decide) (by decide) (by omega) B m cb b (W4.out.arg HRB.out) E2.out (by have := E2.out; have := HSM.out; omega) 272 (by have := HC.out; omega) ((k : Int) - 272) (by have := HC.out; omega) false (by have := HC.out; first | exact decide_eq_true (by omega) | exact decide_eq_false (by omega)) (tD4 a b 272) (tD4_of a b 272)).mono ?_
             rintro e w5 ⟨rfl, K5, h, hs⟩; have W5 := Hd.mk h; have F5 := Hd.mk (F4.out.step hs); have T5 : Hd True := ⟨trivial⟩; clear h hs W4 F4)
          | (go_at_call 17; clear T5; refine (wa_dead W5.out).mono ?_; rintro e w6 ⟨rfl, hw⟩; obtain rfl := hw.symm)
          | (go_at_call 18; refine (wa_bump W5.out (by decide) (by have := HC.out; omega)).mono ?_; rintro e w8 ⟨rfl, K8, h, hs⟩; have W8 := Hd.mk h; have F8 := Hd.mk (F5.out.step hs); clear h hs W5 F5)
          | (go_at_call 20; refine (wa_restart W8.out).mono ?_; rintro e w10 ⟨rfl, KA, h, hs⟩; have WA := Hd.mk h; have FA := Hd.mk (F8.out.step hs); have T8 : Hd True := ⟨trivial⟩; clear h hs W8 F8)
          | (go_at_call 13; clear T8; refine (wq_read WA.out (by decide) (by decide) (by decide) (by decide) (by decide) (tB a b 272) (tD4_at a b 272) 272 (tB_len a b 272 (by have := HC.out; omega)).symm).mono ?_; rintro e w11 ⟨AB, cB, KB, rfl, h4, hf, h, hs⟩; have WB := Hd.mk h; have FB := Hd.mk hf; have GB := Hd.mk (FA.out.step hs); clear h h4 hf hs WA FA))
        go_loopw [13, 14] (fun iv _ wr => ∃ q : Nat, iv = .int .i64 (q : Int) ∧ q ≤ 272 ∧ wr = w11) (fun iv _ _ => 272 - (intOf iv).toNat)
        case atStart => exact ⟨0, rfl, Nat.zero_le _, rfl⟩
        case round =>
          obtain ⟨q, rfl, hq, rfl⟩ := hrel
          by_cases hlt : q < 272
          · have hqi : (q : Int) < 272 := by omega
            obtain ⟨bn, on, rfl, _, _⟩ := FB.out.rc.form (by rw [bs_len, tB_len a b 272 (by have := HC.out; omega)]; decide)
            by_cases hqm : q < m
            · have hqmi : (q : Int) < (m : Int) := by omega
              obtain ⟨bb, ob, rfl, _, _⟩ := HRB.out.form (by rw [bs_len]; have := E2.out; omega)
              have hcb : wr.cell? ⟨bb, ob + q, none⟩ = some (.int .u8 ((b.getD q 0).toNat : Int)) := bs_cell (WB.out.arg HRB.out).rc rfl (by rw [List.getD_eq_getElem?_getD, List.getElem?_eq_getElem (by have := E2.out; omega)]; rfl)
              by_cases hqk : q < k
              · have hqki : (q : Int) < (k : Int) := by omega
                have hcn := bs_cell FB.out.rc rfl (tB_low a b 272 q (by have := HC.out; omega) (by have := HC.out; omega))
                obtain ⟨u, hu⟩ : ∃ u, b.getD q 0 = u := ⟨_, rfl⟩
                rw [hu] at hcn hcb
                clear hu
                go_wp2_with fail
                go_roundw
                case rel => exact ⟨q + 1, by go_num, by omega, trivial⟩
                case measure => simp [intOf]; omega
              · exfalso; have := HC.out; omega
            · have hqmi : ¬ (q : Int) < (m : Int) := by omega
              by_cases hqk : q < k
              · have hqki : (q : Int) < (k : Int) := by omega
                have hcn := bs_cell FB.out.rc rfl (tB_low a b 272 q (by have := HC.out; omega) (by have := HC.out; omega))
                rw [show b.getD q 0 = 0 by rw [List.getD_eq_getElem?_getD, List.getElem?_eq_none (by have := E2.out; omega), Option.getD_none]] at hcn
                go_wp2_with fail
                go_roundw
                case rel => exact ⟨q + 1, by go_num, by omega, trivial⟩
                case measure => simp [intOf]; omega
              · exfalso; have := HC.out; omega
          · obtain rfl : q = 272 := by omega
            go_wp2_with (first
              | (go_at_call 17; refine (wq_dead WB.out).mono ?_; rintro e w12 ⟨rfl, hw⟩; obtain rfl := hw.symm)
              | (go_at_call 12; refine (wq_write WB.out (by decide) (by decide) (by decide) (by decide) (by decide) B m cb b (WB.out.arg HRB.out) E2.out (by have := E2.out; have := HSM.out; omega)).mono ?_; rintro e w13 ⟨rfl, KC, h, _⟩; have WC := Hd.mk h; clear h WB)
              | (go_at_call 10; refine (known_calls _).mono ?_; rintro e w14 ⟨rfl, hb⟩))
            go_ret
            exact ⟨rfl, below_then WC.out.bel WC.out.bel.size hb⟩
  · have hsm2 : (800 : Int) < (n : Int) + (m : Int) := by omega
    go_enter Try.func5, Try.ntmps5
    go_wp2_with (go_at_call 10; refine (known_calls _).mono ?_; rintro e w1 ⟨rfl, hb⟩)
    go_ret
    exact ⟨rfl, hb⟩
theorem row_tears (A : Option Addr) (ca : Nat) (a : List UInt8) (B : Option Addr) (cb : Nat) (b : List UInt8) (power : Int) (w : World)
    (ha : Rc w A (bs a)) (la : a.length ≤ ca) (ma : a.length ≤ 140737488351232) (hb : Rc w B (bs b)) (lb : b.length ≤ cb) (mb : b.length ≤ 140737488351232) (h1 : 0 ≤ power ∧ power ≤ 65535) :
    Calls Try.prog 5 #[.slice A a.length ca, .slice B b.length cb, .int .u16 power] w (RetT w) :=
  law_tears A B _ _ ca cb a b power w ha hb rfl rfl (by omega) (by omega) h1
end Go.Proofs.Ytffhncpgknkkaaa
