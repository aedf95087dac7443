/- W06LawSeals: the law WorldSeals. -/
import Derived.Test.YtffhncpgknkkaaaW06Sl
namespace Go.Proofs.Ytffhncpgknkkaaa
open Go.RowKit Go.Sac
set_option linter.unusedVariables false
set_option linter.unusedSimpArgs false
def oth : List UInt8 := [111, 116, 104, 101, 114]
theorem fr_oth {w w0 : World} {g : Nat} {K : Nat → Nat} {i : Int} {x y : List UInt8} {r n : Nat} {ar d : Bool} {p : Int} (h : Ws w0 w g K i x y r n ar p d) (fr : Nat × Nat) : Fr (w.alloc (.cells #[.int .u8 111, .int .u8 116, .int .u8 104, .int .u8 101, .int .u8 114] 5 fr)) K (some ⟨w.heap.size, 0, none⟩) oth :=
  ⟨Rc.mk (b := w.heap.size) (off := 0) fun i u hi => by
    rw [Nat.zero_add, cell_of_row _ _ _ _ _ _ (heap_alloc_new w _)]
    simpa [bs, u8v, oth] using hi, fun a e _ => by
    injection e with e
    subst e
    exact ⟨h.fresh (Nat.le_refl _), by simp⟩⟩
set_option maxRecDepth 100000 in
set_option maxHeartbeats 8000000 in
theorem law_seals (A B : Option Addr) (n m ca cb : Nat) (a b : List UInt8) (power which : Int) (w : World) (ha : Rc w A (bs a)) (hb : Rc w B (bs b))
    (e1 : n = a.length) (e2 : m = b.length) (hca : n ≤ ca) (hcb : m ≤ cb) (hn : n ≤ 140737488355328) (hm : m ≤ 140737488355328) (h1 : 0 ≤ power ∧ power ≤ 65535) (h2 : 0 ≤ which ∧ which ≤ 255) :
    Calls Try.prog 6 #[.slice A n ca, .slice B m cb, .int .u16 power, .int .u8 which] w (RetT w) := by
  have HRA := Hd.mk ha
  have HRB := Hd.mk hb
  have E1 := Hd.mk e1
  have E2 := Hd.mk e2
  have HCA := Hd.mk hca
  have HCB := Hd.mk hcb
  clear ha hb e1 e2 hca
  by_cases hsm : n + m ≤ 600
  · have hsm2 : ¬ (600 : Int) < (n : Int) + (m : Int) := by omega
    have HSM := Hd.mk hsm
    clear hsm
    obtain ⟨i, hi⟩ : ∃ i, which % 2 = i := ⟨_, rfl⟩
    have HII := Hd.mk hi
    have hi0 : 0 ≤ i := by omega
    have hi1 : i ≤ 1 := by omega
    have HI : Hd (i = 0 ∨ i = 1) := ⟨by omega⟩
    obtain ⟨k, hk⟩ : ∃ k : Nat, power % ((m : Int) + 3) = (k : Int) := ⟨(power % ((m : Int) + 3)).toNat, by have := Int.emod_nonneg power (show (m : Int) + 3 ≠ 0 by omega); omega⟩
    have HKK := Hd.mk hk
    have HKB : Hd (k < 700) := ⟨by have := Int.emod_lt_of_pos power (show (0 : Int) < (m : Int) + 3 by omega); have := HSM.out; omega⟩
    have hm3 : ¬ (m : Int) + 3 = 0 := by omega
    clear hi hk
    by_cases hkm : k < m
    · have hkmi : (k : Int) < (m : Int) := by omega
      have hmin : min (k : Int) (m : Int) = (k : Int) := by omega
      have hcut := cut_high (P := Try.prog) 22 5 Try.underlying22 info_u8 B m cb k (by omega)
      obtain ⟨N, hN⟩ : ∃ N, N = (tornB a b k).length := ⟨_, rfl⟩
      have HN := Hd.mk hN
      have HC := Hd.mk hkm
      clear hN
      by_cases hkn : k < n
      · have hkni : (k : Int) < (n : Int) := by omega
        have HT : Hd (tornB a b k = b.take k ++ a.drop k) := ⟨by unfold tornB; rw [if_pos (by rw [← E2.out]; exact hkm)]⟩
        obtain ⟨AT, hcl, hclr0, _⟩ := cut_low (P := Try.prog) 22 5 Try.underlying22 info_u8 A n ca k (by omega) HCA.out
        have hclr := Hd.mk hclr0
        clear hclr0 hcb
        have kc := fun (w : World) (C : Array Value) (n c : Nat) => Lib.run_convert_bytes_const (P := Try.prog) w 22 5 C n c Try.underlying22 Try.underlying5
        have T1 : Hd True := ⟨trivial⟩
        have T2 : Hd True := ⟨trivial⟩
        have T3 : Hd True := ⟨trivial⟩
        have T4 : Hd True := ⟨trivial⟩
        have T5 : Hd True := ⟨trivial⟩
        have T6 : Hd True := ⟨trivial⟩
        have T7 : Hd True := ⟨trivial⟩
        go_enter Try.func6, Try.ntmps6
        go_wp2_with (first
          | (go_at_call 11; rw [HII.out]; refine (ws_new _ HI.out).mono ?_; rintro e w1 ⟨g, K1, rfl, h⟩; have W1 := Hd.mk h; clear h)
          | (go_at_call 21; clear T1; refine (ws_seal W1.out (by decide) (by decide) A n ca a (W1.out.arg HRA.out) E1.out HCA.out (by have := E1.out; have := HSM.out; omega)).mono ?_; rintro e w2 ⟨rfl, K2, h, _⟩; have W2 := Hd.mk h; clear h W1)
          | (go_at_call 21; clear T2; refine (ws_seal (W2.out.swap.below ((Below.refl _ _).alloc (Nat.le_refl _) _)) (by decide) (by decide) _ 5 5 oth (fr_oth W2.out (5, 6)) rfl (Nat.le_refl _) (by decide)).mono ?_; rintro e w3 ⟨rfl, K3, h, _⟩; have W3 : Hd (Ws w w3 g K3 i a oth _ _ _ _ _) := ⟨by have := h.swap; rwa [show 1 - (1 - i) = i by omega] at this⟩; clear h W2)
          | (go_at_call 22; clear T3; refine (ws_look W3.out (by decide) (by decide) n E1.out).mono ?_; rintro e w4 ⟨A4, c4, K4, rfl, _, hf, h, _⟩; have W4 := Hd.mk h; have F4 := Hd.mk hf; clear h hf W3)
          | (go_at_call 15; clear T4; refine (same_any _ _ _ _ _ _ a a _ F4.out.rc (W4.out.arg HRA.out).rc E1.out E1.out).mono ?_; rintro e w5 ⟨rfl, hw⟩; obtain rfl := hw.symm; rw [show (a == a) = true by simp])
          | (go_at_call 16; rw [HKK.out]; refine (ws_arm W4.out (by omega) (by have := HKB.out; omega)).mono ?_; rintro e w6 ⟨rfl, K6, h, hs⟩; have W6 := Hd.mk h; clear h hs W4 F4)
          | (go_at_call 21; refine (ws_torn W6.out (by decide) (by decide) B m cb b (W6.out.arg HRB.out) E2.out HCB.out (by have := E2.out; have := HSM.out; omega) k (by have := HC.out; omega) (by omega) true (by have := HC.out; first | exact decide_eq_true (by omega) | exact decide_eq_false (by omega))).mono ?_; rintro e w7 ⟨rfl, K7, pp, h, hs⟩; have W7 := Hd.mk h; clear h hs W6)
          | (go_at_call 20; refine (ws_restart W7.out).mono ?_; rintro e w8 ⟨rfl, K8, h, hs⟩; have W8 := Hd.mk h; clear h hs W7)
          | (go_at_call 22; clear T6; refine (ws_look W8.out (by decide) (by decide) N HN.out).mono ?_; rintro e wA ⟨AA, cA, KA, rfl, _, hf, h, _⟩; have WA := Hd.mk h; have FA := Hd.mk hf.rc; clear h hf W8)
          | (at_builtin; clear T5
             refine app_rc wA.heap.size 22 5 (.int .u8 0) 1 1 (.tmp 66) (.tmp 72) rfl rfl Try.underlying22 info_u8 rfl (by decide) (by decide) (.slice none 0 0) 0 [] (bs (b.take k)) B k cb rfl rfl (World.ownsRow_nil _ _ _ _) (by unfold bs; rw [List.map_take]; exact (WA.out.arg HRB.out).rc.take k) (by rw [bs_len, List.length_take]; have := E2.out; have := HC.out; omega) bs_one (Nat.le_refl _) (by have := HSM.out; have := HC.out; omega) k (bs (b.take k)) (by omega) (by simp) ?_
             intro v6 wB ho hg hat
             obtain ⟨A6, c6, rfl, _, hr6, _⟩ := own_rc ho
             have hb6 := below_nil hg
             have WB := Hd.mk (WA.out.below hb6); have HO6 := Hd.mk ho; have HB6 := Hd.mk hb6; have FB := Hd.mk (FA.out.below hb6); have HR6 := Hd.mk hr6
             clear ho hg hat hr6 hb6)
          | (at_builtin
             refine app_rc wA.heap.size 22 5 (.int .u8 0) 1 1 (.tmp 84) (.tmp 87) rfl rfl Try.underlying22 info_u8 rfl (by decide) (by decide) (.slice A6 k c6) k (bs (b.take k)) (bs (a.drop k)) AT (n - k) (ca - k) rfl rfl HO6.out (by unfold bs; rw [List.map_drop]; exact hclr.out _ (bs a) (by rw [bs_len]; exact E1.out.symm) (WB.out.arg HRA.out).rc) (by rw [bs_len, List.length_drop]; have := E1.out; omega) bs_one HB6.out.size (by have := HSM.out; omega) (k + (n - k)) (bs (b.take k ++ a.drop k)) rfl (by unfold bs; rw [List.map_append]) ?_
             intro v7 wC ho hg hat
             have hb7 : Below wA.heap.size wA wC := below_lift HB6.out HB6.out.size hg (fun k hk => (own_lt HO6.out k hk).1)
             obtain ⟨A7, c7, rfl, _, hr7, _⟩ := own_rc ho
             have WC := Hd.mk (WA.out.below hb7); have FC := Hd.mk (FA.out.below hb7); have HR7 := Hd.mk hr7
             clear ho hg hat hr7 hb7)
          | (go_at_call 15; refine (same_any _ _ _ _ _ _ (tornB a b k) (tornB a b k) _ FC.out (by rw [HT.out]; exact HR7.out) HN.out (by rw [HT.out, List.length_append, List.length_take, List.length_drop]; have := E1.out; have := E2.out; omega)).mono ?_; rintro e wD ⟨rfl, hw⟩; obtain rfl := hw.symm; rw [show ∀ z : List UInt8, (z == z) = true from fun z => by simp])
          | (go_at_call 22; refine (ws_look WC.out.swap (by decide) (by decide) 5 rfl).mono ?_; rintro e wE ⟨AE, cE, KE, rfl, _, hf, h, _⟩
             have SE : (convert 22 9 (.slice AE 5 cE)).run Try.prog wE = .ok (.string ⟨#[111, 116, 104, 101, 114]⟩) wE := run_str (P := Try.prog) wE 22 5 9 Try.underlying22 Try.underlying5 Try.underlying9 AE cE oth hf.rc
             have WE := Hd.mk h; clear h hf WC)
          | (go_at_call 10; refine (known_calls _).mono ?_; rintro e wF ⟨rfl, hb⟩))
        go_ret
        exact ⟨by show Ending.returned (.bool (!decide (m ≤ k))) = _; rw [decide_eq_false (by have := HC.out; omega)]; rfl, below_then WE.out.bel WE.out.bel.size hb⟩
      · have hkni : ¬ (k : Int) < (n : Int) := by omega
        have HT : Hd (tornB a b k = b.take k) := ⟨by unfold tornB; rw [if_pos (by rw [← E2.out]; exact hkm), List.drop_of_length_le (by rw [← E1.out]; omega), List.append_nil]⟩
        clear hcb
        have kc := fun (w : World) (C : Array Value) (n c : Nat) => Lib.run_convert_bytes_const (P := Try.prog) w 22 5 C n c Try.underlying22 Try.underlying5
        have T1 : Hd True := ⟨trivial⟩
        have T2 : Hd True := ⟨trivial⟩
        have T3 : Hd True := ⟨trivial⟩
        have T4 : Hd True := ⟨trivial⟩
        have T5 : Hd True := ⟨trivial⟩
        have T6 : Hd True := ⟨trivial⟩
        have T7 : Hd True := ⟨trivial⟩
        go_enter Try.func6, Try.ntmps6
        go_wp2_with (first
          | (go_at_call 11; rw [HII.out]; refine (ws_new _ HI.out).mono ?_; rintro e w1 ⟨g, K1, rfl, h⟩; have W1 := Hd.mk h; clear h)
          | (go_at_call 21; clear T1; refine (ws_seal W1.out (by decide) (by decide) A n ca a (W1.out.arg HRA.out) E1.out HCA.out (by have := E1.out; have := HSM.out; omega)).mono ?_; rintro e w2 ⟨rfl, K2, h, _⟩; have W2 := Hd.mk h; clear h W1)
          | (go_at_call 21; clear T2; refine (ws_seal (W2.out.swap.below ((Below.refl _ _).alloc (Nat.le_refl _) _)) (by decide) (by decide) _ 5 5 oth (fr_oth W2.out (5, 6)) rfl (Nat.le_refl _) (by decide)).mono ?_; rintro e w3 ⟨rfl, K3, h, _⟩; have W3 : Hd (Ws w w3 g K3 i a oth _ _ _ _ _) := ⟨by have := h.swap; rwa [show 1 - (1 - i) = i by omega] at this⟩; clear h W2)
          | (go_at_call 22; clear T3; refine (ws_look W3.out (by decide) (by decide) n E1.out).mono ?_; rintro e w4 ⟨A4, c4, K4, rfl, _, hf, h, _⟩; have W4 := Hd.mk h; have F4 := Hd.mk hf; clear h hf W3)
          | (go_at_call 15; clear T4; refine (same_any _ _ _ _ _ _ a a _ F4.out.rc (W4.out.arg HRA.out).rc E1.out E1.out).mono ?_; rintro e w5 ⟨rfl, hw⟩; obtain rfl := hw.symm; rw [show (a == a) = true by simp])
          | (go_at_call 16; rw [HKK.out]; refine (ws_arm W4.out (by omega) (by have := HKB.out; omega)).mono ?_; rintro e w6 ⟨rfl, K6, h, hs⟩; have W6 := Hd.mk h; clear h hs W4 F4)
          | (go_at_call 21; refine (ws_torn W6.out (by decide) (by decide) B m cb b (W6.out.arg HRB.out) E2.out HCB.out (by have := E2.out; have := HSM.out; omega) k (by have := HC.out; omega) (by omega) true (by have := HC.out; first | exact decide_eq_true (by omega) | exact decide_eq_false (by omega))).mono ?_; rintro e w7 ⟨rfl, K7, pp, h, hs⟩; have W7 := Hd.mk h; clear h hs W6)
          | (go_at_call 20; refine (ws_restart W7.out).mono ?_; rintro e w8 ⟨rfl, K8, h, hs⟩; have W8 := Hd.mk h; clear h hs W7)
          | (go_at_call 22; clear T6; refine (ws_look W8.out (by decide) (by decide) N HN.out).mono ?_; rintro e wA ⟨AA, cA, KA, rfl, _, hf, h, _⟩; have WA := Hd.mk h; have FA := Hd.mk hf.rc; clear h hf W8)
          | (at_builtin; clear T5
             refine app_rc wA.heap.size 22 5 (.int .u8 0) 1 1 (.tmp 66) (.tmp 72) rfl rfl Try.underlying22 info_u8 rfl (by decide) (by decide) (.slice none 0 0) 0 [] (bs (b.take k)) B k cb rfl rfl (World.ownsRow_nil _ _ _ _) (by unfold bs; rw [List.map_take]; exact (WA.out.arg HRB.out).rc.take k) (by rw [bs_len, List.length_take]; have := E2.out; have := HC.out; omega) bs_one (Nat.le_refl _) (by have := HSM.out; have := HC.out; omega) k (bs (b.take k)) (by omega) (by simp) ?_
             intro v6 wB ho hg hat
             obtain ⟨A6, c6, rfl, _, hr6, _⟩ := own_rc ho
             have hb6 := below_nil hg
             have WB := Hd.mk (WA.out.below hb6); have HO6 := Hd.mk ho; have HB6 := Hd.mk hb6; have FB := Hd.mk (FA.out.below hb6); have HR6 := Hd.mk hr6
             clear ho hg hat hr6 hb6)
          | (go_at_call 15; refine (same_any _ _ _ _ _ _ (tornB a b k) (tornB a b k) _ FB.out (by rw [HT.out]; exact HR6.out) HN.out (by rw [HT.out, List.length_take]; have := E2.out; have := HC.out; omega)).mono ?_; rintro e wD ⟨rfl, hw⟩; obtain rfl := hw.symm; rw [show ∀ z : List UInt8, (z == z) = true from fun z => by simp])
          | (go_at_call 22; refine (ws_look WB.out.swap (by decide) (by decide) 5 rfl).mono ?_; rintro e wE ⟨AE, cE, KE, rfl, _, hf, h, _⟩
             have SE : (convert 22 9 (.slice AE 5 cE)).run Try.prog wE = .ok (.string ⟨#[111, 116, 104, 101, 114]⟩) wE := run_str (P := Try.prog) wE 22 5 9 Try.underlying22 Try.underlying5 Try.underlying9 AE cE oth hf.rc
             have WE := Hd.mk h; clear h hf WB)
          | (go_at_call 10; refine (known_calls _).mono ?_; rintro e wF ⟨rfl, hb⟩))
        go_ret
        exact ⟨by show Ending.returned (.bool (!decide (m ≤ k))) = _; rw [decide_eq_false (by have := HC.out; omega)]; rfl, below_then WE.out.bel WE.out.bel.size hb⟩
    · have hkmi : ¬ (k : Int) < (m : Int) := by omega
      have hmin : min (k : Int) (m : Int) = (m : Int) := by omega
      have hcut := cut_high (P := Try.prog) 22 5 Try.underlying22 info_u8 B m cb m hcb
      have HT : Hd (tornB a b m = b.take m) := ⟨by rw [E2.out, torn_all, List.take_length]⟩
      obtain ⟨N, hN⟩ : ∃ N, N = (tornB a b m).length := ⟨_, rfl⟩
      have HN := Hd.mk hN
      have HC : Hd (m ≤ k) := ⟨by omega⟩
      clear hN hcb
      have kc := fun (w : World) (C : Array Value) (n c : Nat) => Lib.run_convert_bytes_const (P := Try.prog) w 22 5 C n c Try.underlying22 Try.underlying5
      have T1 : Hd True := ⟨trivial⟩
      have T2 : Hd True := ⟨trivial⟩
      have T3 : Hd True := ⟨trivial⟩
      have T4 : Hd True := ⟨trivial⟩
      have T5 : Hd True := ⟨trivial⟩
      have T6 : Hd True := ⟨trivial⟩
      have T7 : Hd True := ⟨trivial⟩
      go_enter Try.func6, Try.ntmps6
      go_wp2_with (first
        | (go_at_call 11; rw [HII.out]; refine (ws_new _ HI.out).mono ?_; rintro e w1 ⟨g, K1, rfl, h⟩; have W1 := Hd.mk h; clear h)
        | (go_at_call 21; clear T1; refine (ws_seal W1.out (by decide) (by decide) A n ca a (W1.out.arg HRA.out) E1.out HCA.out (by have := E1.out; have := HSM.out; omega)).mono ?_; rintro e w2 ⟨rfl, K2, h, _⟩; have W2 := Hd.mk h; clear h W1)
        | (go_at_call 21; clear T2; refine (ws_seal (W2.out.swap.below ((Below.refl _ _).alloc (Nat.le_refl _) _)) (by decide) (by decide) _ 5 5 oth (fr_oth W2.out (5, 6)) rfl (Nat.le_refl _) (by decide)).mono ?_; rintro e w3 ⟨rfl, K3, h, _⟩; have W3 : Hd (Ws w w3 g K3 i a oth _ _ _ _ _) := ⟨by have := h.swap; rwa [show 1 - (1 - i) = i by omega] at this⟩; clear h W2)
        | (go_at_call 22; clear T3; refine (ws_look W3.out (by decide) (by decide) n E1.out).mono ?_; rintro e w4 ⟨A4, c4, K4, rfl, _, hf, h, _⟩; have W4 := Hd.mk h; have F4 := Hd.mk hf; clear h hf W3)
        | (go_at_call 15; clear T4; refine (same_any _ _ _ _ _ _ a a _ F4.out.rc (W4.out.arg HRA.out).rc E1.out E1.out).mono ?_; rintro e w5 ⟨rfl, hw⟩; obtain rfl := hw.symm; rw [show (a == a) = true by simp])
        | (go_at_call 16; rw [HKK.out]; refine (ws_arm W4.out (by omega) (by have := HKB.out; omega)).mono ?_; rintro e w6 ⟨rfl, K6, h, hs⟩; have W6 := Hd.mk h; clear h hs W4 F4)
        | (go_at_call 21; refine (ws_torn W6.out (by decide) (by decide) B m cb b (W6.out.arg HRB.out) E2.out HCB.out (by have := E2.out; have := HSM.out; omega) m (by have := HC.out; omega) (by omega) false (by have := HC.out; first | exact decide_eq_true (by omega) | exact decide_eq_false (by omega))).mono ?_; rintro e w7 ⟨rfl, K7, pp, h, hs⟩; have W7 := Hd.mk h; clear h hs W6)
        | (go_at_call 20; refine (ws_restart W7.out).mono ?_; rintro e w8 ⟨rfl, K8, h, hs⟩; have W8 := Hd.mk h; clear h hs W7)
        | (go_at_call 22; clear T6; refine (ws_look W8.out (by decide) (by decide) N HN.out).mono ?_; rintro e wA ⟨AA, cA, KA, rfl, _, hf, h, _⟩; have WA := Hd.mk h; have FA := Hd.mk hf.rc; clear h hf W8)
        | (at_builtin; clear T5
           refine app_rc wA.heap.size 22 5 (.int .u8 0) 1 1 (.tmp 66) (.tmp 72) rfl rfl Try.underlying22 info_u8 rfl (by decide) (by decide) (.slice none 0 0) 0 [] (bs (b.take m)) B m cb rfl rfl (World.ownsRow_nil _ _ _ _) (by unfold bs; rw [List.map_take]; exact (WA.out.arg HRB.out).rc.take m) (by rw [bs_len, List.length_take]; have := E2.out; have := HC.out; omega) bs_one (Nat.le_refl _) (by have := HSM.out; have := HC.out; omega) m (bs (b.take m)) (by omega) (by simp) ?_
           intro v6 wB ho hg hat
           obtain ⟨A6, c6, rfl, _, hr6, _⟩ := own_rc ho
           have hb6 := below_nil hg
           have WB := Hd.mk (WA.out.below hb6); have HO6 := Hd.mk ho; have HB6 := Hd.mk hb6; have FB := Hd.mk (FA.out.below hb6); have HR6 := Hd.mk hr6
           clear ho hg hat hr6 hb6)
        | (go_at_call 15; refine (same_any _ _ _ _ _ _ (tornB a b m) (tornB a b m) _ FB.out (by rw [HT.out]; exact HR6.out) HN.out (by rw [HT.out, List.length_take]; have := E2.out; have := HC.out; omega)).mono ?_; rintro e wD ⟨rfl, hw⟩; obtain rfl := hw.symm; rw [show ∀ z : List UInt8, (z == z) = true from fun z => by simp])
        | (go_at_call 22; refine (ws_look WB.out.swap (by decide) (by decide) 5 rfl).mono ?_; rintro e wE ⟨AE, cE, KE, rfl, _, hf, h, _⟩
           have SE : (convert 22 9 (.slice AE 5 cE)).run Try.prog wE = .ok (.string ⟨#[111, 116, 104, 101, 114]⟩) wE := run_str (P := Try.prog) wE 22 5 9 Try.underlying22 Try.underlying5 Try.underlying9 AE cE oth hf.rc
           have WE := Hd.mk h; clear h hf WB)
        | (go_at_call 10; refine (known_calls _).mono ?_; rintro e wF ⟨rfl, hb⟩))
      go_ret
      exact ⟨rfl, below_then WE.out.bel WE.out.bel.size hb⟩
  · have hsm2 : (600 : Int) < (n : Int) + (m : Int) := by omega
    go_enter Try.func6, Try.ntmps6
    go_wp2_with (go_at_call 10; refine (known_calls _).mono ?_; rintro e w1 ⟨rfl, hb⟩)
    go_ret
    exact ⟨rfl, hb⟩
theorem row_seals (A : Option Addr) (ca : Nat) (a : List UInt8) (B : Option Addr) (cb : Nat) (b : List UInt8) (power which : Int) (w : World)
    (ha : Rc w A (bs a)) (la : a.length ≤ ca) (ma : a.length ≤ 140737488351232) (hb : Rc w B (bs b)) (lb : b.length ≤ cb) (mb : b.length ≤ 140737488351232) (h1 : 0 ≤ power ∧ power ≤ 65535) (h2 : 0 ≤ which ∧ which ≤ 255) :
    Calls Try.prog 6 #[.slice A a.length ca, .slice B b.length cb, .int .u16 power, .int .u8 which] w (RetT w) :=
  law_seals A B _ _ ca cb a b power which w ha hb rfl rfl la lb (by omega) (by omega) h1 h2
end Go.Proofs.Ytffhncpgknkkaaa
