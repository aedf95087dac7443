/- The law BitsFirst, walked. -/
import Derived.Test.YtpgkfabiflhkfaaB12LawTwice
import Derived.Test.YtpgkfabiflhkfaaP12d
namespace Go.Proofs.Ytpgkfabiflhkfaa
open Go.RowKit Go.Sac
set_option linter.unusedVariables false
set_option linter.unusedSimpArgs false

theorem first_eq (A : Option Addr) (n c : Nat) (b : List UInt8) (f t z : Int) (w : World) (hb : Rc w A (bs b)) (hn : b.length ≤ 1099511627776) (e1 : n = b.length) (hz : fiT b f t = z) :
    Calls Try.prog 17 #[.slice A n c, .int .i64 f, .int .i64 t] w fun e w' => e = .returned (.int .i64 z) ∧ Below w.heap.size w w' := by subst hz; exact first_any A n c b f t w hb hn e1

set_option maxHeartbeats 8000000 in
theorem firstlaw_core (A : Option Addr) (c : Nat) (b : List UInt8) (f t i z lo hi en : Int) (w : World) (hb : Rc w A (bs b)) (hd2 : (b.length : Int) ≤ 100)
    (hlo : max f 0 = lo) (hhi : min t (8 * (b.length : Int)) = hi) (hz : fiT b f t = z) (hen : en = if z < 0 then hi else z)
    (hk : 0 ≤ z → lo ≤ z ∧ z < hi ∧ getI b z = false) (hall : ∀ j : Int, lo ≤ j → j < en → getI b j = true) :
    Calls Try.prog 7 #[.slice A b.length c, .int .i64 f, .int .i64 t, .int .i64 i] w (RetT w) := by
  have HL := Hd.mk hb
  have HN : Hd (b.length ≤ 1099511627776) := ⟨by omega⟩
  have HZ := Hd.mk hz
  have HA := Hd.mk hall
  have hlo0 : 0 ≤ lo := by omega
  have hhi8 : hi ≤ 8 * (b.length : Int) := by omega
  have hle : en ≤ 8 * (b.length : Int) := by rw [hen]; split <;> omega
  clear hb hz hall
  by_cases h0 : 0 ≤ z
  · obtain ⟨h1, h2, h3⟩ := hk h0
    rw [if_neg (by omega)] at hen
    subst hen
    have G3 := Hd.mk h3
    have d1 : decide (en < lo) = false := by rw [decide_eq_false_iff_not]; omega
    have d2 : decide (hi ≤ en) = false := by rw [decide_eq_false_iff_not]; omega
    have d3 : decide (en < 0) = false := by rw [decide_eq_false_iff_not]; omega
    clear hk h3
    go_enter Try.func7, Try.ntmps7
    go_wp2_with (first
      | (go_at_call 17; refine (first_eq _ _ _ b _ _ _ _ HL.out HN.out rfl HZ.out).mono ?_; rintro e w1 ⟨rfl, hB⟩; have HB := Hd.mk hB; have HL := Hd.mk (HL.out.below hB); clear hB)
      | (go_at_call 12; refine (bget_eq _ _ _ b _ _ _ HL.out HN.out rfl G3.out).mono ?_; rintro e w2 ⟨rfl, rfl⟩))
    go_loop [8, 13] (fun r j => r = .bool false ∧ ∃ jj : Int, j = .int .i64 jj ∧ lo ≤ jj ∧ (jj ≤ en ∨ jj = lo)) (fun _ j => (en - intOf j).toNat)
    case atStart => exact ⟨rfl, lo, rfl, Int.le_refl _, .inr rfl⟩
    case round =>
      obtain ⟨rfl, jj, rfl, hj1, hj2⟩ := hrel
      by_cases hlt : jj < en
      · have G5 := Hd.mk (HA.out jj hj1 hlt)
        go_wp2_with (go_at_call 12; refine (bget_eq _ _ _ b _ _ _ HL.out HN.out rfl G5.out).mono ?_; rintro e w2 ⟨rfl, rfl⟩)
        go_round
        case rel => exact ⟨rfl, jj + 1, by go_num, by omega, .inl (by omega)⟩
        case measure => simp [intOf]; omega
      · have e5 : decide (jj < en) = false := by rw [decide_eq_false_iff_not]; exact hlt
        by_cases hi0 : 0 ≤ i
        · by_cases hi1 : i < 8 * (b.length : Int)
          · go_wp2_with (go_at_call 9; refine (known_calls _).mono ?_; rintro e w3 ⟨rfl, hB⟩; have HB := Hd.mk (below_then HB.out HB.out.size hB); clear hB)
            go_ret
            exact ⟨rfl, HB.out⟩
          · have e6 : decide (i < 8 * (b.length : Int)) = false := by rw [decide_eq_false_iff_not]; exact hi1
            have G6 := Hd.mk (getI_out b i (fun h => hi1 h.2))
            have S6 : Hd (setI b i true = b) := ⟨setI_same b i true (.inr (fun h => hi1 h.2))⟩
            go_wp2_with (first
              | (go_at_call 12; refine (bget_eq _ _ _ b _ _ _ HL.out HN.out rfl G6.out).mono ?_; rintro e w2 ⟨rfl, rfl⟩)
              | (go_at_call 15; refine (bset_eq _ _ _ b b _ _ _ HL.out HN.out rfl S6.out).mono ?_; rintro e w4 ⟨A4, c4, rfl, hr, hB⟩; have HB := Hd.mk (below_then HB.out HB.out.size hB); have HX := Hd.mk hr; have HL := Hd.mk (HL.out.below hB); clear hr hB)
              | (go_at_call 14; refine (same_any _ _ _ _ _ _ b b _ HX.out HL.out rfl rfl).mono ?_; rintro e w7 ⟨rfl, rfl⟩; simp only [beq_self_eq_true])
              | (go_at_call 9; refine (known_calls _).mono ?_; rintro e w3 ⟨rfl, hB⟩; have HB := Hd.mk (below_then HB.out HB.out.size hB); clear hB))
            go_ret
            exact ⟨rfl, HB.out⟩
        · have e6 : decide (0 ≤ i) = false := by rw [decide_eq_false_iff_not]; exact hi0
          have e7 : i < 0 := by omega
          have G6 := Hd.mk (getI_out b i (fun h => hi0 h.1))
          have S6 : Hd (setI b i true = b) := ⟨setI_same b i true (.inr (fun h => hi0 h.1))⟩
          go_wp2_with (first
            | (go_at_call 12; refine (bget_eq _ _ _ b _ _ _ HL.out HN.out rfl G6.out).mono ?_; rintro e w2 ⟨rfl, rfl⟩)
            | (go_at_call 15; refine (bset_eq _ _ _ b b _ _ _ HL.out HN.out rfl S6.out).mono ?_; rintro e w4 ⟨A4, c4, rfl, hr, hB⟩; have HB := Hd.mk (below_then HB.out HB.out.size hB); have HX := Hd.mk hr; have HL := Hd.mk (HL.out.below hB); clear hr hB)
            | (go_at_call 14; refine (same_any _ _ _ _ _ _ b b _ HX.out HL.out rfl rfl).mono ?_; rintro e w7 ⟨rfl, rfl⟩; simp only [beq_self_eq_true])
            | (go_at_call 9; refine (known_calls _).mono ?_; rintro e w3 ⟨rfl, hB⟩; have HB := Hd.mk (below_then HB.out HB.out.size hB); clear hB))
          go_ret
          exact ⟨rfl, HB.out⟩
  · rw [if_pos (by omega)] at hen
    subst hen
    have d1 : decide (0 ≤ z) = false := by rw [decide_eq_false_iff_not]; exact h0
    have d2 : z < 0 := by omega
    clear hk
    go_enter Try.func7, Try.ntmps7
    go_wp2_with (first
      | (go_at_call 17; refine (first_eq _ _ _ b _ _ _ _ HL.out HN.out rfl HZ.out).mono ?_; rintro e w1 ⟨rfl, hB⟩; have HB := Hd.mk hB; have HL := Hd.mk (HL.out.below hB); clear hB))
    go_loop [8, 13] (fun r j => r = .bool false ∧ ∃ jj : Int, j = .int .i64 jj ∧ lo ≤ jj ∧ (jj ≤ en ∨ jj = lo)) (fun _ j => (en - intOf j).toNat)
    case atStart => exact ⟨rfl, lo, rfl, Int.le_refl _, .inr rfl⟩
    case round =>
      obtain ⟨rfl, jj, rfl, hj1, hj2⟩ := hrel
      by_cases hlt : jj < en
      · have G5 := Hd.mk (HA.out jj hj1 hlt)
        go_wp2_with (go_at_call 12; refine (bget_eq _ _ _ b _ _ _ HL.out HN.out rfl G5.out).mono ?_; rintro e w2 ⟨rfl, rfl⟩)
        go_round
        case rel => exact ⟨rfl, jj + 1, by go_num, by omega, .inl (by omega)⟩
        case measure => simp [intOf]; omega
      · have e5 : decide (jj < en) = false := by rw [decide_eq_false_iff_not]; exact hlt
        by_cases hi0 : 0 ≤ i
        · by_cases hi1 : i < 8 * (b.length : Int)
          · go_wp2_with (go_at_call 9; refine (known_calls _).mono ?_; rintro e w3 ⟨rfl, hB⟩; have HB := Hd.mk (below_then HB.out HB.out.size hB); clear hB)
            go_ret
            exact ⟨rfl, HB.out⟩
          · have e6 : decide (i < 8 * (b.length : Int)) = false := by rw [decide_eq_false_iff_not]; exact hi1
            have G6 := Hd.mk (getI_out b i (fun h => hi1 h.2))
            have S6 : Hd (setI b i true = b) := ⟨setI_same b i true (.inr (fun h => hi1 h.2))⟩
            go_wp2_with (first
              | (go_at_call 12; refine (bget_eq _ _ _ b _ _ _ HL.out HN.out rfl G6.out).mono ?_; rintro e w2 ⟨rfl, rfl⟩)
              | (go_at_call 15; refine (bset_eq _ _ _ b b _ _ _ HL.out HN.out rfl S6.out).mono ?_; rintro e w4 ⟨A4, c4, rfl, hr, hB⟩; have HB := Hd.mk (below_then HB.out HB.out.size hB); have HX := Hd.mk hr; have HL := Hd.mk (HL.out.below hB); clear hr hB)
              | (go_at_call 14; refine (same_any _ _ _ _ _ _ b b _ HX.out HL.out rfl rfl).mono ?_; rintro e w7 ⟨rfl, rfl⟩; simp only [beq_self_eq_true])
              | (go_at_call 9; refine (known_calls _).mono ?_; rintro e w3 ⟨rfl, hB⟩; have HB := Hd.mk (below_then HB.out HB.out.size hB); clear hB))
            go_ret
            exact ⟨rfl, HB.out⟩
        · have e6 : decide (0 ≤ i) = false := by rw [decide_eq_false_iff_not]; exact hi0
          have e7 : i < 0 := by omega
          have G6 := Hd.mk (getI_out b i (fun h => hi0 h.1))
          have S6 : Hd (setI b i true = b) := ⟨setI_same b i true (.inr (fun h => hi0 h.1))⟩
          go_wp2_with (first
            | (go_at_call 12; refine (bget_eq _ _ _ b _ _ _ HL.out HN.out rfl G6.out).mono ?_; rintro e w2 ⟨rfl, rfl⟩)
            | (go_at_call 15; refine (bset_eq _ _ _ b b _ _ _ HL.out HN.out rfl S6.out).mono ?_; rintro e w4 ⟨A4, c4, rfl, hr, hB⟩; have HB := Hd.mk (below_then HB.out HB.out.size hB); have HX := Hd.mk hr; have HL := Hd.mk (HL.out.below hB); clear hr hB)
            | (go_at_call 14; refine (same_any _ _ _ _ _ _ b b _ HX.out HL.out rfl rfl).mono ?_; rintro e w7 ⟨rfl, rfl⟩; simp only [beq_self_eq_true])
            | (go_at_call 9; refine (known_calls _).mono ?_; rintro e w3 ⟨rfl, hB⟩; have HB := Hd.mk (below_then HB.out HB.out.size hB); clear hB))
          go_ret
          exact ⟨rfl, HB.out⟩

theorem lawFirst (A : Option Addr) (c : Nat) (b : List UInt8) (f t i : Int) (w : World) (hb : Rc w A (bs b)) (hc : b.length ≤ c) (hn : b.length ≤ 140737488351232)
    (h1 : -9223372036854775808 ≤ f ∧ f ≤ 9223372036854775807) (h2 : -9223372036854775808 ≤ t ∧ t ≤ 9223372036854775807) (h3 : -9223372036854775808 ≤ i ∧ i ≤ 9223372036854775807) :
    Calls Try.prog 7 #[.slice A b.length c, .int .i64 f, .int .i64 t, .int .i64 i] w (RetT w) := by
  by_cases hbig : b.length > 100
  · have hd : decide ((b.length : Int) > 100) = true := by simp; omega
    have hd2 : (100 : Int) < (b.length : Int) := by omega
    clear hb hc
    go_enter Try.func7, Try.ntmps7
    go_wp2_with (go_at_call 9; refine (known_calls _).mono ?_; rintro e w1 ⟨rfl, hB⟩; have HB := Hd.mk hB; clear hB)
    go_ret
    exact ⟨rfl, HB.out⟩
  · rcases fiT_cases b f t with ⟨e1, e2⟩ | ⟨k, e1, e2, e3, e4, e5⟩
    · refine firstlaw_core A c b f t i (-1) (max f 0) _ _ w hb (by omega) rfl rfl e1 rfl (fun h => absurd h (by decide)) (fun j hj hl => ?_)
      obtain ⟨j, rfl⟩ := Int.eq_ofNat_of_zero_le (show 0 ≤ j by omega)
      rw [if_pos (by decide)] at hl
      exact e2 j (by omega) hl
    · refine firstlaw_core A c b f t i (k : Int) (max f 0) _ _ w hb (by omega) rfl rfl e1 rfl (fun _ => ⟨by omega, e3, e4⟩) (fun j hj hl => ?_)
      obtain ⟨j, rfl⟩ := Int.eq_ofNat_of_zero_le (show 0 ≤ j by omega)
      rw [if_neg (by omega)] at hl
      exact e5 j (by omega) (by omega)
end Go.Proofs.Ytpgkfabiflhkfaa
