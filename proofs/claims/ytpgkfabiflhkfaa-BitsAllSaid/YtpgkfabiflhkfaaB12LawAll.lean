/- The law BitsAll, walked. -/
import Derived.Test.YtpgkfabiflhkfaaB12LawFirst
import Derived.Test.YtpgkfabiflhkfaaP12f
namespace Go.Proofs.Ytpgkfabiflhkfaa
open Go.RowKit Go.Sac
set_option linter.unusedVariables false
set_option linter.unusedSimpArgs false

theorem wide_eq (n : Int) (L : Nat) (w : World) (hn : n ≤ 9223372036854775807) (hL : wideT n = L) :
    Calls Try.prog 22 #[.int .i64 n] w fun e w' => e = .returned (.int .i64 (L : Int)) ∧ w' = w := by subst hL; exact wide_any n w hn

set_option maxHeartbeats 8000000 in
theorem all_core (m k L : Nat) (w : World) (hm : m ≤ 255) (hk : (m : Int) % 60 = (k : Int)) (hL : wideT (k : Int) = L) (hL2 : (L : Int) = ((k : Int) + 7) / 8) (hL3 : k ≤ 8 * L) (hL4 : L ≤ 8) (hk60 : k < 60) :
    Calls Try.prog 6 #[.int .u8 (m : Int)] w (RetT w) := by
  have HLw := Hd.mk hL
  have hmake := run_make_u8 (P := Try.prog) 22 5 Try.underlying22 info_u8 L (by omega)
  have hq1 : ((L : Int) != ((k : Int) + 7) / 8) = false := by rw [hL2]; simp
  have H2 := Hd.mk hL2
  clear hL hL2
  go_enter Try.func6, Try.ntmps6
  go_wp2_with (go_at_call 22; refine (wide_eq _ _ _ (by omega) HLw.out).mono ?_; rintro e w1 ⟨rfl, rfl⟩)
  go_loopw [2, 4, 5] (fun r2 cs i wr => r2 = .bool false ∧ ∃ (n : Nat) (r : List UInt8), n ≤ k ∧ i = .int .i64 n ∧ (∃ A c, cs = .slice A L c ∧ Hd (Rc wr A (bs r))) ∧ Hd (Fill r L 0 n) ∧ Hd (Below w1.heap.size w1 wr)) (fun _ _ i _ => k - (intOf i).toNat)
  case atStart => exact ⟨rfl, 0, List.replicate L 0, Nat.zero_le _, rfl, ⟨_, _, rfl, ⟨zero_rc _ _ _⟩⟩, ⟨fill_zero L 0⟩, ⟨(Below.refl _ _).alloc (Nat.le_refl _) _⟩⟩
  case round =>
    obtain ⟨rfl, n, r, hn, rfl, ⟨A, c, rfl, HR⟩, HF, HB⟩ := hrel
    have HN : Hd (r.length ≤ 1099511627776) := ⟨by rw [HF.out.len]; omega⟩
    have HRL : Hd (L = r.length) := ⟨HF.out.len.symm⟩
    by_cases hlt : n < k
    · have G1 : Hd (fiT r 0 (k : Int) = (n : Int)) := ⟨by rw [fill_first HF.out hL3 hn, if_pos hlt]⟩
      have G2 : Hd (((cnT r (0 : Int).toNat (hiT r (k : Int)) : Nat) : Int) = (n : Int)) := ⟨by rw [hiT_of r k (by rw [HF.out.len]; exact hL3)]; show ((cnT r 0 k : Nat) : Int) = _; rw [fill_count HF.out k hL3, Nat.min_eq_left hn]⟩
      obtain ⟨s, hs⟩ : ∃ s, setI r (n : Int) true = s := ⟨_, rfl⟩
      have HFs : Hd (Fill s L 0 (n + 1)) := ⟨by rw [← hs]; exact fill_on HF.out (by omega)⟩
      have HSL : Hd (s.length = L) := ⟨HFs.out.len⟩
      have G3 := Hd.mk hs
      have hnn : ((n : Int) != (n : Int)) = false := by simp
      clear hs hmake
      go_wp2_with (first
        | (go_at_call 17; refine (first_eq _ _ _ r _ _ _ _ HR.out HN.out HRL.out G1.out).mono ?_; rintro e w6 ⟨rfl, hB⟩; have HR := Hd.mk (HR.out.below hB); have HB := Hd.mk (below_then HB.out HB.out.size hB); clear hB)
        | (go_at_call 20; refine (bcount_eq _ _ _ r _ _ _ _ HR.out HN.out HRL.out G2.out).mono ?_; rintro e w7 ⟨rfl, rfl⟩)
        | (go_at_call 15; refine (bset_eq _ _ _ r s _ _ _ HR.out HN.out HRL.out G3.out).mono ?_; rintro e w8 ⟨A4, c4, rfl, hr, hB⟩; rw [HSL.out]; have HB := Hd.mk (below_then HB.out HB.out.size hB); have HR := Hd.mk hr; clear hr hB))
      go_roundw
      case rel => exact ⟨rfl, n + 1, s, by omega, by go_num, ⟨_, _, rfl, HR⟩, HFs, HB⟩
      case measure => simp [intOf]; omega
    · obtain rfl : n = k := by omega
      have G1 : Hd (fiT r 0 (n : Int) = -1) := ⟨by rw [fill_first HF.out hL3 hn, if_neg hlt]⟩
      have G2 : Hd (((cnT r (0 : Int).toNat (hiT r (8 * (L : Int))) : Nat) : Int) = (n : Int)) := ⟨by
        have : hiT r (8 * (L : Int)) = 8 * L := by unfold hiT; rw [HF.out.len]; omega
        rw [this]; show ((cnT r 0 (8 * L) : Nat) : Int) = _; rw [fill_count HF.out _ (Nat.le_refl _), Nat.min_eq_left hL3]⟩
      have hnn : ((n : Int) != (n : Int)) = false := by simp
      clear hlt hn
      go_wp2_with (first
        | (go_at_call 17; refine (first_eq _ _ _ r _ _ _ _ HR.out HN.out HRL.out G1.out).mono ?_; rintro e w6 ⟨rfl, hB⟩; have HR := Hd.mk (HR.out.below hB); have HB := Hd.mk (below_then HB.out HB.out.size hB); clear hB)
        | (go_at_call 20; refine (bcount_eq _ _ _ r _ _ _ _ HR.out HN.out HRL.out G2.out).mono ?_; rintro e w7 ⟨rfl, rfl⟩))
      go_loopw [4, 6] (fun cs i wr => ∃ (q : Nat) (r : List UInt8), q ≤ n ∧ i = .int .i64 q ∧ (∃ A c, cs = .slice A L c ∧ Hd (Rc wr A (bs r))) ∧ Hd (Fill r L q n) ∧ Hd (Below w1.heap.size w1 wr)) (fun _ i _ => n - (intOf i).toNat)
      case atStart => exact ⟨0, r, Nat.zero_le _, rfl, ⟨_, _, rfl, HR⟩, HF, HB⟩
      case round =>
        clear G1 G2 HR HF HB HN HRL
        obtain ⟨q, r, hq, rfl, ⟨A, c, rfl, HR⟩, HF, HB⟩ := hrel
        have HN : Hd (r.length ≤ 1099511627776) := ⟨by rw [HF.out.len]; omega⟩
        have HRL : Hd (L = r.length) := ⟨HF.out.len.symm⟩
        by_cases hlt : q < n
        · obtain ⟨s, hs⟩ : ∃ s, setI r (q : Int) false = s := ⟨_, rfl⟩
          have HFs : Hd (Fill s L (q + 1) n) := ⟨by rw [← hs]; exact fill_off HF.out hlt hL3⟩
          have HSL : Hd (s.length = L) := ⟨HFs.out.len⟩
          have G3 := Hd.mk hs
          clear hs hmake
          go_wp2_with (go_at_call 15; refine (bset_eq _ _ _ r s _ _ _ HR.out HN.out HRL.out G3.out).mono ?_; rintro e w8 ⟨A4, c4, rfl, hr, hB⟩; rw [HSL.out]; have HB := Hd.mk (below_then HB.out HB.out.size hB); have HR := Hd.mk hr; clear hr hB)
          go_roundw
          case rel => exact ⟨q + 1, s, by omega, by go_num, ⟨_, _, rfl, HR⟩, HFs, HB⟩
          case measure => simp [intOf]; omega
        · obtain rfl : q = n := by omega
          have HE := Hd.mk (fill_end HF.out)
          have HZ : Hd (L = (List.replicate L (0 : UInt8)).length) := ⟨by simp⟩
          go_wp2_with (first
            | (go_at_call 14; refine (same_any _ _ _ _ _ _ r (List.replicate L 0) _ (HR.out.alloc _) (zero_rc _ _ _) HRL.out HZ.out).mono ?_; rintro e w7 ⟨rfl, rfl⟩; rw [HE.out]; simp only [beq_self_eq_true]; have HB := Hd.mk (HB.out.alloc HB.out.size (.cells (zeroRow L) 5)))
            | (go_at_call 9; refine (known_calls _).mono ?_; rintro e w8 ⟨rfl, hB⟩; have HB := Hd.mk (below_then HB.out HB.out.size hB); clear hB))
          go_ret
          exact ⟨rfl, HB.out⟩

set_option maxHeartbeats 4000000 in
theorem lawAll (m : Int) (w : World) (h1 : 0 ≤ m ∧ m ≤ 255) : Calls Try.prog 6 #[.int .u8 m] w (RetT w) := by
  obtain ⟨m, rfl⟩ := Int.eq_ofNat_of_zero_le h1.1
  have e : wideT ((m % 60 : Nat) : Int) = (m % 60 + 7) / 8 := by unfold wideT; omega
  exact all_core m (m % 60) ((m % 60 + 7) / 8) w (by omega) (by omega) e (by omega) (by omega) (by omega) (by omega)
end Go.Proofs.Ytpgkfabiflhkfaa
