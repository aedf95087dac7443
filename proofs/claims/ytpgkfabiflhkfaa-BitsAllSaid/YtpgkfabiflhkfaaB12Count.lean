/- Walks: how many of a row's bits are taken; how wide so many are. -/
import Derived.Test.YtpgkfabiflhkfaaB12Get
import Derived.Test.YtpgkfabiflhkfaaP12b
import Derived.Test.YtpgkfabiflhkfaaB12Ones
namespace Go.Proofs.Ytpgkfabiflhkfaa
open Go.RowKit Go.Sac
set_option linter.unusedVariables false
set_option linter.unusedSimpArgs false

set_option maxHeartbeats 1000000 in
theorem clip_any (A : Option Addr) (n c : Nat) (b : List UInt8) (f t p q : Int) (w : World) (hn : b.length ≤ 1099511627776) (e1 : n = b.length) (h1 : max f 0 = p) (h2 : min t (8 * (b.length : Int)) = q) :
    Calls Try.prog 27 #[.slice A n c, .int .i64 f, .int .i64 t] w fun e w' => e = .returned (.tuple #[.int .i64 p, .int .i64 q]) ∧ w' = w := by
  subst e1
  have H1 := Hd.mk h1
  have H2 := Hd.mk h2
  clear h1 h2
  go_enter Try.func27, Try.ntmps27
  go_wp2
  go_ret2
  exact ⟨by rw [← H1.out, ← H2.out]; rfl, rfl⟩

def wideT (n : Int) : Nat := (n.toNat + 7) / 8
set_option maxHeartbeats 1000000 in
theorem wide_any (n : Int) (w : World) (hn : n ≤ 9223372036854775807) :
    Calls Try.prog 22 #[.int .i64 n] w fun e w' => e = .returned (.int .i64 (wideT n)) ∧ w' = w := by
  obtain ⟨m, hm⟩ : ∃ m : Nat, max n 0 = (m : Int) := ⟨n.toNat, by omega⟩
  have hm2 : m ≤ 9223372036854775807 := by omega
  have hw : ((wideT n : Nat) : Int) = (m : Int) / 8 + ((m : Int) % 8 + 7) / 8 := by unfold wideT; omega
  have HW := Hd.mk hw
  clear hw hn
  go_enter Try.func22, Try.ntmps22
  go_wp2
  go_ret
  exact ⟨by rw [HW.out]; rfl, rfl⟩
set_option maxHeartbeats 1000000 in
theorem rwide_any (n : Int) (w : World) (hn : n ≤ 9223372036854775807) :
    Calls Try.prog 23 #[.int .i64 n] w fun e w' => e = .returned (.int .i64 (wideT n)) ∧ w' = w := by
  by_cases h0 : 0 < n
  · obtain ⟨m, rfl⟩ := Int.eq_ofNat_of_zero_le (Int.le_of_lt h0)
    by_cases h1 : 0 < (m : Int) % 8
    · have HW : Hd (((wideT m : Nat) : Int) = (m : Int) / 8 + 1) := ⟨by unfold wideT; omega⟩
      go_enter Try.func23, Try.ntmps23
      go_wp2
      go_ret
      exact ⟨by rw [HW.out]; rfl, rfl⟩
    · have HW : Hd (((wideT m : Nat) : Int) = (m : Int) / 8) := ⟨by unfold wideT; omega⟩
      go_enter Try.func23, Try.ntmps23
      go_wp2
      go_ret
      exact ⟨by rw [HW.out]; rfl, rfl⟩
  · have HW : Hd (((wideT n : Nat) : Int) = 0) := ⟨by unfold wideT; omega⟩
    go_enter Try.func23, Try.ntmps23
    go_wp2
    go_ret
    exact ⟨by rw [HW.out]; rfl, rfl⟩

set_option maxHeartbeats 2000000 in
theorem bcount_calls (A : Option Addr) (c : Nat) (b : List UInt8) (f t : Int) (w : World) (hb : Rc w A (bs b)) (hn : b.length ≤ 1099511627776) :
    Calls Try.prog 20 #[.slice A b.length c, .int .i64 f, .int .i64 t] w fun e w' => e = .returned (.int .i64 (cnT b f.toNat (hiT b t))) ∧ w' = w := by
  obtain ⟨lo, hlo, hlo2⟩ : ∃ lo : Nat, max f 0 = (lo : Int) ∧ f.toNat = lo := ⟨f.toNat, by omega, rfl⟩
  obtain ⟨z, hz, hz2⟩ : ∃ z : Int, min t (8 * (b.length : Int)) = z ∧ hiT b t = z.toNat := ⟨_, rfl, rfl⟩
  have hz3 : z ≤ 8 * (b.length : Int) := by omega
  rw [hlo2, hz2]
  clear hlo2 hz2
  have HL := Hd.mk hb
  clear hb
  by_cases hlz : (lo : Int) ≤ z
  · obtain ⟨hi, rfl⟩ := Int.eq_ofNat_of_zero_le (Int.le_trans (Int.natCast_nonneg lo) hlz)
    rw [Int.toNat_natCast]
    have h8 : hi ≤ 8 * b.length := by omega
    have hlh : lo ≤ hi := by omega
    clear hlz hz3
    go_enter Try.func20, Try.ntmps20
    go_wp2_with (first | (go_at_call 27; refine (clip_any _ _ _ b _ _ _ _ _ hn rfl hlo hz).mono ?_; rintro e w' ⟨rfl, rfl⟩))
    clear hlo hz
    go_loop [7, 8, 9, 10] (fun n i _ _ => ∃ k : Nat, lo ≤ k ∧ k ≤ hi ∧ i = .int .i64 k ∧ n = .int .i64 (cnT b lo k)) (fun _ i _ _ => hi - (intOf i).toNat)
    case atStart => exact ⟨lo, Nat.le_refl _, hlh, rfl, by rw [cnT_low b lo lo (Nat.le_refl _)]; rfl⟩
    case round =>
      obtain ⟨i, h1, h2, rfl, rfl⟩ := hrel
      by_cases hlt : i < hi
      · have hj : i / 8 < b.length := by omega
        obtain ⟨g, off, rfl, _, hc⟩ := HL.out.form (by rw [bs_len]; omega)
        have hcell := hc (i / 8) _ (bs_at hj)
        obtain ⟨k, hk⟩ : ∃ k : Nat, min (8 - (i : Int) % 8) ((hi : Int) - i) = (k : Int) := ⟨(min (8 - (i : Int) % 8) ((hi : Int) - i)).toNat, by omega⟩
        have hk8 : i % 8 + k ≤ 8 := by omega
        have hk1 : 0 < k := by omega
        have hki : i + k ≤ hi := by omega
        clear hc HL
        obtain ⟨q, hq⟩ : ∃ q, q = ones b[i / 8].toNat (i % 8) k := ⟨_, rfl⟩
        have hq8 : q ≤ 8 := by have := ones_le b[i / 8].toNat (i % 8) k; omega
        have HQ := Hd.mk (mask_ones b[i / 8].toNat (i % 8) k b[i / 8].toNat_lt hk8)
        rw [← hq] at HQ
        have HA : Hd (cnT b lo (i + k) = cnT b lo i + q) := ⟨by rw [cnT_add b lo i k h1 hk8, hq, List.getD_eq_getElem?_getD, List.getElem?_eq_getElem hj, Option.getD_some]⟩
        have HM := Hd.mk (mask_val b[i / 8] (i % 8) k hk8 (Nat.mod_lt _ (by decide)))
        have HX : Hd (b[i / 8].toNat &&& ((2 ^ k - 1) * 2 ^ (i % 8)) < 256) := ⟨Nat.lt_of_le_of_lt Nat.and_le_left b[i / 8].toNat_lt⟩
        obtain ⟨y, hy⟩ : ∃ y, y = b[i / 8].toNat &&& ((2 ^ k - 1) * 2 ^ (i % 8)) := ⟨_, rfl⟩
        rw [← hy] at HQ HM HX
        have hcn := cnT_le b lo i
        clear hq hy
        go_wp2_with (first | (go_at_call 28; rw [HM.out]; refine (ones_calls _ _ (Int.natCast_nonneg _) (by have := HX.out; omega)).mono ?_; rintro e w' ⟨rfl, rfl⟩; rw [Int.toNat_natCast, HQ.out]))
        go_round
        case rel => exact ⟨i + k, by omega, hki, by go_num, by rw [HA.out]; go_num⟩
        case measure => simp [intOf]; omega
      · obtain rfl : i = hi := by omega
        go_wp2
        go_ret
        exact ⟨rfl, rfl⟩
  · have hc : cnT b lo z.toNat = 0 := cnT_low _ _ _ (by omega)
    rw [hc]
    have h1 : z ≤ (lo : Int) := by omega
    clear hlz hz3 hc
    go_enter Try.func20, Try.ntmps20
    go_wp2_with (first | (go_at_call 27; refine (clip_any _ _ _ b _ _ _ _ _ hn rfl hlo hz).mono ?_; rintro e w' ⟨rfl, rfl⟩))
    go_loop [7, 8, 9, 10] (fun n i _ _ => i = .int .i64 lo ∧ n = .int .i64 0) (fun _ i _ _ => 0)
    case atStart => exact ⟨rfl, rfl⟩
    case round =>
      obtain ⟨rfl, rfl⟩ := hrel
      go_wp2
      go_ret
      exact ⟨rfl, rfl⟩
end Go.Proofs.Ytpgkfabiflhkfaa
