/- Walks: bytes as a number (seats without the reference's small words). -/
import Derived.Test.YtiloeaenpanjcaaCPut
import Derived.Test.YtiloeaenpanjcaaBase3
namespace Go.Proofs.Ytiloeaenpanjcaa
open Go.RowKit Go.Sac
set_option linter.unusedVariables false
set_option linter.unusedSimpArgs false

/-- Bytes as a number, the greatest first. -/
def num (l : List UInt8) : Nat := l.foldl (fun n c => 256 * n + c.toNat) 0
theorem num_snoc (l : List UInt8) (c : UInt8) : num (l ++ [c]) = 256 * num l + c.toNat := by simp [num]
theorem num_take (l : List UInt8) (k : Nat) (h : k < l.length) : num (l.take (k + 1)) = 256 * num (l.take k) + l[k].toNat := by
  rw [List.take_succ_eq_append_getElem h, num_snoc]
theorem num_lt (l : List UInt8) : num l < 256 ^ l.length := by
  have h : ∀ (r : List UInt8), num r.reverse < 256 ^ r.length := by
    intro r
    induction r with
    | nil => simp [num]
    | cons c r ih =>
      rw [List.reverse_cons, num_snoc, List.length_cons, Nat.pow_succ]
      have := c.toNat_lt
      omega
  have := h l.reverse
  simpa using this
/-- the number of the last eight -/
def getB (l : List UInt8) : Nat := num (l.drop (l.length - 8))
theorem shl8 (n : Nat) (c : UInt8) (h : n < 72057594037927936) : bits .or .u64 (IntKind.u64.wrap ((n : Int) * 256)) (IntKind.u64.wrap (c.toNat : Int)) = ((256 * n + c.toNat : Nat) : Int) := by
  have hc := c.toNat_lt
  have hw : IntKind.u64.wrap ((n : Int) * 256) = ((n * 256 : Nat) : Int) := by
    simp [IntKind.wrap, IntKind.bits, IntKind.signed]; omega
  have hw2 : IntKind.u64.wrap (c.toNat : Int) = c.toNat := by simp [IntKind.wrap, IntKind.bits, IntKind.signed]; omega
  rw [hw, hw2, (bits_nat .u64 64 (by decide) (fun x h0 h1 => by simp [IntKind.wrap, IntKind.bits, IntKind.signed]; omega) (n * 256) c.toNat (by omega) (by omega)).2]
  congr 1
  have := Nat.shiftLeft_add_eq_or_of_lt (i := 8) (b := c.toNat) (by omega) n
  rw [Nat.shiftLeft_eq] at this
  rw [← this]; omega

set_option maxHeartbeats 400000 in
theorem get_calls (A : Option Addr) (c : Nat) (l : List UInt8) (w : World) (hl : Rc w A (bs l)) (hc : l.length ≤ c) (hn : l.length ≤ 1099511627776) :
    Calls Try.prog 41 #[.slice A l.length c] w fun e w' => e = .returned (.int .u64 (getB l : Int)) ∧ w' = w := by
  obtain ⟨m, hm⟩ : ∃ m : Nat, max 0 ((l.length : Int) - 8) = (m : Int) := ⟨(max 0 ((l.length : Int) - 8)).toNat, by omega⟩
  have hm2 : l.length - 8 = m := by omega
  obtain ⟨A1, hcut, hrc, _⟩ := cut_low (P := Try.prog) 42 5 Try.underlying42 info_u8 A l.length c m (by omega) hc
  have HL := Hd.mk (hrc w (bs l) (bs_len l) hl)
  unfold getB
  rw [hm2]
  rw [← List.map_drop] at HL
  have hlen : l.length - m = (l.drop m).length := by rw [List.length_drop]
  obtain ⟨d, hd⟩ : ∃ d, d = l.drop m := ⟨_, rfl⟩
  rw [← hd] at HL hlen ⊢
  have h8 : d.length ≤ 8 := by omega
  rw [hlen] at hcut
  clear hrc hl hlen hm2 hd
  have HM := Hd.mk hm
  go_enter Try.func41, Try.ntmps41
  go_wp2
  clear hcut hm
  go_loop [3, 13] (fun n i => ∃ k : Nat, k ≤ d.length ∧ i = .int .i64 k ∧ n = .int .u64 (num (d.take k) : Int)) (fun _ i => d.length - (intOf i).toNat)
  case atStart => exact ⟨0, Nat.zero_le _, rfl, rfl⟩
  case round =>
    obtain ⟨k, hk, rfl, rfl⟩ := hrel
    by_cases hlt : k < d.length
    · obtain ⟨b, off, rfl, hb, hc⟩ := HL.out.form (by rw [bs_len]; omega)
      have h1 := hc k _ (bs_at hlt)
      have hs := Hd.mk (num_take d k hlt)
      have hx := num_lt (d.take k)
      have hp : 256 ^ (d.take k).length ≤ 256 ^ 7 := Nat.pow_le_pow_right (by decide) (by rw [List.length_take]; omega)
      have h8 := Hd.mk (shl8 (num (d.take k)) d[k] (by omega))
      clear hx hp hc HL
      go_wp2
      go_round
      case rel => exact ⟨k + 1, by omega, by go_num, by rw [hs.out, ← h8.out]⟩
      case measure => simp [intOf]; omega
    · obtain rfl : k = d.length := by omega
      go_wp2
      go_ret
      exact ⟨by first | rfl | (rw [List.take_length]; rfl), rfl⟩

theorem get_any (A : Option Addr) (n c : Nat) (l : List UInt8) (w : World) (hl : Rc w A (bs l)) (hc : l.length ≤ c) (hn : l.length ≤ 1099511627776) (e1 : n = l.length) :
    Calls Try.prog 41 #[.slice A n c] w fun e w' => e = .returned (.int .u64 (getB l : Int)) ∧ w' = w := by subst e1; exact get_calls A c l w hl hc hn
theorem put_any (n : Int) (wide : Int) (w : World) (h : 0 ≤ n ∧ n ≤ 18446744073709551615) :
    Calls Try.prog 38 #[.int .u64 n, .int .i64 wide] w fun e w' => RetB 5 (putB n.toNat (putW wide)) w e w' := by
  obtain ⟨m, rfl⟩ := Int.eq_ofNat_of_zero_le h.1
  exact put_calls m wide w (by omega)
end Go.Proofs.Ytiloeaenpanjcaa
