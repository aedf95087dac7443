/- Walks: the reference's bytes as a number (seats with CGet). -/
import Derived.Test.YtiloeaenpanjcaaCGet
namespace Go.Proofs.Ytiloeaenpanjcaa
open Go.RowKit Go.Sac
set_option linter.unusedVariables false
set_option linter.unusedSimpArgs false

def m64 (n : Nat) : Int := (n : Int) % 18446744073709551616
theorem m64_step (n : Nat) (c : UInt8) : IntKind.u64.wrap (IntKind.u64.wrap (256 * m64 n) + IntKind.u64.wrap (c.toNat : Int)) = m64 (256 * n + c.toNat) := by
  unfold m64; simp [IntKind.wrap, IntKind.bits, IntKind.signed]; omega

set_option maxHeartbeats 400000 in
theorem rget_calls (A : Option Addr) (c : Nat) (l : List UInt8) (w : World) (hl : Rc w A (bs l)) (hc : l.length ≤ c) (hn : l.length ≤ 1099511627776) :
    Calls Try.prog 43 #[.slice A l.length c] w fun e w' => e = .returned (.int .u64 (m64 (num l))) ∧ w' = w := by
  have HL := Hd.mk hl
  clear hl
  go_enter Try.func43, Try.ntmps43
  go_wp2
  go_loop [3, 4] (fun n i => ∃ k : Nat, k ≤ l.length ∧ i = .int .i64 k ∧ n = .int .u64 (m64 (num (l.take k)))) (fun _ i => l.length - (intOf i).toNat)
  case atStart => exact ⟨0, Nat.zero_le _, rfl, rfl⟩
  case round =>
    obtain ⟨k, hk, rfl, rfl⟩ := hrel
    by_cases hlt : k < l.length
    · obtain ⟨b, off, rfl, hb, hc⟩ := HL.out.form (by rw [bs_len]; omega)
      have h1 := hc k _ (bs_at hlt)
      have hs := Hd.mk (num_take l k hlt)
      have h8 := Hd.mk (m64_step (num (l.take k)) l[k])
      clear hc HL
      go_wp2
      go_round
      case rel => exact ⟨k + 1, by omega, by go_num, by rw [hs.out, ← h8.out]⟩
      case measure => simp [intOf]; omega
    · obtain rfl : k = l.length := by omega
      go_wp2
      go_ret
      exact ⟨by first | rfl | (rw [List.take_length]; rfl), rfl⟩

/-- the number of the bytes is the number of the last eight, as far as it fits -/
theorem num_app (a b : List UInt8) : num (a ++ b) = num a * 256 ^ b.length + num b := by
  have h : ∀ (r : List UInt8), num (a ++ r.reverse) = num a * 256 ^ r.length + num r.reverse := by
    intro r
    induction r with
    | nil => simp [num]
    | cons c r ih =>
      rw [List.reverse_cons, ← List.append_assoc, num_snoc, num_snoc, ih, List.length_cons, Nat.pow_succ, Nat.mul_add, ← Nat.mul_assoc, Nat.mul_comm 256 (num a), Nat.mul_assoc (num a), Nat.mul_comm 256 (256 ^ _)]
      omega
  have := h b.reverse
  simpa using this
theorem get_m64 (l : List UInt8) : (getB l : Int) = m64 (num l) := by
  unfold getB m64
  have h := num_app (l.take (l.length - 8)) (l.drop (l.length - 8))
  rw [List.take_append_drop] at h
  have hlt := num_lt (l.drop (l.length - 8))
  by_cases h8 : l.length ≤ 8
  · have e : l.length - 8 = 0 := by omega
    rw [e] at h hlt ⊢
    simp only [List.drop_zero] at hlt ⊢
    have := Nat.pow_le_pow_right (n := 256) (by decide) h8
    omega
  · have e : (l.drop (l.length - 8)).length = 8 := by rw [List.length_drop]; omega
    rw [e] at h hlt
    omega
end Go.Proofs.Ytiloeaenpanjcaa
