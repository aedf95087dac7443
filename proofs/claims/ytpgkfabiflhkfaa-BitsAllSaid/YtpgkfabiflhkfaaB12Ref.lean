/- Walks: the reference's answers for bits. -/
import Derived.Test.YtpgkfabiflhkfaaB12Count
namespace Go.Proofs.Ytpgkfabiflhkfaa
open Go.RowKit Go.Sac
set_option linter.unusedVariables false
set_option linter.unusedSimpArgs false

theorem info_int : (Try.prog.info? 3).map (fun i => (i.zero, i.size, i.bytes)) = some (some (.int .i64 0), 1, 8) := by kernel_rfl
def RetI (l : List Int) (w : World) (e : Ending) (w' : World) : Prop := ∃ A c, e = .returned (.slice A l.length c) ∧ l.length ≤ c ∧ Rc w' A (ns l) ∧ Below w.heap.size w w'
def RetIE (l : List Int) (x : Int) (w : World) (e : Ending) (w' : World) : Prop := ∃ A c, e = .returned (.tuple #[.slice A l.length c, .int .i64 x]) ∧ l.length ≤ c ∧ Rc w' A (ns l) ∧ Below w.heap.size w w'

set_option maxHeartbeats 1000000 in
theorem rget_calls (A : Option Addr) (c : Nat) (b : List UInt8) (i : Int) (w : World) (hb : Rc w A (bs b)) (hn : b.length ≤ 1099511627776) (hi : i ≤ 9223372036854775807) :
    Calls Try.prog 13 #[.slice A b.length c, .int .i64 i] w fun e w' => e = .returned (.bool (getI b i)) ∧ w' = w := by
  have HL := Hd.mk hb
  clear hb
  by_cases h0 : 0 ≤ i
  · obtain ⟨j, rfl⟩ := Int.eq_ofNat_of_zero_le h0
    by_cases h1 : j / 8 < b.length
    · obtain ⟨g, off, rfl, _, hc⟩ := HL.out.form (by rw [bs_len]; omega)
      have h2 := hc (j / 8) _ (bs_at h1)
      have HE := Hd.mk (shT_bit b j h1)
      obtain ⟨x, hx⟩ : ∃ x : Nat, x = b[j / 8].toNat := ⟨_, rfl⟩
      have hx8 : x < 256 := by rw [hx]; exact b[j / 8].toNat_lt
      rw [← hx] at h2 HE
      clear hc HL hx
      go_enter Try.func13, Try.ntmps13
      go_wp2
      go_loop [5, 6] (fun n i => ∃ k : Nat, k ≤ j % 8 ∧ i = .int .i64 k ∧ n = .int .i64 (shT x k)) (fun _ i => j % 8 - (intOf i).toNat)
      case atStart => exact ⟨0, Nat.zero_le _, rfl, by rw [shT_zero]⟩
      case round =>
        obtain ⟨k, hk, rfl, rfl⟩ := hrel
        have hle := shT_le x k
        by_cases hlt : k < j % 8
        · have HS := Hd.mk (shT_succ x k)
          go_wp2
          go_round
          case rel => exact ⟨k + 1, by omega, by go_num, by rw [HS.out]⟩
          case measure => simp [intOf]; omega
        · obtain rfl : k = j % 8 := by omega
          go_wp2
          go_ret
          exact ⟨by rw [← HE.out]; rfl, rfl⟩
    · have hg : getI b (j : Int) = false := by unfold getI; rw [decide_eq_false (show ¬ (j : Int) < 8 * b.length by omega)]; simp
      rw [hg]
      clear hg HL
      go_enter Try.func13, Try.ntmps13
      go_wp2
      go_ret
      exact ⟨rfl, rfl⟩
  · have hg : getI b i = false := by unfold getI; rw [decide_eq_false h0]; rfl
    rw [hg]
    clear hg HL
    go_enter Try.func13, Try.ntmps13
    go_wp2
    go_ret
    exact ⟨rfl, rfl⟩
theorem rget_any (A : Option Addr) (n c : Nat) (b : List UInt8) (i : Int) (w : World) (hb : Rc w A (bs b)) (hn : b.length ≤ 1099511627776) (hi : i ≤ 9223372036854775807) (e1 : n = b.length) :
    Calls Try.prog 13 #[.slice A n c, .int .i64 i] w fun e w' => e = .returned (.bool (getI b i)) ∧ w' = w := by subst e1; exact rget_calls A c b i w hb hn hi
end Go.Proofs.Ytpgkfabiflhkfaa
