/- Walks: how many blocks, by the program and by the reference. -/
import Derived.Test.YtmebgejjaljhgaaN13Pointers
namespace Go.Proofs.Ytmebgejjaljhgaa
open Go.RowKit Go.Sac
set_option linter.unusedVariables false
set_option linter.unusedSimpArgs false

def blkN (s : Int) : Nat := ((max 0 (min s 17920)).toNat + 255) / 256
theorem blkN_lt (s : Int) (k : Nat) : k < blkN s ↔ (256 * (k : Int) < s ∧ k < 70) := by unfold blkN; omega
theorem blkN_le (s : Int) : blkN s ≤ 70 := by unfold blkN; omega
theorem blocks_calls (s : Int) (w : World) : Calls Try.prog 18 #[.int .i64 s] w fun e w' => e = .returned (.int .i64 (blkN s : Int)) ∧ w' = w := by
  obtain ⟨m, hm⟩ : ∃ m : Nat, max 0 (min s 17920) = (m : Int) := ⟨(max 0 (min s 17920)).toNat, by omega⟩
  have hm2 : m ≤ 17920 := by omega
  have HE : Hd (((m : Int) + 256 - 1) / 256 = (blkN s : Int)) := ⟨by unfold blkN; rw [hm]; omega⟩
  go_enter Try.func18, Try.ntmps18
  go_wp2
  go_ret
  refine ⟨?_, rfl⟩
  have := HE.out
  have ht : ((m : Int) + 256 - 1).tdiv 256 = ((m : Int) + 256 - 1) / 256 := Int.tdiv_eq_ediv_of_nonneg (by omega)
  simp_all
set_option maxHeartbeats 1000000 in
theorem rblocks_calls (s : Int) (w : World) : Calls Try.prog 19 #[.int .i64 s] w fun e w' => e = .returned (.int .i64 (blkN s : Int)) ∧ w' = w := by
  go_enter Try.func19, Try.ntmps19
  go_wp2
  go_loop [3] (fun i => ∃ k : Nat, k ≤ blkN s ∧ i = .int .i64 (k : Int)) (fun i => 70 - (intOf i).toNat)
  case atStart => exact ⟨0, by omega, rfl⟩
  case round =>
    obtain ⟨k, hk, rfl⟩ := hrel
    have hle := blkN_le s
    have hlt := blkN_lt s k
    by_cases h1 : 256 * (k : Int) < s
    · have c1 : decide (256 * (k : Int) < s) = true := by simpa using h1
      by_cases h2 : k < 70
      · have c2 : decide ((k : Int) < 70) = true := by simp only [decide_eq_true_eq]; omega
        have HL := Hd.mk (hlt.2 ⟨h1, h2⟩)
        clear hlt h1
        go_wp2
        go_round
        case rel => exact ⟨k + 1, HL.out, by go_num⟩
        case measure => simp [intOf]; omega
      · have c2 : decide ((k : Int) < 70) = false := by simp only [decide_eq_false_iff_not]; omega
        have HE : Hd (k = blkN s) := ⟨by omega⟩
        clear hlt h1 h2
        go_wp2
        go_ret
        exact ⟨by rw [← HE.out]; rfl, rfl⟩
    · have c1 : decide (256 * (k : Int) < s) = false := by simpa using h1
      have HE : Hd (k = blkN s) := ⟨by omega⟩
      have hk70 : k ≤ 70 := by omega
      clear hlt h1
      go_wp2
      go_ret
      exact ⟨by rw [← HE.out]; rfl, rfl⟩
end Go.Proofs.Ytmebgejjaljhgaa
