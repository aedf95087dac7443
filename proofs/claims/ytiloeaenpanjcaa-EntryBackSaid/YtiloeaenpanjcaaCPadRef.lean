/- Walks: the reference's padded bytes (seats with CPad). -/
import Derived.Test.YtiloeaenpanjcaaCPad
namespace Go.Proofs.Ytiloeaenpanjcaa
open Go.RowKit Go.Sac
set_option linter.unusedVariables false
set_option linter.unusedSimpArgs false

def lenOf : Value → Nat | .slice _ n _ => n | _ => 0
theorem pad_snoc (l : List UInt8) (j : Nat) : l ++ List.replicate (j + 1) (0 : UInt8) = (l ++ List.replicate j 0) ++ [0] := by rw [List.replicate_succ', List.append_assoc]
def padT (l : List UInt8) (j : Nat) : List UInt8 := l ++ List.replicate j 0
theorem padT_len (l : List UInt8) (j : Nat) : (padT l j).length = l.length + j := by simp [padT]

set_option maxHeartbeats 1000000 in
theorem rpad_calls (A : Option Addr) (n c : Nat) (l : List UInt8) (wide : Int) (w : World) (hl : Rc w A (bs l)) (hn : l.length ≤ 1099511627776) (h1 : wide ≤ 1099511627776) (e1 : n = l.length) :
    Calls Try.prog 39 #[.slice A n c, .int .i64 wide] w fun e w' => RetB 5 (padB l wide) w e w' := by
  subst e1
  have HL := Hd.mk hl
  clear hl
  obtain ⟨m, hm⟩ : ∃ m, m = wide.toNat - l.length := ⟨_, rfl⟩
  have hp : padB l wide = padT l m := by unfold padB padT; rw [hm]
  rw [hp]
  have HM := Hd.mk hm
  clear hm hp
  go_enter Try.func39, Try.ntmps39
  go_wp2_with (at_builtin; refine app_rc w.heap.size 42 5 (.int .u8 0) 1 1 (.tmp 6) (.tmp 7) rfl rfl Try.underlying42 info_u8 rfl (by decide) (by decide) (.slice none 0 0) 0 [] (bs l) A l.length c rfl rfl (World.ownsRow_nil _ _ _ _) HL.out (by simp) bs_one (Nat.le_refl _) (by omega) l.length (bs l) (by omega) (by simp) ?_; intro v1 w1 ho hg hat; have HO := Hd.mk ho; have HG := Hd.mk hg; clear ho hg hat)
  have HB1 : Hd (Below w.heap.size w w1) := ⟨below_lift (Below.refl _ _) (Nat.le_refl _) HG.out (by simp [Value.ownBlock])⟩
  go_loopw [5] (fun v wr => ∃ j : Nat, j ≤ m ∧ Hd (wr.ownsRow w.heap.size 5 1 v (padT l j).length (bs (padT l j))) ∧ Hd (Below w.heap.size w wr)) (fun v _ => l.length + m - lenOf v)
  case atStart => exact ⟨0, Nat.zero_le _, ⟨by have := HO.out; simpa [padT] using this⟩, HB1⟩
  case round =>
    clear HB1 HO HG
    obtain ⟨j, hj, HO, HB⟩ := hrel
    obtain ⟨A1, c1, rfl, _, _, _⟩ := own_rc HO.out
    have hlen := Hd.mk (padT_len l j)
    by_cases hlt : j < m
    · have hs : decide (((padT l j).length : Int) < wide) = true := by have := hlen.out; have := HM.out; simp; omega
      go_wp2_with (at_builtin; refine app_rc w.heap.size 42 5 (.int .u8 0) 1 1 (.tmp 13) (.tmp 14) rfl rfl Try.underlying42 info_u8 rfl (by decide) (by decide) (.slice A1 (padT l j).length c1) (padT l j).length (bs (padT l j)) [.int .u8 0] (some ⟨wr.heap.size, 0, none⟩) 1 1 rfl rfl (own_alloc HO.out _) (Rc.one _ _ _) (by simp) (by simp [Value.oneCell']) (Nat.le_trans HB.out.size (by simp)) (by have := HM.out; have := hlen.out; omega) (padT l (j + 1)).length (bs (padT l (j + 1))) (by rw [padT_len, padT_len]; omega) (by rw [padT, padT, pad_snoc]; simp [u8v]) ?_; intro v2 w2 ho hg hat; have HO1 := Hd.mk ho; have HG := Hd.mk hg; clear ho hg hat)
      obtain ⟨A2, c2, rfl, _, _, _⟩ := own_rc HO1.out
      go_roundw
      case rel => exact ⟨j + 1, by omega, HO1, ⟨below_lift (HB.out.alloc HB.out.size _) (Nat.le_trans HB.out.size (by simp)) HG.out (fun b hb => (own_lt HO.out b hb).1)⟩⟩
      case measure =>
        have h2 := padT_len l (j + 1)
        have h1 := hlen.out
        simp [lenOf]
        omega
    · obtain rfl : j = m := by omega
      have hs : decide (((padT l j).length : Int) < wide) = false := by have := hlen.out; have := HM.out; simp; omega
      go_wp2
      go_ret
      exact ⟨_, rfl, HO.out, HB.out⟩

end Go.Proofs.Ytiloeaenpanjcaa
