/- Walks of the functions that the law reaches: the contracts, wherever they are called. -/
import Derived.Test.YtnplmeljekhkkaaCKnown
namespace Go.Proofs.Ytnplmeljekhkkaa
open Go.RowKit Go.Sac
set_option linter.unusedVariables false
set_option linter.unusedSimpArgs false

def lenOf : Value → Nat | .slice _ n _ => n | _ => 0
theorem pad_snoc (l : List UInt8) (j : Nat) : l ++ List.replicate (j + 1) (0 : UInt8) = (l ++ List.replicate j 0) ++ [0] := by rw [List.replicate_succ', List.append_assoc]
def padT (l : List UInt8) (j : Nat) : List UInt8 := l ++ List.replicate j 0
theorem padT_len (l : List UInt8) (j : Nat) : (padT l j).length = l.length + j := by simp [padT]

set_option maxHeartbeats 1000000 in
theorem rpad_calls (A : Option Addr) (n c : Nat) (l : List UInt8) (wide : Int) (w : World) (hl : Rc w A (bs l)) (hn : l.length ≤ 1099511627776) (h1 : wide ≤ 1099511627776) (e1 : n = l.length) :
    Calls Try.prog 24 #[.slice A n c, .int .i64 wide] w fun e w' => RetB 5 (padB l wide) w e w' := by
  subst e1
  have HL := Hd.mk hl
  clear hl
  obtain ⟨m, hm⟩ : ∃ m, m = wide.toNat - l.length := ⟨_, rfl⟩
  have hp : padB l wide = padT l m := by unfold padB padT; rw [hm]
  rw [hp]
  have HM := Hd.mk hm
  clear hm hp
  go_enter Try.func24, Try.ntmps24
  go_wp2_with (at_builtin; refine app_rc w.heap.size 22 5 (.int .u8 0) 1 1 (.tmp 6) (.tmp 7) rfl rfl Try.underlying22 info_u8 rfl (by decide) (by decide) (.slice none 0 0) 0 [] (bs l) A l.length c rfl rfl (World.ownsRow_nil _ _ _ _) HL.out (by simp) bs_one (Nat.le_refl _) (by omega) l.length (bs l) (by omega) (by simp) ?_; intro v1 w1 ho hg hat; have HO := Hd.mk ho; have HG := Hd.mk hg; clear ho hg hat)
  have HB1 : Hd (Below w.heap.size w w1) := ⟨below_lift (Below.refl _ _) (Nat.le_refl _) HG.out (by simp [Value.ownBlock])⟩
  go_loopw [5] (fun v wr => ∃ j : Nat, j ≤ m ∧ Hd (wr.ownsRow w.heap.size 5 1 v (padT l j).length (bs (padT l j))) ∧ Hd (Below w.heap.size w wr)) (fun v _ => l.length + m - lenOf v)
  case atStart => exact ⟨0, Nat.zero_le _, ⟨by have := HO.out; simpa [padT] using this⟩, HB1⟩
  case round =>
    clear HB1 HO HG
    obtain ⟨j, hj, HO, HB⟩ := hrel
    obtain ⟨A1, c1, rfl, _, _, _⟩ := own_rc HO.out
    have hlen := Hd.mk (padT_len l j)
    by_cases hlt : j < m
    · have hs : decide (((padT l j).length : Int) < wide) = true := by have := hlen.out; have := HM.out; simp; omega
      go_wp2_with (at_builtin; refine app_rc w.heap.size 22 5 (.int .u8 0) 1 1 (.tmp 13) (.tmp 14) rfl rfl Try.underlying22 info_u8 rfl (by decide) (by decide) (.slice A1 (padT l j).length c1) (padT l j).length (bs (padT l j)) [.int .u8 0] (some ⟨wr.heap.size, 0, none⟩) 1 1 rfl rfl (own_alloc HO.out _) (Rc.one _ _ _) (by simp) (by simp [Value.oneCell']) (Nat.le_trans HB.out.size (by simp)) (by have := HM.out; have := hlen.out; omega) (padT l (j + 1)).length (bs (padT l (j + 1))) (by rw [padT_len, padT_len]; omega) (by rw [padT, padT, pad_snoc]; simp [u8v]) ?_; intro v2 w2 ho hg hat; have HO1 := Hd.mk ho; have HG := Hd.mk hg; clear ho hg hat)
      obtain ⟨A2, c2, rfl, _, _, _⟩ := own_rc HO1.out
      go_roundw
      case rel => exact ⟨j + 1, by omega, HO1, ⟨below_lift (HB.out.alloc HB.out.size _) (Nat.le_trans HB.out.size (by simp)) HG.out (fun b hb => (own_lt HO.out b hb).1)⟩⟩
      case measure =>
        have h2 := padT_len l (j + 1)
        have h1 := hlen.out
        simp [lenOf]
        omega
    · obtain rfl : j = m := by omega
      have hs : decide (((padT l j).length : Int) < wide) = false := by have := hlen.out; have := HM.out; simp; omega
      go_wp2
      go_ret
      exact ⟨_, rfl, HO.out, HB.out⟩

theorem put_any (n : Int) (wide : Int) (w : World) (h : 0 ≤ n ∧ n ≤ 18446744073709551615) :
    Calls Try.prog 20 #[.int .u64 n, .int .i64 wide] w fun e w' => RetB 5 (putB n.toNat (putW wide)) w e w' := by
  obtain ⟨m, rfl⟩ := Int.eq_ofNat_of_zero_le h.1
  exact put_calls m wide w (by omega)
theorem rput_any (n : Int) (wide : Int) (w : World) (h : 0 ≤ n ∧ n ≤ 18446744073709551615) :
    Calls Try.prog 21 #[.int .u64 n, .int .i64 wide] w fun e w' => RetB 5 (putB n.toNat (putW wide)) w e w' := by
  obtain ⟨m, rfl⟩ := Int.eq_ofNat_of_zero_le h.1
  by_cases h1 : wide < 1
  · have : putW wide = 0 := by unfold putW; omega
    rw [this]
    exact rput_nil m wide w h1
  · exact rput_some m wide w h1 (by omega)
theorem pad_any (A : Option Addr) (n c : Nat) (l : List UInt8) (wide : Int) (w : World) (hl : Rc w A (bs l)) (hn : l.length ≤ 1099511627776) (h0 : -1099511627776 ≤ wide) (h1 : wide ≤ 1099511627776) (e1 : n = l.length) :
    Calls Try.prog 13 #[.slice A n c, .int .i64 wide] w fun e w' => RetB 5 (padB l wide) w e w' := by subst e1; exact pad_calls A c l wide w hl hn h0 h1
theorem same_any (A B : Option Addr) (n k c d : Nat) (l m : List UInt8) (w : World) (hl : Rc w A (bs l)) (hm : Rc w B (bs m)) (e1 : n = l.length) (e2 : k = m.length) :
    Calls Try.prog 14 #[.slice A n c, .slice B k d] w fun e w' => e = .returned (.bool (l == m)) ∧ w' = w := by subst e1; subst e2; exact same_calls A B c d l m w hl hm
theorem get_any (A : Option Addr) (n c : Nat) (l : List UInt8) (w : World) (hl : Rc w A (bs l)) (hc : l.length ≤ c) (hn : l.length ≤ 1099511627776) (e1 : n = l.length) :
    Calls Try.prog 22 #[.slice A n c] w fun e w' => e = .returned (.int .u64 (getB l : Int)) ∧ w' = w := by subst e1; exact get_calls A c l w hl hc hn
theorem rget_any (A : Option Addr) (n c : Nat) (l : List UInt8) (w : World) (hl : Rc w A (bs l)) (hc : l.length ≤ c) (hn : l.length ≤ 1099511627776) (e1 : n = l.length) :
    Calls Try.prog 23 #[.slice A n c] w fun e w' => e = .returned (.int .u64 (getB l : Int)) ∧ w' = w := by subst e1; rw [get_m64]; exact rget_calls A c l w hl hc hn
theorem join_any (A : Option Addr) (n c : Nat) (ls : List (List UInt8)) (w : World) (hl : Rcc w A ls) (hn : ls.flatten.length ≤ 1099511627776) (hm : ls.length ≤ 1099511627776) (e1 : n = ls.length) :
    Calls Try.prog 18 #[.slice A n c] w fun e w' => RetB 5 ls.flatten w e w' := by subst e1; exact join_calls A c ls w hl hn hm
theorem rjoin_any (A : Option Addr) (n c : Nat) (ls : List (List UInt8)) (w : World) (hl : Rcc w A ls) (hn : ls.flatten.length ≤ 1099511627776) (hm : ls.length ≤ 1099511627776) (e1 : n = ls.length) :
    Calls Try.prog 19 #[.slice A n c] w fun e w' => RetB 5 ls.flatten w e w' := by subst e1; exact rjoin_calls A c ls w hl hn hm
theorem rcut_any (A B : Option Addr) (n k c d : Nat) (b : List UInt8) (ws : List Int) (w : World) (hl : Rc w A (bs b)) (hc : b.length ≤ c) (hw : Rc w B (ns ws)) (hn : b.length ≤ 1099511627776) (hm : ws.length ≤ 1099511627776) (e1 : n = b.length) (e2 : k = ws.length) :
    Calls Try.prog 16 #[.slice A n c, .slice B k d] w fun e w' => RetCut (cutL b ws) (cutE b ws) w e w' := by subst e1; subst e2; exact rcut_calls A B c d b ws w hl hc hw hn hm
theorem lists_any (A B : Option Addr) (n k c d : Nat) (ls ms : List (List UInt8)) (w : World) (hl : Rcc w A ls) (hm : Rcc w B ms) (hn : ls.length ≤ 1099511627776) (e1 : n = ls.length) (e2 : k = ms.length) :
    Calls Try.prog 17 #[.slice A n c, .slice B k d] w fun e w' => e = .returned (.bool (ls == ms)) ∧ Drawn w w' := by
  subst e1; subst e2
  by_cases h : ms.length = ls.length
  · exact lists_long A B c d ls ms w hl hm h hn
  · exact lists_short A B c d ls ms w (fun e => h e.symm)
def RetTrue (w : World) (e : Ending) (w' : World) : Prop := e = .returned (.bool true) ∧ Below w.heap.size w w'
theorem copy_any (A : Option Addr) (n c : Nat) (l : List UInt8) (w : World) (hl : Rc w A (bs l)) (hn : l.length ≤ 1099511627776) (e1 : n = l.length) :
    Calls Try.prog 11 #[.slice A n c] w fun e w' => RetB 5 l w e w' := by subst e1; exact copy_calls A c l w hl hn
end Go.Proofs.Ytnplmeljekhkkaa
