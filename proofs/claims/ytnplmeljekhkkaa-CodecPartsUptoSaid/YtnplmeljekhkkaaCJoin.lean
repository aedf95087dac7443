/- Walks of the functions that the law reaches. -/
import Derived.Test.YtnplmeljekhkkaaCPut
namespace Go.Proofs.Ytnplmeljekhkkaa
open Go.RowKit Go.Sac
set_option linter.unusedVariables false
set_option linter.unusedSimpArgs false

set_option maxHeartbeats 400000 in
theorem join_calls (A : Option Addr) (c : Nat) (ls : List (List UInt8)) (w : World) (hl : Rcc w A ls) (hn : ls.flatten.length ≤ 1099511627776) (hm : ls.length ≤ 1099511627776) :
    Calls Try.prog 18 #[.slice A ls.length c] w fun e w' => RetB 5 ls.flatten w e w' := by
  have HL := Hd.mk hl
  clear hl
  go_enter Try.func18, Try.ntmps18
  go_wp2
  go_loopw [3, 8] (fun v i wr => ∃ k : Nat, k ≤ ls.length ∧ i = .int .i64 k ∧ Hd (wr.ownsRow w.heap.size 5 1 v (ls.take k).flatten.length (bs (ls.take k).flatten)) ∧ Hd (Below w.heap.size w wr)) (fun _ i _ => ls.length - (intOf i).toNat)
  case atStart => exact ⟨0, Nat.zero_le _, rfl, ⟨World.ownsRow_nil _ _ _ _⟩, ⟨Below.refl _ _⟩⟩
  case round =>
    obtain ⟨k, hk, rfl, HO, HB⟩ := hrel
    obtain ⟨A1, c1, rfl, _, _, _⟩ := own_rc HO.out
    by_cases hlt : k < ls.length
    · obtain ⟨b, off, a, c2, rfl, hc, hle, hr⟩ := HL.out.at k hlt
      have hb : b < w.heap.size := World.block_lt_of_cell? w _ hc
      replace hc := (HB.out.cell hb).trans hc
      have HR := Hd.mk (hr.below HB.out)
      have hs := sum_take_le ls (k + 1)
      have hf := Hd.mk (flat_snoc ls k hlt)
      have hfl : (ls.take k).flatten.length + ls[k].length ≤ ls.flatten.length := by rw [hf.out, List.length_append] at hs; exact hs
      clear hr hs HL
      go_wp2_with (at_builtin; refine app_rc w.heap.size 22 5 (.int .u8 0) 1 1 (.tmp 12) (.tmp 13) rfl rfl Try.underlying22 info_u8 rfl (by decide) (by decide) (.slice A1 (ls.take k).flatten.length c1) (ls.take k).flatten.length (bs (ls.take k).flatten) (bs ls[k]) a ls[k].length c2 rfl rfl HO.out HR.out (by simp) bs_one HB.out.size (by omega) (ls.take (k + 1)).flatten.length (bs (ls.take (k + 1)).flatten) (by rw [hf.out, List.length_append]) (by rw [hf.out]; simp) ?_; intro v1 w1 ho hg hat; have HO1 := Hd.mk ho; have HG := Hd.mk hg; clear ho hg hat)
      go_roundw
      case rel => exact ⟨k + 1, by omega, by go_num, HO1, ⟨below_lift HB.out HB.out.size HG.out (fun b hb => (own_lt HO.out b hb).1)⟩⟩
      case measure => simp [intOf]; omega
    · obtain rfl : k = ls.length := by omega
      go_wp2
      go_ret
      refine ⟨.slice A1 (ls.take ls.length).flatten.length c1, rfl, ?_, HB.out⟩
      have := HO.out
      rwa [List.take_length] at this ⊢
set_option maxHeartbeats 400000 in
theorem rjoin_calls (A : Option Addr) (c : Nat) (ls : List (List UInt8)) (w : World) (hl : Rcc w A ls) (hn : ls.flatten.length ≤ 1099511627776) (hm : ls.length ≤ 1099511627776) :
    Calls Try.prog 19 #[.slice A ls.length c] w fun e w' => RetB 5 ls.flatten w e w' := by
  have HL := Hd.mk hl
  clear hl
  go_enter Try.func19, Try.ntmps19
  go_wp2
  go_loopw [3, 4] (fun v i wr => ∃ k : Nat, k ≤ ls.length ∧ i = .int .i64 k ∧ Hd (wr.ownsRow w.heap.size 5 1 v (ls.take k).flatten.length (bs (ls.take k).flatten)) ∧ Hd (Below w.heap.size w wr)) (fun _ i _ => ls.length - (intOf i).toNat)
  case atStart => exact ⟨0, Nat.zero_le _, rfl, ⟨World.ownsRow_nil _ _ _ _⟩, ⟨Below.refl _ _⟩⟩
  case round =>
    obtain ⟨k, hk, rfl, HO, HB⟩ := hrel
    obtain ⟨A1, c1, rfl, _, _, _⟩ := own_rc HO.out
    by_cases hlt : k < ls.length
    · obtain ⟨b, off, a, c2, rfl, hc, hle, hr⟩ := HL.out.at k hlt
      have hb : b < w.heap.size := World.block_lt_of_cell? w _ hc
      replace hc := (HB.out.cell hb).trans hc
      have HR := Hd.mk (hr.below HB.out)
      have hs := sum_take_le ls (k + 1)
      have hf := Hd.mk (flat_snoc ls k hlt)
      have hfl : (ls.take k).flatten.length + ls[k].length ≤ ls.flatten.length := by rw [hf.out, List.length_append] at hs; exact hs
      clear hr hs HL
      go_wp2_with (at_builtin; refine app_rc w.heap.size 22 5 (.int .u8 0) 1 1 (.tmp 11) (.tmp 15) rfl rfl Try.underlying22 info_u8 rfl (by decide) (by decide) (.slice A1 (ls.take k).flatten.length c1) (ls.take k).flatten.length (bs (ls.take k).flatten) (bs ls[k]) a ls[k].length c2 rfl rfl HO.out HR.out (by simp) bs_one HB.out.size (by omega) (ls.take (k + 1)).flatten.length (bs (ls.take (k + 1)).flatten) (by rw [hf.out, List.length_append]) (by rw [hf.out]; simp) ?_; intro v1 w1 ho hg hat; have HO1 := Hd.mk ho; have HG := Hd.mk hg; clear ho hg hat)
      go_roundw
      case rel => exact ⟨k + 1, by omega, by go_num, HO1, ⟨below_lift HB.out HB.out.size HG.out (fun b hb => (own_lt HO.out b hb).1)⟩⟩
      case measure => simp [intOf]; omega
    · obtain rfl : k = ls.length := by omega
      go_wp2
      go_ret
      refine ⟨.slice A1 (ls.take ls.length).flatten.length c1, rfl, ?_, HB.out⟩
      have := HO.out
      rwa [List.take_length] at this ⊢
end Go.Proofs.Ytnplmeljekhkkaa
