/- Walks of the functions that the law reaches. -/
import Derived.Test.YtnplmeljekhkkaaCAny
namespace Go.Proofs.Ytnplmeljekhkkaa
open Go.RowKit Go.Sac
set_option linter.unusedVariables false
set_option linter.unusedSimpArgs false

theorem flat_take_le (ls : List (List UInt8)) (M k : Nat) (h : ∀ l ∈ ls, l.length ≤ M) : (ls.take k).flatten.length ≤ k * M := by
  induction k with
  | zero => simp
  | succ k ih =>
    by_cases hk : k < ls.length
    · rw [flat_snoc ls k hk, List.length_append, Nat.succ_mul]
      have := h ls[k] (List.getElem_mem hk)
      omega
    · rw [List.take_of_length_le (by omega)] at ih ⊢
      rw [Nat.succ_mul]; omega

set_option maxHeartbeats 2000000 in
theorem cuts_main (A : Option Addr) (c : Nat) (b : List UInt8) (B : Option Addr) (d : Nat) (ws : List Int) (C : Option Addr) (f : Nat) (ls : List (List UInt8)) (w : World)
    (hr1 : Rc w A (bs b)) (hc1 : b.length ≤ c) (hm1 : b.length ≤ 140737488351232) (hr2 : Rc w B (ns ws)) (hc2 : ws.length ≤ d) (hm2 : ws.length ≤ 140737488351232) (hi2 : ∀ n ∈ ws, (Lit.int .i64 n).wf = true)
    (hr3 : Rcc w C ls) (hc3 : ls.length ≤ f) (hm3 : ls.length ≤ 140737488351232) (hi3 : ∀ l ∈ ls, l.length ≤ 140737488351232) :
    Calls Try.prog 5 #[.slice A b.length c, .slice B ws.length d, .slice C ls.length f] w fun e w' => RetTrue w e w' := by
  have H1 := Hd.mk hr1
  have H2 := Hd.mk hr2
  have H3 := Hd.mk hr3
  have HF := Hd.mk (fun k => flat_take_le ls 140737488351232 k hi3)
  clear hr1 hr2 hr3 hi2 hi3
  go_enter Try.func5, Try.ntmps5
  go_wp2
  go_loopw [7, 8] (fun n i wr => ∃ (k : Nat) (N : Int), k ≤ ls.length ∧ i = .int .i64 k ∧ n = .int .i64 N ∧ Hd (k ≤ 50 → N = b.length + (ls.take k).flatten.length) ∧ wr = w) (fun _ i _ => ls.length - (intOf i).toNat)
  case atStart => exact ⟨0, b.length, Nat.zero_le _, rfl, rfl, ⟨fun _ => by simp⟩, rfl⟩
  case round =>
    obtain ⟨k, N, hk, rfl, rfl, HN, hwr⟩ := hrel
    subst hwr
    by_cases hlt : k < ls.length
    · obtain ⟨b1, off, a, c2, rfl, hc, hle, hr⟩ := H3.out.at k hlt
      have hs := Hd.mk (flat_snoc ls k hlt)
      clear hr H3
      go_wp2
      go_roundw
      case rel =>
        refine ⟨k + 1, _, by omega, by go_num, rfl, ⟨fun h50 => ?_⟩, by first | trivial | rfl⟩
        have h1 := HN.out (by omega)
        have h2 := HF.out k
        have h3 := HF.out (k + 1)
        have h4 := hs.out
        rw [hs.out, List.length_append] at h3 ⊢
        have : (k + 1) * 140737488351232 ≤ 50 * 140737488351232 := Nat.mul_le_mul_right _ h50
        unfold wrap64
        omega
      case measure => simp [intOf]; omega
    · obtain rfl : k = ls.length := by omega
      have HN2 : Hd (ls.length ≤ 50 → N = b.length + ls.flatten.length) := ⟨fun h => by have := HN.out h; rwa [List.take_length] at this⟩
      clear HN HF
      by_cases g1 : 800 < N
      · have g1' : decide (800 < N) = true := by simpa using g1
        go_wp2_with (go_at_call 10; refine (known_calls _).mono ?_; rintro e w1 ⟨rfl, hb⟩)
        go_ret
        exact ⟨rfl, hb⟩
      · have g1' : decide (800 < N) = false := by simpa using g1
        by_cases g2 : 50 < ws.length
        · have g2' : decide (50 < ws.length) = true := by simpa using g2
          go_wp2_with (go_at_call 10; refine (known_calls _).mono ?_; rintro e w1 ⟨rfl, hb⟩)
          go_ret
          exact ⟨rfl, hb⟩
        · have g2' : decide (50 < ws.length) = false := by simpa using g2
          by_cases g3 : 50 < ls.length
          · have g3' : decide (50 < ls.length) = true := by simpa using g3
            go_wp2_with (go_at_call 10; refine (known_calls _).mono ?_; rintro e w1 ⟨rfl, hb⟩)
            go_ret
            exact ⟨rfl, hb⟩
          · have g3' : decide (50 < ls.length) = false := by simpa using g3
            have hN := HN2.out (by omega)
            have hbl : b.length ≤ 800 := by omega
            have hfl : ls.flatten.length ≤ 800 := by omega
            clear hN HN2
            obtain ⟨fl, hfl2⟩ : ∃ fl, ls.flatten = fl := ⟨_, rfl⟩
            have HFL := Hd.mk hfl2
            clear hfl2
            go_wp2_with fail
            refine (cut_any _ _ _ _ _ _ b ws _ H1.out hc1 H2.out (by omega) (by omega) rfl rfl).mono ?_
            rintro e w1 ⟨A1, c1, rfl, hr, hcc, hb⟩
            have HR1 := Hd.mk hr
            have HB1 := Hd.mk hb
            clear hr hcc hb
            go_wp2_with fail
            refine (rcut_any _ _ _ _ _ _ b ws _ (H1.out.below HB1.out) hc1 (H2.out.below HB1.out) (by omega) (by omega) rfl rfl).mono ?_
            rintro e w2 ⟨A2, c2, rfl, hr, hcc, hb⟩
            have HR2 := Hd.mk hr
            have HR1' := Hd.mk (HR1.out.below hb)
            have HB2 := Hd.mk (below_then HB1.out HB1.out.size hb)
            clear hr hcc hb HR1 HB1
            go_wp2_with fail
            refine (lists_any _ _ _ _ _ _ (cutL b ws) (cutL b ws) _ HR1'.out HR2.out ?_ rfl rfl).mono ?_
            · unfold cutL
              split
              · have := cutP_len b ws ws.length (Nat.le_refl _); rw [cutP_all] at this; omega
              · simp
            rintro e w3 ⟨rfl, hd⟩
            have HB3 := Hd.mk (below_then HB2.out HB2.out.size (hd.below _))
            clear hd HR1' HR2 HB2
            rw [show (cutL b ws == cutL b ws) = true by simp]
            go_wp2_with fail
            refine (join_any _ _ _ ls _ (H3.out.below HB3.out) (by omega) (by omega) rfl).mono ?_
            rintro e w4 ⟨v, rfl, ho, hb⟩
            rw [HFL.out] at ho
            obtain ⟨A4, c4, rfl, _, hr, _⟩ := own_rc ho
            have HR4 := Hd.mk hr
            have HB4 := Hd.mk (below_then HB3.out HB3.out.size hb)
            clear ho hr hb HB3
            go_wp2_with fail
            refine (rjoin_any _ _ _ ls _ (H3.out.below HB4.out) (by omega) (by omega) rfl).mono ?_
            rintro e w5 ⟨v, rfl, ho, hb⟩
            rw [HFL.out] at ho
            obtain ⟨A5, c5, rfl, _, hr, _⟩ := own_rc ho
            have HR5 := Hd.mk hr
            have HR4' := Hd.mk (HR4.out.below hb)
            have HB5 := Hd.mk (below_then HB4.out HB4.out.size hb)
            clear ho hr hb HB4 HR4
            go_wp2_with fail
            refine (same_any _ _ _ _ _ _ _ _ _ HR4'.out HR5.out rfl rfl).mono ?_
            rintro e w6 ⟨rfl, rfl⟩
            rw [show (fl == fl) = true by simp]
            go_wp2_with fail
            refine (known_calls _).mono ?_
            rintro e w7 ⟨rfl, hb⟩
            have HB7 := Hd.mk (below_then HB5.out HB5.out.size hb)
            clear hb
            go_wp2
            go_ret
            exact ⟨rfl, HB7.out⟩
end Go.Proofs.Ytnplmeljekhkkaa
