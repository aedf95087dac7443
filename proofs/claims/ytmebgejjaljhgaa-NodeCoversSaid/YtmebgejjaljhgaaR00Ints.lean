/- The reference's comparison of rows of whole numbers. -/
import Derived.Test.YtmebgejjaljhgaaProg
import Derived.Test.YtmebgejjaljhgaaBase3
namespace Go.Proofs.Ytmebgejjaljhgaa
open Go.RowKit Go.Sac
set_option linter.unusedVariables false
set_option linter.unusedSimpArgs false

set_option maxHeartbeats 400000 in
theorem ints_short (A B : Option Addr) (c d : Nat) (ls ms : List Int) (w : World) (h : ls.length ≠ ms.length) :
    Calls Try.prog 28 #[.slice A ls.length c, .slice B ms.length d] w fun e w' => e = .returned (.bool (ls == ms)) ∧ Drawn w w' := by
  have h' : (((ls.length : Int)) != (ms.length : Int)) = true := by rw [bne_iff_ne]; omega
  have h2 : (ls == ms) = false := by rw [beq_eq_false_iff_ne]; rintro rfl; exact h rfl
  have H := Hd.mk h2
  clear h2
  go_enter Try.func28, Try.ntmps28
  go_wp2
  go_ret
  exact ⟨by rw [H.out]; rfl, Drawn.refl _⟩

set_option maxHeartbeats 1000000 in
theorem ints_long (A B : Option Addr) (c d : Nat) (ls ms : List Int) (w : World) (hl : Rc w A (ns ls)) (hm : Rc w B (ns ms)) (h : ms.length = ls.length) (hn : ls.length ≤ 1099511627776) :
    Calls Try.prog 28 #[.slice A ls.length c, .slice B ms.length d] w fun e w' => e = .returned (.bool (ls == ms)) ∧ Drawn w w' := by
  have HL := Hd.mk hl
  have HM := Hd.mk hm
  have H := Hd.mk h
  rw [h]
  clear hl hm h
  go_enter Try.func28, Try.ntmps28
  go_wp2
  go_loopw [5] (fun i wr => ∃ k : Nat, k ≤ ls.length ∧ i = .int .i64 k ∧ Hd (ls.take k = ms.take k) ∧ Drawn w wr) (fun i _ => ls.length - (intOf i).toNat)
  case atStart => exact ⟨0, Nat.zero_le _, rfl, ⟨rfl⟩, Drawn.refl _⟩
  case round =>
    obtain ⟨k, hk, rfl, HE, HD⟩ := hrel
    by_cases hlt : k < ls.length
    · have hlt2 : k < ms.length := by rw [H.out]; exact hlt
      obtain ⟨b, off, rfl, _, hc⟩ := (HL.out.below (HD.below _)).form (by rw [ns_len]; omega)
      obtain ⟨b', off', rfl, _, hc'⟩ := (HM.out.below (HD.below _)).form (by rw [ns_len]; omega)
      have h1 : ∀ n, (wr.drewN n).cell? ⟨b, off + k, none⟩ = some (.int .i64 ls[k]) := fun n => hc k _ (ns_at hlt)
      have h2 : ∀ n, (wr.drewN n).cell? ⟨b', off' + k, none⟩ = some (.int .i64 ms[k]) := fun n => hc' k _ (ns_at hlt2)
      have i1 : (0 : Int) ≤ (k : Int) := by omega
      have i2 : (k : Int) < (ls.length : Int) := by omega
      clear hc hc' HL HM
      obtain ⟨x, hx⟩ : ∃ x, x = ls[k] := ⟨_, rfl⟩
      obtain ⟨y, hy⟩ : ∃ y, y = ms[k] := ⟨_, rfl⟩
      rw [← hx] at h1
      rw [← hy] at h2
      have HX := Hd.mk hx
      have HY := Hd.mk hy
      clear hx hy
      by_cases heq : x = y
      · have hq : (x == y) = true := by simp [heq]
        have hq2 : (x != y) = false := by simp [heq]
        have HQ : Hd (ls[k] = ms[k]) := ⟨by rw [← HX.out, ← HY.out]; exact heq⟩
        clear heq HX HY
        go_wp2
        go_quiet (fail)
        go_wp2
        go_roundw
        case rel => exact ⟨k + 1, by omega, by go_num, ⟨by rw [List.take_succ_eq_append_getElem hlt, List.take_succ_eq_append_getElem hlt2, HE.out, HQ.out]⟩, HD.step _⟩
        case measure => simp [intOf]; omega
      · have hq : (x == y) = false := by simp [heq]
        have hq2 : (x != y) = true := by simp [heq]
        have HQ : Hd (¬ ls[k] = ms[k]) := ⟨by rw [← HX.out, ← HY.out]; exact heq⟩
        have hf := Hd.mk (ints_not ls ms k hlt hlt2 HQ.out)
        clear heq HX HY
        go_wp2
        go_quiet (fail)
        go_wp2
        go_ret
        exact ⟨by rw [hf.out]; rfl, HD.step _⟩
    · obtain rfl : k = ls.length := by omega
      have hf := Hd.mk (ints_all ls ms H.out HE.out)
      go_wp2
      go_ret
      exact ⟨by rw [hf.out]; rfl, HD⟩
theorem ints_any (A B : Option Addr) (n k c d : Nat) (ls ms : List Int) (w : World) (hl : Rc w A (ns ls)) (hm : Rc w B (ns ms)) (hn : ls.length ≤ 1099511627776) (e1 : n = ls.length) (e2 : k = ms.length) :
    Calls Try.prog 28 #[.slice A n c, .slice B k d] w fun e w' => e = .returned (.bool (ls == ms)) ∧ Drawn w w' := by
  subst e1; subst e2
  by_cases h : ms.length = ls.length
  · exact ints_long A B c d ls ms w hl hm h hn
  · exact ints_short A B c d ls ms w (fun e => h e.symm)
end Go.Proofs.Ytmebgejjaljhgaa
