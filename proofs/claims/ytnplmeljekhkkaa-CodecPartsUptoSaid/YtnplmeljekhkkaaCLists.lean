/- Walks of the functions that the law reaches. -/
import Derived.Test.YtnplmeljekhkkaaCSmall
namespace Go.Proofs.Ytnplmeljekhkkaa
open Go.RowKit Go.Sac
set_option linter.unusedVariables false
set_option linter.unusedSimpArgs false

theorem lists_all (ls ms : List (List UInt8)) (h : ms.length = ls.length) (hs : ls.take ls.length = ms.take ls.length) : (ls == ms) = true := by
  rw [List.take_length, ← h, List.take_length] at hs
  simp [hs]
theorem lists_not (ls ms : List (List UInt8)) (k : Nat) (h1 : k < ls.length) (h2 : k < ms.length) (hs : ¬ ls[k] = ms[k]) : (ls == ms) = false := by
  rw [beq_eq_false_iff_ne]
  rintro rfl
  exact hs rfl

set_option maxHeartbeats 400000 in
theorem lists_short (A B : Option Addr) (c d : Nat) (ls ms : List (List UInt8)) (w : World) (h : ls.length ≠ ms.length) :
    Calls Try.prog 17 #[.slice A ls.length c, .slice B ms.length d] w fun e w' => e = .returned (.bool (ls == ms)) ∧ Drawn w w' := by
  have h' : (((ls.length : Int)) != (ms.length : Int)) = true := by rw [bne_iff_ne]; omega
  have h2 : (ls == ms) = false := by rw [beq_eq_false_iff_ne]; rintro rfl; exact h rfl
  have H := Hd.mk h2
  clear h2
  go_enter Try.func17, Try.ntmps17
  go_wp2
  go_ret
  exact ⟨by rw [H.out]; rfl, Drawn.refl _⟩

set_option maxHeartbeats 1000000 in
theorem lists_long (A B : Option Addr) (c d : Nat) (ls ms : List (List UInt8)) (w : World) (hl : Rcc w A ls) (hm : Rcc w B ms) (h : ms.length = ls.length) (hn : ls.length ≤ 1099511627776) :
    Calls Try.prog 17 #[.slice A ls.length c, .slice B ms.length d] w fun e w' => e = .returned (.bool (ls == ms)) ∧ Drawn w w' := by
  have HL := Hd.mk hl
  have HM := Hd.mk hm
  have H := Hd.mk h
  rw [h]
  clear hl hm h
  go_enter Try.func17, Try.ntmps17
  go_wp2
  go_loopw [5] (fun i wr => ∃ k : Nat, k ≤ ls.length ∧ i = .int .i64 k ∧ Hd (ls.take k = ms.take k) ∧ Drawn w wr) (fun i _ => ls.length - (intOf i).toNat)
  case atStart => exact ⟨0, Nat.zero_le _, rfl, ⟨rfl⟩, Drawn.refl _⟩
  case round =>
    obtain ⟨k, hk, rfl, HE, HD⟩ := hrel
    by_cases hlt : k < ls.length
    · have hlt2 : k < ms.length := by rw [H.out]; exact hlt
      obtain ⟨b, off, a, c2, rfl, hc, hle, hr⟩ := (HL.out.below (HD.below _)).at k hlt
      obtain ⟨b', off', a', c2', rfl, hc', hle', hr'⟩ := (HM.out.below (HD.below _)).at k hlt2
      have h1 : ∀ n, (convert 22 9 (.slice a ls[k].length c2)).run Try.prog (wr.drewN n) = .ok (.string ⟨ls[k].toArray⟩) (wr.drewN n) := fun n =>
        run_str (P := Try.prog) (wr.drewN n) 22 5 9 Try.underlying22 Try.underlying5 Try.underlying9 a c2 ls[k] (hr.below (below_drewN (Below.refl _ _) n))
      have h2 : ∀ n, (convert 22 9 (.slice a' ms[k].length c2')).run Try.prog (wr.drewN n) = .ok (.string ⟨ms[k].toArray⟩) (wr.drewN n) := fun n =>
        run_str (P := Try.prog) (wr.drewN n) 22 5 9 Try.underlying22 Try.underlying5 Try.underlying9 a' c2' ms[k] (hr'.below (below_drewN (Below.refl _ _) n))
      have i1 : (0 : Int) ≤ (k : Int) := by omega
      have i2 : (k : Int) < (ls.length : Int) := by omega
      clear hr hr' HL HM
      by_cases heq : ls[k] = ms[k]
      · have hq : ((⟨ls[k].toArray⟩ : ByteArray).toList == (⟨ms[k].toArray⟩ : ByteArray).toList) = true := by rw [str_eq, heq]; simp
        have hq2 : (⟨ls[k].toArray⟩ : ByteArray).toList = (⟨ms[k].toArray⟩ : ByteArray).toList := by rw [heq]
        have HQ := Hd.mk heq
        clear heq
        go_wp2
        go_quiet (fail)
        go_wp2
        go_roundw
        case rel => exact ⟨k + 1, by omega, by go_num, ⟨by rw [List.take_succ_eq_append_getElem hlt, List.take_succ_eq_append_getElem hlt2, HE.out, HQ.out]⟩, HD.step _⟩
        case measure => simp [intOf]; omega
      · have hq : (ls[k] == ms[k]) = false := by simpa using heq
        have hf := Hd.mk (lists_not ls ms k hlt hlt2 heq)
        clear heq
        go_wp2
        go_quiet (fail)
        go_wp2
        go_ret
        exact ⟨by rw [hf.out]; rfl, HD.step _⟩
    · obtain rfl : k = ls.length := by omega
      have hf := Hd.mk (lists_all ls ms H.out HE.out)
      go_wp2
      go_ret
      exact ⟨by rw [hf.out]; rfl, HD⟩
end Go.Proofs.Ytnplmeljekhkkaa
