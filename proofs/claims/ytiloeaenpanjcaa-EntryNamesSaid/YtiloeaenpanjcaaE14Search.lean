/- Walks: the library's search among entries that stand in order. -/
import Derived.Test.YtiloeaenpanjcaaE14Sorted
namespace Go.Proofs.Ytiloeaenpanjcaa
open Go.RowKit Go.Sac
set_option linter.unusedVariables false
set_option linter.unusedSimpArgs false

set_option maxHeartbeats 4000000 in
theorem search_calls (A : Option Addr) (n c : Nat) (l : List Ent) (t : ByteArray) (w : World) (hl : Rc w A (ens l)) (e1 : n = l.length) (hn : l.length ≤ 5864062014634)
    (hmono : ∀ (a b : Nat) (ha : a < l.length) (hb : b < l.length), a ≤ b → cmpN l[b].1 t < 0 → cmpN l[a].1 t < 0) :
    Calls Try.prog 48 #[.slice A n c, .string t, .func (.func 44) #[] #[]] w fun e w' =>
      ∃ i : Nat, i ≤ l.length ∧ (∀ k, (hk : k < l.length) → k < i → cmpN l[k].1 t < 0) ∧ (∀ k, (hk : k < l.length) → i ≤ k → 0 ≤ cmpN l[k].1 t) ∧
        e = .returned (.tuple #[.int .i64 (i : Int), .bool (decide (∃ h : i < l.length, cmpN l[i].1 t = 0))]) ∧ Below w.heap.size w w' := by
  have HL := Hd.mk hl
  have HM := Hd.mk hmono
  rw [← e1] at hn
  have HN := Hd.mk e1.symm
  clear hl hmono e1
  go_enter Try.func48, Try.ntmps48
  go_wp2
  go_loopw [9, 10] (fun iv jv wr => ∃ i j : Nat, iv = .int .i64 (i : Int) ∧ jv = .int .i64 (j : Int) ∧ i ≤ j ∧ j ≤ n ∧ Hd (∀ k, (hk : k < l.length) → k < i → cmpN l[k].1 t < 0) ∧ Hd (∀ k, (hk : k < l.length) → j ≤ k → 0 ≤ cmpN l[k].1 t) ∧ Hd (Below w.heap.size w wr)) (fun iv jv _ => (intOf jv - intOf iv).toNat)
  case atStart => exact ⟨0, n, rfl, rfl, Nat.zero_le _, Nat.le_refl _, ⟨fun k hk h => by omega⟩, ⟨fun k hk h => by have := HN.out; omega⟩, ⟨Below.refl _ _⟩⟩
  case round =>
    obtain ⟨i, j, rfl, rfl, hij, hjn, HI, HJ, HB⟩ := hrel
    by_cases hlt : i < j
    · obtain ⟨h, hh⟩ : ∃ h, (i + j) / 2 = h := ⟨_, rfl⟩
      have hhj : h < n := by omega
      have hhl : h < l.length := by rw [HN.out]; exact hhj
      obtain ⟨b, off, rfl, hb, hr⟩ := rcK_form ecs_len (by decide) HL.out (by omega)
      have hx := hr h hhl wr HB.out
      obtain ⟨x, hx0⟩ : ∃ x, l[h] = x := ⟨_, rfl⟩
      have HLX : Hd (∀ hk : h < l.length, l[h] = x) := ⟨fun _ => hx0⟩
      rw [hx0] at hx
      have HX := Hd.mk hx
      have HH := Hd.mk hh
      have w1 : IntKind.u64.wrap ((i : Int) + (j : Int)) = (i : Int) + (j : Int) := by rw [IntKind.wrap_u64]; omega
      have w2' : ((i : Int) + (j : Int)) / 2 = (h : Int) := by omega
      have w3 : IntKind.i64.wrap (h : Int) = (h : Int) := by rw [IntKind.wrap_i64]; omega
      have w4 : IntKind.u64.wrap (h : Int) = (h : Int) := by rw [IntKind.wrap_u64]; omega
      have hhn : (h : Int) < (n : Int) := by omega
      have HIH : Hd (i ≤ h ∧ h < j) := ⟨by omega⟩
      clear hx hr hx0 hh hb
      by_cases hc : cmpN x.1 t < 0
      · have d1 : decide (cmpN x.1 t < 0) = true := by simpa using hc
        have HCN := Hd.mk hc
        go_wp2_with (first
          | (refine wpList_ldmid rfl 31 (.tmp 27) rfl b (off + h * 2) rfl _ _ HX.out Try.underlying31 rfl (ent_info.trans rfl) ?_)
          | (go_at_call 44; refine (at1_calls x t _).mono ?_; rintro e w2 ⟨rfl, hb⟩; have HB2 := Hd.mk (below_then HB.out HB.out.size hb); clear hb))
        go_roundw
        case rel =>
          refine ⟨h + 1, j, by go_num, rfl, by have := HIH.out; omega, hjn, ⟨fun k hk hkh => ?_⟩, HJ, HB2⟩
          have hhl2 : h < l.length := by rw [HN.out]; omega
          exact HM.out k h hk hhl2 (by omega) (by rw [HLX.out hhl2]; exact HCN.out)
        case measure => simp [intOf]; have := HIH.out; omega
      · have d1 : decide (cmpN x.1 t < 0) = false := by simpa using hc
        have HCN : Hd (0 ≤ cmpN x.1 t) := ⟨by omega⟩
        go_wp2_with (first
          | (refine wpList_ldmid rfl 31 (.tmp 27) rfl b (off + h * 2) rfl _ _ HX.out Try.underlying31 rfl (ent_info.trans rfl) ?_)
          | (go_at_call 44; refine (at1_calls x t _).mono ?_; rintro e w2 ⟨rfl, hb⟩; have HB2 := Hd.mk (below_then HB.out HB.out.size hb); clear hb))
        go_roundw
        case rel =>
          refine ⟨i, h, rfl, rfl, HIH.out.1, by have := HIH.out; omega, HI, ⟨fun k hk hkh => ?_⟩, HB2⟩
          have hhl2 : h < l.length := by rw [HN.out]; omega
          by_cases hcc : cmpN l[k].1 t < 0
          · have h5 := HM.out h k hhl2 hk hkh hcc
            rw [HLX.out hhl2] at h5
            have h6 := HCN.out
            omega
          · omega
        case measure => simp [intOf]; have := HIH.out; omega
    · obtain rfl : i = j := by omega
      by_cases hin : i < n
      · have hil : i < l.length := by rw [HN.out]; exact hin
        obtain ⟨b, off, rfl, hb, hr⟩ := rcK_form ecs_len (by decide) HL.out (by omega)
        have hx := hr i hil wr HB.out
        obtain ⟨x, hx0⟩ : ∃ x, l[i] = x := ⟨_, rfl⟩
        have HEX : Hd (decide (∃ hk : i < l.length, cmpN l[i].1 t = 0) = (cmpN x.1 t == 0)) := ⟨by
          rw [Bool.eq_iff_iff, decide_eq_true_eq, beq_iff_eq]
          exact ⟨fun ⟨h1, h2⟩ => by rw [← hx0]; exact h2, fun h2 => ⟨hil, by rw [hx0]; exact h2⟩⟩⟩
        rw [hx0] at hx
        have HX := Hd.mk hx
        have hin2 : (i : Int) < (n : Int) := by omega
        have HHJ := Hd.mk HJ
        clear hx hr hx0 hb hil HJ
        go_wp2_with (first
          | (refine wpList_ldmid rfl 31 (.tmp 43) rfl b (off + i * 2) rfl _ _ HX.out Try.underlying31 rfl (ent_info.trans rfl) ?_)
          | (go_at_call 44; refine (at1_calls x t _).mono ?_; rintro e w2 ⟨rfl, hb⟩; have HB2 := Hd.mk (below_then HB.out HB.out.size hb); clear hb))
        go_ret2
        refine ⟨i, by rw [HN.out]; exact hjn, HI.out, HHJ.out.out, ?_, HB2.out⟩
        rw [HEX.out]
        rfl
      · have hno : Hd (decide (∃ hk : i < l.length, cmpN l[i].1 t = 0) = false) := ⟨decide_eq_false (fun ⟨h1, _⟩ => hin (by rw [← HN.out]; exact h1))⟩
        have hin2 : decide ((i : Int) < (n : Int)) = false := by simpa using hin
        have HHJ := Hd.mk HJ
        clear HJ
        go_wp2
        go_ret2
        refine ⟨i, by rw [HN.out]; exact hjn, HI.out, HHJ.out.out, ?_, HB.out⟩
        rw [hno.out]
        rfl
end Go.Proofs.Ytiloeaenpanjcaa
