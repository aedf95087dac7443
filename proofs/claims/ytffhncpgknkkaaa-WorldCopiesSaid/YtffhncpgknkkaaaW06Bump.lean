/- W06Bump: the counter rises. -/
import Derived.Test.YtffhncpgknkkaaaW06Write
namespace Go.Proofs.Ytffhncpgknkkaaa
open Go.RowKit Go.Sac
set_option linter.unusedVariables false
set_option linter.unusedSimpArgs false
def upP (s : Wd) : Wd := { takesP s 1 with counter := s.counter + 1 }
def bumpP (s : Wd) : Wd := if s.dead = true then s else if s.counter = 18446744073709551615 then s else if takesK s 1 = 0 then takesP s 1 else noteP (upP s) 5 0 0 []
def bumpR (s : Wd) : Bool := !s.dead && (!decide (s.counter = 18446744073709551615) && !decide (takesK s 1 = 0))
section
variable {w : World} {g : Nat} {K : Nat → Nat} {c : Wc} {s : Wd}
set_option maxRecDepth 100000 in
set_option maxHeartbeats 4000000 in
theorem bump_calls (h : WdAt w g K c s) (hT : s.trace.length ≤ 1000000) : Calls Try.prog 18 #[.pointer (some ⟨g, 0, none⟩)] w (RetD g K (bumpP s) (bumpR s) w) := by
  have c9 := h.obj.cell (i := 9) rfl
  have c4 := h.obj.cell (i := 4) rfl
  have hn := h.num
  have HW := Hd.mk h
  have HT := Hd.mk hT
  clear h hT
  by_cases hd : s.dead = true
  · have H1 : Hd (bumpP s = s ∧ bumpR s = false) := ⟨by unfold bumpP bumpR; rw [if_pos hd, hd]; exact ⟨rfl, rfl⟩⟩
    rw [hd] at c9
    clear hd hn
    go_enter Try.func18, Try.ntmps18
    go_wp2
    go_ret
    rw [H1.out.1, H1.out.2]
    exact ⟨rfl, K, c, HW.out, Stp.refl _ _, fun _ _ => rfl⟩
  · have hd2 : s.dead = false := by simpa using hd
    by_cases hm : s.counter = 18446744073709551615
    · have H1 : Hd (bumpP s = s ∧ bumpR s = false) := ⟨by unfold bumpP bumpR; rw [if_neg hd, if_pos hm, hd2, hm]; exact ⟨rfl, rfl⟩⟩
      rw [hd2] at c9
      rw [hm] at c4
      clear hd hd2 hm hn
      go_enter Try.func18, Try.ntmps18
      go_wp2
      go_ret
      rw [H1.out.1, H1.out.2]
      exact ⟨rfl, K, c, HW.out, Stp.refl _ _, fun _ _ => rfl⟩
    · by_cases hk : takesK s 1 = 0
      · have H1 : Hd (bumpP s = takesP s 1 ∧ bumpR s = false) := ⟨by unfold bumpP bumpR; rw [if_neg hd, if_neg hm, if_pos hk, hk]; simp⟩
        rw [hd2] at c9
        have HK := Hd.mk hk
        clear hd hd2 hn hk
        go_enter Try.func18, Try.ntmps18
        go_wp2_with (go_at_call 37; refine (takes_calls HW.out 1 (by decide) (by decide)).mono ?_; rw [HK.out]; rintro e w1 ⟨rfl, h1, h2⟩; have H2 := Hd.mk h1; have H3 := Hd.mk h2; clear h1 h2)
        go_ret
        rw [H1.out.1, H1.out.2]
        exact ⟨rfl, K, c, H2.out, H3.out, fun _ _ => rfl⟩
      · have H1 : Hd (bumpP s = noteP (upP s) 5 0 0 [] ∧ bumpR s = true) := ⟨by unfold bumpP bumpR; rw [if_neg hd, if_neg hm, if_neg hk, hd2]; simp [hm, hk]⟩
        rw [hd2] at c9
        have HK := Hd.mk hk
        have ec : (takesP s 1).counter = s.counter := by unfold takesP; split <;> rfl
        have et : (takesP s 1).trace = s.trace := by unfold takesP; split <;> rfl
        have ET := Hd.mk et
        have hwr : IntKind.u64.wrap (s.counter + 1) = s.counter + 1 := by rw [IntKind.wrap_u64]; omega
        have HNN : Hd (0 ≤ s.counter + 1 ∧ s.counter + 1 < 18446744073709551616) := ⟨by omega⟩
        obtain ⟨t, ht⟩ : ∃ t, takesK s 1 = t := ⟨_, rfl⟩
        have hk2 : ¬ t = 0 := by rw [← ht]; exact hk
        have HTT := Hd.mk ht
        clear hd hd2 hn hk ht et
        go_enter Try.func18, Try.ntmps18
        go_wp2_with (first
          | (go_at_call 37; refine (takes_calls HW.out 1 (by decide) (by decide)).mono ?_; rw [HTT.out]; rintro e w1 ⟨rfl, h1, h2⟩
             have d4 := h1.obj.cell (i := 4) rfl
             rw [ec] at d4
             have df := h1.obj.frz 4
             have H2 := Hd.mk h1; have H3 := Hd.mk h2; clear h1 h2)
          | (go_at_call 34
             have h5 : WdAt (w1.setCell ⟨g, 4, none⟩ (.int .u64 (s.counter + 1))) g K c (upP s) := H2.out.cell 4 _ (upP s) ⟨rfl, rfl, rfl, rfl, rfl⟩ rfl ⟨HNN.out.1, HNN.out.2, H2.out.num.2.2⟩
             have h6 := H3.out.trans (Stp.cell H2.out 4 (.int .u64 (s.counter + 1)))
             refine (note_calls h5 5 0 0 none 0 0 [] (Rc.nil _ _) (fun _ _ e => absurd rfl e) rfl (by decide) (by rw [T_len h5]; show (takesP s 1).trace.length ≤ _; rw [ET.out]; exact HT.out)).mono ?_
             rintro e w3 ⟨rfl, K3, v3, x3, hw3, hs3, hk3⟩
             have HW3 := Hd.mk hw3; have HS3 := Hd.mk (h6.trans hs3); have HK3 := Hd.mk hk3
             clear hw3 hs3 hk3 h5 h6))
        go_ret
        rw [H1.out.1, H1.out.2]
        exact ⟨rfl, K3, _, HW3.out, HS3.out, HK3.out⟩
theorem wo_bump {w0 : World} (h : Wo w0 w g K s) (hT : s.trace.length ≤ 1000000) : Calls Try.prog 18 #[.pointer (some ⟨g, 0, none⟩)] w (RetDo w0 g K (bumpP s) (bumpR s) w) := by
  obtain ⟨c, hc⟩ := h.ex
  refine (bump_calls hc hT).mono ?_
  rintro e w' ⟨rfl, K', c', h1, h2, _⟩
  exact ⟨rfl, K', h.step h1 h2, h2⟩
end
end Go.Proofs.Ytffhncpgknkkaaa
