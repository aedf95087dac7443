/- W06Small: a world's small methods. -/
import Derived.Laws.LoneSync
import Derived.Test.YtffhncpgknkkaaaW06World
namespace Go.Proofs.Ytffhncpgknkkaaa
open Go.RowKit Go.Sac
set_option linter.unusedVariables false
set_option linter.unusedSimpArgs false
section
variable {w : World} {g : Nat} {K : Nat → Nat} {c : Wc} {s : Wd}
def thereP (s : Wd) (a b : Int) : Bool := !s.dead && (decide (0 ≤ a) && (decide (a < s.blocks) && (decide (b = 0) || decide (b = 1))))
def sealedP (s : Wd) (i : Int) : Bool := !s.dead && (decide (i = 0) || decide (i = 1))
set_option maxHeartbeats 2000000 in
theorem there_calls (h : WdAt w g K c s) (a b : Int) : Calls Try.prog 33 #[.pointer (some ⟨g, 0, none⟩), .int .i64 a, .int .i64 b] w fun e w' => e = .returned (.bool (thereP s a b)) ∧ w' = w := by
  have c9 := h.obj.cell (i := 9) rfl
  have c0 := h.obj.cell (i := 0) rfl
  unfold thereP
  clear h
  generalize s.dead = d at c9 c0 ⊢
  generalize s.blocks = n at c9 c0 ⊢
  cases d
  · by_cases h1 : 0 ≤ a
    · by_cases h2 : a < n
      · by_cases h3 : b = 0
        · subst h3
          go_enter Try.func33, Try.ntmps33
          go_wp2
          go_ret
          refine ⟨?_, rfl⟩
          simp [h1, h2]
        · by_cases h4 : b = 1
          · subst h4
            go_enter Try.func33, Try.ntmps33
            go_wp2
            go_ret
            refine ⟨?_, rfl⟩
            simp [h1, h2]
          · have e3 : (b == 0) = false := by rw [beq_eq_false_iff_ne]; exact h3
            have e4 : (b == 1) = false := by rw [beq_eq_false_iff_ne]; exact h4
            go_enter Try.func33, Try.ntmps33
            go_wp2
            go_ret
            refine ⟨?_, rfl⟩
            simp [h1, h2, h3, h4]
      · go_enter Try.func33, Try.ntmps33
        go_wp2
        go_ret
        refine ⟨?_, rfl⟩
        simp [h1, show ¬ a < n by omega]
    · go_enter Try.func33, Try.ntmps33
      go_wp2
      go_ret
      refine ⟨?_, rfl⟩
      simp [h1] <;> omega
  · go_enter Try.func33, Try.ntmps33
    go_wp2
    go_ret
    exact ⟨rfl, rfl⟩
set_option maxHeartbeats 2000000 in
theorem sealed_calls (h : WdAt w g K c s) (i : Int) : Calls Try.prog 39 #[.pointer (some ⟨g, 0, none⟩), .int .i64 i] w fun e w' => e = .returned (.bool (sealedP s i)) ∧ w' = w := by
  have c9 := h.obj.cell (i := 9) rfl
  unfold sealedP
  clear h
  generalize s.dead = d at c9 ⊢
  cases d
  · by_cases h3 : i = 0
    · subst h3
      go_enter Try.func39, Try.ntmps39
      go_wp2
      go_ret
      exact ⟨by simp, rfl⟩
    · by_cases h4 : i = 1
      · subst h4
        go_enter Try.func39, Try.ntmps39
        go_wp2
        go_ret
        exact ⟨by simp, rfl⟩
      · have e3 : (i == 0) = false := by rw [beq_eq_false_iff_ne]; exact h3
        have e4 : (i == 1) = false := by rw [beq_eq_false_iff_ne]; exact h4
        go_enter Try.func39, Try.ntmps39
        go_wp2
        go_ret
        exact ⟨by simp [h3, h4], rfl⟩
  · go_enter Try.func39, Try.ntmps39
    go_wp2
    go_ret
    exact ⟨rfl, rfl⟩
theorem blocks_nil (w : World) : Calls Try.prog 32 #[.pointer none] w fun e w' => e = .returned (.int .i64 0) ∧ w' = w := by
  go_enter Try.func32, Try.ntmps32
  go_wp2
  go_ret
  exact ⟨rfl, rfl⟩
theorem dead_calls (h : WdAt w g K c s) : Calls Try.prog 17 #[.pointer (some ⟨g, 0, none⟩)] w fun e w' => e = .returned (.bool s.dead) ∧ w' = w := by
  have c9 := h.obj.cell (i := 9) rfl
  clear h
  generalize s.dead = d at c9 ⊢
  go_enter Try.func17, Try.ntmps17
  go_wp2
  go_ret
  exact ⟨rfl, rfl⟩
def counterP (s : Wd) : Int := if s.dead = true then 0 else s.counter
theorem counter_calls (h : WdAt w g K c s) : Calls Try.prog 19 #[.pointer (some ⟨g, 0, none⟩)] w fun e w' => e = .returned (.int .u64 (counterP s)) ∧ w' = w := by
  have c9 := h.obj.cell (i := 9) rfl
  have c4 := h.obj.cell (i := 4) rfl
  unfold counterP
  clear h
  generalize s.dead = d at c9 ⊢
  generalize s.counter = n at c4 ⊢
  cases d
  · go_enter Try.func19, Try.ntmps19
    go_wp2
    go_ret
    exact ⟨rfl, rfl⟩
  · go_enter Try.func19, Try.ntmps19
    go_wp2
    go_ret
    exact ⟨rfl, rfl⟩
def armP (s : Wd) (n : Int) : Wd := if s.dead = true then s else { s with armed := true, power := max 0 (min n 1000000) }
theorem arm_calls (h : WdAt w g K c s) (n : Int) : Calls Try.prog 16 #[.pointer (some ⟨g, 0, none⟩), .int .i64 n] w fun e w' => e = .returned (.tuple #[]) ∧ WdAt w' g K c (armP s n) ∧ Stp K K w w' := by
  have c9 := h.obj.cell (i := 9) rfl
  have c7 := h.obj.cell (i := 7) rfl
  have c8 := h.obj.cell (i := 8) rfl
  have f7 := h.obj.frz 7
  have f8 := h.obj.frz 8
  have H := Hd.mk h
  clear h
  by_cases hd : s.dead = true
  · rw [hd] at c9
    have HP : Hd (armP s n = s) := ⟨if_pos hd⟩
    clear hd
    go_enter Try.func16, Try.ntmps16
    go_wp2
    go_end0
    rw [HP.out]
    exact ⟨rfl, H.out, Stp.refl _ _⟩
  · have hd2 : s.dead = false := by simpa using hd
    rw [hd2] at c9
    have HP : Hd (armP s n = { s with armed := true, power := max 0 (min n 1000000) }) := ⟨if_neg hd⟩
    clear hd hd2
    go_enter Try.func16, Try.ntmps16
    go_wp2
    go_end0
    rw [HP.out]
    have h1 := H.out.cell 7 (.bool true) { s with armed := true } ⟨rfl, rfl, rfl, rfl, rfl⟩ rfl H.out.num
    have hn := H.out.num
    have h2 := h1.cell 8 (.int .i64 (max 0 (min n 1000000))) { s with armed := true, power := max 0 (min n 1000000) } ⟨rfl, rfl, rfl, rfl, rfl⟩ rfl ⟨hn.1, hn.2.1, hn.2.2.1, by dsimp only; omega, by dsimp only; omega, hn.2.2.2.2.2⟩
    exact ⟨rfl, h2, (Stp.cell H.out 7 _).trans (Stp.cell h1 8 _)⟩
def restartP (s : Wd) : Wd := { s with armed := false, dead := false }
theorem restart_calls (h : WdAt w g K c s) : Calls Try.prog 20 #[.pointer (some ⟨g, 0, none⟩)] w fun e w' => e = .returned (.tuple #[]) ∧ WdAt w' g K c (restartP s) ∧ Stp K K w w' := by
  have c9 := h.obj.cell (i := 9) rfl
  have c7 := h.obj.cell (i := 7) rfl
  have f7 := h.obj.frz 7
  have f9 := h.obj.frz 9
  have H := Hd.mk h
  clear h
  go_enter Try.func20, Try.ntmps20
  go_wp2
  go_end0
  have h1 := H.out.cell 7 (.bool false) { s with armed := false } ⟨rfl, rfl, rfl, rfl, rfl⟩ rfl H.out.num
  have h2 := h1.cell 9 (.bool false) (restartP s) ⟨rfl, rfl, rfl, rfl, rfl⟩ rfl H.out.num
  exact ⟨rfl, h2, (Stp.cell H.out 7 _).trans (Stp.cell h1 9 _)⟩
def setP (s : Wd) (n : Int) : Wd := { s with counter := n }
theorem set_calls (h : WdAt w g K c s) (n : Int) (h0 : 0 ≤ n) (h1 : n < 18446744073709551616) : Calls Try.prog 24 #[.pointer (some ⟨g, 0, none⟩), .int .u64 n] w fun e w' => e = .returned (.tuple #[]) ∧ WdAt w' g K c (setP s n) ∧ Stp K K w w' := by
  have c4 := h.obj.cell (i := 4) rfl
  have f4 := h.obj.frz 4
  have H := Hd.mk h
  have HN := Hd.mk (And.intro h0 h1)
  clear h h0 h1
  go_enter Try.func24, Try.ntmps24
  go_wp2
  go_end0
  exact ⟨rfl, H.out.cell 4 _ (setP s n) ⟨rfl, rfl, rfl, rfl, rfl⟩ rfl ⟨HN.out.1, HN.out.2, H.out.num.2.2⟩, Stp.cell H.out 4 _⟩
def takesK (s : Wd) (n : Int) : Int := if s.armed = true then min n s.power else n
def takesP (s : Wd) (n : Int) : Wd := if s.armed = true then { s with power := s.power - takesK s n, dead := decide (takesK s n < n) } else s
theorem takes_calls (h : WdAt w g K c s) (n : Int) (h0 : 0 ≤ n) (h1 : n ≤ 1099511627776) : Calls Try.prog 37 #[.pointer (some ⟨g, 0, none⟩), .int .i64 n] w fun e w' => e = .returned (.int .i64 (takesK s n)) ∧ WdAt w' g K c (takesP s n) ∧ Stp K K w w' := by
  have c7 := h.obj.cell (i := 7) rfl
  have c8 := h.obj.cell (i := 8) rfl
  have c9 := h.obj.cell (i := 9) rfl
  have f8 := h.obj.frz 8
  have f9 := h.obj.frz 9
  have H := Hd.mk h
  have hp := h.num.2.2.2.1
  have hq := h.num.2.2.2.2.1
  clear h
  by_cases hd : s.armed = true
  · rw [hd] at c7
    have HK : Hd (takesK s n = min n s.power) := ⟨if_pos hd⟩
    have HP : Hd (takesP s n = { s with power := s.power - min n s.power, dead := decide (min n s.power < n) }) := ⟨by unfold takesP; rw [if_pos hd, HK.out]⟩
    have hw : IntKind.i64.wrap (s.power - min n s.power) = s.power - min n s.power := by rw [IntKind.wrap_i64]; omega
    have HB : Hd (0 ≤ s.power - min n s.power ∧ s.power - min n s.power ≤ 1000000) := ⟨by omega⟩
    clear hd
    go_enter Try.func37, Try.ntmps37
    go_wp2
    go_ret
    rw [HP.out, HK.out]
    have hn := H.out.num
    have h1 := H.out.cell 8 (.int .i64 (s.power - min n s.power)) { s with power := s.power - min n s.power } ⟨rfl, rfl, rfl, rfl, rfl⟩ rfl ⟨hn.1, hn.2.1, hn.2.2.1, HB.out.1, HB.out.2, hn.2.2.2.2.2⟩
    have h2 := h1.cell 9 (.bool (decide (min n s.power < n))) { s with power := s.power - min n s.power, dead := decide (min n s.power < n) } ⟨rfl, rfl, rfl, rfl, rfl⟩ rfl h1.num
    exact ⟨rfl, h2, (Stp.cell H.out 8 _).trans (Stp.cell h1 9 _)⟩
  · have hd2 : s.armed = false := by simpa using hd
    rw [hd2] at c7
    have HK : Hd (takesK s n = n) := ⟨if_neg hd⟩
    have HP : Hd (takesP s n = s) := ⟨if_neg hd⟩
    clear hd hd2
    go_enter Try.func37, Try.ntmps37
    go_wp2
    go_ret
    rw [HP.out, HK.out]
    exact ⟨rfl, H.out, Stp.refl _ _⟩
end
end Go.Proofs.Ytffhncpgknkkaaa
