/- Walks: the reference's answer: whether an inode may be. -/
import Derived.Test.YtmebgejjaljhgaaN13Right
namespace Go.Proofs.Ytmebgejjaljhgaa
open Go.RowKit Go.Sac
set_option linter.unusedVariables false
set_option linter.unusedSimpArgs false

def someB (xs : List Int) : Nat → Bool
  | 0 => decide (xs.getD 1 0 > 0) || decide (xs.getD 2 0 > 0) || decide (xs.getD 9 0 > 0)
  | k + 1 => someB xs k || decide (xs.getD (3 + k) 0 > 0)
theorem right_some (xs : List Int) (hx : xs.length = 10) (hI : ∀ k, k < 10 → inI xs k) : rightB xs = (decide (xs.getD 0 0 > 0) || !someB xs 6) := by
  obtain ⟨a0, a1, a2, a3, a4, a5, a6, a7, a8, a9, rfl⟩ := ten xs hx
  have h0 := (hI 0 (by omega)).1; have h1 := (hI 1 (by omega)).1; have h2 := (hI 2 (by omega)).1; have h3 := (hI 3 (by omega)).1; have h4 := (hI 4 (by omega)).1
  have h5 := (hI 5 (by omega)).1; have h6 := (hI 6 (by omega)).1; have h7 := (hI 7 (by omega)).1; have h8 := (hI 8 (by omega)).1; have h9 := (hI 9 (by omega)).1
  simp at h0 h1 h2 h3 h4 h5 h6 h7 h8 h9
  rw [Bool.eq_iff_iff]
  unfold rightB
  rw [decide_eq_true_eq]
  unfold rightP
  simp [someB, zeroI]
  constructor
  · rintro ⟨_, h⟩
    omega
  · intro h
    refine ⟨hI, ?_⟩
    omega
theorem pointer_calls (n : Int) (w : World) : Calls Try.prog 35 #[.int .i64 n] w fun e w' => e = .returned (.bool (decide (0 ≤ n ∧ n ≤ 4095))) ∧ w' = w := by
  by_cases h0 : 0 ≤ n
  · have c0 : decide (n ≥ 0) = true := by simpa using h0
    by_cases h1 : n ≤ 4095
    · have c1 : decide (n ≤ 4095) = true := by simpa using h1
      have HR : Hd (decide (0 ≤ n ∧ n ≤ 4095) = true) := ⟨decide_eq_true ⟨h0, h1⟩⟩
      clear h0 h1
      go_enter Try.func35, Try.ntmps35
      go_wp2
      go_ret
      exact ⟨by rw [HR.out]; first | done | rfl, rfl⟩
    · have c1 : decide (n ≤ 4095) = false := by simpa using h1
      have HR : Hd (decide (0 ≤ n ∧ n ≤ 4095) = false) := ⟨decide_eq_false fun h => h1 h.2⟩
      clear h0 h1
      go_enter Try.func35, Try.ntmps35
      go_wp2
      go_ret
      exact ⟨by rw [HR.out]; first | done | rfl, rfl⟩
  · have c0 : decide (n ≥ 0) = false := by simpa using h0
    have HR : Hd (decide (0 ≤ n ∧ n ≤ 4095) = false) := ⟨decide_eq_false fun h => h0 h.1⟩
    clear h0
    go_enter Try.func35, Try.ntmps35
    go_wp2
    go_ret
    exact ⟨by rw [HR.out]; first | done | rfl, rfl⟩
theorem pointer_b (n : Int) (b : Bool) (w : World) (h : decide (0 ≤ n ∧ n ≤ 4095) = b) : Calls Try.prog 35 #[.int .i64 n] w fun e w' => e = .returned (.bool b) ∧ w' = w := by
  subst h; exact pointer_calls n w
set_option maxHeartbeats 8000000 in
theorem rright_calls (xs : List Int) (w : World) (hx : xs.length = 10) :
    Calls Try.prog 23 #[ino xs] w fun e w' => e = .returned (.bool (rightB xs)) ∧ Below w.heap.size w w' := by
  unfold ino
  have HK : Hd (Blk (w.alloc (.cells (ns xs).toArray 24)) w.heap.size 24 (ns xs)) := ⟨Blk.new w _ _⟩
  have HB : Hd (Below w.heap.size w (w.alloc (.cells (ns xs).toArray 24))) := ⟨(Below.refl _ w).alloc (Nat.le_refl _) _⟩
  have hc0 := HK.out.cell (ns_get xs 0 (by omega))
  have hc1 := HK.out.cell (ns_get xs 1 (by omega))
  have hc2 := HK.out.cell (ns_get xs 2 (by omega))
  have hc9 := HK.out.cell (ns_get xs 9 (by omega))
  obtain ⟨a0, ha0⟩ : ∃ a, xs.getD 0 0 = a := ⟨_, rfl⟩
  obtain ⟨a1, ha1⟩ : ∃ a, xs.getD 1 0 = a := ⟨_, rfl⟩
  obtain ⟨a2, ha2⟩ : ∃ a, xs.getD 2 0 = a := ⟨_, rfl⟩
  obtain ⟨a9, ha9⟩ : ∃ a, xs.getD 9 0 = a := ⟨_, rfl⟩
  rw [ha0] at hc0
  rw [ha1] at hc1
  rw [ha2] at hc2
  rw [ha9] at hc9
  have HX := Hd.mk hx
  have hno : ∀ k, k < 10 → ¬ inI xs k → Hd (rightB xs = false) := fun k hk h => ⟨rightB_no hk h⟩
  have t0 : inI xs 0 ↔ (0 ≤ a0 ∧ a0 ≤ 3) := by unfold inI; rw [ha0]; exact Iff.rfl
  have t1 : inI xs 1 ↔ (0 ≤ a1 ∧ a1 ≤ 65535) := by unfold inI; rw [ha1]; exact Iff.rfl
  have t2 : inI xs 2 ↔ (0 ≤ a2 ∧ a2 ≤ 17920) := by unfold inI; rw [ha2]; exact Iff.rfl
  have t9 : inI xs 9 ↔ (0 ≤ a9 ∧ a9 ≤ 4095) := by unfold inI; rw [ha9]; exact Iff.rfl
  have HNO := Hd.mk hno
  have H0 := Hd.mk t0
  have H1 := Hd.mk t1
  have H2 := Hd.mk t2
  have H9 := Hd.mk t9
  have A0 := Hd.mk ha0
  have A1 := Hd.mk ha1
  have A2 := Hd.mk ha2
  have A9 := Hd.mk ha9
  clear hno t0 t1 t2 t9 ha0 ha1 ha2 ha9 hx
  by_cases h0 : a0 < 0
  · have c0 : decide (a0 < 0) = true := by simpa using h0
    have HR := HNO.out 0 (by omega) (fun h => by have := H0.out.1 h; omega)
    clear h0
    go_enter Try.func23, Try.ntmps23
    go_wp2
    go_ret
    exact ⟨by rw [HR.out]; rfl, HB.out⟩
  have c0 : decide (a0 < 0) = false := by simpa using h0
  by_cases h1 : a0 > 3
  · have c1 : decide (a0 > 3) = true := by simpa using h1
    have HR := HNO.out 0 (by omega) (fun h => by have := H0.out.1 h; omega)
    clear h1
    go_enter Try.func23, Try.ntmps23
    go_wp2
    go_ret
    exact ⟨by rw [HR.out]; rfl, HB.out⟩
  have c1 : decide (a0 > 3) = false := by simpa using h1
  by_cases h2 : a1 < 0
  · have c2 : decide (a1 < 0) = true := by simpa using h2
    have HR := HNO.out 1 (by omega) (fun h => by have := H1.out.1 h; omega)
    clear h2
    go_enter Try.func23, Try.ntmps23
    go_wp2
    go_ret
    exact ⟨by rw [HR.out]; rfl, HB.out⟩
  have c2 : decide (a1 < 0) = false := by simpa using h2
  by_cases h3 : a1 > 65535
  · have c3 : decide (a1 > 65535) = true := by simpa using h3
    have HR := HNO.out 1 (by omega) (fun h => by have := H1.out.1 h; omega)
    clear h3
    go_enter Try.func23, Try.ntmps23
    go_wp2
    go_ret
    exact ⟨by rw [HR.out]; rfl, HB.out⟩
  have c3 : decide (a1 > 65535) = false := by simpa using h3
  by_cases h4 : a2 < 0
  · have c4 : decide (a2 < 0) = true := by simpa using h4
    have HR := HNO.out 2 (by omega) (fun h => by have := H2.out.1 h; omega)
    clear h4
    go_enter Try.func23, Try.ntmps23
    go_wp2
    go_ret
    exact ⟨by rw [HR.out]; rfl, HB.out⟩
  have c4 : decide (a2 < 0) = false := by simpa using h4
  by_cases h5 : a2 > 17920
  · have c5 : decide (a2 > 17920) = true := by simpa using h5
    have HR := HNO.out 2 (by omega) (fun h => by have := H2.out.1 h; omega)
    clear h5
    go_enter Try.func23, Try.ntmps23
    go_wp2
    go_ret
    exact ⟨by rw [HR.out]; rfl, HB.out⟩
  have c5 : decide (a2 > 17920) = false := by simpa using h5
  by_cases h6 : decide (0 ≤ a9 ∧ a9 ≤ 4095) = false
  · have HR := HNO.out 9 (by omega) (fun h => absurd (H9.out.1 h) (of_decide_eq_false h6))
    have HP := Hd.mk h6
    clear h6 h0 h1 h2 h3 h4 h5
    go_enter Try.func23, Try.ntmps23
    go_wp2_with (go_at_call 35; refine (pointer_b _ false _ HP.out).mono ?_; rintro e w1 ⟨rfl, rfl⟩)
    go_ret
    exact ⟨by rw [HR.out]; rfl, HB.out⟩
  have h7 : decide (0 ≤ a9 ∧ a9 ≤ 4095) = true := by simpa using h6
  have HP := Hd.mk h7
  have HIN : Hd (inI xs 0 ∧ inI xs 1 ∧ inI xs 2 ∧ inI xs 9) := ⟨H0.out.2 (by omega), H1.out.2 (by omega), H2.out.2 (by omega), H9.out.2 (of_decide_eq_true h7)⟩
  have HN0 : Hd (0 ≤ a0) := ⟨by omega⟩
  have hsome : Hd (someB xs 0 = (decide (a1 > 0) || decide (a2 > 0) || decide (a9 > 0))) := ⟨by unfold someB; rw [A1.out, A2.out, A9.out]⟩
  clear h6 h7 h0 h1 h2 h3 h4 h5
  have hw : (∃ b, decide (a1 > 0) = true ∧ b = true ∧ someB xs 0 = b) ∨ (∃ b, decide (a1 > 0) = false ∧ decide (a2 > 0) = true ∧ b = true ∧ someB xs 0 = b) ∨ (decide (a1 > 0) = false ∧ decide (a2 > 0) = false ∧ someB xs 0 = decide (a9 > 0)) := by
    rw [hsome.out]
    cases e1 : decide (a1 > 0)
    · cases e2 : decide (a2 > 0)
      · exact .inr (.inr ⟨rfl, rfl, by simp⟩)
      · exact .inr (.inl ⟨_, rfl, rfl, rfl, by simp⟩)
    · exact .inl ⟨_, rfl, rfl, by simp⟩
  have hloop : ∀ (b : Bool), someB xs 0 = b → True := fun _ _ => trivial
  rcases hw with ⟨b, d1, rfl, hs⟩ | ⟨b, d1, d2, rfl, hs⟩ | ⟨d1, d2, hs⟩
  all_goals
    have HS0 := Hd.mk hs
    clear hs hloop
    go_enter Try.func23, Try.ntmps23
    go_wp2_with (go_at_call 35; refine (pointer_b _ true _ HP.out).mono ?_; rintro e w1 ⟨rfl, rfl⟩)
    go_loopw [3, 4] (fun s i wr => ∃ k : Nat, k ≤ 6 ∧ i = .int .i64 k ∧ s = .bool (someB xs k) ∧ Hd (Blk wr w.heap.size 24 (ns xs)) ∧ Hd (Below w.heap.size w wr) ∧ Hd (∀ j, j < k → inI xs (3 + j))) (fun _ i _ => 6 - (intOf i).toNat)
    case atStart => exact ⟨0, by omega, rfl, by rw [HS0.out], HK, HB, ⟨fun j hj => by omega⟩⟩
    case round =>
      clear HK HB HS0
      obtain ⟨k, hk, rfl, rfl, HK, HB, HI⟩ := hrel
      by_cases hlt : k < 6
      · have hcx := HK.out.cell (ns_get xs (3 + k) (by have := HX.out; omega))
        have hst : Hd (someB xs (k + 1) = (someB xs k || decide (xs.getD (3 + k) 0 > 0))) := ⟨rfl⟩
        obtain ⟨x, hx0⟩ : ∃ x, xs.getD (3 + k) 0 = x := ⟨_, rfl⟩
        rw [hx0] at hcx hst
        have T : Hd (inI xs (3 + k) ↔ (0 ≤ x ∧ x ≤ 4095)) := ⟨by unfold inI mostI; rw [hx0, if_neg (by omega), if_neg (by omega), if_neg (by omega)]⟩
        clear hx0
        by_cases hp : decide (0 ≤ x ∧ x ≤ 4095) = false
        · have HPX := Hd.mk hp
          have HR := HNO.out (3 + k) (by omega) (fun h => absurd (T.out.1 h) (of_decide_eq_false hp))
          clear hp
          go_wp2_with (go_at_call 35; refine (pointer_b _ false _ HPX.out).mono ?_; rintro e w1 ⟨rfl, rfl⟩)
          go_ret
          exact ⟨by rw [HR.out]; rfl, HB.out⟩
        · have hp1 : decide (0 ≤ x ∧ x ≤ 4095) = true := by simpa using hp
          have HPX := Hd.mk hp1
          have HIX := Hd.mk (T.out.2 (of_decide_eq_true hp1))
          obtain ⟨b, hb⟩ : ∃ b, someB xs k = b := ⟨_, rfl⟩
          rw [hb]
          rw [hb] at hst
          clear hp hp1 hb
          cases b
          all_goals
            go_wp2_with (go_at_call 35; refine (pointer_b _ true _ HPX.out).mono ?_; rintro e w1 ⟨rfl, rfl⟩)
            go_roundw
            case rel =>
              refine ⟨k + 1, by omega, by go_num, ?_, HK, HB, ⟨fun j hj => ?_⟩⟩
              · rw [hst.out]; simp
              · rcases (show j < k ∨ j = k by omega) with h | rfl
                · exact HI.out j h
                · exact HIX.out
            case measure => simp [intOf]; omega
      · obtain rfl : k = 6 := by omega
        have hc0 := HK.out.cell (ns_get xs 0 (by have := HX.out; omega))
        rw [A0.out] at hc0
        have HR := Hd.mk (right_some xs HX.out (fun k hk => by
          rcases (show k = 0 ∨ k = 1 ∨ k = 2 ∨ k = 9 ∨ (3 ≤ k ∧ k < 9) by omega) with rfl | rfl | rfl | rfl | h
          · exact HIN.out.1
          · exact HIN.out.2.1
          · exact HIN.out.2.2.1
          · exact HIN.out.2.2.2
          · have := HI.out (k - 3) (by omega)
            rwa [show 3 + (k - 3) = k by omega] at this))
        rw [A0.out] at HR
        obtain ⟨b, hb⟩ : ∃ b, someB xs 6 = b := ⟨_, rfl⟩
        rw [hb]
        rw [hb] at HR
        clear hb
        by_cases hz : a0 > 0
        · have c9 : decide (a0 > 0) = true := by simpa using hz
          rw [c9] at HR
          clear hz c0 c1
          go_wp2
          go_ret
          exact ⟨by rw [HR.out]; rfl, HB.out⟩
        · have c9 : decide (a0 > 0) = false := by simpa using hz
          rw [c9] at HR
          clear hz c0 c1
          go_wp2
          go_ret
          exact ⟨by rw [HR.out]; rfl, HB.out⟩
end Go.Proofs.Ytmebgejjaljhgaa
