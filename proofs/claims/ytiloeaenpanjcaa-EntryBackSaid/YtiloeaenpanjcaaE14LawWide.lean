/- Walks: the law EntryWide. -/
import Derived.Test.YtiloeaenpanjcaaE14LawEncodes
namespace Go.Proofs.Ytiloeaenpanjcaa
open Go.RowKit Go.Sac
set_option linter.unusedVariables false
set_option linter.unusedSimpArgs false

theorem same_b (A B : Option Addr) (n k c d : Nat) (l m : List UInt8) (w : World) (hl : Rc w A (bs l)) (hm : Rc w B (bs m)) (e1 : n = l.length) (e2 : k = m.length) (h : l = m) :
    Calls Try.prog 27 #[.slice A n c, .slice B k d] w fun e w' => e = .returned (.bool true) ∧ w' = w := by
  subst h
  have := same_any A B n k c d l l w hl hm e1 e2
  rwa [show (l == l) = true by simp] at this
set_option maxHeartbeats 8000000 in
set_option maxRecDepth 100000 in
theorem law_wide (A : Option Addr) (c : Nat) (l : List Ent) (w : World) (hl : Rc w A (ens l)) (hc : l.length ≤ c) (hn : l.length ≤ 5864062014634) (hi : ∀ y ∈ l, y.1.size ≤ 140737488351232) :
    Calls Try.prog 10 #[.slice A l.length c] w (RetT w) := by
  obtain ⟨n, e1⟩ : ∃ n, n = l.length := ⟨_, rfl⟩
  rw [← e1] at hc hn ⊢
  have HL := Hd.mk hl
  have HE := Hd.mk e1
  have HN : Hd (l.length ≤ 5864062014634) := ⟨by omega⟩
  have HI := Hd.mk hi
  have HB : Hd (Below w.heap.size w w) := ⟨Below.refl _ _⟩
  obtain ⟨z, hz⟩ : ∃ z, longZ l = z := ⟨_, rfl⟩
  have HZ := Hd.mk hz
  clear hz
  cases d1 : decide (z > 1500)
  · cases hr : rightE l
    · obtain ⟨g1, g2⟩ := enc_wrong hr
      have G1 := Hd.mk g1
      have G2 := Hd.mk g2
      clear hl e1 hi hr g1 g2
      go_enter Try.func10, Try.ntmps10
      go_wp2_with (first
        | (go_at_call 13; refine (long_calls _ _ _ l _ (HL.out.below HB.out) HE.out HN.out).mono ?_; rintro e w1 ⟨rfl, hw⟩; obtain rfl := hw; rw [HZ.out])
        | (go_at_call 23; refine (encode_calls _ _ _ l _ (HL.out.below HB.out) HE.out HN.out HI.out).mono ?_; rw [G1.out, G2.out]; rintro e w2 ⟨v2, rfl, ho, hb⟩; obtain ⟨A2, c2, rfl, _, hr2, _⟩ := own_rc ho; have HB := Hd.mk (below_then HB.out HB.out.size hb); clear ho hb hr2)
        | (go_at_call 11; refine (known_calls _).mono ?_; rintro e w12 ⟨rfl, hb⟩; have HB := Hd.mk (below_then HB.out HB.out.size hb); clear hb))
      go_ret
      exact ⟨rfl, HB.out⟩
    · obtain ⟨g1, g2⟩ := enc_right hr
      have hel := enc_len hr
      by_cases h0 : n = 0
      · have hl0 : l = [] := List.eq_nil_of_length_eq_zero (by omega)
        subst hl0
        subst h0
        have G1 : Hd (encB [] = []) := ⟨g1⟩
        have G2 := Hd.mk g2
        clear hl e1 hi hr g1 g2 hel
        go_enter Try.func10, Try.ntmps10
        go_wp2_with (first
          | (go_at_call 13; refine (long_calls _ _ _ [] _ (HL.out.below HB.out) HE.out HN.out).mono ?_; rintro e w1 ⟨rfl, hw⟩; obtain rfl := hw; rw [HZ.out])
          | (go_at_call 23; refine (encode_calls _ _ _ [] _ (HL.out.below HB.out) HE.out HN.out HI.out).mono ?_; rw [G1.out, G2.out]; rintro e w2 ⟨v2, rfl, ho, hb⟩; obtain ⟨A2, c2, rfl, _, hr2, _⟩ := own_rc ho; have HB := Hd.mk (below_then HB.out HB.out.size hb); clear ho hb hr2)
          | (go_at_call 11; refine (known_calls _).mono ?_; rintro e w12 ⟨rfl, hb⟩; have HB := Hd.mk (below_then HB.out HB.out.size hb); clear hb))
        go_ret
        exact ⟨rfl, HB.out⟩
      · obtain ⟨k, hk⟩ : ∃ k, n = k + 1 := ⟨n - 1, by omega⟩
        subst hk
        have h560 := (right_is hr).1
        have hk560 : k ≤ 560 := by omega
        obtain ⟨b, off, rfl, _, _⟩ := rcK_form ecs_len (by decide) hl (by omega)
        obtain ⟨L, hL⟩ : ∃ L, l.take k = L := ⟨_, rfl⟩
        have hLr : rightE L = true := by rw [← hL]; exact right_take hr k
        have hLl : L.length = k := by rw [← hL, List.length_take]; omega
        obtain ⟨c1, c2⟩ := enc_right hLr
        obtain ⟨X, hX⟩ : ∃ X, encRows l = X := ⟨_, rfl⟩
        obtain ⟨Y, hY⟩ : ∃ Y, encRows L = Y := ⟨_, rfl⟩
        have hXl : X.length = 32 * k + 32 := by rw [← hX, hel, ← e1]; omega
        have hYl : Y.length = 32 * k := by rw [← hY, enc_len hLr, hLl]
        have hXY : X.take (32 * k) = Y := by rw [← hX, ← hY, ← hL]; exact enc_take_len hr (by omega)
        obtain ⟨m1, m2⟩ := dec_enc hLr
        rw [hY] at c1 m1 m2
        rw [hX] at g1
        obtain ⟨o1, o2⟩ := dec_odd (b := X.take (32 * k + 31)) (by rw [List.length_take, hXl]; omega)
        obtain ⟨Z, hZ⟩ : ∃ Z, X.take (32 * k + 31) = Z := ⟨_, rfl⟩
        have hZl : Z.length = 32 * k + 31 := by rw [← hZ, List.length_take, hXl]; omega
        rw [hZ] at o1 o2
        have HLK : Hd (∀ W, Below w.heap.size w W → Rc W (some ⟨b, off, none⟩) (ens L)) := ⟨fun W hW => by
          have := (HL.out.below hW).take (k * 2)
          rwa [ens_take _ _ (by omega), hL] at this⟩
        have G1 := Hd.mk g1
        have G2 := Hd.mk g2
        have C1 := Hd.mk c1
        have C2 := Hd.mk c2
        have M1 := Hd.mk m1
        have M2 := Hd.mk m2
        have O1 := Hd.mk o1
        have O2 := Hd.mk o2
        have HXL := Hd.mk hXl
        have HYL := Hd.mk hYl
        have HZL := Hd.mk hZl
        have HLL := Hd.mk hLl
        have HXY : Hd (∀ W A5, Rc W A5 (bs X) → Rc W A5 (bs Y)) := ⟨fun W A5 h => by
          have := h.take (32 * k)
          rw [show (bs X).take (32 * k) = bs (X.take (32 * k)) by simp [bs], hXY] at this
          exact this⟩
        have HXZ : Hd (∀ W A5, Rc W A5 (bs X) → Rc W A5 (bs Z)) := ⟨fun W A5 h => by
          have := h.take (32 * k + 31)
          rw [show (bs X).take (32 * k + 31) = bs (X.take (32 * k + 31)) by simp [bs], hZ] at this
          exact this⟩
        have HIL : Hd (∀ y ∈ L, y.1.size ≤ 140737488351232) := ⟨fun y hy => HI.out y (by rw [← hL] at hy; exact List.mem_of_mem_take hy)⟩
        obtain ⟨p, hp⟩ : ∃ p, p = 32 * k := ⟨_, rfl⟩
        rw [← hp] at HXL HYL HZL
        have hpb : p ≤ 20000 := by omega
        have HPP := Hd.mk hp
        have n1 : ((k + 1 : Nat) : Int) - 1 = (k : Int) := by omega
        have n2 : ((p + 32 : Nat) : Int) - 32 = (p : Int) := by omega
        have n3 : ((p + 32 : Nat) : Int) - 1 = ((p + 31 : Nat) : Int) := by omega
        have nz : ((k : Int) + 1 == 0) = false := by simp; omega
        have ne : ((p : Int) + 32 != 32 * ((k : Int) + 1)) = false := by simp; omega
        have nw : IntKind.i64.wrap (32 * ((k + 1 : Nat) : Int)) = ((p + 32 : Nat) : Int) := by rw [IntKind.wrap_i64]; omega
        have T1 : Hd True := ⟨trivial⟩
        have T2 : Hd True := ⟨trivial⟩
        have T3 : Hd True := ⟨trivial⟩
        clear hl e1 hi hr g1 g2 hel h0 h560 hL hLr hLl c1 c2 hX hY hXl hYl hXY m1 m2 o1 o2 hZ hZl hp
        go_enter Try.func10, Try.ntmps10
        go_wp2_with (first
          | (go_at_call 13; refine (long_calls _ _ _ l _ (HL.out.below HB.out) HE.out HN.out).mono ?_; rintro e w1 ⟨rfl, hw⟩; obtain rfl := hw; rw [HZ.out])
          | (clear T1; go_at_call 23; refine (encode_calls _ _ _ l _ (HL.out.below HB.out) HE.out HN.out HI.out).mono ?_; rw [G1.out, G2.out]; rintro e w2 ⟨v2, rfl, ho, hb⟩; obtain ⟨g2, c2, rfl, _, _⟩ := own_form ho (by rw [HXL.out]; omega); rw [HXL.out] at ho ⊢; have R2 : Hd (Rc w2 (some ⟨g2, 0, none⟩) (bs X)) := ⟨by obtain ⟨_, _, e3, _, hr3, _⟩ := own_rc ho; injection e3 with e3; rw [e3]; exact hr3⟩; have hc2 : p + 32 ≤ c2 := (by obtain ⟨_, _, e3, h4, _, _⟩ := own_rc ho; injection e3 with _ _ e4; omega); have HB := Hd.mk (below_then HB.out HB.out.size hb); clear ho hb)
          | (clear T2; go_at_call 23; refine (encode_calls _ _ _ L _ (HLK.out _ HB.out) HLL.out.symm (by have := HLL.out; omega) HIL.out).mono ?_; rw [C1.out, C2.out]; rintro e w3 ⟨v3, rfl, ho, hb⟩; obtain ⟨A3, c3, rfl, _, hr3, _⟩ := own_rc ho; have R3 := Hd.mk hr3; have R2 := Hd.mk (R2.out.below hb); have HB := Hd.mk (below_then HB.out HB.out.size hb); clear ho hb hr3)
          | (clear T3; go_at_call 25; refine (decode_calls _ _ _ Y _ (HXY.out _ _ R2.out) HYL.out.symm (by have := HYL.out; omega) (by omega)).mono ?_; rw [M1.out, M2.out]; rintro e w4 ⟨v4, rfl, ho, hb⟩; obtain ⟨A4, c4, rfl, _, hr4, _⟩ := own_rc ho; have R4 := Hd.mk hr4; have R3 := Hd.mk (R3.out.below hb); have R2 := Hd.mk (R2.out.below hb); have HB := Hd.mk (below_then HB.out HB.out.size hb); clear ho hb hr4)
          | (go_at_call 25; refine (decode_calls _ _ _ Z _ (HXZ.out _ _ R2.out) HZL.out.symm (by have := HZL.out; omega) (by omega)).mono ?_; rw [O1.out, O2.out]; rintro e w5 ⟨v5, rfl, ho, hb⟩; have R4 := Hd.mk (R4.out.below hb); have R3 := Hd.mk (R3.out.below hb); have R2 := Hd.mk (R2.out.below hb); have HB := Hd.mk (below_then HB.out HB.out.size hb); clear ho hb)
          | (go_at_call 27; refine (same_b _ _ _ _ _ _ Y Y _ R3.out (HXY.out _ _ R2.out) rfl HYL.out.symm rfl).mono ?_; rintro e w6 ⟨rfl, hw⟩; obtain rfl : w5 = w6 := hw.symm)
          | (go_at_call 15; refine (ents_same' _ _ _ _ _ _ L L _ R4.out (HLK.out _ HB.out) rfl HLL.out.symm (by have := HLL.out; omega)).mono ?_; rintro e w7 ⟨rfl, hb⟩; rw [show decide (L = L) = true from decide_eq_true rfl]; have HB := Hd.mk (below_then HB.out HB.out.size hb); clear hb)
          | (go_at_call 11; refine (known_calls _).mono ?_; rintro e w12 ⟨rfl, hb⟩; have HB := Hd.mk (below_then HB.out HB.out.size hb); clear hb))
        go_ret
        exact ⟨rfl, HB.out⟩
  · clear hl e1 hi
    go_enter Try.func10, Try.ntmps10
    go_wp2_with (first
      | (go_at_call 13; refine (long_calls _ _ _ l _ (HL.out.below HB.out) HE.out HN.out).mono ?_; rintro e w1 ⟨rfl, hw⟩; obtain rfl := hw; rw [HZ.out])
      | (go_at_call 11; refine (known_calls _).mono ?_; rintro e w12 ⟨rfl, hb⟩; have HB := Hd.mk (below_then HB.out HB.out.size hb); clear hb))
    go_ret
    exact ⟨rfl, HB.out⟩
end Go.Proofs.Ytiloeaenpanjcaa
