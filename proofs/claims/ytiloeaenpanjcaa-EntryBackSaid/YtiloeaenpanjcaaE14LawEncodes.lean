/- Walks: the law EntryEncodes. -/
import Derived.Test.YtiloeaenpanjcaaR00Same
import Derived.Test.YtiloeaenpanjcaaE14RefEnc
import Derived.Test.YtiloeaenpanjcaaE14RefDec
import Derived.Test.YtiloeaenpanjcaaE14LawKeeps
import Derived.Test.YtiloeaenpanjcaaP14d
namespace Go.Proofs.Ytiloeaenpanjcaa
open Go.RowKit Go.Sac
set_option linter.unusedVariables false
set_option linter.unusedSimpArgs false

theorem decL_small (b : List UInt8) : ∀ y ∈ decL b, y.1.size ≤ 140737488351232 := by
  unfold decL
  split
  · intro y hy
    have := dec_small (b := b) (n := b.length / 32) (by omega) y hy
    omega
  · nofun
theorem decL_len (b : List UInt8) : (decL b).length ≤ b.length := by
  unfold decL
  split
  · rw [decRows_len]; omega
  · simp
set_option maxHeartbeats 8000000 in
set_option maxRecDepth 100000 in
theorem law_encodes (A : Option Addr) (c : Nat) (l : List Ent) (B : Option Addr) (d : Nat) (b : List UInt8) (w : World) (hl : Rc w A (ens l)) (hc : l.length ≤ c) (hn : l.length ≤ 5864062014634) (hi : ∀ y ∈ l, y.1.size ≤ 140737488351232) (hb : Rc w B (bs b)) (hd : b.length ≤ d) (hm : b.length ≤ 140737488351232) :
    Calls Try.prog 8 #[.slice A l.length c, .slice B b.length d] w (RetT w) := by
  obtain ⟨n, e1⟩ : ∃ n, n = l.length := ⟨_, rfl⟩
  obtain ⟨m, e2⟩ : ∃ m, m = b.length := ⟨_, rfl⟩
  rw [← e1] at hc hn ⊢
  rw [← e2] at hd hm ⊢
  have HL := Hd.mk hl
  have HE := Hd.mk e1
  have HN : Hd (l.length ≤ 5864062014634) := ⟨by omega⟩
  have HI := Hd.mk hi
  have HBB := Hd.mk hb
  have HM := Hd.mk e2
  have HB : Hd (Below w.heap.size w w) := ⟨Below.refl _ _⟩
  clear hl e1 hi hb e2
  obtain ⟨z, hz⟩ : ∃ z, longZ l = z := ⟨_, rfl⟩
  have HZ := Hd.mk hz
  clear hz
  cases d1 : decide (z > 2000)
  · cases d2 : decide ((m : Int) > 1500)
    · have hm1500 : m ≤ 1500 := by simp at d2; omega
      obtain ⟨X, hX⟩ : ∃ X, encB l = X := ⟨_, rfl⟩
      obtain ⟨er, her⟩ : ∃ er, encR l = er := ⟨_, rfl⟩
      obtain ⟨Y, hY⟩ : ∃ Y, decL b = Y := ⟨_, rfl⟩
      obtain ⟨es, hes⟩ : ∃ er, decR b = er := ⟨_, rfl⟩
      have hYL := decL_len b
      rw [hY] at hYL
      have HYL : Hd (Y.length ≤ 140737488351232) := ⟨by have := HM.out; omega⟩
      have HX := Hd.mk hX
      have HER := Hd.mk her
      have HY := Hd.mk hY
      have HES := Hd.mk hes
      clear hX her hY hes hYL
      go_enter Try.func8, Try.ntmps8
      go_wp2_with (first
        | (go_at_call 13; refine (long_calls _ _ _ l _ (HL.out.below HB.out) HE.out HN.out).mono ?_; rintro e w1 ⟨rfl, hw⟩; obtain rfl : w = w1 := hw.symm; rw [HZ.out])
        | (go_at_call 23; refine (encode_calls _ _ _ l _ (HL.out.below HB.out) HE.out HN.out HI.out).mono ?_; rw [HX.out, HER.out]; rintro e w2 ⟨v2, rfl, ho, hb⟩; obtain ⟨A2, c2, rfl, _, hr2, _⟩ := own_rc ho; have R2 := Hd.mk hr2; have HB := Hd.mk (below_then HB.out HB.out.size hb); clear ho hb hr2)
        | (go_at_call 24; refine (rencode_calls _ _ _ l _ (HL.out.below HB.out) HE.out HN.out HI.out).mono ?_; rw [HX.out, HER.out]; rintro e w3 ⟨v3, rfl, ho, hb⟩; obtain ⟨A3, c3, rfl, _, hr3, _⟩ := own_rc ho; have R3 := Hd.mk hr3; have R2 := Hd.mk (R2.out.below hb); have HB := Hd.mk (below_then HB.out HB.out.size hb); clear ho hb hr3)
        | (go_at_call 25; refine (decode_calls _ _ _ b _ (HBB.out.below HB.out) HM.out (by have := HM.out; omega) hd).mono ?_; rw [HY.out, HES.out]; rintro e w4 ⟨v4, rfl, ho, hb⟩; obtain ⟨A4, c4, rfl, _, hr4, _⟩ := own_rc ho; have R4 := Hd.mk hr4; have R3 := Hd.mk (R3.out.below hb); have R2 := Hd.mk (R2.out.below hb); have HB := Hd.mk (below_then HB.out HB.out.size hb); clear ho hb hr4)
        | (go_at_call 26; refine (rdecode_calls _ _ _ b _ (HBB.out.below HB.out) HM.out (by have := HM.out; omega) hd).mono ?_; rw [HY.out, HES.out]; rintro e w5 ⟨v5, rfl, ho, hb⟩; obtain ⟨A5, c5, rfl, _, hr5, _⟩ := own_rc ho; have R5 := Hd.mk hr5; have R4 := Hd.mk (R4.out.below hb); have R3 := Hd.mk (R3.out.below hb); have R2 := Hd.mk (R2.out.below hb); have HB := Hd.mk (below_then HB.out HB.out.size hb); clear ho hb hr5)
        | (go_at_call 27; refine (same_any A2 A3 _ _ _ _ X X _ R2.out R3.out rfl rfl).mono ?_; rintro e w6 ⟨rfl, hw⟩; obtain rfl : w5 = w6 := hw.symm; rw [show (X == X) = true by simp])
        | (go_at_call 15; refine (ents_same' A4 A5 _ _ _ _ Y Y _ R4.out R5.out rfl rfl HYL.out).mono ?_; rintro e w7 ⟨rfl, hb⟩; rw [show decide (Y = Y) = true from decide_eq_true rfl]; have HB := Hd.mk (below_then HB.out HB.out.size hb); clear hb)
        | (go_at_call 11; refine (known_calls _).mono ?_; rintro e w12 ⟨rfl, hb⟩; have HB := Hd.mk (below_then HB.out HB.out.size hb); clear hb))
      go_ret
      exact ⟨rfl, HB.out⟩
    · go_enter Try.func8, Try.ntmps8
      go_wp2_with (first
        | (go_at_call 13; refine (long_calls _ _ _ l _ (HL.out.below HB.out) HE.out HN.out).mono ?_; rintro e w1 ⟨rfl, hw⟩; obtain rfl := hw; rw [HZ.out])
        | (go_at_call 11; refine (known_calls _).mono ?_; rintro e w12 ⟨rfl, hb⟩; have HB := Hd.mk (below_then HB.out HB.out.size hb); clear hb))
      go_ret
      exact ⟨rfl, HB.out⟩
  · go_enter Try.func8, Try.ntmps8
    go_wp2_with (first
      | (go_at_call 13; refine (long_calls _ _ _ l _ (HL.out.below HB.out) HE.out HN.out).mono ?_; rintro e w1 ⟨rfl, hw⟩; obtain rfl := hw; rw [HZ.out])
      | (go_at_call 11; refine (known_calls _).mono ?_; rintro e w12 ⟨rfl, hb⟩; have HB := Hd.mk (below_then HB.out HB.out.size hb); clear hb))
    go_ret
    exact ⟨rfl, HB.out⟩
end Go.Proofs.Ytiloeaenpanjcaa
