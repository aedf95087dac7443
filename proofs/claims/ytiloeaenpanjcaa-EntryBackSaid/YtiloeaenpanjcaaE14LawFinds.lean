/- Walks: the law EntryFinds. -/
import Derived.Test.YtiloeaenpanjcaaE14Known
namespace Go.Proofs.Ytiloeaenpanjcaa
open Go.RowKit Go.Sac
set_option linter.unusedVariables false
set_option linter.unusedSimpArgs false

theorem putL_len (l : List Ent) (x : Ent) : (putL l x).length ≤ l.length + 1 := by
  unfold putL
  split
  · split
    · simp
    · rw [insE_len]; exact Nat.le_refl _
  · simp
theorem dropL_len (l : List Ent) (t : ByteArray) : (dropL l t).length ≤ l.length := by
  unfold dropL
  split
  · exact List.length_eraseIdx_le _ _
  · exact Nat.le_refl _
set_option maxHeartbeats 8000000 in
theorem law_finds (A : Option Addr) (c : Nat) (l : List Ent) (x : Ent) (t : ByteArray) (w : World) (hl : Rc w A (ens l)) (hc : l.length ≤ c) (hn : l.length ≤ 5864062014634) (hi : ∀ y ∈ l, y.1.size ≤ 140737488351232) (hx : x.1.size ≤ 140737488351232) (ht : t.size ≤ 140737488351232) :
    Calls Try.prog 5 #[.slice A l.length c, ev x, .string t] w (RetT w) := by
  obtain ⟨xn, xk⟩ := x
  obtain ⟨n, e1⟩ : ∃ n, n = l.length := ⟨_, rfl⟩
  rw [← e1] at hc hn ⊢
  have HL := Hd.mk hl
  have HE := Hd.mk e1
  have HN : Hd (l.length ≤ 5864062014634) := ⟨by omega⟩
  have HX := Hd.mk hx
  have HT := Hd.mk ht
  have K0 : Hd (Blk (w.alloc (.cells #[.string xn, .int .i64 xk] 31)) w.heap.size 31 (ecs (xn, xk))) := ⟨Blk.new w _ _⟩
  have hc0 : (w.alloc (.cells #[.string xn, .int .i64 xk] 31)).cell? ⟨w.heap.size, 0, none⟩ = some (.string xn) := K0.out.cell rfl
  have HB : Hd (Below w.heap.size w (w.alloc (.cells #[.string xn, .int .i64 xk] 31))) := ⟨(Below.refl _ w).alloc (Nat.le_refl _) _⟩
  dsimp only at hx
  clear hl e1
  have walk : ∀ r : Bool, ((decide (longZ l > 2000)) || decide ((xn.size : Int) + (t.size : Int) > 200)) = r → Calls Try.prog 5 #[.slice A n c, ev (xn, xk), .string t] w (RetT w) := by
    intro r hr
    cases r
    · have d1 : decide (longZ l > 2000) = false := by simp only [Bool.or_eq_false_iff] at hr; exact hr.1
      have d2 : decide ((xn.size : Int) + (t.size : Int) > 200) = false := by simp only [Bool.or_eq_false_iff] at hr; exact hr.2
      obtain ⟨z, hz⟩ : ∃ z, longZ l = z := ⟨_, rfl⟩
      rw [hz] at d1
      have HZ := Hd.mk hz
      obtain ⟨fn, hfn⟩ : ∃ z, findN l t = z := ⟨_, rfl⟩
      obtain ⟨fb, hfb⟩ : ∃ z, findB l t = z := ⟨_, rfl⟩
      obtain ⟨pe, hpe⟩ : ∃ z, putE l (xn, xk) = z := ⟨_, rfl⟩
      obtain ⟨nm, hnm⟩ : ∃ z, namedL t.data.toList = z := ⟨_, rfl⟩
      obtain ⟨X, hX⟩ : ∃ z, putL l (xn, xk) = z := ⟨_, rfl⟩
      obtain ⟨Y, hY⟩ : ∃ z, dropL l t = z := ⟨_, rfl⟩
      have hX1 := putL_len l (xn, xk)
      have hY1 := dropL_len l t
      rw [hX] at hX1
      rw [hY] at hY1
      have HX1 : Hd (X.length ≤ 140737488351232) := ⟨by have := HN.out; omega⟩
      have HY1 : Hd (Y.length ≤ 140737488351232) := ⟨by have := HN.out; omega⟩
      have HFN := Hd.mk hfn
      have HFB := Hd.mk hfb
      have HPE := Hd.mk hpe
      have HNM := Hd.mk hnm
      have HXX := Hd.mk hX
      have HYY := Hd.mk hY
      clear hr hz hfn hfb hpe hnm hX hY hX1 hY1
      have T1 : Hd True := ⟨trivial⟩
      have T2 : Hd True := ⟨trivial⟩
      unfold ev
      go_enter Try.func5, Try.ntmps5
      go_wp2_with (first
        | (go_at_call 13; refine (long_calls _ _ _ l _ (HL.out.below HB.out) HE.out HN.out).mono ?_; rintro e w1 ⟨rfl, rfl⟩; rw [HZ.out])
        | (go_at_call 17; refine (find_calls _ _ _ l _ _ (HL.out.below HB.out) HE.out HN.out).mono ?_; rintro e w2 ⟨rfl, hb⟩; rw [HFN.out, HFB.out]; have K0 := Hd.mk (K0.out.below hb K0.out.lt); have HB := Hd.mk (below_then HB.out HB.out.size hb); clear hb)
        | (go_at_call 18; refine (rfind_calls _ _ _ l _ _ (HL.out.below HB.out) HE.out HN.out).mono ?_; rintro e w3 ⟨rfl, hb⟩; rw [HFN.out, HFB.out]; have K0 := Hd.mk (K0.out.below hb K0.out.lt); have HB := Hd.mk (below_then HB.out HB.out.size hb); clear hb)
        | (refine wpList_load_row rfl 31 (.tmp 4) rfl w.heap.size rfl 31 #[.string xn, .int .i64 xk] (0, 0) _ K0.out Try.underlying31 rfl (ent_info.trans rfl) ?_)
        | (go_at_call 14; refine (eput_calls _ _ _ l (xn, xk) _ (HL.out.below HB.out) HE.out HN.out HX.out).mono ?_; rw [HXX.out, HPE.out]; rintro e w4 ⟨v4, rfl, ho, hb⟩; obtain ⟨A4, c4, rfl, _, hr4, _⟩ := own_rc ho; have R4 := Hd.mk hr4; have K0 := Hd.mk (K0.out.below hb K0.out.lt); have HB := Hd.mk (below_then HB.out HB.out.size hb); clear hb ho hr4)
        | (go_at_call 19; refine (rput_calls _ _ _ l (xn, xk) _ (HL.out.below HB.out) HE.out HN.out HX.out).mono ?_; rw [HXX.out, HPE.out]; rintro e w5 ⟨v5, rfl, ho, hb⟩; obtain ⟨A5, c5, rfl, _, hr5, _⟩ := own_rc ho; have R5 := Hd.mk hr5; have R4 := Hd.mk (R4.out.below hb); have HB := Hd.mk (below_then HB.out HB.out.size hb); clear hb ho hr5)
        | (go_at_call 16; refine (drop_calls _ _ _ l t _ (HL.out.below HB.out) HE.out HN.out).mono ?_; rw [HYY.out, HFB.out]; rintro e w6 ⟨v6, rfl, ho, hb⟩; obtain ⟨A6, c6, rfl, _, hr6, _⟩ := own_rc ho; have R6 := Hd.mk hr6; have R5 := Hd.mk (R5.out.below hb); have R4 := Hd.mk (R4.out.below hb); have HB := Hd.mk (below_then HB.out HB.out.size hb); clear hb ho hr6)
        | (go_at_call 20; refine (rdrop_calls _ _ _ l t _ (HL.out.below HB.out) HE.out HN.out).mono ?_; rw [HYY.out, HFB.out]; rintro e w7 ⟨v7, rfl, ho, hb⟩; obtain ⟨A7, c7, rfl, _, hr7, _⟩ := own_rc ho; have R7 := Hd.mk hr7; have R6 := Hd.mk (R6.out.below hb); have R5 := Hd.mk (R5.out.below hb); have R4 := Hd.mk (R4.out.below hb); have HB := Hd.mk (below_then HB.out HB.out.size hb); clear hb ho hr7)
        | (clear T1; go_at_call 15; refine (ents_same A4 A5 _ _ X X _ R4.out R5.out HX1.out).mono ?_; rintro e w8 ⟨rfl, hb⟩; rw [show decide (X = X) = true from decide_eq_true rfl]; have R7 := Hd.mk (R7.out.below hb); have R6 := Hd.mk (R6.out.below hb); have HB := Hd.mk (below_then HB.out HB.out.size hb); clear hb)
        | (clear T2; go_at_call 15; refine (ents_same A6 A7 _ _ Y Y _ R6.out R7.out HY1.out).mono ?_; rintro e w9 ⟨rfl, hb⟩; rw [show decide (Y = Y) = true from decide_eq_true rfl]; have HB := Hd.mk (below_then HB.out HB.out.size hb); clear hb)
        | (go_at_call 12; refine (named_calls t _ HT.out).mono ?_; rintro e w10 ⟨rfl, hb⟩; rw [HNM.out]; have HB := Hd.mk (below_then HB.out HB.out.size hb); clear hb)
        | (go_at_call 21; refine (rnamed_calls t _ HT.out).mono ?_; rintro e w11 ⟨rfl, rfl⟩; rw [HNM.out])
        | (go_at_call 11; refine (known_calls _).mono ?_; rintro e w12 ⟨rfl, hb⟩; have HB := Hd.mk (below_then HB.out HB.out.size hb); clear hb))
      go_ret
      exact ⟨rfl, HB.out⟩
    · obtain ⟨z, hz⟩ : ∃ z, longZ l = z := ⟨_, rfl⟩
      rw [hz] at hr
      have HZ := Hd.mk hz
      clear hz
      cases d1 : decide (z > 2000)
      · have d2 : decide ((xn.size : Int) + (t.size : Int) > 200) = true := by rw [d1] at hr; simpa using hr
        clear hr
        unfold ev
        go_enter Try.func5, Try.ntmps5
        go_wp2_with (first
          | (go_at_call 13; refine (long_calls _ _ _ l _ (HL.out.below HB.out) HE.out HN.out).mono ?_; rintro e w1 ⟨rfl, rfl⟩; rw [HZ.out])
          | (go_at_call 11; refine (known_calls _).mono ?_; rintro e w12 ⟨rfl, hb⟩; have HB := Hd.mk (below_then HB.out HB.out.size hb); clear hb))
        go_ret
        exact ⟨rfl, HB.out⟩
      · clear hr
        unfold ev
        go_enter Try.func5, Try.ntmps5
        go_wp2_with (first
          | (go_at_call 13; refine (long_calls _ _ _ l _ (HL.out.below HB.out) HE.out HN.out).mono ?_; rintro e w1 ⟨rfl, rfl⟩; rw [HZ.out])
          | (go_at_call 11; refine (known_calls _).mono ?_; rintro e w12 ⟨rfl, hb⟩; have HB := Hd.mk (below_then HB.out HB.out.size hb); clear hb))
        go_ret
        exact ⟨rfl, HB.out⟩
  exact walk _ rfl
end Go.Proofs.Ytiloeaenpanjcaa
