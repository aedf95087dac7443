/- Walks: the law EntryKeeps. -/
import Derived.Test.YtiloeaenpanjcaaE14RefRight
import Derived.Test.YtiloeaenpanjcaaE14LawFinds
namespace Go.Proofs.Ytiloeaenpanjcaa
open Go.RowKit Go.Sac
set_option linter.unusedVariables false
set_option linter.unusedSimpArgs false

theorem ents_same' (A B : Option Addr) (n m c d : Nat) (l k : List Ent) (w : World) (hl : Rc w A (ens l)) (hm : Rc w B (ens k)) (e1 : n = l.length) (e2 : m = k.length) (hn : l.length ≤ 140737488351232) :
    Calls Try.prog 15 #[.slice A n c, .slice B m d] w fun e w' => e = .returned (.bool (decide (l = k))) ∧ Below w.heap.size w w' := by
  subst e1; subst e2; exact ents_same A B c d l k w hl hm hn
theorem putE_ways (l : List Ent) (t : ByteArray) (n : Int) : (atE l t = -1 ∧ putE l (t, n) ≠ 13) ∨ (∃ k : Nat, atE l t = (k : Int) ∧ putE l (t, n) = if namedL t.data.toList then 13 else 11) := by
  unfold putE
  rcases atE_ways l t with h | ⟨k, h, hk⟩
  · left
    refine ⟨h, ?_⟩
    dsimp only
    rw [h]
    split <;> simp
  · right
    refine ⟨k, h, ?_⟩
    dsimp only
    rw [h]
    split
    · rw [if_pos (by omega)]
    · rfl
theorem put_back {l : List Ent} {t : ByteArray} {k : Nat} (hr : rightE l = true) (h : atE l t = (k : Int)) : namedL t.data.toList = true ∧ putE (dropL l t) (t, findN l t) = 0 ∧ putL (dropL l t) (t, findN l t) = l := by
  obtain ⟨_, h2, h3⟩ := right_is hr
  obtain ⟨hk, he⟩ := at_some h
  have hn := (h3 _ (List.getElem_mem hk)).1
  rw [he] at hn
  have hf : findN l t = l[k].2 := by unfold findN; rw [h, if_pos (by omega), Int.toNat_natCast, List.getElem?_eq_getElem hk]; rfl
  have hg := drop_gone t h2
  have hx : ((t, findN l t) : Ent) = l[k] := by rw [hf, ← he]
  refine ⟨hn, ?_, ?_⟩
  · unfold putE; dsimp only; rw [hn, hg]; rfl
  · unfold putL; dsimp only; rw [hn, hg, hx]
    exact drop_put h2 h hk
set_option maxHeartbeats 8000000 in
theorem law_keeps (A : Option Addr) (c : Nat) (l : List Ent) (t : ByteArray) (w : World) (hl : Rc w A (ens l)) (hc : l.length ≤ c) (hn : l.length ≤ 5864062014634) (hi : ∀ y ∈ l, y.1.size ≤ 140737488351232) (ht : t.size ≤ 140737488351232) :
    Calls Try.prog 7 #[.slice A l.length c, .string t] w (RetT w) := by
  obtain ⟨n, e1⟩ : ∃ n, n = l.length := ⟨_, rfl⟩
  rw [← e1] at hc hn ⊢
  have HL := Hd.mk hl
  have HE := Hd.mk e1
  have HN : Hd (l.length ≤ 5864062014634) := ⟨by omega⟩
  have HI := Hd.mk hi
  have HT := Hd.mk ht
  have HB : Hd (Below w.heap.size w w) := ⟨Below.refl _ _⟩
  clear hl e1 hi
  obtain ⟨z, hz⟩ : ∃ z, longZ l = z := ⟨_, rfl⟩
  have HZ := Hd.mk hz
  clear hz
  cases d1 : decide (z > 1500)
  · cases d2 : decide ((t.size : Int) > 60)
    · obtain ⟨fn, hfn⟩ : ∃ z, findN l t = z := ⟨_, rfl⟩
      have HFN := Hd.mk hfn
      obtain ⟨pe, hpe⟩ : ∃ z, putE l (t, 5) = z := ⟨_, rfl⟩
      have HPE := Hd.mk hpe
      obtain ⟨Y, hY⟩ : ∃ z, dropL l t = z := ⟨_, rfl⟩
      have HY := Hd.mk hY
      have HYL : Hd (Y.length ≤ 5864062014634) := ⟨by have := dropL_len l t; rw [hY] at this; have := HN.out; omega⟩
      rcases putE_ways l t 5 with ⟨ha, hp⟩ | ⟨k, ha, hp⟩
      · have HFB : Hd (findB l t = false) := ⟨by unfold findB; rw [ha]; rfl⟩
        have hf0 : fn = 0 := by rw [← hfn]; unfold findN; rw [ha]; rfl
        have hYl : Y = l := by rw [← hY]; unfold dropL; rw [ha]; rfl
        subst hf0
        rw [hpe] at hp
        have hp13 : (pe == 13) = false := by simpa using hp
        have HYE := Hd.mk hYl
        clear hfn hpe hY ha hp hYl
        have T1 : Hd True := ⟨trivial⟩
        have T3 : Hd True := ⟨trivial⟩
        have T4 : Hd True := ⟨trivial⟩
        go_enter Try.func7, Try.ntmps7
        go_wp2_with (first
          | (go_at_call 13; refine (long_calls _ _ _ l _ (HL.out.below HB.out) HE.out HN.out).mono ?_; rintro e w1 ⟨rfl, hw⟩; obtain rfl := hw; rw [HZ.out])
          | (at_builtin; refine app_rc w1.heap.size 25 31 _ 2 24 _ _ rfl rfl Try.underlying25 info_ent rfl (by decide) (by decide) _ 0 [] (ens l) _ n c rfl rfl (World.ownsRow_nil _ _ _ _) (HL.out.below HB.out) (by rw [ens_len, HE.out]) (ens_one l) (Nat.le_refl _) (by omega) n (ens l) (Nat.zero_add _) rfl ?_; intro v2 w2 ho hg hat; obtain ⟨A2, c2, rfl, _, hr2, _⟩ := own_rc ho; have R2 := Hd.mk hr2; have HB := Hd.mk (below_then HB.out HB.out.size (below_nil hg)); clear ho hg hat hr2)
          | (go_at_call 17; refine (find_calls _ _ _ l _ _ (HL.out.below HB.out) HE.out HN.out).mono ?_; rintro e w3 ⟨rfl, hb⟩; rw [HFN.out, HFB.out]; have R2 := Hd.mk (R2.out.below hb); have HB := Hd.mk (below_then HB.out HB.out.size hb); clear hb)
          | (go_at_call 16; refine (drop_calls _ _ _ l t _ (HL.out.below HB.out) HE.out HN.out).mono ?_; rw [HY.out, HFB.out]; rintro e w4 ⟨v4, rfl, ho, hb⟩; obtain ⟨A4, c4, rfl, _, hr4, _⟩ := own_rc ho; have R4 := Hd.mk hr4; have R2 := Hd.mk (R2.out.below hb); have HB := Hd.mk (below_then HB.out HB.out.size hb); clear hb ho hr4)
          | (clear T1; go_at_call 14; refine (eput_calls _ _ _ l (t, 5) _ (HL.out.below HB.out) HE.out HN.out HT.out).mono ?_; rw [HPE.out]; rintro e w5 ⟨v5, rfl, ho, hb⟩; have R4 := Hd.mk (R4.out.below hb); have R2 := Hd.mk (R2.out.below hb); have HB := Hd.mk (below_then HB.out HB.out.size hb); clear hb ho)
          | (clear T3; go_at_call 15; refine (ents_same' _ _ _ _ _ _ l l _ (HL.out.below HB.out) R2.out HE.out HE.out (by have := HN.out; omega)).mono ?_; rintro e w6 ⟨rfl, hb⟩; rw [show decide (l = l) = true from decide_eq_true rfl]; have R4 := Hd.mk (R4.out.below hb); have HB := Hd.mk (below_then HB.out HB.out.size hb); clear hb)
          | (clear T4; go_at_call 15; refine (ents_same' _ _ _ _ _ _ Y l _ R4.out (HL.out.below HB.out) rfl HE.out (by have := HYL.out; omega)).mono ?_; rw [HYE.out]; rintro e w8 ⟨rfl, hb⟩; rw [show decide (l = l) = true from decide_eq_true rfl]; have HB := Hd.mk (below_then HB.out HB.out.size hb); clear hb)
          | (go_at_call 11; refine (known_calls _).mono ?_; rintro e w12 ⟨rfl, hb⟩; have HB := Hd.mk (below_then HB.out HB.out.size hb); clear hb))
        go_ret
        exact ⟨rfl, HB.out⟩
      · have HFB : Hd (findB l t = true) := ⟨by unfold findB; rw [ha]; exact decide_eq_true (by omega)⟩
        rw [hpe] at hp
        cases hr : rightE l
        · have HR := Hd.mk hr
          cases hnm : namedL t.data.toList
          all_goals
            have HNM := Hd.mk hnm
            rw [hnm] at hp
            simp only [Bool.false_eq_true, if_true, if_false] at hp
            subst hp
            clear hfn hpe hY ha hr hnm
            go_enter Try.func7, Try.ntmps7
            go_wp2_with (first
              | (go_at_call 13; refine (long_calls _ _ _ l _ (HL.out.below HB.out) HE.out HN.out).mono ?_; rintro e w1 ⟨rfl, hw⟩; obtain rfl := hw; rw [HZ.out])
              | (at_builtin; refine app_rc w1.heap.size 25 31 _ 2 24 _ _ rfl rfl Try.underlying25 info_ent rfl (by decide) (by decide) _ 0 [] (ens l) _ n c rfl rfl (World.ownsRow_nil _ _ _ _) (HL.out.below HB.out) (by rw [ens_len, HE.out]) (ens_one l) (Nat.le_refl _) (by omega) n (ens l) (Nat.zero_add _) rfl ?_; intro v2 w2 ho hg hat; obtain ⟨A2, c2, rfl, _, hr2, _⟩ := own_rc ho; have R2 := Hd.mk hr2; have HB := Hd.mk (below_then HB.out HB.out.size (below_nil hg)); clear ho hg hat hr2)
              | (go_at_call 17; refine (find_calls _ _ _ l _ _ (HL.out.below HB.out) HE.out HN.out).mono ?_; rintro e w3 ⟨rfl, hb⟩; rw [HFN.out, HFB.out]; have R2 := Hd.mk (R2.out.below hb); have HB := Hd.mk (below_then HB.out HB.out.size hb); clear hb)
              | (go_at_call 16; refine (drop_calls _ _ _ l t _ (HL.out.below HB.out) HE.out HN.out).mono ?_; rw [HY.out, HFB.out]; rintro e w4 ⟨v4, rfl, ho, hb⟩; obtain ⟨A4, c4, rfl, _, hr4, _⟩ := own_rc ho; have R4 := Hd.mk hr4; have R2 := Hd.mk (R2.out.below hb); have HB := Hd.mk (below_then HB.out HB.out.size hb); clear hb ho hr4)
              | (go_at_call 14; refine (eput_calls _ _ _ l (t, 5) _ (HL.out.below HB.out) HE.out HN.out HT.out).mono ?_; rw [HPE.out]; rintro e w5 ⟨v5, rfl, ho, hb⟩; have R4 := Hd.mk (R4.out.below hb); have R2 := Hd.mk (R2.out.below hb); have HB := Hd.mk (below_then HB.out HB.out.size hb); clear hb ho)
              | (go_at_call 15; refine (ents_same' _ _ _ _ _ _ l l _ (HL.out.below HB.out) R2.out HE.out HE.out (by have := HN.out; omega)).mono ?_; rintro e w6 ⟨rfl, hb⟩; rw [show decide (l = l) = true from decide_eq_true rfl]; have R4 := Hd.mk (R4.out.below hb); have HB := Hd.mk (below_then HB.out HB.out.size hb); clear hb)
              | (go_at_call 12; refine (named_calls t _ HT.out).mono ?_; rintro e w7 ⟨rfl, hb⟩; rw [HNM.out]; have R4 := Hd.mk (R4.out.below hb); have HB := Hd.mk (below_then HB.out HB.out.size hb); clear hb)
              | (go_at_call 22; refine (rright_calls _ _ _ l _ (HL.out.below HB.out) HE.out HN.out HI.out).mono ?_; rintro e w9 ⟨rfl, hb⟩; rw [HR.out]; have R4 := Hd.mk (R4.out.below hb); have HB := Hd.mk (below_then HB.out HB.out.size hb); clear hb)
              | (go_at_call 11; refine (known_calls _).mono ?_; rintro e w12 ⟨rfl, hb⟩; have HB := Hd.mk (below_then HB.out HB.out.size hb); clear hb))
            go_ret
            exact ⟨rfl, HB.out⟩
        · have HR := Hd.mk hr
          obtain ⟨hnm, hb0, hb1⟩ := put_back hr ha
          have HNM := Hd.mk hnm
          rw [hnm] at hp
          simp only [if_true] at hp
          subst hp
          rw [hY, hfn] at hb0 hb1
          have HB0 := Hd.mk hb0
          have HB1 := Hd.mk hb1
          clear hfn hpe hY ha hr hnm hb0 hb1
          have T1 : Hd True := ⟨trivial⟩
          have T2 : Hd True := ⟨trivial⟩
          have T3 : Hd True := ⟨trivial⟩
          have T4 : Hd True := ⟨trivial⟩
          go_enter Try.func7, Try.ntmps7
          go_wp2_with (first
            | (go_at_call 13; refine (long_calls _ _ _ l _ (HL.out.below HB.out) HE.out HN.out).mono ?_; rintro e w1 ⟨rfl, hw⟩; obtain rfl := hw; rw [HZ.out])
            | (at_builtin; refine app_rc w1.heap.size 25 31 _ 2 24 _ _ rfl rfl Try.underlying25 info_ent rfl (by decide) (by decide) _ 0 [] (ens l) _ n c rfl rfl (World.ownsRow_nil _ _ _ _) (HL.out.below HB.out) (by rw [ens_len, HE.out]) (ens_one l) (Nat.le_refl _) (by omega) n (ens l) (Nat.zero_add _) rfl ?_; intro v2 w2 ho hg hat; obtain ⟨A2, c2, rfl, _, hr2, _⟩ := own_rc ho; have R2 := Hd.mk hr2; have HB := Hd.mk (below_then HB.out HB.out.size (below_nil hg)); clear ho hg hat hr2)
            | (go_at_call 17; refine (find_calls _ _ _ l _ _ (HL.out.below HB.out) HE.out HN.out).mono ?_; rintro e w3 ⟨rfl, hb⟩; rw [HFN.out, HFB.out]; have R2 := Hd.mk (R2.out.below hb); have HB := Hd.mk (below_then HB.out HB.out.size hb); clear hb)
            | (go_at_call 16; refine (drop_calls _ _ _ l t _ (HL.out.below HB.out) HE.out HN.out).mono ?_; rw [HY.out, HFB.out]; rintro e w4 ⟨v4, rfl, ho, hb⟩; obtain ⟨A4, c4, rfl, _, hr4, _⟩ := own_rc ho; have R4 := Hd.mk hr4; have R2 := Hd.mk (R2.out.below hb); have HB := Hd.mk (below_then HB.out HB.out.size hb); clear hb ho hr4)
            | (clear T1; go_at_call 14; refine (eput_calls _ _ _ l (t, 5) _ (HL.out.below HB.out) HE.out HN.out HT.out).mono ?_; rw [HPE.out]; rintro e w5 ⟨v5, rfl, ho, hb⟩; have R4 := Hd.mk (R4.out.below hb); have R2 := Hd.mk (R2.out.below hb); have HB := Hd.mk (below_then HB.out HB.out.size hb); clear hb ho)
            | (clear T3; go_at_call 15; refine (ents_same' _ _ _ _ _ _ l l _ (HL.out.below HB.out) R2.out HE.out HE.out (by have := HN.out; omega)).mono ?_; rintro e w6 ⟨rfl, hb⟩; rw [show decide (l = l) = true from decide_eq_true rfl]; have R4 := Hd.mk (R4.out.below hb); have HB := Hd.mk (below_then HB.out HB.out.size hb); clear hb)
            | (go_at_call 12; refine (named_calls t _ HT.out).mono ?_; rintro e w7 ⟨rfl, hb⟩; rw [HNM.out]; have R4 := Hd.mk (R4.out.below hb); have HB := Hd.mk (below_then HB.out HB.out.size hb); clear hb)
            | (go_at_call 22; refine (rright_calls _ _ _ l _ (HL.out.below HB.out) HE.out HN.out HI.out).mono ?_; rintro e w9 ⟨rfl, hb⟩; rw [HR.out]; have R4 := Hd.mk (R4.out.below hb); have HB := Hd.mk (below_then HB.out HB.out.size hb); clear hb)
            | (clear T2; go_at_call 14; refine (eput_calls _ _ _ Y (t, fn) _ R4.out rfl HYL.out HT.out).mono ?_; rw [HB0.out, HB1.out]; rintro e w10 ⟨v10, rfl, ho, hb⟩; obtain ⟨A10, c10, rfl, _, hr10, _⟩ := own_rc ho; have R10 := Hd.mk hr10; have HB := Hd.mk (below_then HB.out HB.out.size hb); clear hb ho hr10)
            | (clear T4; go_at_call 15; refine (ents_same' _ _ _ _ _ _ l l _ R10.out (HL.out.below HB.out) rfl HE.out (by have := HN.out; omega)).mono ?_; rintro e w8 ⟨rfl, hb⟩; rw [show decide (l = l) = true from decide_eq_true rfl]; have HB := Hd.mk (below_then HB.out HB.out.size hb); clear hb)
            | (go_at_call 11; refine (known_calls _).mono ?_; rintro e w12 ⟨rfl, hb⟩; have HB := Hd.mk (below_then HB.out HB.out.size hb); clear hb))
          go_ret
          exact ⟨rfl, HB.out⟩
    · go_enter Try.func7, Try.ntmps7
      go_wp2_with (first
        | (go_at_call 13; refine (long_calls _ _ _ l _ (HL.out.below HB.out) HE.out HN.out).mono ?_; rintro e w1 ⟨rfl, hw⟩; obtain rfl := hw; rw [HZ.out])
        | (go_at_call 11; refine (known_calls _).mono ?_; rintro e w12 ⟨rfl, hb⟩; have HB := Hd.mk (below_then HB.out HB.out.size hb); clear hb))
      go_ret
      exact ⟨rfl, HB.out⟩
  · go_enter Try.func7, Try.ntmps7
    go_wp2_with (first
      | (go_at_call 13; refine (long_calls _ _ _ l _ (HL.out.below HB.out) HE.out HN.out).mono ?_; rintro e w1 ⟨rfl, hw⟩; obtain rfl := hw; rw [HZ.out])
      | (go_at_call 11; refine (known_calls _).mono ?_; rintro e w12 ⟨rfl, hb⟩; have HB := Hd.mk (below_then HB.out HB.out.size hb); clear hb))
    go_ret
    exact ⟨rfl, HB.out⟩
end Go.Proofs.Ytiloeaenpanjcaa
