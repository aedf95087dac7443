/- Walks: the law PathBack. -/
import Derived.Test.YtncagcbdgimpfaaDoorT15Box
namespace Go.Proofs.YtncagcbdgimpfaaDoor
open Go.RowKit Go.Sac Go.Shelf
set_option linter.unusedVariables false
set_option linter.unusedSimpArgs false

theorem law_back_big (s t : ByteArray) (w : World) (h : decide ((s.size : Int) > 90) = true ∨ (decide ((s.size : Int) > 90) = false ∧ decide ((t.size : Int) > 90) = true)) : Calls Tryd.prog 6 #[.string s, .string t] w (RetT w) := by
  rcases h with h | ⟨h, h2⟩
  all_goals
    go_enter Tryd.func6, Tryd.ntmps6
    go_wp2_with (go_at_call 10; refine (known_calls _).mono ?_; rintro e w1 ⟨rfl, hb1⟩)
    go_ret
    exact ⟨rfl, hb1⟩
set_option maxHeartbeats 4000000 in
theorem law_back_no (s t : ByteArray) (w : World) (h : decide ((s.size : Int) > 90) = false) (h2 : decide ((t.size : Int) > 90) = false) (PS : Hd (ParseIs s false [] 11)) : Calls Tryd.prog 6 #[.string s, .string t] w (RetT w) := by
  have HS := Hd.mk (Boxes.none w)
  go_enter Tryd.func6, Tryd.ntmps6
  go_wp2_with (first
    | (go_at_call 11; refine (PS.out _).mono ?_; rintro e w1 ⟨A, c, rfl, hc, hr, hb⟩; have HS := Hd.mk ((HS.out.call hb).push false hr hc); clear hr hb hc)
    | (refine box_load HS 0 _ rfl rfl _ rfl rfl ?_)
    | (go_at_call 13; refine (rsame_calls false false _ _ _ _ _ _ [] [] _ (Rc.nil _ _) (Rc.nil _ _) rfl rfl (by decide) (by decide)).mono ?_; rintro e w2 ⟨rfl, hb2⟩; rw [eqP_yes ⟨rfl, rfl⟩]; have HS := Hd.mk (HS.out.call hb2); clear hb2)
    | (go_at_call 10; refine (known_calls _).mono ?_; rintro e w1 ⟨rfl, hb1⟩; have HS := Hd.mk (HS.out.call hb1); clear hb1))
  go_ret
  exact ⟨rfl, HS.out.bel⟩
set_option maxHeartbeats 8000000 in
theorem law_back_C (s t : ByteArray) (w : World) (h : decide ((s.size : Int) > 90) = false) (h2 : decide ((t.size : Int) > 90) = false) (hs : s.size ≤ 90) (ht : t.size ≤ 90) (B : Bool) (X Y : List ByteArray) (HXl : Hd (X.length ≤ 201)) (HJ : Hd ((joinL X).length ≤ 1000000)) (PS : Hd (ParseIs s B X 0)) (PP : Hd (ParseIs (mkS (printL B X)) B X 0)) (PD : Hd (ParseIs (s ++ ⟨#[47, 47, 46, 47]⟩) B X 0)) (PT : Hd (ParseIs t false [] 11)) :
    Calls Tryd.prog 6 #[.string s, .string t] w (RetT w) := by
  have HS := Hd.mk (Boxes.none w)
  have T1 : Hd True := ⟨trivial⟩
  have T2 : Hd True := ⟨trivial⟩
  have T3 : Hd True := ⟨trivial⟩
  have T4 : Hd True := ⟨trivial⟩
  have T5 : Hd True := ⟨trivial⟩
  have S1 : Hd True := ⟨trivial⟩
  have S2 : Hd True := ⟨trivial⟩
  have S3 : Hd True := ⟨trivial⟩
  go_enter Tryd.func6, Tryd.ntmps6
  go_wp2_with (first
    | (go_at_call 11; first
        | (clear T1; refine (PS.out _).mono ?_; rintro e w1 ⟨A, c, rfl, hc, hr, hb⟩; have HS := Hd.mk ((HS.out.call hb).push B hr hc); clear hr hb hc)
        | (clear T2; refine (PP.out _).mono ?_; rintro e w2 ⟨A2, c2, rfl, hc, hr, hb⟩; have HS := Hd.mk ((HS.out.call hb).push B hr hc); clear hr hb hc)
        | (clear T3; refine (PD.out _).mono ?_; rintro e w3 ⟨A3, c3, rfl, hc, hr, hb⟩; have HS := Hd.mk ((HS.out.call hb).push B hr hc); clear hr hb hc)
        | (clear T4; refine (PT.out _).mono ?_; rintro e w4 ⟨A4, c4, rfl, hc, hr, hb⟩; have HS := Hd.mk ((HS.out.call hb).push false hr hc); clear hr hb hc))
    | (first | (refine box_load HS 0 _ rfl rfl _ rfl rfl ?_) | (refine box_load HS 1 _ rfl rfl _ rfl rfl ?_) | (refine box_load HS 2 _ rfl rfl _ rfl rfl ?_) | (refine box_load HS 3 _ rfl rfl _ rfl rfl ?_) | (refine box_load HS 4 _ rfl rfl _ rfl rfl ?_) | (refine box_load HS 5 _ rfl rfl _ rfl rfl ?_))
    | (go_at_call 16; refine (print_calls B _ _ _ X _ (HS.out.all 0 _ rfl).rc rfl (HS.out.all 0 _ rfl).cap (by have := HXl.out; omega) HJ.out).mono ?_; rintro e w5 ⟨rfl, hb⟩; have HS := Hd.mk (HS.out.call hb); clear hb)
    | (go_at_call 15; first
        | (clear S1; refine (same_calls B B _ _ _ _ _ _ X X _ (HS.out.all 2 _ rfl).rc (HS.out.all 1 _ rfl).rc rfl rfl (by have := HXl.out; omega) (by have := HXl.out; omega)).mono ?_; rintro e w6 ⟨rfl, hb⟩; rw [eqP_yes ⟨rfl, rfl⟩]; have HS := Hd.mk (HS.out.call hb); clear hb)
        | (clear S2; refine (same_calls B B _ _ _ _ _ _ X X _ (HS.out.all 2 _ rfl).rc (HS.out.all 0 _ rfl).rc rfl rfl (by have := HXl.out; omega) (by have := HXl.out; omega)).mono ?_; rintro e w7 ⟨rfl, hb⟩; rw [eqP_yes ⟨rfl, rfl⟩]; have HS := Hd.mk (HS.out.call hb); clear hb))
    | (go_at_call 10; refine (known_calls _).mono ?_; rintro e w8 ⟨rfl, hb⟩; have HS := Hd.mk (HS.out.call hb); clear hb))
  go_ret
  exact ⟨rfl, HS.out.bel⟩
set_option maxHeartbeats 8000000 in
theorem law_back_D (s t : ByteArray) (w : World) (h : decide ((s.size : Int) > 90) = false) (h2 : decide ((t.size : Int) > 90) = false) (hs : s.size ≤ 90) (ht : t.size ≤ 90) (B : Bool) (X Y : List ByteArray) (HXl : Hd (X.length ≤ 201)) (HJ : Hd ((joinL X).length ≤ 1000000)) (PS : Hd (ParseIs s B X 0)) (PP : Hd (ParseIs (mkS (printL B X)) B X 0)) (PD : Hd (ParseIs (s ++ ⟨#[47, 47, 46, 47]⟩) B X 0)) (PT : Hd (ParseIs t true Y 0)) (HYl : Hd (Y.length ≤ 201)) :
    Calls Tryd.prog 6 #[.string s, .string t] w (RetT w) := by
  have HS := Hd.mk (Boxes.none w)
  have T1 : Hd True := ⟨trivial⟩
  have T2 : Hd True := ⟨trivial⟩
  have T3 : Hd True := ⟨trivial⟩
  have T4 : Hd True := ⟨trivial⟩
  have T5 : Hd True := ⟨trivial⟩
  have S1 : Hd True := ⟨trivial⟩
  have S2 : Hd True := ⟨trivial⟩
  have S3 : Hd True := ⟨trivial⟩
  go_enter Tryd.func6, Tryd.ntmps6
  go_wp2_with (first
    | (go_at_call 11; first
        | (clear T1; refine (PS.out _).mono ?_; rintro e w1 ⟨A, c, rfl, hc, hr, hb⟩; have HS := Hd.mk ((HS.out.call hb).push B hr hc); clear hr hb hc)
        | (clear T2; refine (PP.out _).mono ?_; rintro e w2 ⟨A2, c2, rfl, hc, hr, hb⟩; have HS := Hd.mk ((HS.out.call hb).push B hr hc); clear hr hb hc)
        | (clear T3; refine (PD.out _).mono ?_; rintro e w3 ⟨A3, c3, rfl, hc, hr, hb⟩; have HS := Hd.mk ((HS.out.call hb).push B hr hc); clear hr hb hc)
        | (clear T4; refine (PT.out _).mono ?_; rintro e w4 ⟨A4, c4, rfl, hc, hr, hb⟩; have HS := Hd.mk ((HS.out.call hb).push true hr hc); clear hr hb hc))
    | (first | (refine box_load HS 0 _ rfl rfl _ rfl rfl ?_) | (refine box_load HS 1 _ rfl rfl _ rfl rfl ?_) | (refine box_load HS 2 _ rfl rfl _ rfl rfl ?_) | (refine box_load HS 3 _ rfl rfl _ rfl rfl ?_) | (refine box_load HS 4 _ rfl rfl _ rfl rfl ?_) | (refine box_load HS 5 _ rfl rfl _ rfl rfl ?_))
    | (go_at_call 16; refine (print_calls B _ _ _ X _ (HS.out.all 0 _ rfl).rc rfl (HS.out.all 0 _ rfl).cap (by have := HXl.out; omega) HJ.out).mono ?_; rintro e w5 ⟨rfl, hb⟩; have HS := Hd.mk (HS.out.call hb); clear hb)
    | (go_at_call 15; first
        | (clear S1; refine (same_calls B B _ _ _ _ _ _ X X _ (HS.out.all 2 _ rfl).rc (HS.out.all 1 _ rfl).rc rfl rfl (by have := HXl.out; omega) (by have := HXl.out; omega)).mono ?_; rintro e w6 ⟨rfl, hb⟩; rw [eqP_yes ⟨rfl, rfl⟩]; have HS := Hd.mk (HS.out.call hb); clear hb)
        | (clear S2; refine (same_calls B B _ _ _ _ _ _ X X _ (HS.out.all 2 _ rfl).rc (HS.out.all 0 _ rfl).rc rfl rfl (by have := HXl.out; omega) (by have := HXl.out; omega)).mono ?_; rintro e w7 ⟨rfl, hb⟩; rw [eqP_yes ⟨rfl, rfl⟩]; have HS := Hd.mk (HS.out.call hb); clear hb)
        | (clear S3; refine (same_calls true true _ _ _ _ _ _ Y Y _ (HS.out.all 0 _ rfl).rc (HS.out.all 1 _ rfl).rc rfl rfl (by have := HYl.out; omega) (by have := HYl.out; omega)).mono ?_; rintro e w9 ⟨rfl, hb⟩; rw [eqP_yes ⟨rfl, rfl⟩]; have HS := Hd.mk (HS.out.call hb); clear hb))
    | (go_at_call 17; refine (join_t B _ _ _ _ _ _ X Y _ (HS.out.all 3 _ rfl).rc (HS.out.all 0 _ rfl).rc rfl rfl (by have := HXl.out; have := HYl.out; omega)).mono ?_; rintro e w10 ⟨A5, c5, rfl, hc, hr, hb⟩; have HS := Hd.mk ((HS.out.call hb).push true hr hc); have k0 := (HS.out.all 1 _ rfl).blk.cell (i := 0) rfl; clear hr hb hc)
    | (go_at_call 10; refine (known_calls _).mono ?_; rintro e w8 ⟨rfl, hb⟩; have HS := Hd.mk (HS.out.call hb); clear hb))
  go_ret
  exact ⟨rfl, HS.out.bel⟩
set_option maxHeartbeats 8000000 in
theorem law_back_E (s t : ByteArray) (w : World) (h : decide ((s.size : Int) > 90) = false) (h2 : decide ((t.size : Int) > 90) = false) (hs : s.size ≤ 90) (ht : t.size ≤ 90) (B : Bool) (X Y : List ByteArray) (HXl : Hd (X.length ≤ 201)) (HJ : Hd ((joinL X).length ≤ 1000000)) (PS : Hd (ParseIs s B X 0)) (PP : Hd (ParseIs (mkS (printL B X)) B X 0)) (PD : Hd (ParseIs (s ++ ⟨#[47, 47, 46, 47]⟩) B X 0)) (PT : Hd (ParseIs t false Y 0)) (HYl : Hd (Y.length ≤ 201)) (Z : List ByteArray) (HZ : Hd (Z = X ++ Y)) (HZl : Hd (Z.length ≤ 402)) (PJ : Hd (ParseIs (s ++ ⟨#[47]⟩ ++ t) B Z 0)) (h3 : (s ++ ({ data := #[47] } : ByteArray)).size ≤ 91) :
    Calls Tryd.prog 6 #[.string s, .string t] w (RetT w) := by
  have HS := Hd.mk (Boxes.none w)
  have T1 : Hd True := ⟨trivial⟩
  have T2 : Hd True := ⟨trivial⟩
  have T3 : Hd True := ⟨trivial⟩
  have T4 : Hd True := ⟨trivial⟩
  have T5 : Hd True := ⟨trivial⟩
  have S1 : Hd True := ⟨trivial⟩
  have S2 : Hd True := ⟨trivial⟩
  have S3 : Hd True := ⟨trivial⟩
  go_enter Tryd.func6, Tryd.ntmps6
  go_wp2_with (first
    | (go_at_call 11; first
        | (clear T1; refine (PS.out _).mono ?_; rintro e w1 ⟨A, c, rfl, hc, hr, hb⟩; have HS := Hd.mk ((HS.out.call hb).push B hr hc); clear hr hb hc)
        | (clear T2; refine (PP.out _).mono ?_; rintro e w2 ⟨A2, c2, rfl, hc, hr, hb⟩; have HS := Hd.mk ((HS.out.call hb).push B hr hc); clear hr hb hc)
        | (clear T3; refine (PD.out _).mono ?_; rintro e w3 ⟨A3, c3, rfl, hc, hr, hb⟩; have HS := Hd.mk ((HS.out.call hb).push B hr hc); clear hr hb hc)
        | (clear T4; refine (PT.out _).mono ?_; rintro e w4 ⟨A4, c4, rfl, hc, hr, hb⟩; have HS := Hd.mk ((HS.out.call hb).push false hr hc); clear hr hb hc)
        | (clear T5; refine (PJ.out _).mono ?_; rintro e w11 ⟨A6, c6, rfl, hc, hr, hb⟩; have HS := Hd.mk ((HS.out.call hb).push B hr hc); clear hr hb hc))
    | (first | (refine box_load HS 0 _ rfl rfl _ rfl rfl ?_) | (refine box_load HS 1 _ rfl rfl _ rfl rfl ?_) | (refine box_load HS 2 _ rfl rfl _ rfl rfl ?_) | (refine box_load HS 3 _ rfl rfl _ rfl rfl ?_) | (refine box_load HS 4 _ rfl rfl _ rfl rfl ?_) | (refine box_load HS 5 _ rfl rfl _ rfl rfl ?_))
    | (go_at_call 16; refine (print_calls B _ _ _ X _ (HS.out.all 0 _ rfl).rc rfl (HS.out.all 0 _ rfl).cap (by have := HXl.out; omega) HJ.out).mono ?_; rintro e w5 ⟨rfl, hb⟩; have HS := Hd.mk (HS.out.call hb); clear hb)
    | (go_at_call 15; first
        | (clear S1; refine (same_calls B B _ _ _ _ _ _ X X _ (HS.out.all 2 _ rfl).rc (HS.out.all 1 _ rfl).rc rfl rfl (by have := HXl.out; omega) (by have := HXl.out; omega)).mono ?_; rintro e w6 ⟨rfl, hb⟩; rw [eqP_yes ⟨rfl, rfl⟩]; have HS := Hd.mk (HS.out.call hb); clear hb)
        | (clear S2; refine (same_calls B B _ _ _ _ _ _ X X _ (HS.out.all 2 _ rfl).rc (HS.out.all 0 _ rfl).rc rfl rfl (by have := HXl.out; omega) (by have := HXl.out; omega)).mono ?_; rintro e w7 ⟨rfl, hb⟩; rw [eqP_yes ⟨rfl, rfl⟩]; have HS := Hd.mk (HS.out.call hb); clear hb)
        | (clear S3; refine (same_calls B B _ _ _ _ _ _ Z Z _ (HS.out.all 1 _ rfl).rc (HS.out.all 0 _ rfl).rc rfl rfl (by have := HZl.out; omega) (by have := HZl.out; omega)).mono ?_; rintro e w9 ⟨rfl, hb⟩; rw [eqP_yes ⟨rfl, rfl⟩]; have HS := Hd.mk (HS.out.call hb); clear hb))
    | (go_at_call 17; refine (join_f B _ _ _ _ _ _ X Y Z _ HZ.out (HS.out.all 3 _ rfl).rc (HS.out.all 0 _ rfl).rc rfl rfl (by have := HXl.out; have := HYl.out; omega)).mono ?_; rintro e w10 ⟨A5, c5, rfl, hc, hr, hb⟩; have HS := Hd.mk ((HS.out.call hb).push B hr hc); have k0 := (HS.out.all 1 _ rfl).blk.cell (i := 0) rfl; clear hr hb hc)
    | (go_at_call 10; refine (known_calls _).mono ?_; rintro e w8 ⟨rfl, hb⟩; have HS := Hd.mk (HS.out.call hb); clear hb))
  go_ret
  exact ⟨rfl, HS.out.bel⟩
theorem app_data (s t : ByteArray) (l m : List UInt8) (h : s.data.toList = l) (k : t.data.toList = m) : (s ++ t).data.toList = l ++ m := by
  rw [ByteArray.data_append, Array.toList_append, h, k]
theorem law_back (s t : ByteArray) (w : World) (hs0 : s.size ≤ 140737488351232) (ht0 : t.size ≤ 140737488351232) : Calls Tryd.prog 6 #[.string s, .string t] w (RetT w) := by
  by_cases hs : s.size ≤ 90
  · have f1 : decide ((s.size : Int) > 90) = false := by simp; omega
    by_cases ht : t.size ≤ 90
    · have f2 : decide ((t.size : Int) > 90) = false := by simp; omega
      have hsl : s.data.toList.length = s.size := by simp
      have htl : t.data.toList.length = t.size := by simp
      cases hok : okL s.data.toList
      · exact law_back_no s t w f1 f2 (parse_is s _ rfl (by omega) (err_no hok))
      · have PS := parse_is s _ rfl (by omega) (⟨rfl, by unfold errR; rw [if_pos hok], rfl⟩ : absR s.data.toList = absR s.data.toList ∧ errR s.data.toList = 0 ∧ namesL s.data.toList = namesL s.data.toList)
        have hb := print_back hok (by omega)
        have hjl := names_join s.data.toList
        have hpl : (printL (absR s.data.toList) (namesL s.data.toList)).length ≤ 300 := by
          unfold printL; split
          · simp; omega
          · split
            · simp
            · omega
        have PP := parse_is (mkS (printL (absR s.data.toList) (namesL s.data.toList))) _ rfl (by rw [mkS_size]; omega) hb
        have PD := parse_is (s ++ ⟨#[47, 47, 46, 47]⟩) _ (app_data s _ _ [47, 47, 46, 47] rfl rfl) (by rw [ByteArray.size_append]; have : (⟨#[47, 47, 46, 47]⟩ : ByteArray).size = 4 := rfl; omega) (dots_back hok (by omega))
        have HXl := Hd.mk (names_le s.data.toList)
        have HJ : Hd ((joinL (namesL s.data.toList)).length ≤ 1000000) := ⟨by omega⟩
        cases hkt : okL t.data.toList
        · exact law_back_C s t w f1 f2 hs ht _ _ [] HXl HJ PS PP PD (parse_is t _ rfl (by omega) (err_no hkt))
        · have HYl := Hd.mk (names_le t.data.toList)
          have et : errR t.data.toList = 0 := by unfold errR; rw [if_pos hkt]
          cases hab : absR t.data.toList
          · refine law_back_E s t w f1 f2 hs ht _ _ (namesL t.data.toList) HXl HJ PS PP PD (parse_is t _ rfl (by omega) ⟨hab, et, rfl⟩) HYl (namesL s.data.toList ++ namesL t.data.toList) ⟨rfl⟩ ⟨by rw [List.length_append]; have := HXl.out; have := HYl.out; omega⟩ (parse_is _ (s.data.toList ++ 47 :: t.data.toList) ?_ ?_ (slash_join hok hkt (by omega))) ?_
            · rw [app_data (s ++ ⟨#[47]⟩) t _ t.data.toList (app_data s _ _ [47] rfl rfl) rfl, List.append_assoc]; rfl
            · rw [ByteArray.size_append, ByteArray.size_append]; have : (⟨#[47]⟩ : ByteArray).size = 1 := rfl; omega
            · rw [ByteArray.size_append]; have : (⟨#[47]⟩ : ByteArray).size = 1 := rfl; omega
          · exact law_back_D s t w f1 f2 hs ht _ _ (namesL t.data.toList) HXl HJ PS PP PD (parse_is t _ rfl (by omega) ⟨hab, et, rfl⟩) HYl
    · exact law_back_big s t w (Or.inr ⟨f1, by simp; omega⟩)
  · exact law_back_big s t w (Or.inl (by simp; omega))
end Go.Proofs.YtncagcbdgimpfaaDoor
