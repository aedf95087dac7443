/- Walks: the reference's answer: a text as a path. -/
import Derived.Test.YtncagcbdgimpfaaDoorT15Parse
namespace Go.Proofs.YtncagcbdgimpfaaDoor
open Go.RowKit Go.Sac Go.Shelf
set_option linter.unusedVariables false
set_option linter.unusedSimpArgs false

def keptB (xs : List ByteArray) : List ByteArray := xs.filter fun x => keepP x.data.toList
theorem keptB_no (xs : List ByteArray) (x : ByteArray) (h : keepP x.data.toList = false) : keptB (xs ++ [x]) = keptB xs := by unfold keptB; simp [h]
theorem keptB_yes (xs : List ByteArray) (x : ByteArray) (h : keepP x.data.toList = true) : keptB (xs ++ [x]) = keptB xs ++ [x] := by unfold keptB; simp [h]
theorem keptB_parts (xs : List ByteArray) (l : List UInt8) (h : xs.map (·.data.toList) = splitL l) : (keptB xs).map (·.data.toList) = partsL l := by
  unfold keptB partsL
  rw [← h, List.filter_map]
  rfl
theorem split_step (cur l : List UInt8) (c : UInt8) (h : ∀ x ∈ cur, x ≠ 47) : splitL (cur ++ c :: l) = if c = 47 then cur :: splitL l else splitL ((cur ++ [c]) ++ l) := by
  split
  · rename_i e; subst e; exact split_app cur l h
  · rw [List.append_assoc]; rfl
theorem abs_at (s : ByteArray) (h1 : 0 < s.size) : absL s.data.toList = ((s[0].toNat : Int) == 47) := by
  have e : s.data.toList = s[0] :: s.data.toList.drop 1 := by rw [← toList_at s 0 h1, ← List.drop_eq_getElem_cons]; rfl
  rw [e]
  show (s[0] == 47) = _
  rw [Bool.eq_iff_iff, beq_iff_eq, beq_iff_eq]
  refine ⟨fun h => by rw [h]; rfl, fun h => UInt8.toNat_inj.1 (by show s[0].toNat = 47; omega)⟩
set_option maxHeartbeats 4000000 in
theorem rparse_core (s : ByteArray) (w : World) (h1 : 0 < s.size) (h2 : s.size ≤ 200) :
    Calls Tryd.prog 12 #[.string s] w fun e w' => RetPE (absR s.data.toList) (namesL s.data.toList) (errR s.data.toList) w e w' := by
  have f1 : decide ((s.size : Int) < 1) = false := by simp; omega
  have f2 : decide ((s.size : Int) > 200) = false := by simp; omega
  obtain ⟨ab, hab⟩ : ∃ ab, ((s[0].toNat : Int) == 47) = ab := ⟨_, rfl⟩
  have HAB : Hd (absL s.data.toList = ab) := ⟨by rw [← hab]; exact abs_at s h1⟩
  have a0 : Blk ((w.alloc (.cells #[.bool false, .slice none 0 0] 25)).alloc (.cells #[.bool ab, .slice none 0 0] 25)) w.heap.size 25 [.bool false, .slice none 0 0] := (Blk.new w _ [.bool false, .slice none 0 0]).alloc _
  have a1 : Blk ((w.alloc (.cells #[.bool false, .slice none 0 0] 25)).alloc (.cells #[.bool ab, .slice none 0 0] 25)) (w.heap.size + 1) 25 [.bool ab, .slice none 0 0] := by
    have := (Blk.new (w.alloc (.cells #[.bool false, .slice none 0 0] 25)) 25 [.bool ab, .slice none 0 0])
    rw [World.size_alloc] at this; exact this
  have HB0 : Hd (Below w.heap.size w ((w.alloc (.cells #[.bool false, .slice none 0 0] 25)).alloc (.cells #[.bool ab, .slice none 0 0] 25))) := ⟨((Below.refl _ w).alloc (Nat.le_refl _) _).alloc (by simp) _⟩
  have HA0 := Hd.mk a0
  have HA1 := Hd.mk a1
  clear a0 a1
  go_enter Tryd.func12, Tryd.ntmps12
  go_wp2_with (fail)
  go_loopw [5, 6] (fun part i wr => ∃ (k : Nat) (pre : List ByteArray) (cur : ByteArray) (v : Value), k ≤ s.size + 1 ∧ i = .int .i64 k ∧ part = .string cur ∧ Hd (k ≤ s.size → pre.map (·.data.toList) ++ splitL (cur.data.toList ++ s.data.toList.drop k) = splitL s.data.toList) ∧ Hd (k = s.size + 1 → pre.map (·.data.toList) = splitL s.data.toList) ∧ Hd (∀ c ∈ cur.data.toList, c ≠ 47) ∧ cur.size ≤ k ∧ pre.length ≤ k ∧
    Hd (Blk wr w.heap.size 25 [.bool false, .slice none 0 0]) ∧ Hd (Blk wr (w.heap.size + 1) 25 [.bool ab, v]) ∧ Hd (wr.ownsRow (w.heap.size + 2) 9 1 v (keptB pre).length (svs (keptB pre))) ∧ Hd (Below w.heap.size w wr) ∧ w.heap.size + 2 ≤ wr.heap.size ∧ Hd (∀ x ∈ keptB pre, goodP x.data.toList = true)) (fun _ i _ => s.size + 1 - (intOf i).toNat)
  case atStart => exact ⟨0, [], ByteArray.empty, .slice none 0 0, by omega, rfl, rfl, ⟨fun _ => rfl⟩, ⟨fun h => by omega⟩, ⟨fun c hc => by cases hc⟩, Nat.le_refl _, Nat.le_refl _, HA0, HA1, ⟨World.ownsRow_nil _ _ _ _⟩, HB0, by simp, ⟨fun x hx => by cases hx⟩⟩
  case round =>
    clear HA0 HA1 HB0
    obtain ⟨k, pre, cur, v, hk, rfl, rfl, HS, HF, HN, hck, hpk, HA0, HA1, HR, HB, hz, HG⟩ := hrel
    have hkl : (keptB pre).length ≤ pre.length := List.length_filter_le _ _
    by_cases hfin : k = s.size + 1
    · subst hfin
      have hpm := HF.out rfl
      have hok : okL s.data.toList = true := by
        unfold okL
        have hp : (partsL s.data.toList).all goodP = true := by
          rw [← keptB_parts pre _ hpm, List.all_map, List.all_eq_true]
          exact fun y hy => HG.out y hy
        rw [hp]
        have hl : s.data.toList.length = s.size := by simp
        have hne : s.data.toList.isEmpty = false := by
          cases hE : s.data.toList.isEmpty
          · rfl
          · rw [List.isEmpty_iff] at hE; rw [hE] at hl; simp at hl; omega
        rw [hl, hne]
        simp; omega
      have HN2 := Hd.mk (names_of hok (keptB_parts pre _ hpm))
      have HOK := Hd.mk hok
      clear hpm hok
      have c0 := HA1.out.cell (i := 0) rfl
      have c1' := HA1.out.cell (i := 1) rfl
      have g0 := HA0.out.cell (i := 0) rfl
      have g1 := HA0.out.cell (i := 1) rfl
      have gf0 := HA0.out.frz 0
      have gf1 := HA0.out.frz 1
      obtain ⟨A1, c1, hvf, _, _, _⟩ := own_rc HR.out
      subst hvf
      go_wp2_with (fail)
      have K0 := ((HA0.out.set 0 (.bool ab)).set 1 (.slice A1 (keptB pre).length c1))
      have hB3 := ((HB.out.setCell (p := ⟨w.heap.size, 0, none⟩) (Nat.le_refl _) (.bool ab)).setCell (p := ⟨w.heap.size, 1, none⟩) (Nat.le_refl _) (.slice A1 (keptB pre).length c1))
      have hrow3 := row_far (row_far HR.out (p := ⟨w.heap.size, 0, none⟩) (by show w.heap.size < w.heap.size + 2; omega) (.bool ab)) (p := ⟨w.heap.size, 1, none⟩) (by show w.heap.size < w.heap.size + 2; omega) (.slice A1 (keptB pre).length c1)
      obtain ⟨A2, c2, hvf2, hle2, hR2, _⟩ := own_rc hrow3
      injection hvf2 with q1 q2 q3
      subst q1; subst q3
      refine bodyPost_ret (results_cell_slot rfl _ _ w.heap.size _ _ rfl rfl (load_row K0 Tryd.underlying25 rfl info_path)) rfl ?_
      refine ⟨A1, c1, ?_, ?_, ?_, hB3⟩
      · rw [absR, HOK.out, HAB.out, errR, if_pos HOK.out, ← HN2.out]; rfl
      · rw [← HN2.out]; exact hle2
      · rw [← HN2.out]; exact hR2
    · have hks : k ≤ s.size := by omega
      by_cases hA : k < s.size ∧ ((s[k]!.toNat : Int) != 47) = true
      · obtain ⟨hlt, hc⟩ := hA
        rw [getElem!_pos s k hlt] at hc
        have hc47 : Hd (s[k] ≠ 47) := ⟨by intro e; rw [e] at hc; exact absurd hc (by decide)⟩
        have HC : Hd ((cur ++ s.extract k (k + 1)).data.toList = cur.data.toList ++ [s[k]]) := ⟨by
          rw [ByteArray.data_append, Array.toList_append, ext_list, List.take_succ_eq_append_getElem (by simpa using hlt), List.drop_append_of_le_length (by simp; omega), List.drop_of_length_le (by simp; omega)]; rfl⟩
        have HD : Hd (s.data.toList.drop k = s[k] :: s.data.toList.drop (k + 1)) := ⟨List.drop_eq_getElem_cons (by simpa using hlt)⟩
        have HSZ : Hd ((cur ++ s.extract k (k + 1)).size ≤ k + 1) := ⟨by rw [ByteArray.size_append, ByteArray.size_extract]; omega⟩
        go_wp2_with (fail)
        go_roundw
        case rel =>
          refine ⟨k + 1, pre, _, v, by omega, by go_num, rfl, ⟨fun _ => ?_⟩, ⟨fun h => by omega⟩, ⟨?_⟩, HSZ.out, by omega, HA0, HA1, HR, HB, hz, HG⟩
          · rw [HC.out, ← HS.out hks, HD.out, split_step _ _ _ HN.out, if_neg hc47.out]
          · rw [HC.out]
            intro c hc
            rcases List.mem_append.1 hc with h | h
            · exact HN.out c h
            · simp at h; subst h; exact hc47.out
        case measure => simp [intOf]; omega
      · have HNEW : Hd ((k + 1 ≤ s.size → (pre ++ [cur]).map (·.data.toList) ++ splitL (s.data.toList.drop (k + 1)) = splitL s.data.toList) ∧ (k + 1 = s.size + 1 → (pre ++ [cur]).map (·.data.toList) = splitL s.data.toList)) := by
          refine ⟨⟨fun h => ?_, fun h => ?_⟩⟩
          · have hlt : k < s.size := by omega
            have hc : s[k] = 47 := by
              have : ¬ ((s[k]!.toNat : Int) != 47) = true := fun h => hA ⟨hlt, h⟩
              rw [getElem!_pos s k hlt] at this
              simp at this
              exact UInt8.toNat_inj.1 (by show s[k].toNat = 47; omega)
            have hd : s.data.toList.drop k = s[k] :: s.data.toList.drop (k + 1) := List.drop_eq_getElem_cons (by simpa using hlt)
            rw [← HS.out hks, hd, split_step _ _ _ HN.out, if_pos hc]; simp
          · rw [← HS.out hks, List.drop_of_length_le (by simp; omega), List.append_nil, split_none _ HN.out]; simp
        have HIN : Hd (cur.data.toList ∈ splitL s.data.toList) := ⟨by
          rcases (by omega : k + 1 ≤ s.size ∨ k + 1 = s.size + 1) with h | h
          · rw [← HNEW.out.1 h]; simp
          · rw [← HNEW.out.2 h]; simp⟩
        have hcond : (k < s.size ∧ ∃ h : k < s.size, ((s[k].toNat : Int) != 47) = false) ∨ ¬ k < s.size := by
          by_cases hlt : k < s.size
          · refine Or.inl ⟨hlt, hlt, ?_⟩
            have : ¬ ((s[k]!.toNat : Int) != 47) = true := fun h => hA ⟨hlt, h⟩
            rw [getElem!_pos s k hlt] at this
            simpa using this
          · exact Or.inr hlt
        clear hA
        rcases part_ways cur with ⟨e1, k1⟩ | ⟨e1, e2, k1⟩ | ⟨e1, e2, k1, e3, k2⟩ | ⟨e1, e2, k1, e3, k2⟩
        · have HK := Hd.mk k1
          clear k1
          rcases hcond with ⟨hlt, _, hc⟩ | hlt
          all_goals
            go_wp2_with (fail)
            go_roundw
            case rel =>
              refine ⟨k + 1, pre ++ [cur], ByteArray.empty, v, by omega, by go_num, rfl, ⟨fun h => HNEW.out.1 h⟩, ⟨HNEW.out.2⟩, ⟨fun c hc => by cases hc⟩, by show 0 ≤ k + 1; omega, by simp; omega, HA0, HA1, ?_, HB, hz, ?_⟩
              · rw [keptB_no _ _ HK.out]; exact HR
              · rw [keptB_no _ _ HK.out]; exact HG
            case measure => simp [intOf]; omega
        · have HK := Hd.mk k1
          clear k1
          rcases hcond with ⟨hlt, _, hc⟩ | hlt
          all_goals
            go_wp2_with (fail)
            go_roundw
            case rel =>
              refine ⟨k + 1, pre ++ [cur], ByteArray.empty, v, by omega, by go_num, rfl, ⟨fun h => HNEW.out.1 h⟩, ⟨HNEW.out.2⟩, ⟨fun c hc => by cases hc⟩, by show 0 ≤ k + 1; omega, by simp; omega, HA0, HA1, ?_, HB, hz, ?_⟩
              · rw [keptB_no _ _ HK.out]; exact HR
              · rw [keptB_no _ _ HK.out]; exact HG
            case measure => simp [intOf]; omega
        · have HK := Hd.mk k1
          have HK2 := Hd.mk k2
          clear k1 k2
          have HNM : Hd (namedL cur.data.toList = namedL cur.data.toList) := ⟨rfl⟩
          obtain ⟨A1, c1, hvf, _, _, _⟩ := own_rc HR.out
          subst hvf
          have hcc := HA1.out.cell (i := 1) rfl
          have hcf := HA1.out.frz 1
          rcases hcond with ⟨hlt, _, hc⟩ | hlt
          all_goals
            go_wp2_with (first
              | (go_at_call 14; refine (rnamed_calls _ _ (by omega)).mono ?_; rintro e w2 ⟨rfl, rfl⟩; rw [HNM.out])
              | (at_builtin; refine app_rc (w.heap.size + 2) 23 9 (.string ByteArray.empty) 1 16 (.tmp 58) (.tmp 60) rfl rfl Tryd.underlying23 info_str rfl (by decide) (by decide) (.slice A1 (keptB pre).length c1) (keptB pre).length (svs (keptB pre)) [.string cur] (some ⟨_, 0, none⟩) 1 1 rfl rfl (own_alloc HR.out _) (Rc.one _ _ _) (by simp) (by simp [Value.oneCell']) (by simp; omega) (by omega) ((keptB pre).length + 1) (svs (keptB pre) ++ [.string cur]) rfl rfl ?_; intro v' w1 hown' hgrow hat; obtain ⟨hq1, hq2, hq3, hq4, hq5, hq6, hq7, hq8⟩ := blk_appended (n₀ := w.heap.size) (j := 1) HA1.out (by omega) (by omega) hz HR.out hown' hgrow; obtain ⟨g', cap', rfl⟩ := ownsRow_succ hown'; have hc1 := hq1.cell (i := 1) rfl; have hf1 := hq1.frz 1; have HQ2 := Hd.mk hq2; have HQ3 := Hd.mk hq3; have HQ5 := Hd.mk hq5; have HQ6 := Hd.mk (hq6 _ _ _ (by omega) (by omega) HA0.out); have HQ8 := Hd.mk hq8; clear hq1 hq2 hq3 hq4 hq5 hq6 hq7 hq8 hgrow hat hown'))
            go_roundw
            case rel =>
              refine ⟨k + 1, pre ++ [cur], ByteArray.empty, _, by omega, by go_num, rfl, ⟨fun h => ?_⟩, ⟨HNEW.out.2⟩, ⟨fun c hc => by cases hc⟩, by show 0 ≤ k + 1; omega, by simp; omega, HQ6, HQ2, ?_, ⟨HB.out.trans HQ5.out⟩, Nat.le_trans hz HQ8.out, ?_⟩
              · exact HNEW.out.1 h
              · rw [keptB_yes _ _ HK.out]; exact ⟨by simpa [svs] using HQ3.out⟩
              · rw [keptB_yes _ _ HK.out]
                refine ⟨fun y hy => ?_⟩
                rcases List.mem_append.1 hy with hy | hy
                · exact HG.out y hy
                · simp at hy; subst hy; exact HK2.out
            case measure => simp [intOf]; omega
        · cases hnm : namedL cur.data.toList
          · have HK := Hd.mk k1
            have HK2 : Hd (goodP cur.data.toList = false) := ⟨by rw [k2, hnm]⟩
            have HNM := Hd.mk hnm
            clear k1 k2 hnm
            have g0 := HA0.out.cell (i := 0) rfl
            have g1 := HA0.out.cell (i := 1) rfl
            have gf0 := HA0.out.frz 0
            have gf1 := HA0.out.frz 1
            have hok : okL s.data.toList = false := by
              unfold okL
              have hin : cur.data.toList ∈ partsL s.data.toList := by
                unfold partsL; rw [List.mem_filter]; exact ⟨HIN.out, HK.out⟩
              have : (partsL s.data.toList).all goodP = false := by
                rw [List.all_eq_false]; exact ⟨_, hin, by rw [HK2.out]; simp⟩
              rw [this]; simp
            have HOK := Hd.mk hok
            clear hok
            rcases hcond with ⟨hlt, _, hc⟩ | hlt
            all_goals
              go_wp2_with (go_at_call 14; refine (rnamed_calls _ _ (by omega)).mono ?_; rintro e w2 ⟨rfl, rfl⟩; rw [HNM.out])
              have K0 := ((HA0.out.set 0 (.bool false)).set 1 (.slice none 0 0))
              have hB3 := ((HB.out.setCell (p := ⟨w.heap.size, 0, none⟩) (Nat.le_refl _) (.bool false)).setCell (p := ⟨w.heap.size, 1, none⟩) (Nat.le_refl _) (.slice none 0 0))
              refine bodyPost_ret (results_cell_slot rfl _ _ w.heap.size _ _ rfl rfl (load_row K0 Tryd.underlying25 rfl info_path)) rfl ?_
              rw [absR, errR, namesL, HOK.out]
              exact ⟨none, 0, rfl, Nat.le_refl _, Rc.nil _ _, hB3⟩
          · have HK := Hd.mk k1
            have HK2 : Hd (goodP cur.data.toList = true) := ⟨by rw [k2, hnm]⟩
            have HNM := Hd.mk hnm
            clear k1 k2 hnm
            obtain ⟨A1, c1, hvf, _, _, _⟩ := own_rc HR.out
            subst hvf
            have hcc := HA1.out.cell (i := 1) rfl
            have hcf := HA1.out.frz 1
            rcases hcond with ⟨hlt, _, hc⟩ | hlt
            all_goals
              go_wp2_with (first
                | (go_at_call 14; refine (rnamed_calls _ _ (by omega)).mono ?_; rintro e w2 ⟨rfl, rfl⟩; rw [HNM.out])
                | (at_builtin; refine app_rc (w.heap.size + 2) 23 9 (.string ByteArray.empty) 1 16 (.tmp 58) (.tmp 60) rfl rfl Tryd.underlying23 info_str rfl (by decide) (by decide) (.slice A1 (keptB pre).length c1) (keptB pre).length (svs (keptB pre)) [.string cur] (some ⟨_, 0, none⟩) 1 1 rfl rfl (own_alloc HR.out _) (Rc.one _ _ _) (by simp) (by simp [Value.oneCell']) (by simp; omega) (by omega) ((keptB pre).length + 1) (svs (keptB pre) ++ [.string cur]) rfl rfl ?_; intro v' w1 hown' hgrow hat; obtain ⟨hq1, hq2, hq3, hq4, hq5, hq6, hq7, hq8⟩ := blk_appended (n₀ := w.heap.size) (j := 1) HA1.out (by omega) (by omega) hz HR.out hown' hgrow; obtain ⟨g', cap', rfl⟩ := ownsRow_succ hown'; have hc1 := hq1.cell (i := 1) rfl; have hf1 := hq1.frz 1; have HQ2 := Hd.mk hq2; have HQ3 := Hd.mk hq3; have HQ5 := Hd.mk hq5; have HQ6 := Hd.mk (hq6 _ _ _ (by omega) (by omega) HA0.out); have HQ8 := Hd.mk hq8; clear hq1 hq2 hq3 hq4 hq5 hq6 hq7 hq8 hgrow hat hown'))
              go_roundw
              case rel =>
                refine ⟨k + 1, pre ++ [cur], ByteArray.empty, _, by omega, by go_num, rfl, ⟨fun h => ?_⟩, ⟨HNEW.out.2⟩, ⟨fun c hc => by cases hc⟩, by show 0 ≤ k + 1; omega, by simp; omega, HQ6, HQ2, ?_, ⟨HB.out.trans HQ5.out⟩, Nat.le_trans hz HQ8.out, ?_⟩
                · exact HNEW.out.1 h
                · rw [keptB_yes _ _ HK.out]; exact ⟨by simpa [svs] using HQ3.out⟩
                · rw [keptB_yes _ _ HK.out]
                  refine ⟨fun y hy => ?_⟩
                  rcases List.mem_append.1 hy with hy | hy
                  · exact HG.out y hy
                  · simp at hy; subst hy; exact HK2.out
              case measure => simp [intOf]; omega
end Go.Proofs.YtncagcbdgimpfaaDoor
