/- Walks: the law PathNames, where the texts are short in all. -/
import Derived.Test.YtncagcbdgimpfaaDoorT15Box
import Derived.Test.YtncagcbdgimpfaaDoorRowStr
namespace Go.Proofs.YtncagcbdgimpfaaDoor
open Go.RowKit Go.Sac Go.Shelf
set_option linter.unusedVariables false
set_option linter.unusedSimpArgs false

theorem totS_take (xs : List ByteArray) (k : Nat) (h : k < xs.length) : totS (xs.take (k + 1)) = totS (xs.take k) + (xs[k].size + 1) := by
  unfold totS
  rw [List.take_succ_eq_append_getElem h, List.map_append, List.sum_append]
  simp
theorem totS_take_le (xs : List ByteArray) (k : Nat) : totS (xs.take k) ≤ totS xs := by
  conv => rhs; rw [← List.take_append_drop k xs]
  unfold totS
  rw [List.map_append, List.sum_append]; omega
theorem totS_eq (xs : List ByteArray) : totP (xs.map (·.data.toList)) = totS xs := by
  unfold totP totS
  rw [List.map_map]
  rfl
theorem totS_len (xs : List ByteArray) : xs.length ≤ totS xs := by
  have := tot_len (xs.map (·.data.toList))
  rw [totS_eq, List.length_map] at this
  exact this
def txtL (b : Bool) (xs : List ByteArray) : List UInt8 := (if b = true then [47] else []) ++ joinL xs
theorem named_good {l : List UInt8} (h : namedL l = true) : (∀ c ∈ l, c ≠ 47) ∧ keepP l = true ∧ goodP l = true := by
  have h0 := h
  unfold namedL at h
  simp only [Bool.and_eq_true, Bool.not_eq_true'] at h
  obtain ⟨h1, h2, _, h4, _⟩ := h
  refine ⟨fun c hc e => ?_, by unfold keepP; rw [h2, h4]; rfl, by unfold goodP; rw [h0, Bool.or_true]⟩
  subst e
  rw [List.any_eq_true.2 ⟨47, hc, rfl⟩] at h1
  cases h1
theorem joinL_len (xs : List ByteArray) (hx : xs ≠ []) : (joinL xs).length + 1 ≤ totS xs := by
  rcases xs with _ | ⟨x, r⟩
  · exact absurd rfl hx
  · unfold joinL
    rw [List.map_cons, Lib.join_cons]
    have : ∀ r : List ByteArray, (Lib.joinTail [47] (r.map (·.data.toList))).length = totS r := by
      intro r
      induction r with
      | nil => rfl
      | cons y r ih => simp only [totS, Lib.joinTail, List.map_cons, List.sum_cons, List.flatten_cons, List.length_append, List.length_cons, List.length_nil, Array.length_toList] at ih ⊢; have : y.data.size = y.size := rfl; omega
    rw [List.length_append, this r]
    have e : x.data.toList.length = x.size := by simp
    have e2 : totS (x :: r) = x.size + 1 + totS r := by simp [totS]
    omega
theorem names_txt (b : Bool) (xs : List ByteArray) (hx : xs ≠ []) (hn : ∀ x ∈ xs, namedL x.data.toList = true) (ht : totS xs ≤ 150) :
    okL (txtL b xs) = true ∧ absR (txtL b xs) = b ∧ namesL (txtL b xs) = xs ∧ printL b xs = txtL b xs ∧ (txtL b xs).length ≤ 150 := by
  have hfree : ∀ p ∈ xs.map (·.data.toList), (∀ c ∈ p, c ≠ 47) ∧ keepP p = true := by
    intro p hp
    obtain ⟨x, hx, rfl⟩ := List.mem_map.1 hp
    have := named_good (hn x hx)
    exact ⟨this.1, this.2.1⟩
  have hgood : (xs.map (·.data.toList)).all goodP = true := by
    rw [List.all_eq_true]
    intro p hp
    obtain ⟨x, hx, rfl⟩ := List.mem_map.1 hp
    exact (named_good (hn x hx)).2.2
  have hjl := joinL_len xs hx
  have hpj : partsL (joinL xs) = xs.map (·.data.toList) := parts_join _ hfree
  have hp : partsL (txtL b xs) = xs.map (·.data.toList) := by
    unfold txtL
    cases b
    · rw [if_neg (by simp), List.nil_append]; exact hpj
    · rw [if_pos rfl]
      have := parts_app [] (joinL xs)
      rw [List.nil_append] at this
      show partsL (47 :: joinL xs) = _
      rw [this, show partsL [] = [] by decide, List.nil_append]; exact hpj
  obtain ⟨c, r, e, hc⟩ := join_first (xs.map (·.data.toList)) hfree (by simpa using hx)
  have ej : joinL xs = c :: r := e
  have hlen : (txtL b xs).length ≤ 150 := by
    unfold txtL; rw [List.length_append]; split <;> simp <;> omega
  have hok : okL (txtL b xs) = true := ok_of (by rw [hp]; exact hgood) (by omega) (by unfold txtL; rw [ej]; simp)
  refine ⟨hok, ?_, ?_, ?_, hlen⟩
  · unfold absR
    rw [hok, Bool.true_and]
    unfold txtL
    cases b
    · rw [if_neg (by simp), List.nil_append, ej]; exact beq_eq_false_iff_ne.2 hc
    · rfl
  · unfold namesL
    rw [if_pos hok, hp, List.map_map]
    show xs.map (fun x => x) = xs
    exact List.map_id' _
  · unfold printL txtL
    cases b
    · rw [if_neg (by simp), if_neg (by rw [ej]; simp), if_neg (by simp)]; rfl
    · rfl
/-- may it stand behind a slash? -/
def extraB (l : List UInt8) : Bool := l.isEmpty || (l == [46] || (l == [46, 46] || namedL l))
theorem extra_txt (b : Bool) (xs : List ByteArray) (hx : xs ≠ []) (hn : ∀ x ∈ xs, namedL x.data.toList = true) (ht : totS xs ≤ 150) (l : List UInt8) (hl : l.length ≤ 40) (hf : ∀ c ∈ l, c ≠ 47) :
    errR (txtL b xs ++ 47 :: l) = if extraB l = true then 0 else 11 := by
  obtain ⟨h1, _, _, _, h5⟩ := names_txt b xs hx hn ht
  obtain ⟨g1, g2, g3⟩ := ok_good h1
  have hp := parts_app (txtL b xs) l
  have key : okL (txtL b xs ++ 47 :: l) = extraB l := by
    unfold okL
    rw [hp, List.all_append, g1, Bool.true_and]
    have e1 : (txtL b xs ++ 47 :: l).isEmpty = false := by simp
    have e2 : decide ((txtL b xs ++ 47 :: l).length ≤ 200) = true := by simp; omega
    rw [e1, e2, Bool.not_false, Bool.true_and, Bool.true_and]
    unfold partsL extraB
    rw [split_none l hf, List.filter_cons]
    by_cases hk : keepP l = true
    · rw [if_pos hk]
      unfold keepP at hk
      simp only [Bool.and_eq_true, Bool.not_eq_true'] at hk
      rw [hk.1, hk.2]
      simp [goodP]
    · rw [if_neg hk]
      unfold keepP at hk
      have : l.isEmpty = true ∨ (l == [46]) = true := by
        cases h1 : l.isEmpty
        · rw [h1] at hk
          cases h2 : (l == [46])
          · rw [h2] at hk; simp at hk
          · exact Or.inr rfl
        · exact Or.inl rfl
      rcases this with h | h <;> rw [h] <;> simp
  unfold errR
  rw [key]
theorem app_data (s t : ByteArray) (l m : List UInt8) (h : s.data.toList = l) (k : t.data.toList = m) : (s ++ t).data.toList = l ++ m := by
  rw [ByteArray.data_append, Array.toList_append, h, k]
theorem byte_47 (c : UInt8) : (((c.toNat : Int) == 47) = true ∧ c = 47) ∨ (((c.toNat : Int) == 47) = false ∧ c ≠ 47) := by
  by_cases h1 : c = 47
  · subst h1; exact Or.inl ⟨rfl, rfl⟩
  · exact Or.inr ⟨by rw [beq_eq_false_iff_ne]; intro h; exact h1 (UInt8.toNat_inj.1 (show c.toNat = 47 by omega)), h1⟩
def allN (xs : List ByteArray) (k : Nat) : Bool := (xs.take k).all fun x => namedL x.data.toList
theorem allN_step (xs : List ByteArray) (k : Nat) (h : k < xs.length) : allN xs (k + 1) = (allN xs k && namedL xs[k].data.toList) := by
  unfold allN; rw [List.take_succ_eq_append_getElem h, List.all_append]; simp
theorem txt_step (b : Bool) (xs : List ByteArray) (k : Nat) (h : k < xs.length) : txtL b (xs.take (k + 1)) = if k = 0 then txtL b (xs.take k) ++ xs[k].data.toList else txtL b (xs.take k) ++ (47 :: xs[k].data.toList) := by
  unfold txtL
  rw [take_snoc xs k h]
  by_cases hk : k = 0
  · subst hk; simp [joinL, Lib.join_nil]
  · rw [if_neg hk, if_neg hk, List.append_assoc]
theorem txt_len (b : Bool) (xs : List ByteArray) : (txtL b xs).length ≤ totS xs + 1 := by
  unfold txtL
  rw [List.length_append]
  have h := tot_join xs
  rw [totS_eq] at h
  split <;> simp <;> omega
set_option maxHeartbeats 4000000 in
theorem law_names (A : Option Addr) (c : Nat) (xs : List ByteArray) (b : Bool) (s : ByteArray) (w : World) (hr : Rc w A (svs xs)) (hc : xs.length ≤ c) (ht : totS xs ≤ 1048576) (hs : s.size ≤ 1048576) :
    Calls Tryd.prog 5 #[.slice A xs.length c, .bool b, .string s] w (RetT w) := by
  have HR := Hd.mk hr
  have HC := Hd.mk hc
  have hxl : xs.length ≤ 1048576 := Nat.le_trans (totS_len xs) ht
  have HT := Hd.mk ht
  clear hr hc ht
  go_enter Tryd.func5, Tryd.ntmps5
  go_wp2_with (fail)
  go_loopw [7, 8] (fun n i wr => ∃ k : Nat, k ≤ xs.length ∧ i = .int .i64 k ∧ n = .int .i64 (totS (xs.take k) : Nat) ∧ w = wr) (fun _ i _ => xs.length - (intOf i).toNat)
  case atStart => exact ⟨0, by omega, rfl, rfl, rfl⟩
  case round =>
    obtain ⟨k, hk, rfl, rfl, rfl⟩ := hrel
    by_cases hlt : k < xs.length
    · obtain ⟨bk, off, rfl, hcx⟩ := HR.out k _ (sv_at hlt)
      have HST := Hd.mk (totS_take xs k hlt)
      have hb1 := totS_take_le xs (k + 1)
      have hb2 := totS_take_le xs k
      have hb0 := HT.out
      rw [HST.out] at hb1
      go_wp2_with (fail)
      go_roundw
      case rel => exact ⟨k + 1, by omega, by go_num, by rw [HST.out]; go_num, trivial⟩
      case measure => simp [intOf]; omega
    · obtain rfl : k = xs.length := by omega
      rw [List.take_length]
      obtain ⟨N, hN⟩ : ∃ N, totS xs = N := ⟨_, rfl⟩
      rw [hN]
      by_cases hg : N ≤ 150 ∧ xs ≠ [] ∧ s.size ≤ 40
      · obtain ⟨hg1, hg2, hg3⟩ := hg
        have HN := Hd.mk hN
        have f1 : decide ((N : Int) > 150) = false := by simp; omega
        have f2 : ((xs.length : Int) == 0) = false := by rw [beq_eq_false_iff_ne]; intro e; exact hg2 (List.eq_nil_of_length_eq_zero (by omega))
        have f3 : decide ((s.size : Int) > 40) = false := by simp; omega
        have HX := Hd.mk hg2
        have HL : Hd (totS xs ≤ 150) := ⟨by rw [hN]; exact hg1⟩
        have hl2 := totS_len xs
        rw [hN] at hl2
        clear hg2 hN
        obtain ⟨B, hB⟩ : ∃ B, B = b := ⟨_, rfl⟩
        replace hB := Hd.mk hB
        cases b
        all_goals
          go_wp2_with (fail)
          go_loopw [9, 10, 11] (fun s0 ok i wr => ∃ k : Nat, k ≤ xs.length ∧ i = .int .i64 k ∧ ok = .bool (allN xs k) ∧ s0 = .string (mkS (txtL B (xs.take k))) ∧ w = wr) (fun _ _ i _ => xs.length - (intOf i).toNat)
          case atStart => exact ⟨0, by omega, rfl, rfl, by rw [hB.out]; rfl, rfl⟩
          case round =>
            obtain ⟨k, hk, rfl, rfl, rfl, rfl⟩ := hrel
            by_cases hlt : k < xs.length
            · obtain ⟨bk, off, rfl, hcx⟩ := HR.out k _ (sv_at hlt)
              have HA := Hd.mk (allN_step xs k hlt)
              have HS := Hd.mk (txt_step B xs k hlt)
              have hz1 := txt_len B (xs.take k)
              have hz2 := totS_take_le xs (k + 1)
              rw [totS_take xs k hlt, HN.out] at hz2
              obtain ⟨x, hx⟩ : ∃ x, xs[k] = x := ⟨_, rfl⟩
              rw [hx] at HA HS hcx hz2
              clear hx
              have hxs : x.size ≤ 150 := by omega
              have hts : (mkS (txtL B (xs.take k))).size ≤ 151 := by rw [mkS_size]; omega
              have hts2 : (mkS (txtL B (xs.take k)) ++ { data := #[47] }).size ≤ 152 := by
                rw [ByteArray.size_append]; have : ({ data := #[47] } : ByteArray).size = 1 := rfl
                omega
              have i1 : (0 : Int) ≤ (k : Int) := by omega
              have i2 : (k : Int) < (xs.length : Int) := by omega
              clear hz1 hz2
              have hk0 : (k = 0 ∧ ¬ 0 < k) ∨ (k ≠ 0 ∧ 0 < k) := by
                by_cases h : k = 0
                · left; exact ⟨h, by omega⟩
                · right; exact ⟨h, by omega⟩
              cases hall : allN xs k
              all_goals
                rw [hall] at HA
                replace hall := Hd.mk hall
                rcases hk0 with ⟨hk0, hkd⟩ | ⟨hk0, hkd⟩
                all_goals
                  replace hk0 := Hd.mk hk0
                  go_wp2_with (go_at_call 14; refine (rnamed_calls x _ (by omega)).mono ?_; rintro e w2 ⟨rfl, rfl⟩)
                  go_roundw
                  case rel =>
                    refine ⟨k + 1, by omega, by go_num, ?_, ?_, trivial⟩
                    · rw [HA.out]; try rfl
                    · rw [HS.out]
                      first
                        | (rw [if_pos hk0.out]; show Value.string (mkS _ ++ mkS x.data.toList) = _; rw [mk_app])
                        | (rw [if_neg hk0.out]; show Value.string (mkS _ ++ mkS [47] ++ mkS x.data.toList) = _; rw [mk_app, mk_app, List.append_assoc]; rfl)
                  case measure => simp [intOf]; omega
            · obtain rfl : k = xs.length := by omega
              rw [List.take_length]
              cases hall : allN xs xs.length
              · replace hall := Hd.mk hall
                go_wp2_with (go_at_call 10; refine (known_calls _).mono ?_; rintro e w8 ⟨rfl, hb⟩)
                go_ret
                exact ⟨rfl, hb⟩
              · have hn : ∀ x ∈ xs, namedL x.data.toList = true := by
                  unfold allN at hall
                  rw [List.take_length] at hall
                  exact List.all_eq_true.1 hall
                obtain ⟨n1, n2, n3, n4, n5⟩ := names_txt B xs HX.out hn HL.out
                have PS : Hd (ParseIs (mkS (txtL B xs)) B xs 0) := parse_is _ (txtL B xs) rfl (by rw [mkS_size]; omega) ⟨n2, by unfold errR; rw [if_pos n1], n3⟩
                have HJ : Hd ((joinL xs).length ≤ 1000000) := ⟨by have := joinL_len xs HX.out; have := HL.out; omega⟩
                have HPR := Hd.mk n4
                have HEX := Hd.mk (extra_txt B xs HX.out hn HL.out s.data.toList (by simpa using hg3))
                have hts : (mkS (txtL B xs)).size ≤ 151 := by rw [mkS_size]; omega
                have hts2 : (mkS (txtL B xs) ++ { data := #[47] }).size ≤ 152 := by
                  rw [ByteArray.size_append]; have : ({ data := #[47] } : ByteArray).size = 1 := rfl
                  omega
                have PE : Hd (∀ er, errR (txtL B xs ++ 47 :: s.data.toList) = er → ∃ B' X', ParseIs (mkS (txtL B xs) ++ ⟨#[47]⟩ ++ s) B' X' er) := ⟨fun er he => ⟨_, _, (parse_is _ (txtL B xs ++ 47 :: s.data.toList) (by rw [app_data (mkS (txtL B xs) ++ ⟨#[47]⟩) s _ s.data.toList (app_data (mkS (txtL B xs)) _ _ [47] rfl rfl) rfl, List.append_assoc]; rfl) (by rw [ByteArray.size_append]; have : (⟨#[47]⟩ : ByteArray) = { data := #[47] } := rfl; omega) ⟨rfl, he, rfl⟩).out⟩⟩
                have PU : Hd (∀ (W : World) (A : Option Addr) (c : Nat), Boxes w W [] → Rc W A (svs xs) → xs.length ≤ c → Boxes w (W.alloc (.cells #[.bool B, .slice A xs.length c] 25)) [⟨W.heap.size, B, A, xs, c⟩]) := ⟨fun W A c h k l => h.push B k l⟩
                obtain ⟨T, hT⟩ : ∃ T, txtL B xs = T := ⟨_, rfl⟩
                rw [hT] at PS HPR HEX hts hts2 PE ⊢
                clear n1 n2 n3 n4 n5 hT hall hn
                obtain rfl := hB.out
                clear hB
                have HS := Hd.mk (Boxes.none w)
                have T1 : Hd True := ⟨trivial⟩
                go_wp2_with (first
                  | (go_at_call 11; clear T1; refine (PS.out _).mono ?_; rintro e w1 ⟨A1, c1, rfl, hc, hr, hb⟩; have HS := Hd.mk (PU.out _ _ _ (HS.out.call hb) hr hc); clear hr hb hc)
                  | (refine box_load HS 0 _ rfl rfl _ rfl rfl ?_)
                  | (go_at_call 15; refine (same_calls _ _ _ _ _ _ _ _ xs xs _ (HS.out.all 0 _ rfl).rc (HR.out.below HS.out.bel) rfl rfl (by omega) (by omega)).mono ?_; rintro e w2 ⟨rfl, hb⟩; rw [eqP_yes ⟨rfl, rfl⟩]; have HS := Hd.mk (HS.out.call hb); clear hb)
                  | (go_at_call 16; refine (print_calls _ _ _ _ xs _ (HS.out.all 0 _ rfl).rc rfl (HS.out.all 0 _ rfl).cap (by omega) HJ.out).mono ?_; rintro e w5 ⟨rfl, hb⟩; rw [HPR.out]; have HS := Hd.mk (HS.out.call hb); clear hb))
                clear PS PU HPR HJ
                go_loopw [14] (fun i wr => ∃ k : Nat, k ≤ s.size ∧ i = .int .i64 k ∧ w5 = wr ∧ Hd (∀ c ∈ s.data.toList.take k, c ≠ 47)) (fun i _ => s.size - (intOf i).toNat)
                case atStart => exact ⟨0, by omega, rfl, rfl, ⟨by simp⟩⟩
                case round =>
                  obtain ⟨k, hk, rfl, rfl, HF⟩ := hrel
                  by_cases hlt : k < s.size
                  · have HK : Hd (s.data.toList.take (k + 1) = s.data.toList.take k ++ [s[k]]) := ⟨by rw [List.take_succ_eq_append_getElem (by simpa using hlt)]; rfl⟩
                    rcases byte_47 s[k] with ⟨h0, ho⟩ | ⟨h0, ho⟩
                    · clear ho
                      go_wp2_with (go_at_call 10; refine (known_calls _).mono ?_; rintro e w8 ⟨rfl, hb⟩; have HS := Hd.mk (HS.out.call hb); clear hb)
                      go_ret
                      exact ⟨rfl, HS.out.bel⟩
                    · have HO := Hd.mk ho
                      clear ho
                      go_wp2_with (fail)
                      go_roundw
                      case rel =>
                        refine ⟨k + 1, by omega, by go_num, trivial, ⟨?_⟩⟩
                        rw [HK.out]
                        intro c hc
                        rcases List.mem_append.1 hc with hc | hc
                        · exact HF.out c hc
                        · rw [List.mem_singleton.1 hc]; exact HO.out
                      case measure => simp [intOf]; omega
                  · obtain rfl : k = s.size := by omega
                    have hf : ∀ c ∈ s.data.toList, c ≠ 47 := by
                      have h1 := HF.out
                      rwa [List.take_of_length_le (by simp)] at h1
                    have he := HEX.out hf
                    have hways : (s.toList.isEmpty = true ∧ extraB s.data.toList = true) ∨ (s.toList.isEmpty = false ∧ (s.toList == [46]) = true ∧ extraB s.data.toList = true) ∨ (s.toList.isEmpty = false ∧ (s.toList == [46]) = false ∧ (s.toList == [46, 46]) = true ∧ extraB s.data.toList = true) ∨ (s.toList.isEmpty = false ∧ (s.toList == [46]) = false ∧ (s.toList == [46, 46]) = false ∧ namedL s.data.toList = true ∧ extraB s.data.toList = true) ∨ (s.toList.isEmpty = false ∧ (s.toList == [46]) = false ∧ (s.toList == [46, 46]) = false ∧ namedL s.data.toList = false ∧ extraB s.data.toList = false) := by
                      rw [str_list]
                      unfold extraB
                      generalize s.data.toList.isEmpty = e1
                      generalize (s.data.toList == [46]) = e2
                      generalize (s.data.toList == [46, 46]) = e3
                      generalize namedL s.data.toList = e4
                      cases e1 <;> cases e2 <;> cases e3 <;> cases e4 <;> simp
                    clear hf HEX
                    rcases hways with ⟨e1, ex⟩ | ⟨e1, e2, ex⟩ | ⟨e1, e2, e3, ex⟩ | ⟨e1, e2, e3, e4, ex⟩ | ⟨e1, e2, e3, e4, ex⟩
                    all_goals
                      rw [ex] at he
                      obtain ⟨B', X', hP⟩ := PE.out _ he
                      have PP := Hd.mk hP
                      try replace e4 := Hd.mk e4
                      clear PE he ex hP
                      go_wp2_with (first
                        | (go_at_call 11; refine (PP.out _).mono ?_; rintro e w6 ⟨A6, c6, rfl, hc, hr, hb⟩; have HS := Hd.mk ((HS.out.call hb).push B' hr hc); clear hr hb hc)
                        | (go_at_call 14; refine (rnamed_calls s _ (by omega)).mono ?_; rintro e w7 ⟨rfl, rfl⟩; rw [e4.out])
                        | (go_at_call 10; refine (known_calls _).mono ?_; rintro e w8 ⟨rfl, hb⟩; have HS := Hd.mk (HS.out.call hb); clear hb))
                      go_ret
                      exact ⟨rfl, HS.out.bel⟩
      · have hno : decide ((N : Int) > 150) = true ∨ (decide ((N : Int) > 150) = false ∧ ((xs.length : Int) == 0) = true) ∨ (decide ((N : Int) > 150) = false ∧ ((xs.length : Int) == 0) = false ∧ decide ((s.size : Int) > 40) = true) := by
          by_cases h1 : N ≤ 150
          · have e1 : decide ((N : Int) > 150) = false := by simp; omega
            by_cases h2 : xs = []
            · right; left; exact ⟨e1, by rw [h2]; rfl⟩
            · right; right
              refine ⟨e1, ?_, ?_⟩
              · rw [beq_eq_false_iff_ne]; intro e; exact h2 (List.eq_nil_of_length_eq_zero (by omega))
              · have : ¬ s.size ≤ 40 := fun h => hg ⟨h1, h2, h⟩
                simp; omega
          · left; simp; omega
        clear hg hN
        rcases hno with f1 | ⟨f1, f2⟩ | ⟨f1, f2, f3⟩
        all_goals
          go_wp2_with (go_at_call 10; refine (known_calls _).mono ?_; rintro e w8 ⟨rfl, hb⟩)
          go_ret
          exact ⟨rfl, hb⟩
end Go.Proofs.YtncagcbdgimpfaaDoor
