/- Walks: the law NodeIndexes. -/
import Derived.Test.YtmebgejjaljhgaaN13LawBack
namespace Go.Proofs.Ytmebgejjaljhgaa
open Go.RowKit Go.Sac
set_option linter.unusedVariables false
set_option linter.unusedSimpArgs false

theorem run_make_int {P : Program} (t e : TypeId) (ht : P.underlying t = some (.slice e)) (hinfo : (P.info? e).map (fun i => (i.zero, i.size, i.bytes)) = some (some (.int .i64 0), 1, 8)) (m : Nat) (hn : m ≤ 1000000) :
    ∀ W : World, (Instr.makeSlice t (.int .i64 (m : Int)) (.int .i64 (m : Int))).run P W = .ok (.slice (some ⟨W.heap.size, 0, none⟩) m m) (W.alloc (.cells (ns (List.replicate m 0)).toArray e)) := by
  intro W
  have h := run_make_row' t e (.int .i64 0) 8 ht hinfo rfl .i64 .i64 m (by omega) (by omega) W
  have hl : (madeCells #[Value.int .i64 0] m) = (ns (List.replicate m 0)).toArray := by
    apply Array.toList_inj.1
    apply List.ext_getElem
    · simp [ns, madeCells]
    · intro i h1 h2
      simp [ns, i64v, madeCells, Nat.mod_one]
  rw [← hl]; exact h
theorem own_blk {w : World} {base g n cap : Nat} {e : TypeId} {xs : List Value} (h : w.ownsRow base e 1 (.slice (some ⟨g, 0, none⟩) n cap) n xs) : ∃ cs, Blk w g e cs ∧ cs.take n = xs ∧ n ≤ cs.length ∧ base ≤ g := by
  rcases h.2 with ⟨h0, _⟩ | ⟨g', cap', cur, h1, hb, hg, hn, _, hs, ht⟩
  · cases h0
  · injection h1 with e1 e2 e3
    injection e1 with e1
    injection e1 with e1
    subst e1; subst e3
    exact ⟨cur.toList, hg, by rw [← ht, Nat.mul_one], by rw [Array.length_toList, hs]; omega, hb⟩
/-- a number as it is taken -/
def mz (x : Int) : Int := max 0 (x.tmod 4096)
def mL (l : List Int) (j : Nat) : List Int := (l.take j).map mz
theorem mL_len (l : List Int) (j : Nat) (h : j ≤ l.length) : (mL l j).length = j := by simp [mL, h]
theorem mL_step (l : List Int) (j : Nat) (h : j < l.length) : mL l (j + 1) = mL l j ++ [mz l[j]] := by
  unfold mL; rw [List.take_succ_eq_append_getElem h, List.map_append]; rfl
theorem mz_in (x : Int) : ptrP (mz x) := by
  unfold ptrP mz
  have h1 := Int.tmod_lt_of_pos x (show (0 : Int) < 4096 by decide)
  omega
theorem mL_good (l : List Int) (h : l.length ≤ 64) : idxP (mL l l.length) = true := by
  have key : ∀ y ∈ mL l l.length, ptrP y := by
    intro y hy
    unfold mL at hy
    obtain ⟨x, _, rfl⟩ := List.mem_map.1 hy
    exact mz_in x
  exact idx_good (by rw [mL_len l _ (Nat.le_refl _)]; exact h) fun j hj => key _ (List.getElem_mem hj)
theorem set_idx (m : List Int) (q : Nat) (n : Int) (hg : idxP m = true) (hq : q < m.length) : idxP (m.set q n) = decide (ptrP n) := by
  obtain ⟨_, h64⟩ := idxB_yes hg
  by_cases hp : ptrP n
  · rw [decide_eq_true hp]
    refine idx_good (by rw [List.length_set]; exact h64) fun j hj => ?_
    rw [List.length_set] at hj
    rw [List.getElem_set]
    split
    · exact hp
    · exact idx_in hg j hj
  · rw [decide_eq_false hp]
    exact idx_bad (k := q) (by rw [List.length_set]; exact hq) (by rw [List.getElem_set_self]; exact hp)
set_option maxRecDepth 100000 in
set_option maxHeartbeats 16000000 in
theorem law_indexes (A : Option Addr) (c : Nat) (l : List Int) (k n : Int) (w : World) (hl : Rc w A (ns l)) (hc : l.length ≤ c) (hn : l.length ≤ 140737488351232) (hi : ∀ n ∈ l, (Lit.int .i64 n).wf = true) (hk : 0 ≤ k ∧ k ≤ 255) (hb : -9223372036854775808 ≤ n ∧ n ≤ 9223372036854775807) :
    Calls Try.prog 10 #[.slice A l.length c, .int .u8 k, .int .i64 n] w (RetT w) := by
  clear hi hb
  by_cases hbig : l.length > 64
  · have d1 : decide ((l.length : Int) > 64) = true := by simp; omega
    clear hbig hl hc hk
    go_enter Try.func10, Try.ntmps10
    go_wp2_with (go_at_call 13; refine (known_calls _).mono ?_; rintro e w1 ⟨rfl, hb⟩; have HB := Hd.mk hb; clear hb)
    go_ret
    exact ⟨rfl, HB.out⟩
  have d1 : decide ((l.length : Int) > 64) = false := by simp; omega
  by_cases h0 : l.length = 0
  · have d2 : ((l.length : Int) == 0) = true := by simp; exact List.eq_nil_of_length_eq_zero h0
    clear hbig hl hc hk h0
    go_enter Try.func10, Try.ntmps10
    go_wp2_with (go_at_call 13; refine (known_calls _).mono ?_; rintro e w1 ⟨rfl, hb⟩; have HB := Hd.mk hb; clear hb)
    go_ret
    exact ⟨rfl, HB.out⟩
  have d2 : ((l.length : Int) == 0) = false := by rw [beq_eq_false_iff_ne]; omega
  obtain ⟨L, hL⟩ : ∃ L, l.length = L := ⟨_, rfl⟩
  have hL64 : L ≤ 64 := by omega
  have hL0 : 0 < L := by omega
  rw [hL] at d1 d2 ⊢
  have HL := Hd.mk hl
  have HLL := Hd.mk hL
  have HGD : Hd (idxP (mL l L) = true) := ⟨by rw [← hL]; exact mL_good l (by omega)⟩
  obtain ⟨kk, rfl⟩ := Int.eq_ofNat_of_zero_le hk.1
  have hk255 : kk ≤ 255 := by omega
  have hwk : IntKind.i64.wrap (kk : Int) = (kk : Int) := by rw [IntKind.wrap_i64]; omega
  obtain ⟨q, hq⟩ : ∃ q, kk % L = q := ⟨_, rfl⟩
  have hqL : q < L := by rw [← hq]; exact Nat.mod_lt _ hL0
  have hqm : (kk : Int).tmod (L : Int) = (q : Int) := by rw [Int.tmod_eq_emod_of_nonneg (by omega), ← hq]; exact (Int.natCast_emod kk L).symm
  have hqm2 : (kk : Int) % (L : Int) = (q : Int) := by rw [← hq]; exact (Int.natCast_emod kk L).symm
  clear hbig hl hc hk h0 hL hq hn
  go_enter Try.func10, Try.ntmps10
  go_wp2
  go_loopw [7, 8] (fun v i wr => ∃ j : Nat, j ≤ L ∧ i = .int .i64 (j : Int) ∧ Hd (wr.ownsRow w.heap.size 3 1 v j (ns (mL l j))) ∧ Hd (Below w.heap.size w wr)) (fun _ i _ => L - (intOf i).toNat)
  case atStart => exact ⟨0, by omega, rfl, ⟨World.ownsRow_nil _ _ _ _⟩, ⟨Below.refl _ _⟩⟩
  case round =>
    obtain ⟨j, hj, rfl, HO, HB⟩ := hrel
    by_cases hlt : j < L
    · obtain ⟨A1, c3, rfl, _, _, _⟩ := own_rc HO.out
      have hjl : j < l.length := by rw [HLL.out]; exact hlt
      obtain ⟨bb, off, rfl, hbb, hcc⟩ := HL.out.form (by rw [ns_len]; omega)
      have h1 := (HB.out.cell (p := ⟨bb, off + j, none⟩) hbb).trans (hcc j _ (ns_at hjl))
      have hst := Hd.mk (mL_step l j hjl)
      obtain ⟨x, hx⟩ : ∃ x, l[j] = x := ⟨_, rfl⟩
      rw [hx] at h1 hst
      have hr1 := Int.tmod_lt_of_pos x (show (0 : Int) < 4096 by decide)
      have hr2 : -4096 < x.tmod 4096 := Int.lt_tmod_of_pos x (by decide)
      have hw1 : IntKind.i64.wrap (x.tmod 4096) = x.tmod 4096 := by rw [IntKind.wrap_i64]; omega
      clear hcc hx hjl
      go_wp2_with (at_builtin; refine app_rc w.heap.size 43 3 (.int .i64 0) 1 8 (.tmp 33) (.tmp 40) rfl rfl Try.underlying43 info_int rfl (by decide) (by decide) (.slice A1 j c3) j (ns (mL l j)) [.int .i64 (mz x)] (some ⟨_, 0, none⟩) 1 1 rfl rfl (own_alloc HO.out _) (Rc.one _ _ _) (by simp) (by simp [Value.oneCell']) (Nat.le_trans HB.out.size (by simp)) (by omega) (j + 1) (ns (mL l (j + 1))) rfl (by rw [hst.out]; simp [ns, i64v]) ?_; intro v3 w3 ho3 hg hat; have HO3 := Hd.mk ho3; have HG3 := Hd.mk hg; clear ho3 hg hat)
      go_roundw
      case rel => exact ⟨j + 1, by omega, by go_num, HO3, ⟨below_lift (HB.out.alloc HB.out.size _) (Nat.le_trans HB.out.size (by simp)) HG3.out (fun b hb => (own_lt HO.out b hb).1)⟩⟩
      case measure => simp [intOf]; omega
    · obtain rfl : j = L := by omega
      obtain ⟨jm, hjm⟩ : ∃ jm, jm + 1 = j := ⟨j - 1, by omega⟩
      have ho' := HO.out
      rw [← hjm] at ho'
      obtain ⟨g, cap, hv⟩ := ownsRow_succ ho'
      rw [hjm] at hv
      subst hv
      clear ho' hjm
      obtain ⟨M, hM⟩ : ∃ M, mL l j = M := ⟨_, rfl⟩
      have hml : M.length = j := by rw [← hM]; exact mL_len l j (by rw [HLL.out]; exact Nat.le_refl _)
      have hgd := HGD.out
      rw [hM] at HO hgd
      have HM := Hd.mk hml
      have HGM := Hd.mk hgd
      obtain ⟨F, hF⟩ : ∃ F, idxB M = F := ⟨_, rfl⟩
      have HFL : Hd (F.length ≤ 1000) := ⟨by rw [← hF]; exact idxB_len M⟩
      have HFI : Hd (idxB M = F ∧ idxE M = 0) := ⟨hF, (idx_yes hgd).2⟩
      have hpi := pts_idx hgd
      rw [hF] at hpi
      obtain ⟨Y, hY⟩ : ∃ Y, ptsL F = Y := ⟨_, rfl⟩
      have HFP : Hd (ptsL F = Y ∧ ptsE F = 0) := ⟨hY, hpi.2⟩
      have hY2 : Y = M ++ List.replicate (64 - M.length) 0 := by rw [← hY]; exact hpi.1
      have HYL : Hd (Y.length = 64) := ⟨by rw [hY2, List.length_append, List.length_replicate]; omega⟩
      have HYT : Hd ((ns Y).take j = ns M) := ⟨by rw [hY2, ns, ← List.map_take, List.take_left' hml]⟩
      have HY0 : Hd (∀ i, j ≤ i → i < 64 → (ns Y)[i]? = some (.int .i64 0)) := ⟨fun i h1 h2 => by
        rw [hY2, ns, List.getElem?_map, List.getElem?_append_right (by omega), List.getElem?_replicate, if_pos (by omega)]; rfl⟩
      clear hM hml hgd hF hpi hY hY2 HGD hlt
      go_wp2_with (first
        | (go_at_call 21; refine (index_any (some ⟨g, 0, none⟩) _ cap M F _ _ (own_rc2 HO.out) HM.out.symm (by have := HM.out; omega) HFI.out).mono ?_; rintro e w4 ⟨v4, rfl, ho, hb⟩; obtain ⟨A4, c4, rfl, hc4, hr4, _⟩ := own_rc ho; have HR4 := Hd.mk hr4; have HC4 := Hd.mk hc4; have HO := Hd.mk (own_below HO.out hb); have HB := Hd.mk (below_then HB.out HB.out.size hb); clear ho hb hr4 hc4)
        | (go_at_call 26; refine (pointers_any A4 _ c4 F Y _ _ HR4.out rfl HC4.out (by have := HFL.out; omega) HFP.out).mono ?_; rintro e w5 ⟨v5, rfl, ho, hb⟩; rw [HYL.out] at ho; obtain ⟨A5, c5, rfl, hc5, hr5, _⟩ := own_rc ho; have hcut := cut_high (P := Try.prog) 43 3 Try.underlying43 info_int A5 64 c5 j (by omega); have HR5 := Hd.mk hr5; have HR6 : Hd (Rc w5 A5 (ns M)) := ⟨by rw [← HYT.out]; exact hr5.take _⟩; have HO := Hd.mk (own_below HO.out hb); have HB := Hd.mk (below_then HB.out HB.out.size hb); clear ho hb hr5)
        | (go_at_call 28; refine (ints_any A5 (some ⟨g, 0, none⟩) _ _ c5 cap M M _ HR6.out (own_rc2 HO.out) (by have := HM.out; omega) HM.out.symm HM.out.symm).mono ?_; rintro e w6 ⟨rfl, hdr⟩; rw [show (M == M) = true by simp]; have HO := Hd.mk (own_below HO.out (hdr.below _)); have HR5 := Hd.mk (HR5.out.below (hdr.below _)); have HB := Hd.mk (below_then HB.out HB.out.size (hdr.below _)); clear hdr))
      obtain ⟨b5, o5, rfl, hb5, hc5⟩ := HR5.out.form (by rw [ns_len, HYL.out]; decide)
      have HC5 := Hd.mk hc5
      clear hc5 hcut
      go_loop [13] (fun i => ∃ k : Nat, j ≤ k ∧ k ≤ 64 ∧ i = .int .i64 (k : Int)) (fun i => 64 - (intOf i).toNat)
      case atStart => exact ⟨j, Nat.le_refl _, hL64, rfl⟩
      case round =>
        obtain ⟨k2, hk1, hk2, rfl⟩ := hrel
        by_cases hlt : k2 < 64
        · have h1 := HC5.out k2 _ (HY0.out k2 hk1 hlt)
          go_wp2
          go_round
          case rel => exact ⟨k2 + 1, by omega, by omega, by go_num⟩
          case measure => simp [intOf]; omega
        · obtain rfl : k2 = 64 := by omega
          obtain ⟨cs, hblk, hct, hcl, hgb⟩ := own_blk HO.out
          have hcx := hblk.cell (i := q) (List.getElem?_eq_getElem (by omega))
          have hfz := hblk.frz q
          have HS : Hd (Rc (w6.setCell ⟨g, q, none⟩ (.int .i64 n)) (some ⟨g, 0, none⟩) (ns (M.set q n))) := ⟨by
            have h1 := (hblk.set q (.int .i64 n)).rc.take j
            rw [List.take_set, hct, show Value.int .i64 n = i64v n from rfl, ns, ← List.map_set] at h1
            exact h1⟩
          have HB6 : Hd (Below w.heap.size w (w6.setCell ⟨g, q, none⟩ (.int .i64 n))) := ⟨HB.out.setCell (p := ⟨g, q, none⟩) hgb _⟩
          have HML : Hd ((M.set q n).length = j) := ⟨by rw [List.length_set]; exact HM.out⟩
          have hset := set_idx M q n HGM.out (by rw [HM.out]; exact hqL)
          have hmake : ∀ W : World, (Instr.makeSlice 43 (.int .i64 65) (.int .i64 65)).run Try.prog W = .ok (.slice (some ⟨W.heap.size, 0, none⟩) 65 65) (W.alloc (.cells (ns (List.replicate 65 0)).toArray 3)) := run_make_int 43 3 Try.underlying43 info_int 65 (by omega)
          have H65 : Hd (idxB (List.replicate 65 0) = [] ∧ idxE (List.replicate 65 0) = 2) := ⟨idx_no (by unfold idxP; simp)⟩
          obtain ⟨F2, hF2⟩ : ∃ F2, idxB (M.set q n) = F2 := ⟨_, rfl⟩
          have hways : (decide (n ≥ 0) = false ∧ (idxB (M.set q n) = F2 ∧ idxE (M.set q n) = 2)) ∨ (decide (n ≥ 0) = true ∧ decide (n < 4096) = false ∧ (idxB (M.set q n) = F2 ∧ idxE (M.set q n) = 2)) ∨ (decide (n ≥ 0) = true ∧ decide (n < 4096) = true ∧ (idxB (M.set q n) = F2 ∧ idxE (M.set q n) = 0)) := by
            by_cases g0 : n ≥ 0
            · by_cases g1 : n < 4096
              · refine .inr (.inr ⟨by simpa using g0, by simpa using g1, hF2, (idx_yes ?_).2⟩)
                rw [hset]; exact decide_eq_true ⟨g0, by omega⟩
              · refine .inr (.inl ⟨by simpa using g0, by simpa using g1, hF2, (idx_no ?_).2⟩)
                rw [hset]; exact decide_eq_false (fun h => by have := h.2; omega)
            · refine .inl ⟨by simpa using g0, hF2, (idx_no ?_).2⟩
              rw [hset]; exact decide_eq_false (fun h => by have := h.1; omega)
          clear hblk hct hset hF2 hb5 hlt
          rcases hways with ⟨d5, hI⟩ | ⟨d5, d6, hI⟩ | ⟨d5, d6, hI⟩
          all_goals
            have HI := Hd.mk hI
            clear hI
            have T1 : Hd True := ⟨trivial⟩
            have T2 : Hd True := ⟨trivial⟩
            go_wp2_with (first
              | (go_at_call 21; clear T1; refine (index_any (some ⟨g, 0, none⟩) _ cap (M.set q n) F2 _ _ HS.out HML.out.symm (by have := HML.out; omega) HI.out).mono ?_; rintro e w7 ⟨v7, rfl, ho, hb⟩; have HB := Hd.mk (below_then HB6.out HB6.out.size hb); clear ho hb)
              | (go_at_call 21; clear T2; refine (index_any _ _ 65 (List.replicate 65 0) [] _ _ (Blk.new _ 3 (ns (List.replicate 65 0))).rc (by simp) (by simp) H65.out).mono ?_; rintro e w8 ⟨v8, rfl, ho, hb⟩; have HB := Hd.mk (below_then (HB.out.alloc HB.out.size _) (by have := HB.out.size; simp; omega) hb); clear ho hb)
              | (go_at_call 13; refine (known_calls _).mono ?_; rintro e w9 ⟨rfl, hb⟩; have HB := Hd.mk (below_then HB.out HB.out.size hb); clear hb))
            go_ret
            exact ⟨rfl, HB.out⟩
end Go.Proofs.Ytmebgejjaljhgaa
