/- Walks: the law PathLast. -/
import Derived.Test.YtncagcbdgimpfaaDoorT15Last
namespace Go.Proofs.YtncagcbdgimpfaaDoor
open Go.RowKit Go.Sac Go.Shelf
set_option linter.unusedVariables false
set_option linter.unusedSimpArgs false

theorem law_last_big (s : ByteArray) (w : World) (h : decide ((s.size : Int) > 200) = true) : Calls Tryd.prog 9 #[.string s] w (RetT w) := by
  go_enter Tryd.func9, Tryd.ntmps9
  go_wp2_with (go_at_call 10; refine (known_calls _).mono ?_; rintro e w1 ⟨rfl, hb1⟩)
  go_ret
  exact ⟨rfl, hb1⟩
theorem law_last_no (s : ByteArray) (w : World) (h : decide ((s.size : Int) > 200) = false) (PS : Hd (ParseIs s false [] 11)) : Calls Tryd.prog 9 #[.string s] w (RetT w) := by
  have HS := Hd.mk (Boxes.none w)
  go_enter Tryd.func9, Tryd.ntmps9
  go_wp2_with (first
    | (go_at_call 11; refine (PS.out _).mono ?_; rintro e w1 ⟨A, c, rfl, hc, hr, hb⟩; have HS := Hd.mk ((HS.out.call hb).push false hr hc); clear hr hb hc)
    | (go_at_call 10; refine (known_calls _).mono ?_; rintro e w1 ⟨rfl, hb1⟩; have HS := Hd.mk (HS.out.call hb1); clear hb1))
  go_ret
  exact ⟨rfl, HS.out.bel⟩
theorem named_size {x : ByteArray} (h : namedL x.data.toList = true) : x.size ≤ 27 := by
  unfold namedL at h
  simp only [Bool.and_eq_true, decide_eq_true_eq] at h
  have := h.2.2.1
  rwa [Array.length_toList] at this
/-- what the last region yields, operation by operation -/
def MV (B : Bool) (A A2 : Option Addr) (c c2 : Nat) (X zs : List ByteArray) (z : ByteArray) (j : Nat) (w : World) (v : Value) : Prop :=
  match j with
  | 0 => v = .string z
  | 1 => v = .bool true
  | 2 => v = .bool true
  | 3 => v = .agg #[.bool B, .slice A2 zs.length c2]
  | 4 => v = .string z
  | 5 => ∃ g, v = .slice (some ⟨g, 0, none⟩) 1 1 ∧ Blk w g 9 [.string z]
  | 6 => ∃ g, v = .agg #[.bool false, .slice (some ⟨g, 0, none⟩) 1 1] ∧ Blk w g 9 [.string z]
  | 7 => ∃ A' c', v = .agg #[.bool B, .slice A' X.length c'] ∧ Rc w A' (svs X)
  | 8 => v = .agg #[.bool B, .slice A X.length c]
  | 9 => v = .bool true
  | 10 => v = .bool true
  | 11 => v = .bool true
  | 12 => v = .bool true
  | 13 => v = .bool true
  | 14 => v = .bool true
  | _ => True
theorem MV_stab {B : Bool} {A A2 : Option Addr} {c c2 : Nat} {X zs : List ByteArray} {z : ByteArray} (i j : Nat) (w w' : World) (v : Value) (hij : i ≠ j) (hR : KeepBut none w w') (h : MV B A A2 c c2 X zs z j w v) : MV B A A2 c c2 X zs z j w' v := by
  rcases j with _ | _ | _ | _ | _ | _ | _ | _ | _ | _ | _ | _ | _ | _ | _ | j <;> try exact h
  · obtain ⟨g, h1, h2⟩ := h
    exact ⟨g, h1, hR.blk h2 nofun⟩
  · obtain ⟨g, h1, h2⟩ := h
    exact ⟨g, h1, hR.blk h2 nofun⟩
  · obtain ⟨A', c', h1, h2⟩ := h
    exact ⟨A', c', h1, h2.keep fun b off _ hb => hR.2 b hb nofun⟩
set_option maxHeartbeats 4000000 in
theorem law_last_yes (s : ByteArray) (w : World) (h : decide ((s.size : Int) > 200) = false) (B : Bool) (X : List ByteArray) (PS : Hd (ParseIs s B X 0)) (HGd : Hd (∀ x ∈ X, goodP x.data.toList = true)) (hXl : X.length ≤ 201) : Calls Tryd.prog 9 #[.string s] w (RetT w) := by
  have HS := Hd.mk (Boxes.none w)
  go_enter Tryd.func9, Tryd.ntmps9
  go_wp2_with (go_at_call 11; refine (PS.out _).mono ?_; rintro e w1 ⟨A, c, rfl, hc, hr, hb⟩; have HS := Hd.mk ((HS.out.call hb).push B hr hc); clear hr hb hc)
  go_loopw [5] (fun i wr => ∃ k : Nat, k ≤ X.length ∧ i = .int .i64 k ∧ Hd (Boxes w wr [⟨w1.heap.size, B, A, X, c⟩])) (fun i _ => X.length - (intOf i).toNat)
  case atStart => exact ⟨0, by omega, rfl, HS⟩
  case round =>
    clear HS
    obtain ⟨k, hk, rfl, HS⟩ := hrel
    have k1 := (HS.out.all 0 _ rfl).blk.cell (i := 1) rfl
    by_cases hlt : k < X.length
    · obtain ⟨b, off, hA, hcx⟩ := (HS.out.all 0 _ rfl).rc k _ (sv_at hlt)
      obtain ⟨x, hxk⟩ : ∃ x, x = X[k] := ⟨_, rfl⟩
      have hgx := HGd.out x (by rw [hxk]; exact List.getElem_mem hlt)
      rw [← hxk] at hcx
      have HA := Hd.mk hA
      change A = _ at hA
      subst hA
      have i1 : (0 : Int) ≤ (k : Int) := by omega
      have i2 : (k : Int) < (X.length : Int) := by omega
      by_cases hup : x.data.toList = [46, 46]
      · have hne : (x.toList == [46, 46]) = true := by rw [str_list, hup]; rfl
        clear hxk hgx hup
        go_wp2_with (fail)
        go_roundw
        case rel => exact ⟨k + 1, by omega, by go_num, HS⟩
        case measure => simp [intOf]; omega
      · have hne : (x.toList == [46, 46]) = false := by rw [str_list]; exact beq_eq_false_iff_ne.2 hup
        have HNM : Hd (namedL x.data.toList = true) := ⟨by
          unfold goodP at hgx
          rw [beq_eq_false_iff_ne.2 hup, Bool.false_or] at hgx
          exact hgx⟩
        clear hxk hgx hup
        have hxs := named_size HNM.out
        go_wp2_with (go_at_call 14; refine (rnamed_calls x _ (by omega)).mono ?_; rintro e w2 ⟨rfl, rfl⟩; rw [HNM.out])
        go_roundw
        case rel => exact ⟨k + 1, by omega, by go_num, HS⟩
        case measure => simp [intOf]; omega
    · obtain rfl : k = X.length := by omega
      have TK : Hd True := ⟨trivial⟩
      rcases List.eq_nil_or_concat X with hX | ⟨zs, z, hX⟩
      · subst hX
        change _ = some (Value.slice A 0 c) at k1
        go_wp2_with (first
          | (clear TK; refine box_load HS 0 _ rfl rfl _ rfl rfl ?_)
          | (go_at_call 19; refine (last_none _ _ _ _).mono ?_; rintro e w2 ⟨A2, c2, rfl, hc, hr, hb⟩; have HS := Hd.mk ((HS.out.call hb).push false hr hc); have k2 := (HS.out.all 1 _ rfl).blk.cell (i := 1) rfl; simp only [List.length_nil] at k2; clear hr hb hc)
          | (go_at_call 10; refine (known_calls _).mono ?_; rintro e w3 ⟨rfl, hb1⟩; have HS := Hd.mk (HS.out.call hb1); clear hb1))
        go_ret
        exact ⟨rfl, HS.out.bel⟩
      · rw [List.concat_eq_append] at hX
        obtain ⟨n, hn⟩ : ∃ n, X.length = n := ⟨_, rfl⟩
        have hn2 : n = zs.length + 1 := by rw [← hn, hX]; simp
        obtain ⟨b, off, hA, hcx⟩ := (HS.out.all 0 _ rfl).rc zs.length (.string z) (by
          rw [hX]; unfold svs; rw [List.map_append, List.getElem?_append_right (by simp)]; simp)
        change A = _ at hA
        subst hA
        obtain ⟨k, hkz⟩ : ∃ k, zs.length = k := ⟨_, rfl⟩
        rw [hkz] at hcx hn2
        have i3 : (n : Int) - 1 = (k : Int) := by omega
        have i1 : (0 : Int) ≤ (k : Int) := by omega
        have i2 : (k : Int) < (n : Int) := by omega
        have i4 : ((n : Int) == 0) = false := by rw [beq_eq_false_iff_ne]; omega
        have HN2 := Hd.mk hn2
        have HKZ := Hd.mk hkz
        have HX := Hd.mk hX
        have HNX := Hd.mk hn
        rw [hn] at k1
        clear hn2 hkz hX
        by_cases hup : z.data.toList = [46, 46]
        · have hne : (z.toList == [46, 46]) = true := by rw [str_list, hup]; rfl
          clear hup
          go_wp2_with (first
            | (clear TK; refine box_load HS 0 _ rfl rfl _ rfl rfl ?_)
            | (go_at_call 19; refine (last_up B b off k n c z _ hcx HN2.out (by omega) hne).mono ?_; rintro e w2 ⟨A2, c2, rfl, hc, hr, hb⟩
               have hcx := (hb.cell (World.block_lt_of_cell? _ _ hcx)).trans hcx
               have hcx := (((Below.refl _ w2).alloc (Nat.le_refl _) (.cells #[.bool false, .slice A2 0 c2] 25)).cell (World.block_lt_of_cell? _ _ hcx)).trans hcx
               have HS := Hd.mk ((HS.out.call hb).push false hr hc); have k2 := (HS.out.all 1 _ rfl).blk.cell (i := 1) rfl; rw [show (PBox.mk w1.heap.size B (some ⟨b, off, none⟩) X c).X.length = n from HNX.out, List.length_nil] at k2; clear hr hb hc)
            | (go_at_call 10; refine (known_calls _).mono ?_; rintro e w3 ⟨rfl, hb1⟩; have HS := Hd.mk (HS.out.call hb1); clear hb1))
          go_ret
          exact ⟨rfl, HS.out.bel⟩
        · have hne : (z.toList == [46, 46]) = false := by rw [str_list]; exact beq_eq_false_iff_ne.2 hup
          have HNM : Hd (namedL z.data.toList = true) := ⟨by
            have hgz := HGd.out z (by rw [HX.out]; simp)
            unfold goodP at hgz
            rw [beq_eq_false_iff_ne.2 hup, Bool.false_or] at hgz
            exact hgz⟩
          have HRz : Hd (Rc wr (some ⟨b, off, none⟩) (svs zs)) := ⟨by
            have h1 := (HS.out.all 0 _ rfl).rc
            change Rc wr _ (svs X) at h1
            rw [HX.out, svs_app] at h1
            exact h1.app⟩
          have hzs := named_size HNM.out
          clear hup
          go_wp2_with (first
            | (clear TK; refine box_load HS 0 _ rfl rfl _ rfl rfl ?_)
            | (go_at_call 19; refine (last_go B b off k n c z zs _ hcx HRz.out HN2.out (by have := (HS.out.all 0 _ rfl).cap; have := HNX.out; simp only at *; omega) HKZ.out.symm (by omega) hne).mono ?_; rintro e w2 ⟨A2, c2, rfl, hc, hr, hb⟩
               have HS := Hd.mk ((HS.out.call hb).push B hr hc); clear hr hb hc))
          have hnX := HNX.out
          subst hnX
          have HL := Hd.mk (HS.out.all 1 _ rfl).cap
          generalize hW : (w2.alloc (.cells #[.bool B, .slice A2 zs.length c2] 25)) = W at HS ⊢
          refine region_fam (fun f => #[Value.string s, undef, f 14, Value.pointer (some ⟨w1.heap.size, 0, none⟩), Value.int .i64 0, Value.int .i64 X.length, Value.pointer (some ⟨w2.heap.size, 0, none⟩), Value.string z, Value.int .i64 0, Value.string s, Value.int .i64 s.size, Value.bool false, undef, Value.tuple #[Value.agg #[Value.bool B, Value.slice (some ⟨b, off, none⟩) X.length c], Value.int .i64 0], Value.string s, Value.tuple #[Value.agg #[Value.bool B, Value.slice (some ⟨b, off, none⟩) X.length c], Value.int .i64 0], Value.agg #[Value.bool B, Value.slice (some ⟨b, off, none⟩) X.length c], Value.int .i64 0, Value.int .i64 0, Value.bool false, undef, Value.int .i64 X.length, Value.pointer (some ⟨w1.heap.size, 1, none⟩), Value.slice (some ⟨b, off, none⟩) X.length c, Value.int .i64 X.length, Value.bool false, u26, u27, u28, u29, u30, u31, u32, u33, u34, u35, u36, u37, u38, u39, u40, u41, u42, Value.tuple #[Value.agg #[Value.bool B, Value.slice A2 zs.length c2], Value.string z, Value.int .i64 0], Value.agg #[Value.bool B, Value.slice (some ⟨b, off, none⟩) X.length c], Value.tuple #[Value.agg #[Value.bool B, Value.slice A2 zs.length c2], Value.string z, Value.int .i64 0], Value.agg #[Value.bool B, Value.slice A2 zs.length c2], Value.string z, Value.int .i64 0, Value.int .i64 0, Value.bool false, undef, undef, undef, undef, undef, undef, undef, undef, undef, undef, undef, undef, undef, undef, undef, undef, undef, undef, undef, undef, undef, undef, f 0, f 1, f 2, f 3, f 4, f 5, f 6, f 7, f 8, f 9, f 10, f 11, f 12, f 13])
            (MV B (some ⟨b, off, none⟩) A2 c c2 X zs z) (fun W' => Boxes w W' [⟨w2.heap.size, B, A2, zs, c2⟩, ⟨w1.heap.size, B, some ⟨b, off, none⟩, X, c⟩]) (fun _ => KeepBut none) (by kernel_rfl) (by kernel_rfl) (fun i => if i = 14 then u2 else undef) rfl (HS.out.call (Below.refl _ _).drew) MV_stab ?put ?step ?fin
          case put =>
            intro i o ho f v
            rcases i with _ | _ | _ | _ | _ | _ | _ | _ | _ | _ | _ | _ | _ | _ | _ | i
            all_goals first | (injection ho with ho; subst ho; rfl) | (cases ho)
          case step =>
            intro i o ho f w5 hG hp
            have hc0 := (hG.all 0 _ rfl).blk.cell (i := 0) rfl
            have hc1 := (hG.all 0 _ rfl).blk.cell (i := 1) rfl
            have hd0 := (hG.all 1 _ rfl).blk.cell (i := 0) rfl
            have hd1 := (hG.all 1 _ rfl).blk.cell (i := 1) rfl
            rcases i with _ | _ | _ | _ | _ | _ | _ | _ | _ | _ | _ | _ | _ | _ | _ | i
            · injection ho with ho; subst ho
              refine wpOp_go rfl rfl ?_
              go_simp
              first | exact ⟨hG, .refl _ _, rfl⟩ | exact ⟨.refl _ _, rfl⟩
            · injection ho with ho; subst ho
              have h0 : f 0 = _ := hp ⟨0, .data⟩ (by simp) rfl
              simp only [h0]
              refine wpOp_go rfl rfl ?_
              go_simp
              refine (rnamed_calls z _ (by omega)).mono ?_
              rintro e w6 ⟨rfl, rfl⟩
              rw [HNM.out]
              first | exact ⟨hG, .refl _ _, rfl⟩ | exact ⟨.refl _ _, rfl⟩
            · injection ho with ho; subst ho
              have h1 : f 1 = _ := hp ⟨1, .data⟩ (by simp) rfl
              simp only [h1]
              refine wpOp_go rfl rfl ?_
              go_simp
              first | exact ⟨hG, .refl _ _, rfl⟩ | exact ⟨.refl _ _, rfl⟩
            · injection ho with ho; subst ho
              have h2 : f 2 = _ := hp ⟨2, .guard⟩ (by simp) rfl
              simp only [h2]
              refine wpOp_go rfl rfl ?_
              go_simp
              first | exact ⟨hG, .refl _ _, rfl⟩ | exact ⟨.refl _ _, rfl⟩
            · injection ho with ho; subst ho
              have h2 : f 2 = _ := hp ⟨2, .guard⟩ (by simp) rfl
              simp only [h2]
              refine wpOp_go rfl rfl ?_
              go_simp
              first | exact ⟨hG, .refl _ _, rfl⟩ | exact ⟨.refl _ _, rfl⟩
            · injection ho with ho; subst ho
              have h4 : f 4 = _ := hp ⟨4, .data⟩ (by simp) rfl
              have h2 : f 2 = _ := hp ⟨2, .guard⟩ (by simp) rfl
              simp only [h4, h2]
              refine wpOp_go rfl rfl ?_
              go_simp
              exact ⟨hG.call ((Below.refl _ _).alloc (Nat.le_refl _) _), .alloc _ _ _, w5.heap.size, rfl, Blk.new w5 _ [.string z]⟩
            · injection ho with ho; subst ho
              have h2 : f 2 = _ := hp ⟨2, .guard⟩ (by simp) rfl
              obtain ⟨g, h5, hb5⟩ := hp ⟨5, .data⟩ (by simp) rfl
              change f 5 = _ at h5
              simp only [h2, h5]
              refine wpOp_go rfl rfl ?_
              go_simp
              first | exact ⟨hG, .refl _ _, g, rfl, hb5⟩ | exact ⟨.refl _ _, g, rfl, hb5⟩
            · injection ho with ho; subst ho
              have h3 : f 3 = _ := hp ⟨3, .data⟩ (by simp) rfl
              have h2 : f 2 = _ := hp ⟨2, .guard⟩ (by simp) rfl
              obtain ⟨g, h6, hb6⟩ := hp ⟨6, .data⟩ (by simp) rfl
              change f 6 = _ at h6
              simp only [h3, h2, h6]
              refine wpOp_go rfl rfl ?_
              go_simp
              refine (join_f B _ _ _ _ _ _ zs [z] X _ HX.out (hG.all 0 _ rfl).rc hb6.rc rfl rfl (by rw [HKZ.out]; simp; omega)).mono ?_
              rintro e w6 ⟨A', c', rfl, h1, h2, hb⟩
              exact ⟨hG.call hb, .of_below hb _, A', c', rfl, h2⟩
            · injection ho with ho; subst ho
              have h2 : f 2 = _ := hp ⟨2, .guard⟩ (by simp) rfl
              simp only [h2]
              refine wpOp_go rfl rfl ?_
              go_simp
              first | exact ⟨hG, .refl _ _, rfl⟩ | exact ⟨.refl _ _, rfl⟩
            · injection ho with ho; subst ho
              have h8 : f 8 = _ := hp ⟨8, .data⟩ (by simp) rfl
              have h2 : f 2 = _ := hp ⟨2, .guard⟩ (by simp) rfl
              obtain ⟨A', c', h7, hr7⟩ := hp ⟨7, .data⟩ (by simp) rfl
              change f 7 = _ at h7
              simp only [h8, h2, h7]
              refine wpOp_go rfl rfl ?_
              go_simp
              refine (same_calls B B _ _ _ _ _ _ X X _ hr7 (hG.all 1 _ rfl).rc rfl rfl (by omega) (by omega)).mono ?_
              rintro e w6 ⟨rfl, hb⟩
              rw [eqP_yes ⟨rfl, rfl⟩]
              exact ⟨hG.call hb, .of_below hb _, rfl⟩
            · injection ho with ho; subst ho
              have h2 : f 2 = _ := hp ⟨2, .data⟩ (by simp) rfl
              have h9 : f 9 = _ := hp ⟨9, .data⟩ (by simp) rfl
              simp only [h2, h9]
              refine wpOp_go rfl rfl ?_
              go_simp
              first | exact ⟨hG, .refl _ _, rfl⟩ | exact ⟨.refl _ _, rfl⟩
            · injection ho with ho; subst ho
              have h10 : f 10 = _ := hp ⟨10, .data⟩ (by simp) rfl
              simp only [h10]
              refine wpOp_go rfl rfl ?_
              go_simp
              first | exact ⟨hG, .refl _ _, rfl⟩ | exact ⟨.refl _ _, rfl⟩
            · injection ho with ho; subst ho
              have h11 : f 11 = _ := hp ⟨11, .guard⟩ (by simp) rfl
              simp only [h11]
              refine wpOp_go rfl rfl ?_
              go_simp
              refine (known_calls _).mono ?_
              rintro e w6 ⟨rfl, hb⟩
              exact ⟨hG.call hb, .of_below hb _, rfl⟩
            · injection ho with ho; subst ho
              have h11 : f 11 = _ := hp ⟨11, .data⟩ (by simp) rfl
              have h12 : f 12 = _ := hp ⟨12, .data⟩ (by simp) rfl
              simp only [h11, h12]
              refine wpOp_go rfl rfl ?_
              go_simp
              first | exact ⟨hG, .refl _ _, rfl⟩ | exact ⟨.refl _ _, rfl⟩
            · injection ho with ho; subst ho
              have h13 : f 13 = _ := hp ⟨13, .data⟩ (by simp) rfl
              simp only [h13]
              refine wpOp_go rfl rfl ?_
              go_simp
              first | exact ⟨hG, .refl _ _, rfl⟩ | exact ⟨.refl _ _, rfl⟩
            · cases ho
          case fin =>
            intro f w5 hG hV
            have h14 : f 14 = _ := hV 14 (by simp)
            simp only [h14]
            go_wp2_with (fail)
            go_ret
            exact ⟨rfl, hG.bel⟩
theorem law_last (s : ByteArray) (w : World) (hs0 : s.size ≤ 140737488351232) : Calls Tryd.prog 9 #[.string s] w (RetT w) := by
  by_cases hs : s.size ≤ 200
  · have f1 : decide ((s.size : Int) > 200) = false := by simp; omega
    cases hok : okL s.data.toList
    · exact law_last_no s w f1 (parse_is s _ rfl (by omega) (err_no hok))
    · refine law_last_yes s w f1 _ _ (parse_is s _ rfl (by omega) (⟨rfl, by unfold errR; rw [if_pos hok], rfl⟩ : absR s.data.toList = absR s.data.toList ∧ errR s.data.toList = 0 ∧ namesL s.data.toList = namesL s.data.toList)) ⟨fun x hx => ?_⟩ (names_le _)
      have h1 := (ok_good hok).1
      rw [← names_data hok] at h1
      exact List.all_eq_true.1 h1 _ (List.mem_map_of_mem hx)
  · exact law_last_big s w (by simp; omega)
end Go.Proofs.YtncagcbdgimpfaaDoor
