/- E14RefPut: E14RefPut, E14RefPut2. -/
import Derived.BigQuiet
import Derived.Test.YtiloeaenpanjcaaE14Same
/-! from E14RefPut -/
namespace Go.Proofs.Ytiloeaenpanjcaa
open Go.RowKit Go.Sac
set_option linter.unusedVariables false
set_option linter.unusedSimpArgs false

theorem gt_ways (a b : ByteArray) : (gtN a b = false ∧ Op.bytesLess a.toList b.toList = true) ∨ (gtN a b = false ∧ Op.bytesLess a.toList b.toList = false ∧ (a.toList == b.toList) = true) ∨ (gtN a b = true ∧ Op.bytesLess a.toList b.toList = false ∧ (a.toList == b.toList) = false) := by
  unfold gtN
  cases Op.bytesLess a.toList b.toList <;> cases (a.toList == b.toList) <;> simp
theorem pos_low {l : List Ent} {x : Ent} {k : Nat} (hk : k < l.length) (h : k < posE l x) : gtN l[k].1 x.1 = false := by
  unfold posE idxE at h
  cases hf : l.findIdx? (fun y => gtN y.1 x.1) with
  | none => exact List.findIdx?_eq_none_iff.1 hf _ (List.getElem_mem hk)
  | some j =>
    rw [hf] at h
    dsimp only at h
    rw [if_neg (by omega), Int.toNat_natCast] at h
    have := (List.findIdx?_eq_some_iff_getElem.1 hf).2.2 k h
    simpa using this
theorem pos_at {l : List Ent} {x : Ent} {k : Nat} (hk : k < l.length) (h : posE l x = k) : gtN l[k].1 x.1 = true := by
  unfold posE idxE at h
  cases hf : l.findIdx? (fun y => gtN y.1 x.1) with
  | none => rw [hf] at h; dsimp only at h; rw [if_pos (by omega)] at h; omega
  | some j =>
    rw [hf] at h
    dsimp only at h
    rw [if_neg (by omega), Int.toNat_natCast] at h
    subst h
    exact (List.findIdx?_eq_some_iff_getElem.1 hf).2.1
/-- the row behind i rounds -/
def rowPut (l : List Ent) (x : Ent) (i : Nat) : List Ent := if posE l x < i then (insE l x).take (i + 1) else l.take i
theorem rowPut_zero (l : List Ent) (x : Ent) : rowPut l x 0 = [] := by unfold rowPut; simp
theorem rowPut_len (l : List Ent) (x : Ent) (i : Nat) (h : i ≤ l.length) : (rowPut l x i).length = if posE l x < i then i + 1 else i := by
  have := insE_len l x
  unfold rowPut
  split <;> rw [List.length_take] <;> omega
theorem ins_at {l : List Ent} {x : Ent} {i : Nat} (hi : i < l.length) (h : posE l x ≤ i) : (insE l x)[i + 1]? = some l[i] := by
  have hp := posE_le l x
  unfold insE
  rw [List.getElem?_append_right (by rw [List.length_take]; omega), List.length_take, Nat.min_eq_left hp, show i + 1 - posE l x = (i - posE l x) + 1 by omega, List.getElem?_cons_succ, List.getElem?_drop, show posE l x + (i - posE l x) = i by omega, List.getElem?_eq_getElem hi]
theorem put_laid {l : List Ent} {x : Ent} {i : Nat} (hi : i < l.length) (h : posE l x < i) : rowPut l x (i + 1) = rowPut l x i ++ [l[i]] := by
  unfold rowPut
  rw [if_pos (by omega), if_pos h]
  have h1 := insE_len l x
  rw [List.take_succ_eq_append_getElem (show i + 1 < (insE l x).length by omega)]
  have := ins_at hi (Nat.le_of_lt h)
  rw [List.getElem?_eq_getElem (show i + 1 < (insE l x).length by omega)] at this
  rw [Option.some.inj this]
theorem put_now {l : List Ent} {x : Ent} {i : Nat} (hi : i < l.length) (h : posE l x = i) : rowPut l x (i + 1) = (rowPut l x i ++ [x]) ++ [l[i]] := by
  unfold rowPut
  rw [if_pos (by omega), if_neg (by omega)]
  have h1 := insE_len l x
  rw [List.take_succ_eq_append_getElem (show i + 1 < (insE l x).length by omega)]
  have := ins_at hi (Nat.le_of_eq h)
  rw [List.getElem?_eq_getElem (show i + 1 < (insE l x).length by omega)] at this
  rw [Option.some.inj this]
  congr 1
  unfold insE
  rw [h, show l.take i ++ x :: l.drop i = (l.take i ++ [x]) ++ l.drop i by simp, List.take_left' (by simp; omega)]
theorem put_later {l : List Ent} {x : Ent} {i : Nat} (hi : i < l.length) (h : i < posE l x) : rowPut l x (i + 1) = rowPut l x i ++ [l[i]] := by
  unfold rowPut
  rw [if_neg (by omega), if_neg (by omega), List.take_succ_eq_append_getElem hi]
theorem put_end_laid {l : List Ent} {x : Ent} (h : posE l x < l.length) : rowPut l x l.length = insE l x := by
  unfold rowPut
  rw [if_pos h, List.take_of_length_le (by rw [insE_len]; exact Nat.le_refl _)]
theorem put_end {l : List Ent} {x : Ent} (h : posE l x = l.length) : rowPut l x l.length ++ [x] = insE l x := by
  unfold rowPut insE
  rw [if_neg (by omega), h, List.take_of_length_le (Nat.le_refl _), List.drop_of_length_le (Nat.le_refl _)]
set_option maxHeartbeats 4000000 in
theorem rput_fresh (A : Option Addr) (n c : Nat) (l : List Ent) (x : Ent) (w : World) (hl : Rc w A (ens l)) (e1 : n = l.length) (hn : l.length ≤ 5864062014634) (hs : x.1.size ≤ 140737488351232) (hN : namedL x.1.data.toList = true) (hA : atE l x.1 = -1) :
    Calls Try.prog 19 #[.slice A n c, ev x] w (RetLE (insE l x) 0 w) := by
  obtain ⟨p, hp⟩ : ∃ p, posE l x = p := ⟨_, rfl⟩
  have hpl := posE_le l x
  rw [hp, ← e1] at hpl
  obtain ⟨xn, xk⟩ := x
  have HL := Hd.mk hl
  have HE := Hd.mk e1
  have HNM := Hd.mk hN
  have HAT := Hd.mk hA
  have HP := Hd.mk hp
  have K0 : Hd (Blk (w.alloc (.cells #[.string xn, .int .i64 xk] 31)) w.heap.size 31 (ecs (xn, xk))) := ⟨Blk.new w _ _⟩
  have HB : Hd (Below w.heap.size w (w.alloc (.cells #[.string xn, .int .i64 xk] 31))) := ⟨(Below.refl _ w).alloc (Nat.le_refl _) _⟩
  have SZ : Hd (w.heap.size + 1 ≤ (w.alloc (.cells #[.string xn, .int .i64 xk] 31)).heap.size) := ⟨by simp⟩
  rw [← e1] at hn
  clear hl e1 hN hA hp
  dsimp only at hs
  unfold ev
  go_enter Try.func19, Try.ntmps19
  go_wp2_with (first
    | (go_at_call 21; refine (rnamed_calls _ _ hs).mono ?_; rintro e w1 ⟨rfl, rfl⟩; rw [HNM.out])
    | (go_at_call 35; refine (rat_calls A n c l _ _ (HL.out.below HB.out) HE.out (by have := HE.out; omega)).mono ?_; rintro e w2 ⟨rfl, rfl⟩; rw [HAT.out]))
  go_loopw [6, 7, 8] (fun ov lv iv wr => ∃ (i : Nat) (ld : Bool), iv = .int .i64 (i : Int) ∧ i ≤ n ∧ lv = .bool ld ∧ Hd (ld = decide (p < i)) ∧ Hd (wr.ownsRow (w.heap.size + 1) 31 2 ov (rowPut l (xn, xk) i).length (ens (rowPut l (xn, xk) i))) ∧ Hd (Blk wr w.heap.size 31 (ecs (xn, xk))) ∧ Hd (Below w.heap.size w wr) ∧ Hd (w.heap.size + 1 ≤ wr.heap.size)) (fun _ _ iv _ => n - (intOf iv).toNat)
  case atStart => exact ⟨0, false, rfl, Nat.zero_le _, rfl, ⟨by simp⟩, ⟨by rw [rowPut_zero]; exact World.ownsRow_nil _ _ _ _⟩, K0, HB, SZ⟩
  case round =>
    clear K0 HB SZ
    obtain ⟨i, ld, rfl, hi, rfl, HD, HO, K0, HB, SZ⟩ := hrel
    by_cases hlt : i < n
    · have hil : i < l.length := by rw [← HE.out]; exact hlt
      have hil2 : (i : Int) < (n : Int) := by omega
      obtain ⟨b, off, rfl, hb, hr⟩ := rcK_form ecs_len (by decide) HL.out (by omega)
      obtain ⟨⟨yn, yk⟩, hy0⟩ : ∃ y, l[i] = y := ⟨_, rfl⟩
      have HYI : Hd (∀ hk : i < l.length, l[i] = (yn, yk)) := ⟨fun _ => hy0⟩
      have hx := hr i hil
      rw [hy0] at hx
      have HX := Hd.mk hx
      have hcx : wr.cell? ⟨b, off + i * 2, none⟩ = some (.string yn) := hx wr HB.out 0 _ rfl
      have hcb : wr.cell? ⟨w.heap.size, 0, none⟩ = some (.string xn) := K0.out.cell rfl
      obtain ⟨m, hm⟩ : ∃ m, (rowPut l (xn, xk) i).length = m := ⟨_, rfl⟩
      have hm2 : m ≤ i + 1 := by rw [← hm, rowPut_len _ _ _ (by omega)]; split <;> omega
      obtain ⟨X, hX⟩ : ∃ X, rowPut l (xn, xk) i = X := ⟨_, rfl⟩
      have HXR := Hd.mk hX
      have HM := Hd.mk hm
      rw [hX] at HO
      have HML : Hd (X.length = m) := ⟨by rw [← hX]; exact hm⟩
      rw [HML.out] at HO
      clear hr hx hb hm hX
      cases ld
      · have hpi : ¬ p < i := by have := HD.out; simpa using this.symm
        by_cases hpe : p = i
        · have hg : gtN yn xn = true := by have h := pos_at (x := (xn, xk)) hil (by rw [HP.out]; exact hpe); rw [hy0] at h; exact h
          rcases gt_ways yn xn with ⟨h1, _⟩ | ⟨h1, _⟩ | ⟨_, d1, d2⟩
          · rw [hg] at h1; cases h1
          · rw [hg] at h1; cases h1
          · have HS : Hd (rowPut l (xn, xk) (i + 1) = (X ++ [(xn, xk)]) ++ [(yn, yk)]) := ⟨by rw [put_now hil (by rw [HP.out]; exact hpe), HXR.out, hy0]⟩
            clear hy0 hg hil
            have T1 : Hd True := ⟨trivial⟩
            have T2 : Hd True := ⟨trivial⟩
            go_wp2
            go_quiet (fail)
            have SZ := Hd.mk (Nat.le_trans SZ.out (below_drewN (Below.refl wr.heap.size wr) nq).size)
            have K0 := Hd.mk (K0.out.below (below_drewN (Below.refl wr.heap.size wr) nq) K0.out.lt)
            have HO := Hd.mk (own_below HO.out (below_drewN (Below.refl wr.heap.size wr) nq))
            have HB := Hd.mk (below_drewN HB.out nq)
            generalize wr.drewN nq = wq at *
            go_wp2_with (first
              | (refine wpList_load_row rfl 31 (.tmp 3) rfl w.heap.size rfl 31 #[.string xn, .int .i64 xk] (0, 0) _ K0.out Try.underlying31 rfl (ent_info.trans rfl) ?_)
              | (refine wpList_ldmid rfl 31 (.tmp 43) rfl b (off + i * 2) rfl [.string yn, .int .i64 yk] _ (HX.out _ HB.out) Try.underlying31 rfl (ent_info.trans rfl) ?_)
              | (clear T1; at_builtin; refine app_rc (w.heap.size + 1) 25 31 _ 2 24 _ _ rfl rfl Try.underlying25 info_ent rfl (by decide) (by decide) _ m (ens X) (ecs (xn, xk)) _ 1 1 rfl rfl (own_alloc HO.out _) (Blk.new wq 31 (ecs (xn, xk))).rc rfl (ecs_one _) (by rw [World.size_alloc]; have := SZ.out; omega) (by omega) (m + 1) (ens (X ++ [(xn, xk)])) rfl (by rw [ens_app, ens_single]) ?_
                 intro v1 w1 ho hg hat
                 have hbl : Below (w.heap.size + 1) wq w1 := below_lift ((Below.refl _ wq).alloc SZ.out _) (by rw [World.size_alloc]; have := SZ.out; omega) hg (fun k hk => (own_lt HO.out k hk).1)
                 have K0 := Hd.mk (K0.out.below hbl (by omega)); have HB := Hd.mk (HB.out.trans (hbl.mono (by omega))); have SZ := Hd.mk (Nat.le_trans SZ.out hbl.size); have HO := Hd.mk ho; clear ho hg hat hbl)
              | (clear T2; at_builtin; refine app_rc (w.heap.size + 1) 25 31 _ 2 24 _ _ rfl rfl Try.underlying25 info_ent rfl (by decide) (by decide) _ (m + 1) (ens (X ++ [(xn, xk)])) (ecs (yn, yk)) _ 1 1 rfl rfl (own_alloc HO.out _) (Blk.new w1 31 (ecs (yn, yk))).rc rfl (ecs_one _) (by rw [World.size_alloc]; have := SZ.out; omega) (by omega) (m + 1 + 1) (ens ((X ++ [(xn, xk)]) ++ [(yn, yk)])) rfl (by rw [ens_app (X ++ [(xn, xk)]), ens_single]) ?_
                 intro v2 w2 ho hg hat
                 have hbl : Below (w.heap.size + 1) w1 w2 := below_lift ((Below.refl _ w1).alloc SZ.out _) (by rw [World.size_alloc]; have := SZ.out; omega) hg (fun k hk => (own_lt HO.out k hk).1)
                 have K0 := Hd.mk (K0.out.below hbl (by omega)); have HB := Hd.mk (HB.out.trans (hbl.mono (by omega))); have SZ := Hd.mk (Nat.le_trans SZ.out hbl.size); have HO := Hd.mk ho; clear ho hg hat hbl))
            go_roundw
            case rel =>
              refine ⟨i + 1, true, by go_num, by omega, rfl, ⟨by simp; omega⟩, ⟨?_⟩, K0, HB, SZ⟩
              rw [HS.out, show ((X ++ [(xn, xk)]) ++ [(yn, yk)]).length = m + 1 + 1 by simp [HML.out]]
              exact HO.out
            case measure => simp [intOf]; omega
        · have hg : gtN yn xn = false := by have h := pos_low (x := (xn, xk)) hil (by rw [HP.out]; omega); rw [hy0] at h; exact h
          have HS : Hd (rowPut l (xn, xk) (i + 1) = X ++ [(yn, yk)]) := ⟨by rw [put_later hil (by rw [HP.out]; omega), HXR.out, hy0]⟩
          rcases gt_ways yn xn with ⟨_, d1⟩ | ⟨_, d1, d2⟩ | ⟨h1, _⟩
          rotate_right 1
          · rw [hg] at h1; cases h1
          all_goals
            clear hy0 hg hil
            go_wp2
            go_quiet (fail)
            have SZ := Hd.mk (Nat.le_trans SZ.out (below_drewN (Below.refl wr.heap.size wr) nq).size)
            have K0 := Hd.mk (K0.out.below (below_drewN (Below.refl wr.heap.size wr) nq) K0.out.lt)
            have HO := Hd.mk (own_below HO.out (below_drewN (Below.refl wr.heap.size wr) nq))
            have HB := Hd.mk (below_drewN HB.out nq)
            generalize wr.drewN nq = wq at *
            go_wp2_with (first
              | (refine wpList_ldmid rfl 31 (.tmp 43) rfl b (off + i * 2) rfl [.string yn, .int .i64 yk] _ (HX.out _ HB.out) Try.underlying31 rfl (ent_info.trans rfl) ?_)
              | (at_builtin; refine app_rc (w.heap.size + 1) 25 31 _ 2 24 _ _ rfl rfl Try.underlying25 info_ent rfl (by decide) (by decide) _ m (ens X) (ecs (yn, yk)) _ 1 1 rfl rfl (own_alloc HO.out _) (Blk.new _ 31 (ecs (yn, yk))).rc rfl (ecs_one _) (by rw [World.size_alloc]; have := SZ.out; omega) (by omega) (m + 1) (ens (X ++ [(yn, yk)])) rfl (by rw [ens_app, ens_single]) ?_
                 intro v1 w1 ho hg hat
                 have hbl : Below (w.heap.size + 1) wq w1 := below_lift ((Below.refl _ _).alloc SZ.out _) (by rw [World.size_alloc]; have := SZ.out; omega) hg (fun k hk => (own_lt HO.out k hk).1)
                 have K0 := Hd.mk (K0.out.below hbl (by omega)); have HB := Hd.mk (HB.out.trans (hbl.mono (by omega))); have SZ := Hd.mk (Nat.le_trans SZ.out hbl.size); have HO := Hd.mk ho; clear ho hg hat hbl))
            go_roundw
            case rel =>
              refine ⟨i + 1, false, by go_num, by omega, rfl, ⟨by simp; omega⟩, ⟨?_⟩, K0, HB, SZ⟩
              rw [HS.out, show (X ++ [(yn, yk)]).length = m + 1 by simp [HML.out]]
              exact HO.out
            case measure => simp [intOf]; omega
      · have hpi : p < i := by have := HD.out; simpa using this.symm
        have HS : Hd (rowPut l (xn, xk) (i + 1) = X ++ [(yn, yk)]) := ⟨by rw [put_laid hil (by rw [HP.out]; exact hpi), HXR.out, hy0]⟩
        clear hy0 hil
        go_wp2
        go_quiet (fail)
        have SZ := Hd.mk (Nat.le_trans SZ.out (below_drewN (Below.refl wr.heap.size wr) nq).size)
        have K0 := Hd.mk (K0.out.below (below_drewN (Below.refl wr.heap.size wr) nq) K0.out.lt)
        have HO := Hd.mk (own_below HO.out (below_drewN (Below.refl wr.heap.size wr) nq))
        have HB := Hd.mk (below_drewN HB.out nq)
        generalize wr.drewN nq = wq at *
        go_wp2_with (first
          | (refine wpList_ldmid rfl 31 (.tmp 43) rfl b (off + i * 2) rfl [.string yn, .int .i64 yk] _ (HX.out _ HB.out) Try.underlying31 rfl (ent_info.trans rfl) ?_)
          | (at_builtin; refine app_rc (w.heap.size + 1) 25 31 _ 2 24 _ _ rfl rfl Try.underlying25 info_ent rfl (by decide) (by decide) _ m (ens X) (ecs (yn, yk)) _ 1 1 rfl rfl (own_alloc HO.out _) (Blk.new _ 31 (ecs (yn, yk))).rc rfl (ecs_one _) (by rw [World.size_alloc]; have := SZ.out; omega) (by omega) (m + 1) (ens (X ++ [(yn, yk)])) rfl (by rw [ens_app, ens_single]) ?_
             intro v1 w1 ho hg hat
             have hbl : Below (w.heap.size + 1) wq w1 := below_lift ((Below.refl _ _).alloc SZ.out _) (by rw [World.size_alloc]; have := SZ.out; omega) hg (fun k hk => (own_lt HO.out k hk).1)
             have K0 := Hd.mk (K0.out.below hbl (by omega)); have HB := Hd.mk (HB.out.trans (hbl.mono (by omega))); have SZ := Hd.mk (Nat.le_trans SZ.out hbl.size); have HO := Hd.mk ho; clear ho hg hat hbl))
        go_roundw
        case rel =>
          refine ⟨i + 1, true, by go_num, by omega, rfl, ⟨by simp; omega⟩, ⟨?_⟩, K0, HB, SZ⟩
          rw [HS.out, show (X ++ [(yn, yk)]).length = m + 1 by simp [HML.out]]
          exact HO.out
        case measure => simp [intOf]; omega
    · obtain rfl : i = n := by omega
      cases ld
      · have hpi : ¬ p < i := by have := HD.out; simpa using this.symm
        have hpe : posE l (xn, xk) = l.length := by rw [HP.out, ← HE.out]; omega
        have HS : Hd (rowPut l (xn, xk) i ++ [(xn, xk)] = insE l (xn, xk)) := ⟨by have h := put_end hpe; rw [← HE.out] at h; exact h⟩
        have hm : (rowPut l (xn, xk) i).length = i := by rw [rowPut_len _ _ _ (by rw [HE.out]; exact Nat.le_refl _), if_neg (by rw [HP.out]; exact hpi)]
        obtain ⟨X, hX⟩ : ∃ X, rowPut l (xn, xk) i = X := ⟨_, rfl⟩
        rw [hX] at HO HS hm
        rw [hm] at HO
        have HML := Hd.mk hm
        clear hpe hX hm
        go_wp2_with (first
          | (refine wpList_load_row rfl 31 (.tmp 3) rfl w.heap.size rfl 31 #[.string xn, .int .i64 xk] (0, 0) _ K0.out Try.underlying31 rfl (ent_info.trans rfl) ?_)
          | (at_builtin; refine app_rc (w.heap.size + 1) 25 31 _ 2 24 _ _ rfl rfl Try.underlying25 info_ent rfl (by decide) (by decide) _ i (ens X) (ecs (xn, xk)) _ 1 1 rfl rfl (own_alloc HO.out _) (Blk.new wr 31 (ecs (xn, xk))).rc rfl (ecs_one _) (by rw [World.size_alloc]; have := SZ.out; omega) (by omega) (i + 1) (ens (X ++ [(xn, xk)])) rfl (by rw [ens_app, ens_single]) ?_
             intro v1 w1 ho hg hat
             have hbl : Below (w.heap.size + 1) wr w1 := below_lift ((Below.refl _ wr).alloc SZ.out _) (by rw [World.size_alloc]; have := SZ.out; omega) hg (fun k hk => (own_lt HO.out k hk).1)
             have HB := Hd.mk (HB.out.trans (hbl.mono (by omega))); have HO := Hd.mk ho; clear ho hg hat hbl))
        go_ret2
        refine ⟨v1, rfl, ?_, HB.out⟩
        rw [← HS.out, show (X ++ [(xn, xk)]).length = i + 1 by simp [HML.out]]
        exact own_lower HO.out (by omega)
      · have hpi : p < i := by have := HD.out; simpa using this.symm
        have HS : Hd (rowPut l (xn, xk) i = insE l (xn, xk)) := ⟨by have h := put_end_laid (l := l) (x := (xn, xk)) (by rw [HP.out, ← HE.out]; exact hpi); rw [← HE.out] at h; exact h⟩
        go_wp2
        go_ret2
        refine ⟨_, rfl, ?_, HB.out⟩
        rw [← HS.out]
        exact own_lower HO.out (by omega)
end Go.Proofs.Ytiloeaenpanjcaa
/-! from E14RefPut2 -/
namespace Go.Proofs.Ytiloeaenpanjcaa
open Go.RowKit Go.Sac
set_option linter.unusedVariables false
set_option linter.unusedSimpArgs false

set_option maxHeartbeats 1000000 in
theorem rput_calls (A : Option Addr) (n c : Nat) (l : List Ent) (x : Ent) (w : World) (hl : Rc w A (ens l)) (e1 : n = l.length) (hn : l.length ≤ 5864062014634) (hs : x.1.size ≤ 140737488351232) :
    Calls Try.prog 19 #[.slice A n c, ev x] w (RetLE (putL l x) (putE l x) w) := by
  cases hN : namedL x.1.data.toList
  · have e2 : putL l x = [] := by unfold putL; rw [hN]; rfl
    have e3 : putE l x = 11 := by unfold putE; rw [hN]; rfl
    rw [e2, e3]
    clear e2 e3
    obtain ⟨xn, xk⟩ := x
    have HNM := Hd.mk hN
    have HB : Hd (Below w.heap.size w (w.alloc (.cells #[.string xn, .int .i64 xk] 31))) := ⟨(Below.refl _ w).alloc (Nat.le_refl _) _⟩
    clear hl e1 hN hn
    dsimp only at hs
    unfold ev
    go_enter Try.func19, Try.ntmps19
    go_wp2_with (go_at_call 21; refine (rnamed_calls _ _ hs).mono ?_; rintro e w1 ⟨rfl, rfl⟩; rw [HNM.out])
    go_ret2
    exact retle_nil _ _ _ HB.out
  · rcases atE_ways l x.1 with hA | ⟨k, hA, hk⟩
    · have e2 : putL l x = insE l x := by unfold putL; rw [hN, hA]; rfl
      have e3 : putE l x = 0 := by unfold putE; rw [hN, hA]; rfl
      rw [e2, e3]
      exact rput_fresh A n c l x w hl e1 hn hs hN hA
    · have e2 : putL l x = [] := by unfold putL; rw [hN, hA, if_pos rfl, if_pos (by omega)]
      have e3 : putE l x = 13 := by unfold putE; rw [hN, hA, if_pos rfl, if_pos (by omega)]
      rw [e2, e3]
      clear e2 e3
      obtain ⟨xn, xk⟩ := x
      have HL := Hd.mk hl
      have HE := Hd.mk e1
      have HNM := Hd.mk hN
      have HAT := Hd.mk hA
      have HN := Hd.mk hn
      have HB : Hd (Below w.heap.size w (w.alloc (.cells #[.string xn, .int .i64 xk] 31))) := ⟨(Below.refl _ w).alloc (Nat.le_refl _) _⟩
      clear hl e1 hN hA hn hk
      dsimp only at hs
      unfold ev
      go_enter Try.func19, Try.ntmps19
      go_wp2_with (first
        | (go_at_call 21; refine (rnamed_calls _ _ hs).mono ?_; rintro e w1 ⟨rfl, rfl⟩; rw [HNM.out])
        | (go_at_call 35; refine (rat_calls A n c l _ _ (HL.out.below HB.out) HE.out (by have := HN.out; omega)).mono ?_; rintro e w2 ⟨rfl, rfl⟩; rw [HAT.out]))
      go_ret2
      exact retle_nil _ _ _ HB.out
/-- the row behind i rounds, without the entry at z -/
def rowDrop (l : List Ent) (z : Int) (i : Nat) : List Ent := if z < 0 then l.take i else (l.take i).eraseIdx z.toNat
theorem rowDrop_len (l : List Ent) (z : Int) (i : Nat) : (rowDrop l z i).length ≤ i := by
  unfold rowDrop
  split
  · rw [List.length_take]; omega
  · have := List.length_eraseIdx_le (l.take i) z.toNat; rw [List.length_take] at this; omega
theorem drop_on {l : List Ent} {z : Int} {i : Nat} (hi : i < l.length) (h : (i : Int) ≠ z) : rowDrop l z (i + 1) = rowDrop l z i ++ [l[i]] := by
  have hl : (l.take i).length = i := by rw [List.length_take]; omega
  unfold rowDrop
  split
  · rw [List.take_succ_eq_append_getElem hi]
  · rw [List.take_succ_eq_append_getElem hi]
    by_cases hz : z.toNat < i
    · rw [List.eraseIdx_append_of_lt_length (by rw [hl]; exact hz)]
    · rw [List.eraseIdx_of_length_le (by simp; omega), List.eraseIdx_of_length_le (by rw [hl]; omega)]
theorem drop_off {l : List Ent} {z : Int} {i : Nat} (hi : i < l.length) (h : (i : Int) = z) : rowDrop l z (i + 1) = rowDrop l z i := by
  have hl : (l.take i).length = i := by rw [List.length_take]; omega
  unfold rowDrop
  rw [if_neg (by omega), if_neg (by omega), List.take_succ_eq_append_getElem hi, show z.toNat = i by omega, List.eraseIdx_append_of_length_le (l := l.take i) (by rw [hl]; exact Nat.le_refl _), List.eraseIdx_of_length_le (l := l.take i) (by rw [hl]; exact Nat.le_refl _), hl, Nat.sub_self]
  simp
theorem drop_end (l : List Ent) (t : ByteArray) : rowDrop l (atE l t) l.length = dropL l t := by
  unfold rowDrop dropL
  rw [List.take_of_length_le (Nat.le_refl _)]
  split
  · rw [if_neg (by omega)]
  · rw [if_pos (by omega)]
set_option maxHeartbeats 4000000 in
theorem rdrop_calls (A : Option Addr) (n c : Nat) (l : List Ent) (t : ByteArray) (w : World) (hl : Rc w A (ens l)) (e1 : n = l.length) (hn : l.length ≤ 5864062014634) :
    Calls Try.prog 20 #[.slice A n c, .string t] w (RetD (dropL l t) (findB l t) w) := by
  obtain ⟨z, hz⟩ : ∃ z, atE l t = z := ⟨_, rfl⟩
  have HL := Hd.mk hl
  have HE := Hd.mk e1
  have HZ := Hd.mk hz
  have hzb : findB l t = decide (0 ≤ z) := by unfold findB; rw [hz]
  rw [hzb]
  have HD : Hd (rowDrop l z n = dropL l t) := ⟨by rw [← hz, e1]; exact drop_end l t⟩
  rw [← e1] at hn
  clear hl e1 hz hzb
  go_enter Try.func20, Try.ntmps20
  go_wp2_with (go_at_call 35; refine (rat_calls A n c l _ _ HL.out HE.out (by have := HE.out; omega)).mono ?_; rintro e w2 ⟨rfl, hw⟩; obtain rfl : w = w2 := hw.symm; rw [HZ.out])
  go_loopw [7, 8] (fun ov iv wr => ∃ (i m : Nat), iv = .int .i64 (i : Int) ∧ i ≤ n ∧ m ≤ i ∧ Hd ((rowDrop l z i).length = m) ∧ Hd (wr.ownsRow w.heap.size 31 2 ov m (ens (rowDrop l z i))) ∧ Hd (Below w.heap.size w wr)) (fun _ iv _ => n - (intOf iv).toNat)
  case atStart => exact ⟨0, 0, rfl, Nat.zero_le _, Nat.le_refl _, ⟨by unfold rowDrop; split <;> simp⟩, ⟨by rw [show rowDrop l z 0 = [] by unfold rowDrop; split <;> simp]; exact World.ownsRow_nil _ _ _ _⟩, ⟨Below.refl _ _⟩⟩
  case round =>
    obtain ⟨i, m, rfl, hi, hm, HM, HO, HB⟩ := hrel
    by_cases hlt : i < n
    · have hil : i < l.length := by rw [← HE.out]; exact hlt
      have hil2 : (i : Int) < (n : Int) := by omega
      obtain ⟨b, off, rfl, hb, hr⟩ := rcK_form ecs_len (by decide) HL.out (by omega)
      obtain ⟨⟨yn, yk⟩, hy0⟩ : ∃ y, l[i] = y := ⟨_, rfl⟩
      have hx := hr i hil
      rw [hy0] at hx
      have HX := Hd.mk hx
      clear hr hx hb
      by_cases hiz : (i : Int) = z
      · have HS : Hd (rowDrop l z (i + 1) = rowDrop l z i) := ⟨drop_off hil hiz⟩
        have c1 : ((i : Int) != z) = false := by simp [hiz]
        clear hy0 hil hiz
        go_wp2
        go_roundw
        case rel => exact ⟨i + 1, m, by go_num, by omega, by omega, ⟨by rw [HS.out]; exact HM.out⟩, ⟨by rw [HS.out]; exact HO.out⟩, HB⟩
        case measure => simp [intOf]; omega
      · have HS : Hd (rowDrop l z (i + 1) = rowDrop l z i ++ [(yn, yk)]) := ⟨by rw [drop_on hil hiz, hy0]⟩
        have c1 : ((i : Int) != z) = true := by simp [hiz]
        clear hy0 hil hiz
        go_wp2_with (first
          | (refine wpList_ldmid rfl 31 (.tmp 24) rfl b (off + i * 2) rfl [.string yn, .int .i64 yk] _ (HX.out _ HB.out) Try.underlying31 rfl (ent_info.trans rfl) ?_)
          | (at_builtin; refine app_rc w.heap.size 25 31 _ 2 24 _ _ rfl rfl Try.underlying25 info_ent rfl (by decide) (by decide) _ m (ens (rowDrop l z i)) (ecs (yn, yk)) _ 1 1 rfl rfl (own_alloc HO.out _) (Blk.new wr 31 (ecs (yn, yk))).rc rfl (ecs_one _) (by rw [World.size_alloc]; have := HB.out.size; omega) (by omega) (m + 1) (ens (rowDrop l z i ++ [(yn, yk)])) rfl (by rw [ens_app, ens_single]) ?_
             intro v1 w1 ho hg hat
             have HB := Hd.mk (below_lift (HB.out.alloc HB.out.size _) (by rw [World.size_alloc]; have := HB.out.size; omega) hg (fun k hk => (own_lt HO.out k hk).1)); have HO := Hd.mk ho; clear ho hg hat))
        go_roundw
        case rel => exact ⟨i + 1, m + 1, by go_num, by omega, by omega, ⟨by rw [HS.out, List.length_append, HM.out]; rfl⟩, ⟨by rw [HS.out]; exact HO.out⟩, HB⟩
        case measure => simp [intOf]; omega
    · obtain rfl : i = n := by omega
      go_wp2
      go_ret2
      refine ⟨_, rfl, ?_, HB.out⟩
      rw [← HD.out, HM.out]
      exact HO.out
/-- how many bytes, as the sum wraps -/
def longZ (l : List Ent) : Int := l.foldl (fun s y => wrap64 (wrap64 (s + 1) + (y.1.size : Int))) 0
theorem longZ_step (l : List Ent) (i : Nat) (h : i < l.length) : longZ (l.take (i + 1)) = wrap64 (wrap64 (longZ (l.take i) + 1) + (l[i].1.size : Int)) := by
  unfold longZ
  rw [List.take_succ_eq_append_getElem h, List.foldl_append]
  rfl
set_option maxHeartbeats 4000000 in
theorem long_calls (A : Option Addr) (n c : Nat) (l : List Ent) (w : World) (hl : Rc w A (ens l)) (e1 : n = l.length) (hn : l.length ≤ 5864062014634) :
    Calls Try.prog 13 #[.slice A n c] w fun e w' => e = .returned (.int .i64 (longZ l)) ∧ w' = w := by
  have HL := Hd.mk hl
  have HE := Hd.mk e1
  rw [← e1] at hn
  clear hl e1
  go_enter Try.func13, Try.ntmps13
  go_wp2
  go_loop [3, 4] (fun sv iv => ∃ (i : Nat) (z : Int), iv = .int .i64 (i : Int) ∧ i ≤ n ∧ sv = .int .i64 z ∧ Hd (longZ (l.take i) = z)) (fun _ iv => n - (intOf iv).toNat)
  case atStart => exact ⟨0, 0, rfl, Nat.zero_le _, rfl, ⟨rfl⟩⟩
  case round =>
    obtain ⟨i, z, rfl, hi, rfl, HZ⟩ := hrel
    by_cases hlt : i < n
    · have hil : i < l.length := by rw [← HE.out]; exact hlt
      have hil2 : (i : Int) < (n : Int) := by omega
      obtain ⟨b, off, rfl, hc⟩ := node_cell HL.out i hil
      obtain ⟨hc1, hc2⟩ := hc w (Below.refl _ _)
      have hst := longZ_step l i hil
      obtain ⟨y, hy⟩ : ∃ y, l[i].1 = y := ⟨_, rfl⟩
      rw [hy] at hc1
      rw [hy, HZ.out] at hst
      have HST := Hd.mk hst
      clear hc hc2 hy hil hst
      go_wp2
      go_round
      case rel => exact ⟨i + 1, _, by go_num, by omega, rfl, HST⟩
      case measure => simp [intOf]; omega
    · obtain rfl : i = n := by omega
      have HA : Hd (longZ l = z) := ⟨by rw [← HZ.out, HE.out, List.take_of_length_le (Nat.le_refl _)]⟩
      go_wp2
      go_ret
      exact ⟨by rw [HA.out]; rfl, rfl⟩
end Go.Proofs.Ytiloeaenpanjcaa
