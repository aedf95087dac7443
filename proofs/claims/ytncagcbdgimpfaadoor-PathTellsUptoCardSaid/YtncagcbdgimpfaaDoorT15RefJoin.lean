/- Walks: ref15.Join. -/
import Derived.Test.YtncagcbdgimpfaaDoorT15Box
namespace Go.Proofs.YtncagcbdgimpfaaDoor
open Go.RowKit Go.Sac Go.Shelf
set_option linter.unusedVariables false
set_option linter.unusedSimpArgs false

theorem blk_app0 {W w1 : World} {base g j n₀ : Nat} {t e : TypeId} {size : Nat} {v v' : Value} {k m : Nat} {cs xs ys : List Value}
    (hP : Blk W g t cs) (hgb : g < base) (h0 : n₀ ≤ g) (hz : base ≤ W.heap.size) (hrow : W.ownsRow base e size v k xs) (hown' : w1.ownsRow base e size v' m ys) (hgrow : W.grownBy w1 v.ownBlock) :
    Blk w1 g t cs ∧ Blk (w1.setCell ⟨g, j, none⟩ v') g t (cs.set j v') ∧ (w1.setCell ⟨g, j, none⟩ v').ownsRow base e size v' m ys ∧ Below n₀ W (w1.setCell ⟨g, j, none⟩ v') ∧
      (∀ B, B < base → B ≠ g → (w1.setCell ⟨g, j, none⟩ v').heap[B]? = W.heap[B]?) ∧ W.heap.size ≤ (w1.setCell ⟨g, j, none⟩ v').heap.size := by
  have hne : ∀ b, b < base → some b ≠ v.ownBlock := fun b hb e => by have := hrow.lt b e.symm; omega
  have keep : ∀ b, b < base → w1.heap[b]? = W.heap[b]? := fun b hb => hgrow.block b (by omega) (hne b hb)
  have hP1 : Blk w1 g t cs := (keep g hgb).trans hP
  refine ⟨hP1, hP1.set j v', ?_, ?_, fun b hb hn => (Below.heap_setCell w1 ⟨g, j, none⟩ v' b hn).trans (keep b hb), ?_⟩
  · refine hown'.kept (row := some g) ⟨rfl, rfl, rfl, by simp, fun k _ hk => Below.heap_setCell w1 ⟨g, j, none⟩ v' k (fun e => hk (by rw [e]))⟩ ?_
    cases hv : v'.ownBlock with
    | none => exact Or.inl rfl
    | some q => right; intro e; injection e with e; have := hown'.lt q hv; omega
  · refine (((Below.refl n₀ W)).grown hgrow (by omega) fun q ej => ?_).setCell (p := ⟨g, j, none⟩) h0 v'
    have := hrow.lt q ej; omega
  · have := hgrow.size; simp at this ⊢; omega
set_option maxHeartbeats 4000000 in
theorem rjoin_calls (b1 b2 : Bool) (A1 A2 : Option Addr) (n1 c1 n2 c2 : Nat) (xs ys : List ByteArray) (w : World) (hx : Rc w A1 (svs xs)) (hy : Rc w A2 (svs ys)) (e1 : n1 = xs.length) (e2 : n2 = ys.length) (hc2 : n2 ≤ c2) (hn : (xs.length + ys.length) * 16 ≤ 140737488355328) :
    Calls Tryd.prog 22 #[.agg #[.bool b1, .slice A1 n1 c1], .agg #[.bool b2, .slice A2 n2 c2]] w fun e w' => RetPath (b2 || b1) (if b2 = true then ys else xs ++ ys) w e w' := by
  subst e1; subst e2
  have HX := Hd.mk hx
  have HY := Hd.mk hy
  have HC := Hd.mk hc2
  clear hx hy hc2
  cases b2
  · have K4 : ∀ o : Obj, Blk ((((w.alloc (.cells #[.bool b1, .slice A1 xs.length c1] 25)).alloc (.cells #[.bool false, .slice A2 ys.length c2] 25)).alloc (.cells #[.bool false, .slice none 0 0] 25)).alloc o) w.heap.size 25 [.bool b1, .slice A1 xs.length c1] := fun o => (((Blk.new w 25 [.bool b1, .slice A1 xs.length c1]).alloc _).alloc _).alloc _
    have K5 : ∀ o : Obj, Blk ((((w.alloc (.cells #[.bool b1, .slice A1 xs.length c1] 25)).alloc (.cells #[.bool false, .slice A2 ys.length c2] 25)).alloc (.cells #[.bool false, .slice none 0 0] 25)).alloc o) (w.heap.size + 1) 25 [.bool false, .slice A2 ys.length c2] := fun o => by
      have := ((Blk.new (w.alloc (.cells #[.bool b1, .slice A1 xs.length c1] 25)) 25 [.bool false, .slice A2 ys.length c2]).alloc (.cells #[.bool false, .slice none 0 0] 25)).alloc o
      rw [World.size_alloc] at this; exact this
    have K6 : ∀ o : Obj, Blk ((((w.alloc (.cells #[.bool b1, .slice A1 xs.length c1] 25)).alloc (.cells #[.bool false, .slice A2 ys.length c2] 25)).alloc (.cells #[.bool false, .slice none 0 0] 25)).alloc o) (w.heap.size + 2) 25 [.bool false, .slice none 0 0] := fun o => by
      have := (Blk.new ((w.alloc (.cells #[.bool b1, .slice A1 xs.length c1] 25)).alloc (.cells #[.bool false, .slice A2 ys.length c2] 25)) 25 [.bool false, .slice none 0 0]).alloc o
      rw [World.size_alloc, World.size_alloc] at this; exact this
    have K7 : Blk ((((w.alloc (.cells #[.bool b1, .slice A1 xs.length c1] 25)).alloc (.cells #[.bool false, .slice A2 ys.length c2] 25)).alloc (.cells #[.bool false, .slice none 0 0] 25)).alloc (.cells #[.bool b1, .slice none 0 0] 25)) (w.heap.size + 3) 25 [.bool b1, .slice none 0 0] := by
      have := Blk.new (((w.alloc (.cells #[.bool b1, .slice A1 xs.length c1] 25)).alloc (.cells #[.bool false, .slice A2 ys.length c2] 25)).alloc (.cells #[.bool false, .slice none 0 0] 25)) 25 [.bool b1, .slice none 0 0]
      rw [World.size_alloc, World.size_alloc, World.size_alloc] at this; exact this
    have B4 : ∀ o : Obj, Below w.heap.size w ((((w.alloc (.cells #[.bool b1, .slice A1 xs.length c1] 25)).alloc (.cells #[.bool false, .slice A2 ys.length c2] 25)).alloc (.cells #[.bool false, .slice none 0 0] 25)).alloc o) := fun o => ((((Below.refl _ w).alloc (Nat.le_refl _) _).alloc (by simp) _).alloc (by simp; omega) _).alloc (by simp; omega) _
    have HK4 := Hd.mk (K4 (.cells #[.bool b1, .slice none 0 0] 25))
    have HK5 := Hd.mk (K5 (.cells #[.bool b1, .slice none 0 0] 25))
    have HK6 := Hd.mk (K6 (.cells #[.bool b1, .slice none 0 0] 25))
    have HK7 := Hd.mk K7
    have HB := Hd.mk (B4 (.cells #[.bool b1, .slice none 0 0] 25))
    clear K4 K5 K6 K7 B4
    go_enter Tryd.func22, Tryd.ntmps22
    go_wp2_with (first
      | (at_builtin; refine app_rc (w.heap.size + 4) 23 9 (.string ByteArray.empty) 1 16 (.tmp 13) (.tmp 15) rfl rfl Tryd.underlying23 info_str rfl (by decide) (by decide) (.slice none 0 0) 0 [] (svs xs) A1 xs.length c1 rfl rfl (World.ownsRow_nil _ _ _ _) (HX.out.below HB.out) (by rw [svs_len, Nat.mul_one]) (svs_one _) (by simp) (by omega) xs.length (svs xs) (by omega) rfl ?_
         intro v1 w1 hown' hgrow hat
         obtain ⟨hq1, hq2, hq3, hq4, hq5, hq6⟩ := blk_app0 (n₀ := w.heap.size) (j := 1) HK7.out (by omega) (by omega) (by simp) (World.ownsRow_nil _ _ _ _) hown' hgrow
         obtain ⟨A7, c7, rfl, hc7, _, _⟩ := own_rc hq3
         have hc1 := hq1.cell (i := 1) rfl
         have hf1 := hq1.frz 1
         have HQ2 := Hd.mk hq2
         have HQ3 := Hd.mk hq3
         have HB2 := Hd.mk (HB.out.trans hq4)
         have HQ5 : Hd (Blk (w1.setCell ⟨w.heap.size + 3, 1, none⟩ (.slice A7 xs.length c7)) (w.heap.size + 1) 25 [.bool false, .slice A2 ys.length c2]) := ⟨(hq5 _ (by omega) (by omega)).trans HK5.out⟩
         have HQ6 : Hd (Blk (w1.setCell ⟨w.heap.size + 3, 1, none⟩ (.slice A7 xs.length c7)) (w.heap.size + 2) 25 [.bool false, .slice none 0 0]) := ⟨(hq5 _ (by omega) (by omega)).trans HK6.out⟩
         have HZ : Hd (w.heap.size + 4 ≤ (w1.setCell ⟨w.heap.size + 3, 1, none⟩ (.slice A7 xs.length c7)).heap.size) := ⟨by refine Nat.le_trans ?_ hq6; simp⟩
         have e1 := hq2.cell (i := 1) rfl
         have e2 := HQ5.out.cell (i := 1) rfl
         clear hq1 hq2 hq3 hq4 hq5 hq6 hgrow hat hown' hc7 HK4 HK5 HK6 HK7 HB)
      | (at_builtin; refine app_rc (w.heap.size + 4) 23 9 (.string ByteArray.empty) 1 16 (.tmp 19) (.tmp 21) rfl rfl Tryd.underlying23 info_str rfl (by decide) (by decide) (.slice A7 xs.length c7) xs.length (svs xs) (svs ys) A2 ys.length c2 rfl rfl HQ3.out (HY.out.below HB2.out) (by rw [svs_len, Nat.mul_one]) (svs_one _) HZ.out (by omega) (xs.length + ys.length) (svs (xs ++ ys)) rfl (svs_app _ _).symm ?_
         intro v2 w2 hown' hgrow hat
         obtain ⟨hq1, hq2, hq3, hq4, hq5, hq6⟩ := blk_app0 (n₀ := w.heap.size) (j := 1) HQ2.out (by omega) (by omega) HZ.out HQ3.out hown' hgrow
         obtain ⟨A8, c8, rfl, hc8, hr8, hl8⟩ := own_rc hq3
         have hc2 := hq1.cell (i := 1) rfl
         have hf2 := hq1.frz 1
         have HP2 := Hd.mk hq2
         have HF : Hd (FreshR (w.heap.size + 4) (xs.length + ys.length) (svs (xs ++ ys)) (w2.setCell ⟨w.heap.size + 3, 1, none⟩ (.slice A8 (xs.length + ys.length) c8)) (.slice A8 (xs.length + ys.length) c8)) := ⟨⟨A8, c8, rfl, hc8, hr8, fun a ha => (hl8 a ha).1⟩⟩
         have HB3 := Hd.mk (HB2.out.trans hq4)
         have HP6 : Hd (Blk (w2.setCell ⟨w.heap.size + 3, 1, none⟩ (.slice A8 (xs.length + ys.length) c8)) (w.heap.size + 2) 25 [.bool false, .slice none 0 0]) := ⟨(hq5 _ (by omega) (by omega)).trans HQ6.out⟩
         clear hq1 hq2 hq3 hq4 hq5 hq6 hgrow hat hown' hc8 hr8 hl8 HQ2 HQ3 HQ5 HQ6 HZ HB2 e1 e2)
      | (refine wpList_load_row_w rfl 25 (.tmp 5) rfl (w.heap.size + 3) rfl 25 _ (0, 0) _ HP2.out Tryd.underlying25 rfl (info_path.trans (by simp)) ?_)
      | (refine wpList_store_row rfl 25 (.tmp 4) (.tmp 24) rfl (w.heap.size + 2) #[.bool b1, .slice A8 (xs.length + ys.length) c8] rfl rfl 25 _ HP6.out (info_path.trans (by simp)) (by simp) (by simp [Value.oneCell']) ?_))
    refine bodyPost_ret (results_cell_row rfl _ _ (w.heap.size + 2) 25 #[.bool b1, .slice A8 (xs.length + ys.length) c8] (0, 0) _ rfl (HP6.out.putRow [.bool b1, .slice A8 (xs.length + ys.length) c8]) Tryd.underlying25 rfl (info_path.trans (by simp))) rfl ?_
    obtain ⟨A', c', e, h1, h2, _⟩ := (KeepBut.row _ (w.heap.size + 2) #[.bool b1, .slice A8 (xs.length + ys.length) c8]).fresh HF.out (fun g e => by injection e with e; omega)
    injection e with e1 e2 e3
    subst e1; subst e3
    have e3 : xs.length + ys.length = (xs ++ ys).length := by rw [List.length_append]
    exact ⟨A8, c8, by rw [← e3], by rw [← e3]; exact h1, h2, below_row HB3.out (show w.heap.size ≤ w.heap.size + 2 by omega) _⟩
  · have K5 : Blk (((w.alloc (.cells #[.bool b1, .slice A1 xs.length c1] 25)).alloc (.cells #[.bool true, .slice A2 ys.length c2] 25)).alloc (.cells #[.bool false, .slice none 0 0] 25)) (w.heap.size + 1) 25 [.bool true, .slice A2 ys.length c2] := by
      have := (Blk.new (w.alloc (.cells #[.bool b1, .slice A1 xs.length c1] 25)) 25 [.bool true, .slice A2 ys.length c2]).alloc (.cells #[.bool false, .slice none 0 0] 25)
      rw [World.size_alloc] at this; exact this
    have K6 : Blk (((w.alloc (.cells #[.bool b1, .slice A1 xs.length c1] 25)).alloc (.cells #[.bool true, .slice A2 ys.length c2] 25)).alloc (.cells #[.bool false, .slice none 0 0] 25)) (w.heap.size + 2) 25 [.bool false, .slice none 0 0] := by
      have := Blk.new ((w.alloc (.cells #[.bool b1, .slice A1 xs.length c1] 25)).alloc (.cells #[.bool true, .slice A2 ys.length c2] 25)) 25 [.bool false, .slice none 0 0]
      rw [World.size_alloc, World.size_alloc] at this; exact this
    have HB : Hd (Below w.heap.size w (((w.alloc (.cells #[.bool b1, .slice A1 xs.length c1] 25)).alloc (.cells #[.bool true, .slice A2 ys.length c2] 25)).alloc (.cells #[.bool false, .slice none 0 0] 25))) := ⟨(((Below.refl _ w).alloc (Nat.le_refl _) _).alloc (by simp) _).alloc (by simp; omega) _⟩
    have HK5 := Hd.mk K5
    have HK6 := Hd.mk K6
    clear K5 K6
    go_enter Tryd.func22, Tryd.ntmps22
    go_wp2_with (first
      | (refine wpList_load_row_w rfl 25 (.tmp 3) rfl (w.heap.size + 1) rfl 25 _ (0, 0) _ HK5.out Tryd.underlying25 rfl (info_path.trans (by simp)) ?_)
      | (refine wpList_store_row rfl 25 (.tmp 4) (.tmp 8) rfl (w.heap.size + 2) #[.bool true, .slice A2 ys.length c2] rfl rfl 25 _ HK6.out (info_path.trans (by simp)) (by simp) (by simp [Value.oneCell']) ?_))
    refine bodyPost_ret (results_cell_row rfl _ _ (w.heap.size + 2) 25 #[.bool true, .slice A2 ys.length c2] (0, 0) _ rfl (HK6.out.putRow [.bool true, .slice A2 ys.length c2]) Tryd.underlying25 rfl (info_path.trans (by simp))) rfl ?_
    have hB := below_row HB.out (show w.heap.size ≤ w.heap.size + 2 by omega) #[.bool true, .slice A2 ys.length c2]
    exact ⟨A2, c2, rfl, HC.out, HY.out.below hB, hB⟩
end Go.Proofs.YtncagcbdgimpfaaDoor
