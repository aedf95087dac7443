/- E14Grow: E14Insert, E14Grow, E14Delete. -/
import Derived.Test.YtiloeaenpanjcaaE14Lib
/-! from E14Insert -/
namespace Go.Proofs.Ytiloeaenpanjcaa
open Go.RowKit Go.Sac
set_option linter.unusedVariables false
set_option linter.unusedSimpArgs false

def insB (xs : List Value) (i : Nat) (y : Ent) : List Value := xs.take (i * 2) ++ (ecs y ++ xs.drop (i * 2))
theorem info2 : (Try.prog.info? 31).map (·.size) = some 2 := by kernel_rfl
theorem ecs_one (x : Ent) : ∀ u ∈ ecs x, u.oneCell' = true := fun u hu => by simp [ecs] at hu; rcases hu with rfl | rfl <;> rfl
theorem shape_blk {w : World} {g : Nat} {E : TypeId} {cs : List Value} (h : Blk w g E cs) : w.shape? g = some (E, cs.length) := by
  unfold Blk at h
  simp [World.shape?, h]
/-- at the end -/
theorem insert_end (g cap n B vb : Nat) (xs : List Value) (y : Ent) (w : World) (HO : Hd (w.ownsRow B 31 2 (.slice (some ⟨g, 0, none⟩) n cap) n xs)) (HY : Hd (Blk w vb 31 (ecs y)))
    (HC : Hd (n ≤ cap)) (HBg : Hd (B ≤ g)) (HBw : Hd (B ≤ w.heap.size)) (hn : n ≤ 5864062014634) :
    Calls Try.prog 32 #[.slice (some ⟨g, 0, none⟩) n cap, .int .i64 (n : Int), .slice (some ⟨vb, 0, none⟩) 1 1] w fun e w' => ∃ v', e = .returned v' ∧ w'.ownsRow B 31 2 v' (n + 1) (xs ++ ecs y) ∧ Below B w w' := by
  go_enter Try.func32, Try.ntmps32
  go_wp2_with (at_builtin; refine app_rc B 25 31 _ 2 24 _ _ rfl rfl Try.underlying25 info_ent rfl (by decide) (by decide) _ n xs (ecs y) _ 1 1 rfl rfl HO.out HY.out.rc rfl (ecs_one y) HBw.out (by omega) (n + 1) (xs ++ ecs y) rfl rfl ?_; intro v1 w1 ho hg hat; have HO1 := Hd.mk ho; have HG : Hd (w.grownBy w1 (some g)) := ⟨hg⟩; clear ho hg hat)
  all_goals
    go_ret
    exact ⟨v1, rfl, HO1.out, ⟨HG.out.os, HG.out.tape, HG.out.output, HG.out.size, fun b hb => HG.out.block b (by have := HBw.out; omega) (by have := HBg.out; intro e; injection e with e; omega)⟩⟩
theorem insert_nil (B vb : Nat) (y : Ent) (w : World) (HY : Hd (Blk w vb 31 (ecs y))) (HBw : Hd (B ≤ w.heap.size)) :
    Calls Try.prog 32 #[.slice none 0 0, .int .i64 0, .slice (some ⟨vb, 0, none⟩) 1 1] w fun e w' => ∃ v', e = .returned v' ∧ w'.ownsRow B 31 2 v' 1 (ecs y) ∧ Below B w w' := by
  go_enter Try.func32, Try.ntmps32
  go_wp2_with (at_builtin; refine app_rc B 25 31 _ 2 24 _ _ rfl rfl Try.underlying25 info_ent rfl (by decide) (by decide) _ 0 [] (ecs y) _ 1 1 rfl rfl (World.ownsRow_nil _ _ _ _) HY.out.rc rfl (ecs_one y) HBw.out (by omega) 1 (ecs y) rfl rfl ?_; intro v1 w1 ho hg hat; have HO1 := Hd.mk ho; have HG : Hd (w.grownBy w1 none) := ⟨hg⟩; clear ho hg hat)
  go_ret
  exact ⟨v1, rfl, HO1.out, ⟨HG.out.os, HG.out.tape, HG.out.output, HG.out.size, fun b hb => HG.out.block b (by have := HBw.out; omega) nofun⟩⟩
/-- there is room -/
theorem ins_room (cur : List Value) (n i cap : Nat) (xs : List Value) (y : Ent) (hi : i < n) (hc : n + 1 ≤ cap) (hl : cur.length = cap * 2) (hx : cur.take (n * 2) = xs) :
    (splice (splice cur ((i + 1) * 2) (xs.drop (i * 2))) (i * 2) (ecs y)).take ((n + 1) * 2) = insB xs i y := by
  subst hx
  unfold splice insB
  have hxl : (cur.take (n * 2)).length = n * 2 := by rw [List.length_take, hl]; omega
  have e0 : ((cur.take (n * 2)).drop (i * 2)).length = n * 2 - i * 2 := by rw [List.length_drop, hxl]
  have e1 : (cur.take ((i + 1) * 2) ++ ((cur.take (n * 2)).drop (i * 2) ++ cur.drop ((i + 1) * 2 + ((cur.take (n * 2)).drop (i * 2)).length))).take (i * 2) = (cur.take (n * 2)).take (i * 2) := by
    rw [List.take_append_of_le_length (by rw [List.length_take, hl]; omega), List.take_take, List.take_take, Nat.min_eq_left (by omega), Nat.min_eq_left (by omega)]
  have e2 : (cur.take ((i + 1) * 2) ++ ((cur.take (n * 2)).drop (i * 2) ++ cur.drop ((i + 1) * 2 + ((cur.take (n * 2)).drop (i * 2)).length))).drop (i * 2 + (ecs y).length) = (cur.take (n * 2)).drop (i * 2) ++ cur.drop ((i + 1) * 2 + ((cur.take (n * 2)).drop (i * 2)).length) := by
    rw [List.drop_left' (by rw [List.length_take, hl, ecs_len]; omega)]
  rw [e1, e2, e0]
  rw [← List.append_assoc, ← List.append_assoc, List.take_left' (by simp only [List.length_append, List.length_take, e0, hxl, ecs_len]; omega), List.append_assoc]
set_option maxHeartbeats 4000000 in
set_option maxRecDepth 100000 in
theorem insert_room (g cap n i B vb : Nat) (xs : List Value) (y : Ent) (w : World) (HO : Hd (w.ownsRow B 31 2 (.slice (some ⟨g, 0, none⟩) n cap) n xs)) (H1 : Hd (∀ u ∈ xs, u.oneCell' = true)) (HY : Hd (Blk w vb 31 (ecs y)))
    (hne : g ≠ vb) (HBw : Hd (B ≤ w.heap.size)) (hi : i < n) (hc : n + 1 ≤ cap) (hn : n ≤ 5864062014634) :
    Calls Try.prog 32 #[.slice (some ⟨g, 0, none⟩) n cap, .int .i64 (i : Int), .slice (some ⟨vb, 0, none⟩) 1 1] w fun e w' => ∃ v', e = .returned v' ∧ w'.ownsRow B 31 2 v' (n + 1) (insB xs i y) ∧ Below B w w' := by
  obtain ⟨cur, hb, hBg, _, hc63, hcl, hct⟩ := own_blk HO.out
  have hxl : xs.length = n * 2 := HO.out.1
  have hov : ∀ lb cb, (callFunc 49 #[.slice (some ⟨vb, 0, none⟩) 1 1, .slice (some ⟨g, (i + 1) * 2, none⟩) lb cb]).run Try.prog w = .ok (.value (.bool false)) w := fun lb cb => by
    rw [run_callFunc_extern Try.func49 (by kernel_rfl) (by kernel_rfl) (by kernel_rfl) (e := Extern.SlicesOverlaps.overlaps #[25, 25] #[4]) (by kernel_rfl),
      Lib.run_overlaps_apart w 25 4 31 Try.underlying25 2 (fun w => by obtain ⟨i0, hi0, h0⟩ := Option.map_eq_some_iff.1 info2; rw [run_sizeOf w hi0, show Try.prog.cellsOf 31 = 2 by kernel_rfl]) ⟨vb, 0, none⟩ ⟨g, (i + 1) * 2, none⟩ 1 1 lb cb (fun e => hne e.symm) 31 31 2 cur.length (shape_blk HY.out) (shape_blk hb) (by omega) (HY.out.frz 0) (HY.out.frz 2)]
    rfl
  have hdl : (xs.drop (i * 2)).length = (n - i) * 2 := by rw [List.length_drop, hxl, Nat.sub_mul]
  obtain ⟨W1, hW1⟩ : ∃ W1, W1 = w.drew.setCells g ((i + 1) * 2) (xs.drop (i * 2)) := ⟨_, rfl⟩
  have hcp1 : ∀ ty dc sc, (Builtin.copy_ #[25, 25] ty #[.slice (some ⟨g, (i + 1) * 2, none⟩) (n - i) dc, .slice (some ⟨g, i * 2, none⟩) (n + 1 - i) sc]).run Try.prog w.drew = .ok (goInt (n - i : Nat)) W1 := fun ty dc sc => by
    rw [hW1]
    exact run_copy_k w.drew _ _ ty 31 g ((i + 1) * 2) (n - i) dc ⟨g, i * 2, none⟩ (n + 1 - i) sc 2 (n - i) (xs.drop (i * 2)) Try.underlying25 info2 (by simp only [Nat.min_def]; split <;> omega) hdl
      (fun j v hj => by
        rw [addr_add]
        refine hb.drew.cell ?_
        rw [List.getElem?_drop, ← hct, List.getElem?_take] at hj
        split at hj
        · exact hj
        · cases hj)
      (fun j hj => by rw [hb.drew.cell (List.getElem?_eq_getElem (by rw [hcl]; omega))]; rfl) (fun j hj => hb.drew.frz _) (fun v hv => H1.out v (List.mem_of_mem_drop hv))
  have hb1 : Blk W1 g 31 (splice cur ((i + 1) * 2) (xs.drop (i * 2))) := by rw [hW1]; exact hb.drew.setCells _ _ _ _ (by rw [hdl, hcl]; omega)
  have hl1 : (splice cur ((i + 1) * 2) (xs.drop (i * 2))).length = cap * 2 := by rw [length_splice _ _ _ (by rw [hdl, hcl]; omega), hcl]
  have hy1 : Blk W1 vb 31 (ecs y) := by rw [hW1]; exact Blk.farCells (fun e => hne e.symm) _ _ _ _ HY.out.drew
  have hcp2 : ∀ ty dc, (Builtin.copy_ #[25, 25] ty #[.slice (some ⟨g, i * 2, none⟩) (n + 1 - i) dc, .slice (some ⟨vb, 0, none⟩) 1 1]).run Try.prog W1 = .ok (goInt (1 : Nat)) (W1.setCells g (i * 2) (ecs y)) := fun ty dc =>
    run_copy_k W1 _ _ ty 31 g (i * 2) (n + 1 - i) dc ⟨vb, 0, none⟩ 1 1 2 1 (ecs y) Try.underlying25 info2 (by simp only [Nat.min_def]; split <;> omega) rfl
      (fun j v hj => by rw [addr_add, Nat.zero_add]; exact hy1.cell hj) (fun j hj => by rw [ecs_len] at hj; rw [hb1.cell (List.getElem?_eq_getElem (by rw [hl1]; omega))]; rfl) (fun j hj => hb1.frz _) (ecs_one y)
  have HE : Hd ((W1.setCells g (i * 2) (ecs y)).ownsRow B 31 2 (.slice (some ⟨g, 0, none⟩) (n + 1) cap) (n + 1) (insB xs i y)) := ⟨by
    refine blk_own (hb1.setCells (ecs y) (i * 2) _ _ (by rw [hl1, ecs_len]; omega)) hBg hc hc63 ?_ ?_
    · rw [length_splice _ _ _ (by rw [hl1, ecs_len]; omega), hl1]
    · exact ins_room cur n i cap xs y hi hc hcl hct⟩
  have HB : Hd (Below B w (W1.setCells g (i * 2) (ecs y))) := ⟨below_setCells hBg _ _ _ (by rw [hW1]; exact below_setCells hBg _ _ _ (Below.refl _ _).drew)⟩
  have e1 : IntKind.i64.wrap ((n : Int) + 1) = (n : Int) + 1 := by rw [IntKind.wrap_i64]; omega
  have e2 : IntKind.i64.wrap ((i : Int) + 1) = (i : Int) + 1 := by rw [IntKind.wrap_i64]; omega
  have t1 : ((n : Int) + 1).toNat = n + 1 := by omega
  have t2 : ((i : Int) + 1).toNat = i + 1 := by omega
  have p1 : (0 : Int) ≤ (i : Int) + 1 := by omega
  have p2 : (0 : Int) ≤ (n : Int) + 1 := by omega
  have hz2 : ¬ ((i : Int) = (n : Int)) := by omega
  have hb2 : ¬ (cap = i + 1) := by omega
  have hb4 : ¬ (cap = i) := by omega
  have hin : i ≤ n := by omega
  have hin3 : (i : Int) ≤ (n : Int) + 1 := by omega
  have hin4 : (i : Int) + 1 ≤ (n : Int) + 1 := by omega
  have hcap1 : (n : Int) + 1 ≤ (cap : Int) := by omega
  have hcap2 : ¬ ((cap : Int) < (n : Int) + 1) := by omega
  clear hb1 hl1 hy1 hW1 hdl hxl hct hcl hb
  go_enter Try.func32, Try.ntmps32
  go_wp2_with (simp only [hov])
  go_region_law (refine step_copy_by rfl _ _ 25 25 rfl _ _ (by simp [Act.eval, Act.put]) (by simp [Act.eval, Act.put]) (hcp1 _ _ _) ?_)
  go_wp2_with (at_builtin; refine wpList_copy_by _ rfl _ _ 25 25 rfl _ _ rfl rfl (hcp2 _ _) ?_)
  go_ret
  exact ⟨_, rfl, HE.out, HB.out⟩
end Go.Proofs.Ytiloeaenpanjcaa
/-! from E14Grow -/
namespace Go.Proofs.Ytiloeaenpanjcaa
open Go.RowKit Go.Sac
set_option linter.unusedVariables false
set_option linter.unusedSimpArgs false

theorem ins_grow (Z xs : List Value) (n i : Nat) (y : Ent) (hi : i < n) (hx : xs.length = n * 2) (hZ : (n + 1) * 2 ≤ Z.length) (hz : Z.take (i * 2) = xs.take (i * 2)) :
    (splice (splice Z (i * 2) (ecs y)) ((i + 1) * 2) (xs.drop (i * 2))).take ((n + 1) * 2) = insB xs i y := by
  unfold splice insB
  have e0 : (xs.drop (i * 2)).length = n * 2 - i * 2 := by rw [List.length_drop, hx]
  have e1 : (Z.take (i * 2) ++ (ecs y ++ Z.drop (i * 2 + (ecs y).length))).take ((i + 1) * 2) = xs.take (i * 2) ++ ecs y := by
    rw [← List.append_assoc, List.take_left' (by rw [List.length_append, List.length_take, ecs_len]; omega), hz]
  rw [e1, ← List.append_assoc, List.take_left' (by simp only [List.length_append, List.length_take, e0, ecs_len, hx]; omega), List.append_assoc]
set_option maxHeartbeats 4000000 in
set_option maxRecDepth 100000 in
theorem insert_grow (g n i B vb : Nat) (xs : List Value) (y : Ent) (w : World) (HO : Hd (w.ownsRow B 31 2 (.slice (some ⟨g, 0, none⟩) n n) n xs)) (H1 : Hd (∀ u ∈ xs, u.oneCell' = true)) (HY : Hd (Blk w vb 31 (ecs y)))
    (HBw : Hd (B ≤ w.heap.size)) (hi : i < n) (hn : n ≤ 5864062014634) :
    Calls Try.prog 32 #[.slice (some ⟨g, 0, none⟩) n n, .int .i64 (i : Int), .slice (some ⟨vb, 0, none⟩) 1 1] w fun e w' => ∃ v', e = .returned v' ∧ w'.ownsRow B 31 2 v' (n + 1) (insB xs i y) ∧ Below B w w' := by
  obtain ⟨cur, hb, hBg, _, hc63, hcl, hct⟩ := own_blk HO.out
  have hxl : xs.length = n * 2 := HO.out.1
  obtain ⟨i0, hi0, hzz⟩ := Option.map_eq_some_iff.1 info_ent
  simp only [Prod.mk.injEq] at hzz
  obtain ⟨hz0, hzs, hzb⟩ := hzz
  have hold : (Builtin.firstCells i0.size i (.slice (some ⟨g, 0, none⟩) i n)).run Try.prog w.drew = .ok (xs.take (i * 2)).toArray w.drew := by
    rw [hzs]
    refine run_firstCells_some w.drew 2 i ⟨g, 0, none⟩ i n (xs.take (i * 2)) (by rw [List.length_take]; omega) (fun j v hj => ?_)
    rw [addr_add, Nat.zero_add]
    refine hb.drew.cell ?_
    rw [List.getElem?_take, ← hct, List.getElem?_take] at hj
    split at hj
    · split at hj
      · exact hj
      · cases hj
    · cases hj
  obtain ⟨G, hG⟩ : ∃ G, G = grownCap w (n + 1) n 31 := ⟨_, rfl⟩
  obtain ⟨Z, hZ⟩ : ∃ Z : List Value, Z = xs.take (i * 2) ++ ((Builtin.zeroCells (Value.agg #[.string ⟨#[]⟩, .int .i64 0]).cells (n + 1 - i)).toList ++ (Builtin.zeroCells (Value.agg #[.string ⟨#[]⟩, .int .i64 0]).cells (G - (n + 1))).toList) := ⟨_, rfl⟩
  have hkk : (n : Int) + 1 - (i : Int) = ((n + 1 - i : Nat) : Int) := by omega
  have hik : i + (n + 1 - i) = n + 1 := by omega
  have hGn : n + 1 ≤ G := by rw [hG]; exact grownCap_ge w _ _ _
  have hG63 : G ≤ 9223372036854775807 := by
    have := grownCap_le_maxLen w (n + 1) n 31 (by unfold maxLen; omega)
    rw [← hG] at this
    unfold maxLen at this
    omega
  have hZl : Z.length = G * 2 := by
    rw [hZ]
    simp only [List.length_append, List.length_take, Array.length_toList, size_zeroCells, hxl]
    have : (Value.agg #[.string ⟨#[]⟩, .int .i64 0]).cells.size = 2 := rfl
    rw [this]
    omega
  have hZt : Z.take (i * 2) = xs.take (i * 2) := by
    rw [hZ, List.take_left' (by rw [List.length_take, hxl]; omega)]
  have hrz : ∀ ty, (Builtin.append_ #[25, 3] ty #[.slice (some ⟨g, 0, none⟩) i n, .int .i64 ((n + 1 - i : Nat) : Int)]).run Try.prog w =
      .ok (.slice (some ⟨w.heap.size, 0, none⟩) (n + 1) G) (w.drew.alloc (.cells Z.toArray 31)) := fun ty => by
    have h := Lib.run_append_grow_zeros w 25 3 ty 31 i0 _ .i64 .i64 Try.underlying25 Try.underlying3 hi0 hz0 (some ⟨g, 0, none⟩) i n (xs.take (i * 2)) hold (n + 1 - i) (by omega) (by omega) (by omega) (by omega) (by rw [hzb]; omega) (by rw [hzb, hik]; exact growslice_fits (by omega) (by omega))
    rw [hik] at h
    rw [h, hG, hZ]
    simp
    rw [← hG]
    refine congrArg (fun z => w.drew.alloc (Obj.cells z _)) (Array.toList_inj.1 ?_)
    simp
  obtain ⟨W1, hW1⟩ : ∃ W1, W1 = w.drew.alloc (.cells Z.toArray 31) := ⟨_, rfl⟩
  rw [← hW1] at hrz
  have hN : Blk W1 w.heap.size 31 Z := by rw [hW1]; exact Blk.new w.drew 31 Z
  have hbg : g < w.heap.size := hb.lt
  have hO : Blk W1 g 31 cur := by rw [hW1]; exact hb.drew.alloc _
  have hY : Blk W1 vb 31 (ecs y) := by rw [hW1]; exact HY.out.drew.alloc _
  have hvl : vb < w.heap.size := HY.out.lt
  have hB1 : Below w.heap.size w W1 := by rw [hW1]; exact (Below.refl _ w).drew.alloc (Nat.le_refl _) _
  obtain ⟨W2, hW2⟩ : ∃ W2, W2 = W1.setCells w.heap.size (i * 2) (ecs y) := ⟨_, rfl⟩
  have hcpA : ∀ ty dc, (Builtin.copy_ #[25, 25] ty #[.slice (some ⟨w.heap.size, i * 2, none⟩) (n + 1 - i) dc, .slice (some ⟨vb, 0, none⟩) 1 1]).run Try.prog W1 = .ok (goInt (1 : Nat)) W2 := fun ty dc => by
    rw [hW2]
    exact run_copy_k W1 _ _ ty 31 w.heap.size (i * 2) (n + 1 - i) dc ⟨vb, 0, none⟩ 1 1 2 1 (ecs y) Try.underlying25 info2 (by simp only [Nat.min_def]; split <;> omega) rfl
      (fun j v hj => by rw [addr_add, Nat.zero_add]; exact hY.cell hj) (fun j hj => by rw [ecs_len] at hj; rw [hN.cell (List.getElem?_eq_getElem (by rw [hZl]; omega))]; rfl) (fun j hj => hN.frz _) (ecs_one y)
  have hN2 : Blk W2 w.heap.size 31 (splice Z (i * 2) (ecs y)) := by rw [hW2]; exact hN.setCells _ _ _ _ (by rw [ecs_len, hZl]; omega)
  have hl2 : (splice Z (i * 2) (ecs y)).length = G * 2 := by rw [length_splice _ _ _ (by rw [ecs_len, hZl]; omega), hZl]
  have hO2 : Blk W2 g 31 cur := by rw [hW2]; exact Blk.farCells (by omega) _ _ _ _ hO
  have hdl : (xs.drop (i * 2)).length = (n - i) * 2 := by rw [List.length_drop, hxl, Nat.sub_mul]
  obtain ⟨W3, hW3⟩ : ∃ W3, W3 = W2.drew.setCells w.heap.size ((i + 1) * 2) (xs.drop (i * 2)) := ⟨_, rfl⟩
  have hcpB : ∀ ty dc sc, (Builtin.copy_ #[25, 25] ty #[.slice (some ⟨w.heap.size, (i + 1) * 2, none⟩) (n - i) dc, .slice (some ⟨g, i * 2, none⟩) (n - i) sc]).run Try.prog W2.drew = .ok (goInt (n - i : Nat)) W3 := fun ty dc sc => by
    rw [hW3]
    exact run_copy_k W2.drew _ _ ty 31 w.heap.size ((i + 1) * 2) (n - i) dc ⟨g, i * 2, none⟩ (n - i) sc 2 (n - i) (xs.drop (i * 2)) Try.underlying25 info2 (by simp only [Nat.min_def]; split <;> omega) hdl
      (fun j v hj => by
        rw [addr_add]
        refine hO2.drew.cell ?_
        rw [List.getElem?_drop, ← hct, List.getElem?_take] at hj
        split at hj
        · exact hj
        · cases hj)
      (fun j hj => by rw [hN2.drew.cell (List.getElem?_eq_getElem (by rw [hl2]; omega))]; rfl) (fun j hj => hN2.drew.frz _) (fun v hv => H1.out v (List.mem_of_mem_drop hv))
  have HE : Hd (W3.ownsRow B 31 2 (.slice (some ⟨w.heap.size, 0, none⟩) (n + 1) G) (n + 1) (insB xs i y)) := ⟨by
    rw [hW3]
    refine blk_own (hN2.drew.setCells _ _ _ _ (by rw [hl2, hdl]; omega)) HBw.out hGn hG63 ?_ ?_
    · rw [length_splice _ _ _ (by rw [hl2, hdl]; omega), hl2]
    · exact ins_grow Z xs n i y hi hxl (by omega) hZt⟩
  have HB : Hd (Below B w W3) := ⟨by rw [hW3]; refine below_setCells HBw.out _ _ _ ?_; rw [hW2]; exact (below_setCells HBw.out _ _ _ (hB1.mono HBw.out)).drew⟩
  have e1 : IntKind.i64.wrap ((n : Int) + 1) = (n : Int) + 1 := by rw [IntKind.wrap_i64]; omega
  have e2 : IntKind.i64.wrap ((i : Int) + 1) = (i : Int) + 1 := by rw [IntKind.wrap_i64]; omega
  have e3 : IntKind.i64.wrap ((n : Int) + 1 - (i : Int)) = ((n + 1 - i : Nat) : Int) := by rw [IntKind.wrap_i64]; omega
  have t1 : ((n : Int) + 1).toNat = n + 1 := by omega
  have t2 : ((i : Int) + 1).toNat = i + 1 := by omega
  have p1 : (0 : Int) ≤ (i : Int) + 1 := by omega
  have p2 : (0 : Int) ≤ (n : Int) + 1 := by omega
  have hz2 : ¬ ((i : Int) = (n : Int)) := by omega
  have hb2 : ¬ (G = i + 1) := by omega
  have hb4 : ¬ (G = i) := by omega
  have hb5 : ¬ (n = i) := by omega
  have hin : i ≤ n := by omega
  have hin3 : (i : Int) ≤ (n : Int) + 1 := by omega
  have hin4 : (i : Int) + 1 ≤ (n : Int) + 1 := by omega
  clear hN hO hY hB1 hN2 hl2 hO2 hdl hW1 hW2 hW3 hZ hZl hZt hG hb hcl hct hxl hold hi0 hz0 hzs hzb hkk hik
  go_enter Try.func32, Try.ntmps32
  go_wp2_with (first
    | (at_builtin; refine Lib.wpList_append_run _ rfl _ _ _ _ rfl _ _ rfl rfl _ _ (hrz _) ?_)
    | (at_builtin; refine wpList_copy_by _ rfl _ _ 25 25 rfl _ _ rfl rfl (hcpA _ _) ?_))
  go_region_law (refine step_copy_by rfl _ _ 25 25 rfl _ _ (by simp [Act.eval, Act.put]) (by simp [Act.eval, Act.put]) (hcpB _ _ _) ?_)
  go_wp2
  go_ret
  exact ⟨_, rfl, HE.out, HB.out⟩
/-- every road -/
theorem insert_calls (v : Value) (n i B vb : Nat) (xs : List Value) (y : Ent) (w : World) (HO : w.ownsRow B 31 2 v n xs) (h1 : ∀ u ∈ xs, u.oneCell' = true) (HY : Blk w vb 31 (ecs y))
    (hne : v.ownBlock ≠ some vb) (HBw : B ≤ w.heap.size) (hi : i ≤ n) (hn : n ≤ 5864062014634) :
    Calls Try.prog 32 #[v, .int .i64 (i : Int), .slice (some ⟨vb, 0, none⟩) 1 1] w fun e w' => ∃ v', e = .returned v' ∧ w'.ownsRow B 31 2 v' (n + 1) (insB xs i y) ∧ Below B w w' := by
  have hxl := HO.1
  rcases HO.2 with ⟨rfl, rfl⟩ | ⟨g, cap, cur, rfl, hg, _, hnc, _⟩
  · obtain rfl : i = 0 := by omega
    obtain rfl : xs = [] := List.eq_nil_of_length_eq_zero (by omega)
    exact insert_nil B vb y w ⟨HY⟩ ⟨HBw⟩
  · rcases Nat.lt_or_eq_of_le hi with hlt | rfl
    · rcases Nat.lt_or_eq_of_le hnc with hc | rfl
      · exact insert_room g cap n i B vb xs y w ⟨HO⟩ ⟨h1⟩ ⟨HY⟩ (fun e => hne (by rw [e]; rfl)) ⟨HBw⟩ hlt hc hn
      · exact insert_grow g n i B vb xs y w ⟨HO⟩ ⟨h1⟩ ⟨HY⟩ ⟨HBw⟩ hlt hn
    · have e : insB xs i y = xs ++ ecs y := by
        unfold insB
        rw [List.take_of_length_le (by omega), List.drop_eq_nil_of_le (by omega), List.append_nil]
      rw [e]
      exact insert_end g cap i B vb xs y w ⟨HO⟩ ⟨HY⟩ ⟨hnc⟩ ⟨hg⟩ ⟨HBw⟩ hn
end Go.Proofs.Ytiloeaenpanjcaa
/-! from E14Delete -/
namespace Go.Proofs.Ytiloeaenpanjcaa
open Go.RowKit Go.Sac
set_option linter.unusedVariables false
set_option linter.unusedSimpArgs false

def delB (xs : List Value) (i : Nat) : List Value := xs.take (i * 2) ++ xs.drop ((i + 1) * 2)
def zE : List Value := [.string ⟨#[]⟩, .int .i64 0]
theorem del_fits (cur xs : List Value) (n i cap : Nat) (hi : i < n) (hc : n ≤ cap) (hl : cur.length = cap * 2) (hx : cur.take (n * 2) = xs) :
    (splice (splice cur (i * 2) (xs.drop ((i + 1) * 2))) ((n - 1) * 2) zE).take ((n - 1) * 2) = delB xs i := by
  subst hx
  unfold splice delB
  have hxl : (cur.take (n * 2)).length = n * 2 := by rw [List.length_take, hl]; omega
  have e0 : ((cur.take (n * 2)).drop ((i + 1) * 2)).length = n * 2 - (i + 1) * 2 := by rw [List.length_drop, hxl]
  have e1 : (cur.take (i * 2) ++ ((cur.take (n * 2)).drop ((i + 1) * 2) ++ cur.drop (i * 2 + ((cur.take (n * 2)).drop ((i + 1) * 2)).length))).take ((n - 1) * 2) = (cur.take (n * 2)).take (i * 2) ++ (cur.take (n * 2)).drop ((i + 1) * 2) := by
    rw [← List.append_assoc, List.take_left' (by rw [List.length_append, e0, List.length_take, hl]; omega), List.take_take, Nat.min_eq_left (by omega)]
  rw [e1, List.take_left' (by simp only [List.length_append, List.length_take, hxl, e0]; omega)]
set_option maxHeartbeats 4000000 in
set_option maxRecDepth 100000 in
theorem delete_calls (g cap n i B : Nat) (xs : List Value) (w : World) (HO : Hd (w.ownsRow B 31 2 (.slice (some ⟨g, 0, none⟩) n cap) n xs)) (H1 : Hd (∀ u ∈ xs, u.oneCell' = true))
    (hi : i < n) (hn : n ≤ 5864062014634) :
    Calls Try.prog 34 #[.slice (some ⟨g, 0, none⟩) n cap, .int .i64 (i : Int), .int .i64 ((i : Int) + 1)] w fun e w' => ∃ v', e = .returned v' ∧ w'.ownsRow B 31 2 v' (n - 1) (delB xs i) ∧ Below B w w' := by
  obtain ⟨cur, hb, hBg, hnc, hc63, hcl, hct⟩ := own_blk HO.out
  have hxl : xs.length = n * 2 := HO.out.1
  obtain ⟨i0, hi0, hzz⟩ := Option.map_eq_some_iff.1 info_ent
  simp only [Prod.mk.injEq] at hzz
  obtain ⟨hz0, hzs, hzb⟩ := hzz
  obtain ⟨news, hnews⟩ : ∃ news, news = xs.drop ((i + 1) * 2) := ⟨_, rfl⟩
  have hnl : news.length = (n - (i + 1)) * 2 := by rw [hnews, List.length_drop, hxl, Nat.sub_mul]
  obtain ⟨A, hA, hsrc⟩ : ∃ A : Addr, (if cap = i + 1 then some (⟨g, 0, none⟩ : Addr) else some ⟨g, (i + 1) * 2, none⟩) = some A ∧ Hd (∀ t u, news[t]? = some u → w.drew.cell? (A.add t) = some u) := by
    by_cases h : cap = i + 1
    · refine ⟨⟨g, 0, none⟩, by simp [h], ⟨fun t u hu => ?_⟩⟩
      have h0 : news.length = 0 := by rw [hnl]; omega
      rw [List.length_eq_zero_iff.1 h0] at hu
      simp at hu
    · refine ⟨⟨g, (i + 1) * 2, none⟩, by simp [h], ⟨fun t u hu => ?_⟩⟩
      rw [addr_add]
      refine hb.drew.cell ?_
      rw [hnews, List.getElem?_drop, ← hct, List.getElem?_take] at hu
      split at hu
      · exact hu
      · cases hu
  have s1 : Hd (news.length = (n - (i + 1)) * 2) := ⟨hnl⟩
  have s2 : Hd (∀ u ∈ news, u.oneCell' = true) := ⟨fun u hu => H1.out u (by rw [hnews] at hu; exact List.mem_of_mem_drop hu)⟩
  have s3 : Hd (∀ t, t < news.length → (w.drew.cell? ⟨g, 0 + i * 2 + t, none⟩).isSome = true ∧ w.drew.frozen? ⟨g, 0 + i * 2 + t, none⟩ = false) := ⟨fun t ht => by
    rw [hnl] at ht
    exact ⟨by rw [hb.drew.cell (List.getElem?_eq_getElem (by rw [hcl]; omega))]; rfl, hb.drew.frz _⟩⟩
  obtain ⟨W1, hW1⟩ : ∃ W1, W1 = w.drew.setCells g (0 + i * 2) news := ⟨_, rfl⟩
  have hW := Hd.mk hW1
  have hb1 : Blk W1 g 31 (splice cur (i * 2) news) := by rw [hW1, Nat.zero_add]; exact hb.drew.setCells _ _ _ _ (by rw [hnl, hcl]; omega)
  have hl1 : (splice cur (i * 2) news).length = cap * 2 := by rw [length_splice _ _ _ (by rw [hnl, hcl]; omega), hcl]
  have hcl2 : ∀ ty c', (Builtin.clear_ #[25] ty #[.slice (some ⟨g, (i + (n - (i + 1))) * 2, none⟩) (n - (i + (n - (i + 1)))) c']).run Try.prog W1 = .ok (.tuple #[]) (W1.setCells g ((i + (n - (i + 1))) * 2) zE) := fun ty c' =>
    run_clear_k W1 _ 31 ty (.agg #[.string ⟨#[]⟩, .int .i64 0]) Try.underlying25 (fun w => by simp [zeroValue, typeInfo, hi0, hz0]) g _ _ c' (by omega) zE (by rw [show n - (i + (n - (i + 1))) = 1 by omega]; kernel_rfl) (fun v hv => by simp [zE] at hv; rcases hv with rfl | rfl <;> rfl)
      (fun j hj => by simp [zE] at hj; rw [hb1.cell (List.getElem?_eq_getElem (by rw [hl1]; omega))]; rfl) (fun j hj => hb1.frz _)
  have hnn : i + (n - (i + 1)) = n - 1 := by omega
  have HE : Hd ((W1.setCells g ((i + (n - (i + 1))) * 2) zE).ownsRow B 31 2 (.slice (some ⟨g, 0, none⟩) (i + (n - (i + 1))) cap) (n - 1) (delB xs i)) := ⟨by
    rw [hnn]
    refine blk_own (hb1.setCells zE ((n - 1) * 2) _ _ (by rw [hl1]; simp [zE]; omega)) hBg (by omega) hc63 ?_ ?_
    · rw [length_splice _ _ _ (by rw [hl1]; simp [zE]; omega), hl1]
    · rw [hnews]; exact del_fits cur xs n i cap hi hnc hcl hct⟩
  have HB : Hd (Below B w (W1.setCells g ((i + (n - (i + 1))) * 2) zE)) := ⟨below_setCells hBg _ _ _ (by rw [hW1]; exact below_setCells hBg _ _ _ (Below.refl _ _).drew)⟩
  have hic : i ≤ cap := by omega
  have hjc : i + 1 ≤ cap := by omega
  have hjn : i + 1 ≤ n := by omega
  have hne : ¬ ((i : Int) = (i : Int) + 1) := by omega
  have t2 : ((i : Int) + 1).toNat = i + 1 := by omega
  have p1 : (0 : Int) ≤ (i : Int) + 1 := by omega
  have p3 : (i : Int) + 1 ≤ (n : Int) := by omega
  have p4 : (i : Int) + 1 ≤ (cap : Int) := by omega
  clear hnn hb1 hl1 hW1 hnl hxl hb hcl hct hnews hz0 hzb
  go_enter Try.func34, Try.ntmps34
  go_wp2_with fail
  go_region_law (refine step_append_room rfl (.tmp 22) (.tmp 25) 25 rfl 31 i0 2 Try.underlying25 hi0 hzs g 0 i cap (by simp [Act.eval, Act.put]) A (n - (i + 1)) (cap - (i + 1)) news (by simp [Act.eval, Act.put]) s1.out hsrc.out s2.out (by omega) s3.out ?_; rw [← hW.out])
  go_wp2
  go_ret
  exact ⟨_, rfl, HE.out, HB.out⟩
end Go.Proofs.Ytiloeaenpanjcaa
