/- Walks: an entry laid into a row of the call's own. -/
import Derived.Test.YtiloeaenpanjcaaE14Lib
namespace Go.Proofs.Ytiloeaenpanjcaa
open Go.RowKit Go.Sac
set_option linter.unusedVariables false
set_option linter.unusedSimpArgs false

def insB (xs : List Value) (i : Nat) (y : Ent) : List Value := xs.take (i * 2) ++ (ecs y ++ xs.drop (i * 2))
theorem info2 : (Try.prog.info? 31).map (·.size) = some 2 := by kernel_rfl
theorem ecs_one (x : Ent) : ∀ u ∈ ecs x, u.oneCell' = true := fun u hu => by simp [ecs] at hu; rcases hu with rfl | rfl <;> rfl
theorem shape_blk {w : World} {g : Nat} {E : TypeId} {cs : List Value} (h : Blk w g E cs) : w.shape? g = some (E, cs.length) := by
  unfold Blk at h
  simp [World.shape?, h]
/-- at the end -/
theorem insert_end (g cap n B vb : Nat) (xs : List Value) (y : Ent) (w : World) (HO : Hd (w.ownsRow B 31 2 (.slice (some ⟨g, 0, none⟩) n cap) n xs)) (HY : Hd (Blk w vb 31 (ecs y)))
    (HC : Hd (n ≤ cap)) (HBg : Hd (B ≤ g)) (HBw : Hd (B ≤ w.heap.size)) (hn : n ≤ 5864062014634) :
    Calls Try.prog 32 #[.slice (some ⟨g, 0, none⟩) n cap, .int .i64 (n : Int), .slice (some ⟨vb, 0, none⟩) 1 1] w fun e w' => ∃ v', e = .returned v' ∧ w'.ownsRow B 31 2 v' (n + 1) (xs ++ ecs y) ∧ Below B w w' := by
  go_enter Try.func32, Try.ntmps32
  go_wp2_with (at_builtin; refine app_rc B 25 31 _ 2 24 _ _ rfl rfl Try.underlying25 info_ent rfl (by decide) (by decide) _ n xs (ecs y) _ 1 1 rfl rfl HO.out HY.out.rc rfl (ecs_one y) HBw.out (by omega) (n + 1) (xs ++ ecs y) rfl rfl ?_; intro v1 w1 ho hg hat; have HO1 := Hd.mk ho; have HG : Hd (w.grownBy w1 (some g)) := ⟨hg⟩; clear ho hg hat)
  all_goals
    go_ret
    exact ⟨v1, rfl, HO1.out, ⟨HG.out.os, HG.out.tape, HG.out.output, HG.out.size, fun b hb => HG.out.block b (by have := HBw.out; omega) (by have := HBg.out; intro e; injection e with e; omega)⟩⟩
theorem insert_nil (B vb : Nat) (y : Ent) (w : World) (HY : Hd (Blk w vb 31 (ecs y))) (HBw : Hd (B ≤ w.heap.size)) :
    Calls Try.prog 32 #[.slice none 0 0, .int .i64 0, .slice (some ⟨vb, 0, none⟩) 1 1] w fun e w' => ∃ v', e = .returned v' ∧ w'.ownsRow B 31 2 v' 1 (ecs y) ∧ Below B w w' := by
  go_enter Try.func32, Try.ntmps32
  go_wp2_with (at_builtin; refine app_rc B 25 31 _ 2 24 _ _ rfl rfl Try.underlying25 info_ent rfl (by decide) (by decide) _ 0 [] (ecs y) _ 1 1 rfl rfl (World.ownsRow_nil _ _ _ _) HY.out.rc rfl (ecs_one y) HBw.out (by omega) 1 (ecs y) rfl rfl ?_; intro v1 w1 ho hg hat; have HO1 := Hd.mk ho; have HG : Hd (w.grownBy w1 none) := ⟨hg⟩; clear ho hg hat)
  go_ret
  exact ⟨v1, rfl, HO1.out, ⟨HG.out.os, HG.out.tape, HG.out.output, HG.out.size, fun b hb => HG.out.block b (by have := HBw.out; omega) nofun⟩⟩
/-- there is room -/
theorem ins_room (cur : List Value) (n i cap : Nat) (xs : List Value) (y : Ent) (hi : i < n) (hc : n + 1 ≤ cap) (hl : cur.length = cap * 2) (hx : cur.take (n * 2) = xs) :
    (splice (splice cur ((i + 1) * 2) (xs.drop (i * 2))) (i * 2) (ecs y)).take ((n + 1) * 2) = insB xs i y := by
  subst hx
  unfold splice insB
  have hxl : (cur.take (n * 2)).length = n * 2 := by rw [List.length_take, hl]; omega
  have e0 : ((cur.take (n * 2)).drop (i * 2)).length = n * 2 - i * 2 := by rw [List.length_drop, hxl]
  have e1 : (cur.take ((i + 1) * 2) ++ ((cur.take (n * 2)).drop (i * 2) ++ cur.drop ((i + 1) * 2 + ((cur.take (n * 2)).drop (i * 2)).length))).take (i * 2) = (cur.take (n * 2)).take (i * 2) := by
    rw [List.take_append_of_le_length (by rw [List.length_take, hl]; omega), List.take_take, List.take_take, Nat.min_eq_left (by omega), Nat.min_eq_left (by omega)]
  have e2 : (cur.take ((i + 1) * 2) ++ ((cur.take (n * 2)).drop (i * 2) ++ cur.drop ((i + 1) * 2 + ((cur.take (n * 2)).drop (i * 2)).length))).drop (i * 2 + (ecs y).length) = (cur.take (n * 2)).drop (i * 2) ++ cur.drop ((i + 1) * 2 + ((cur.take (n * 2)).drop (i * 2)).length) := by
    rw [List.drop_left' (by rw [List.length_take, hl, ecs_len]; omega)]
  rw [e1, e2, e0]
  rw [← List.append_assoc, ← List.append_assoc, List.take_left' (by simp only [List.length_append, List.length_take, e0, hxl, ecs_len]; omega), List.append_assoc]
set_option maxHeartbeats 4000000 in
set_option maxRecDepth 100000 in
theorem insert_room (g cap n i B vb : Nat) (xs : List Value) (y : Ent) (w : World) (HO : Hd (w.ownsRow B 31 2 (.slice (some ⟨g, 0, none⟩) n cap) n xs)) (H1 : Hd (∀ u ∈ xs, u.oneCell' = true)) (HY : Hd (Blk w vb 31 (ecs y)))
    (hne : g ≠ vb) (HBw : Hd (B ≤ w.heap.size)) (hi : i < n) (hc : n + 1 ≤ cap) (hn : n ≤ 5864062014634) :
    Calls Try.prog 32 #[.slice (some ⟨g, 0, none⟩) n cap, .int .i64 (i : Int), .slice (some ⟨vb, 0, none⟩) 1 1] w fun e w' => ∃ v', e = .returned v' ∧ w'.ownsRow B 31 2 v' (n + 1) (insB xs i y) ∧ Below B w w' := by
  obtain ⟨cur, hb, hBg, _, hc63, hcl, hct⟩ := own_blk HO.out
  have hxl : xs.length = n * 2 := HO.out.1
  have hov : ∀ lb cb, (callFunc 49 #[.slice (some ⟨vb, 0, none⟩) 1 1, .slice (some ⟨g, (i + 1) * 2, none⟩) lb cb]).run Try.prog w = .ok (.value (.bool false)) w := fun lb cb => by
    rw [run_callFunc_extern Try.func49 (by kernel_rfl) (by kernel_rfl) (by kernel_rfl) (e := Extern.SlicesOverlaps.overlaps #[25, 25] #[4]) (by kernel_rfl),
      Lib.run_overlaps_apart w 25 4 31 Try.underlying25 2 (fun w => by obtain ⟨i0, hi0, h0⟩ := Option.map_eq_some_iff.1 info2; rw [run_sizeOf w hi0, show Try.prog.cellsOf 31 = 2 by kernel_rfl]) ⟨vb, 0, none⟩ ⟨g, (i + 1) * 2, none⟩ 1 1 lb cb (fun e => hne e.symm) 31 31 2 cur.length (shape_blk HY.out) (shape_blk hb) (by omega) (HY.out.frz 0) (HY.out.frz 2)]
    rfl
  have hdl : (xs.drop (i * 2)).length = (n - i) * 2 := by rw [List.length_drop, hxl, Nat.sub_mul]
  obtain ⟨W1, hW1⟩ : ∃ W1, W1 = w.drew.setCells g ((i + 1) * 2) (xs.drop (i * 2)) := ⟨_, rfl⟩
  have hcp1 : ∀ ty dc sc, (Builtin.copy_ #[25, 25] ty #[.slice (some ⟨g, (i + 1) * 2, none⟩) (n - i) dc, .slice (some ⟨g, i * 2, none⟩) (n + 1 - i) sc]).run Try.prog w.drew = .ok (goInt (n - i : Nat)) W1 := fun ty dc sc => by
    rw [hW1]
    exact run_copy_k w.drew _ _ ty 31 g ((i + 1) * 2) (n - i) dc ⟨g, i * 2, none⟩ (n + 1 - i) sc 2 (n - i) (xs.drop (i * 2)) Try.underlying25 info2 (by simp only [Nat.min_def]; split <;> omega) hdl
      (fun j v hj => by
        rw [addr_add]
        refine hb.drew.cell ?_
        rw [List.getElem?_drop, ← hct, List.getElem?_take] at hj
        split at hj
        · exact hj
        · cases hj)
      (fun j hj => by rw [hb.drew.cell (List.getElem?_eq_getElem (by rw [hcl]; omega))]; rfl) (fun j hj => hb.drew.frz _) (fun v hv => H1.out v (List.mem_of_mem_drop hv))
  have hb1 : Blk W1 g 31 (splice cur ((i + 1) * 2) (xs.drop (i * 2))) := by rw [hW1]; exact hb.drew.setCells _ _ _ _ (by rw [hdl, hcl]; omega)
  have hl1 : (splice cur ((i + 1) * 2) (xs.drop (i * 2))).length = cap * 2 := by rw [length_splice _ _ _ (by rw [hdl, hcl]; omega), hcl]
  have hy1 : Blk W1 vb 31 (ecs y) := by rw [hW1]; exact Blk.farCells (fun e => hne e.symm) _ _ _ _ HY.out.drew
  have hcp2 : ∀ ty dc, (Builtin.copy_ #[25, 25] ty #[.slice (some ⟨g, i * 2, none⟩) (n + 1 - i) dc, .slice (some ⟨vb, 0, none⟩) 1 1]).run Try.prog W1 = .ok (goInt (1 : Nat)) (W1.setCells g (i * 2) (ecs y)) := fun ty dc =>
    run_copy_k W1 _ _ ty 31 g (i * 2) (n + 1 - i) dc ⟨vb, 0, none⟩ 1 1 2 1 (ecs y) Try.underlying25 info2 (by simp only [Nat.min_def]; split <;> omega) rfl
      (fun j v hj => by rw [addr_add, Nat.zero_add]; exact hy1.cell hj) (fun j hj => by rw [ecs_len] at hj; rw [hb1.cell (List.getElem?_eq_getElem (by rw [hl1]; omega))]; rfl) (fun j hj => hb1.frz _) (ecs_one y)
  have HE : Hd ((W1.setCells g (i * 2) (ecs y)).ownsRow B 31 2 (.slice (some ⟨g, 0, none⟩) (n + 1) cap) (n + 1) (insB xs i y)) := ⟨by
    refine blk_own (hb1.setCells (ecs y) (i * 2) _ _ (by rw [hl1, ecs_len]; omega)) hBg hc hc63 ?_ ?_
    · rw [length_splice _ _ _ (by rw [hl1, ecs_len]; omega), hl1]
    · exact ins_room cur n i cap xs y hi hc hcl hct⟩
  have HB : Hd (Below B w (W1.setCells g (i * 2) (ecs y))) := ⟨below_setCells hBg _ _ _ (by rw [hW1]; exact below_setCells hBg _ _ _ (Below.refl _ _).drew)⟩
  have e1 : IntKind.i64.wrap ((n : Int) + 1) = (n : Int) + 1 := by rw [IntKind.wrap_i64]; omega
  have e2 : IntKind.i64.wrap ((i : Int) + 1) = (i : Int) + 1 := by rw [IntKind.wrap_i64]; omega
  have t1 : ((n : Int) + 1).toNat = n + 1 := by omega
  have t2 : ((i : Int) + 1).toNat = i + 1 := by omega
  have p1 : (0 : Int) ≤ (i : Int) + 1 := by omega
  have p2 : (0 : Int) ≤ (n : Int) + 1 := by omega
  have hz2 : ¬ ((i : Int) = (n : Int)) := by omega
  have hb2 : ¬ (cap = i + 1) := by omega
  have hb4 : ¬ (cap = i) := by omega
  have hin : i ≤ n := by omega
  have hin3 : (i : Int) ≤ (n : Int) + 1 := by omega
  have hin4 : (i : Int) + 1 ≤ (n : Int) + 1 := by omega
  have hcap1 : (n : Int) + 1 ≤ (cap : Int) := by omega
  have hcap2 : ¬ ((cap : Int) < (n : Int) + 1) := by omega
  clear hb1 hl1 hy1 hW1 hdl hxl hct hcl hb
  go_enter Try.func32, Try.ntmps32
  go_wp2_with (simp only [hov])
  go_region_law (refine step_copy_by rfl _ _ 25 25 rfl _ _ (by simp [Act.eval, Act.put]) (by simp [Act.eval, Act.put]) (hcp1 _ _ _) ?_)
  go_wp2_with (at_builtin; refine wpList_copy_by _ rfl _ _ 25 25 rfl _ _ rfl rfl (hcp2 _ _) ?_)
  go_ret
  exact ⟨_, rfl, HE.out, HB.out⟩
end Go.Proofs.Ytiloeaenpanjcaa
