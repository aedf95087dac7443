/- Walks: an entry laid into a row that has no room; an entry taken out of a row. -/
import Derived.Test.YtiloeaenpanjcaaE14Insert
namespace Go.Proofs.Ytiloeaenpanjcaa
open Go.RowKit Go.Sac
set_option linter.unusedVariables false
set_option linter.unusedSimpArgs false

theorem ins_grow (Z xs : List Value) (n i : Nat) (y : Ent) (hi : i < n) (hx : xs.length = n * 2) (hZ : (n + 1) * 2 ≤ Z.length) (hz : Z.take (i * 2) = xs.take (i * 2)) :
    (splice (splice Z (i * 2) (ecs y)) ((i + 1) * 2) (xs.drop (i * 2))).take ((n + 1) * 2) = insB xs i y := by
  unfold splice insB
  have e0 : (xs.drop (i * 2)).length = n * 2 - i * 2 := by rw [List.length_drop, hx]
  have e1 : (Z.take (i * 2) ++ (ecs y ++ Z.drop (i * 2 + (ecs y).length))).take ((i + 1) * 2) = xs.take (i * 2) ++ ecs y := by
    rw [← List.append_assoc, List.take_left' (by rw [List.length_append, List.length_take, ecs_len]; omega), hz]
  rw [e1, ← List.append_assoc, List.take_left' (by simp only [List.length_append, List.length_take, e0, ecs_len, hx]; omega), List.append_assoc]
set_option maxHeartbeats 4000000 in
set_option maxRecDepth 100000 in
theorem insert_grow (g n i B vb : Nat) (xs : List Value) (y : Ent) (w : World) (HO : Hd (w.ownsRow B 31 2 (.slice (some ⟨g, 0, none⟩) n n) n xs)) (H1 : Hd (∀ u ∈ xs, u.oneCell' = true)) (HY : Hd (Blk w vb 31 (ecs y)))
    (HBw : Hd (B ≤ w.heap.size)) (hi : i < n) (hn : n ≤ 5864062014634) :
    Calls Try.prog 32 #[.slice (some ⟨g, 0, none⟩) n n, .int .i64 (i : Int), .slice (some ⟨vb, 0, none⟩) 1 1] w fun e w' => ∃ v', e = .returned v' ∧ w'.ownsRow B 31 2 v' (n + 1) (insB xs i y) ∧ Below B w w' := by
  obtain ⟨cur, hb, hBg, _, hc63, hcl, hct⟩ := own_blk HO.out
  have hxl : xs.length = n * 2 := HO.out.1
  obtain ⟨i0, hi0, hzz⟩ := Option.map_eq_some_iff.1 info_ent
  simp only [Prod.mk.injEq] at hzz
  obtain ⟨hz0, hzs, hzb⟩ := hzz
  have hold : (Builtin.firstCells i0.size i (.slice (some ⟨g, 0, none⟩) i n)).run Try.prog w.drew = .ok (xs.take (i * 2)).toArray w.drew := by
    rw [hzs]
    refine run_firstCells_some w.drew 2 i ⟨g, 0, none⟩ i n (xs.take (i * 2)) (by rw [List.length_take]; omega) (fun j v hj => ?_)
    rw [addr_add, Nat.zero_add]
    refine hb.drew.cell ?_
    rw [List.getElem?_take, ← hct, List.getElem?_take] at hj
    split at hj
    · split at hj
      · exact hj
      · cases hj
    · cases hj
  obtain ⟨G, hG⟩ : ∃ G, G = grownCap w (n + 1) n 31 := ⟨_, rfl⟩
  obtain ⟨Z, hZ⟩ : ∃ Z : List Value, Z = xs.take (i * 2) ++ ((Builtin.zeroCells (Value.agg #[.string ⟨#[]⟩, .int .i64 0]).cells (n + 1 - i)).toList ++ (Builtin.zeroCells (Value.agg #[.string ⟨#[]⟩, .int .i64 0]).cells (G - (n + 1))).toList) := ⟨_, rfl⟩
  have hkk : (n : Int) + 1 - (i : Int) = ((n + 1 - i : Nat) : Int) := by omega
  have hik : i + (n + 1 - i) = n + 1 := by omega
  have hGn : n + 1 ≤ G := by rw [hG]; exact grownCap_ge w _ _ _
  have hG63 : G ≤ 9223372036854775807 := by
    have := grownCap_le_maxLen w (n + 1) n 31 (by unfold maxLen; omega)
    rw [← hG] at this
    unfold maxLen at this
    omega
  have hZl : Z.length = G * 2 := by
    rw [hZ]
    simp only [List.length_append, List.length_take, Array.length_toList, size_zeroCells, hxl]
    have : (Value.agg #[.string ⟨#[]⟩, .int .i64 0]).cells.size = 2 := rfl
    rw [this]
    omega
  have hZt : Z.take (i * 2) = xs.take (i * 2) := by
    rw [hZ, List.take_left' (by rw [List.length_take, hxl]; omega)]
  have hrz : ∀ ty, (Builtin.append_ #[25, 3] ty #[.slice (some ⟨g, 0, none⟩) i n, .int .i64 ((n + 1 - i : Nat) : Int)]).run Try.prog w =
      .ok (.slice (some ⟨w.heap.size, 0, none⟩) (n + 1) G) (w.drew.alloc (.cells Z.toArray 31)) := fun ty => by
    have h := Lib.run_append_grow_zeros w 25 3 ty 31 i0 _ .i64 .i64 Try.underlying25 Try.underlying3 hi0 hz0 (some ⟨g, 0, none⟩) i n (xs.take (i * 2)) hold (n + 1 - i) (by omega) (by omega) (by omega) (by omega) (by rw [hzb]; omega) (by rw [hzb, hik]; exact growslice_fits (by omega) (by omega))
    rw [hik] at h
    rw [h, hG, hZ]
    simp
    rw [← hG]
    refine congrArg (fun z => w.drew.alloc (Obj.cells z _)) (Array.toList_inj.1 ?_)
    simp
  obtain ⟨W1, hW1⟩ : ∃ W1, W1 = w.drew.alloc (.cells Z.toArray 31) := ⟨_, rfl⟩
  rw [← hW1] at hrz
  have hN : Blk W1 w.heap.size 31 Z := by rw [hW1]; exact Blk.new w.drew 31 Z
  have hbg : g < w.heap.size := hb.lt
  have hO : Blk W1 g 31 cur := by rw [hW1]; exact hb.drew.alloc _
  have hY : Blk W1 vb 31 (ecs y) := by rw [hW1]; exact HY.out.drew.alloc _
  have hvl : vb < w.heap.size := HY.out.lt
  have hB1 : Below w.heap.size w W1 := by rw [hW1]; exact (Below.refl _ w).drew.alloc (Nat.le_refl _) _
  obtain ⟨W2, hW2⟩ : ∃ W2, W2 = W1.setCells w.heap.size (i * 2) (ecs y) := ⟨_, rfl⟩
  have hcpA : ∀ ty dc, (Builtin.copy_ #[25, 25] ty #[.slice (some ⟨w.heap.size, i * 2, none⟩) (n + 1 - i) dc, .slice (some ⟨vb, 0, none⟩) 1 1]).run Try.prog W1 = .ok (goInt (1 : Nat)) W2 := fun ty dc => by
    rw [hW2]
    exact run_copy_k W1 _ _ ty 31 w.heap.size (i * 2) (n + 1 - i) dc ⟨vb, 0, none⟩ 1 1 2 1 (ecs y) Try.underlying25 info2 (by simp only [Nat.min_def]; split <;> omega) rfl
      (fun j v hj => by rw [addr_add, Nat.zero_add]; exact hY.cell hj) (fun j hj => by rw [ecs_len] at hj; rw [hN.cell (List.getElem?_eq_getElem (by rw [hZl]; omega))]; rfl) (fun j hj => hN.frz _) (ecs_one y)
  have hN2 : Blk W2 w.heap.size 31 (splice Z (i * 2) (ecs y)) := by rw [hW2]; exact hN.setCells _ _ _ _ (by rw [ecs_len, hZl]; omega)
  have hl2 : (splice Z (i * 2) (ecs y)).length = G * 2 := by rw [length_splice _ _ _ (by rw [ecs_len, hZl]; omega), hZl]
  have hO2 : Blk W2 g 31 cur := by rw [hW2]; exact Blk.farCells (by omega) _ _ _ _ hO
  have hdl : (xs.drop (i * 2)).length = (n - i) * 2 := by rw [List.length_drop, hxl, Nat.sub_mul]
  obtain ⟨W3, hW3⟩ : ∃ W3, W3 = W2.drew.setCells w.heap.size ((i + 1) * 2) (xs.drop (i * 2)) := ⟨_, rfl⟩
  have hcpB : ∀ ty dc sc, (Builtin.copy_ #[25, 25] ty #[.slice (some ⟨w.heap.size, (i + 1) * 2, none⟩) (n - i) dc, .slice (some ⟨g, i * 2, none⟩) (n - i) sc]).run Try.prog W2.drew = .ok (goInt (n - i : Nat)) W3 := fun ty dc sc => by
    rw [hW3]
    exact run_copy_k W2.drew _ _ ty 31 w.heap.size ((i + 1) * 2) (n - i) dc ⟨g, i * 2, none⟩ (n - i) sc 2 (n - i) (xs.drop (i * 2)) Try.underlying25 info2 (by simp only [Nat.min_def]; split <;> omega) hdl
      (fun j v hj => by
        rw [addr_add]
        refine hO2.drew.cell ?_
        rw [List.getElem?_drop, ← hct, List.getElem?_take] at hj
        split at hj
        · exact hj
        · cases hj)
      (fun j hj => by rw [hN2.drew.cell (List.getElem?_eq_getElem (by rw [hl2]; omega))]; rfl) (fun j hj => hN2.drew.frz _) (fun v hv => H1.out v (List.mem_of_mem_drop hv))
  have HE : Hd (W3.ownsRow B 31 2 (.slice (some ⟨w.heap.size, 0, none⟩) (n + 1) G) (n + 1) (insB xs i y)) := ⟨by
    rw [hW3]
    refine blk_own (hN2.drew.setCells _ _ _ _ (by rw [hl2, hdl]; omega)) HBw.out hGn hG63 ?_ ?_
    · rw [length_splice _ _ _ (by rw [hl2, hdl]; omega), hl2]
    · exact ins_grow Z xs n i y hi hxl (by omega) hZt⟩
  have HB : Hd (Below B w W3) := ⟨by rw [hW3]; refine below_setCells HBw.out _ _ _ ?_; rw [hW2]; exact (below_setCells HBw.out _ _ _ (hB1.mono HBw.out)).drew⟩
  have e1 : IntKind.i64.wrap ((n : Int) + 1) = (n : Int) + 1 := by rw [IntKind.wrap_i64]; omega
  have e2 : IntKind.i64.wrap ((i : Int) + 1) = (i : Int) + 1 := by rw [IntKind.wrap_i64]; omega
  have e3 : IntKind.i64.wrap ((n : Int) + 1 - (i : Int)) = ((n + 1 - i : Nat) : Int) := by rw [IntKind.wrap_i64]; omega
  have t1 : ((n : Int) + 1).toNat = n + 1 := by omega
  have t2 : ((i : Int) + 1).toNat = i + 1 := by omega
  have p1 : (0 : Int) ≤ (i : Int) + 1 := by omega
  have p2 : (0 : Int) ≤ (n : Int) + 1 := by omega
  have hz2 : ¬ ((i : Int) = (n : Int)) := by omega
  have hb2 : ¬ (G = i + 1) := by omega
  have hb4 : ¬ (G = i) := by omega
  have hb5 : ¬ (n = i) := by omega
  have hin : i ≤ n := by omega
  have hin3 : (i : Int) ≤ (n : Int) + 1 := by omega
  have hin4 : (i : Int) + 1 ≤ (n : Int) + 1 := by omega
  clear hN hO hY hB1 hN2 hl2 hO2 hdl hW1 hW2 hW3 hZ hZl hZt hG hb hcl hct hxl hold hi0 hz0 hzs hzb hkk hik
  go_enter Try.func32, Try.ntmps32
  go_wp2_with (first
    | (at_builtin; refine Lib.wpList_append_run _ rfl _ _ _ _ rfl _ _ rfl rfl _ _ (hrz _) ?_)
    | (at_builtin; refine wpList_copy_by _ rfl _ _ 25 25 rfl _ _ rfl rfl (hcpA _ _) ?_))
  go_region_law (refine step_copy_by rfl _ _ 25 25 rfl _ _ (by simp [Act.eval, Act.put]) (by simp [Act.eval, Act.put]) (hcpB _ _ _) ?_)
  go_wp2
  go_ret
  exact ⟨_, rfl, HE.out, HB.out⟩
/-- every road -/
theorem insert_calls (v : Value) (n i B vb : Nat) (xs : List Value) (y : Ent) (w : World) (HO : w.ownsRow B 31 2 v n xs) (h1 : ∀ u ∈ xs, u.oneCell' = true) (HY : Blk w vb 31 (ecs y))
    (hne : v.ownBlock ≠ some vb) (HBw : B ≤ w.heap.size) (hi : i ≤ n) (hn : n ≤ 5864062014634) :
    Calls Try.prog 32 #[v, .int .i64 (i : Int), .slice (some ⟨vb, 0, none⟩) 1 1] w fun e w' => ∃ v', e = .returned v' ∧ w'.ownsRow B 31 2 v' (n + 1) (insB xs i y) ∧ Below B w w' := by
  have hxl := HO.1
  rcases HO.2 with ⟨rfl, rfl⟩ | ⟨g, cap, cur, rfl, hg, _, hnc, _⟩
  · obtain rfl : i = 0 := by omega
    obtain rfl : xs = [] := List.eq_nil_of_length_eq_zero (by omega)
    exact insert_nil B vb y w ⟨HY⟩ ⟨HBw⟩
  · rcases Nat.lt_or_eq_of_le hi with hlt | rfl
    · rcases Nat.lt_or_eq_of_le hnc with hc | rfl
      · exact insert_room g cap n i B vb xs y w ⟨HO⟩ ⟨h1⟩ ⟨HY⟩ (fun e => hne (by rw [e]; rfl)) ⟨HBw⟩ hlt hc hn
      · exact insert_grow g n i B vb xs y w ⟨HO⟩ ⟨h1⟩ ⟨HY⟩ ⟨HBw⟩ hlt hn
    · have e : insB xs i y = xs ++ ecs y := by
        unfold insB
        rw [List.take_of_length_le (by omega), List.drop_eq_nil_of_le (by omega), List.append_nil]
      rw [e]
      exact insert_end g cap i B vb xs y w ⟨HO⟩ ⟨HY⟩ ⟨hnc⟩ ⟨hg⟩ ⟨HBw⟩ hn
end Go.Proofs.Ytiloeaenpanjcaa
