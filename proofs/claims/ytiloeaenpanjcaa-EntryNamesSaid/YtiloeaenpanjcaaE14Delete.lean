/- Walks: an entry taken out of a row of the call's own. -/
import Derived.Test.YtiloeaenpanjcaaE14Grow
namespace Go.Proofs.Ytiloeaenpanjcaa
open Go.RowKit Go.Sac
set_option linter.unusedVariables false
set_option linter.unusedSimpArgs false

def delB (xs : List Value) (i : Nat) : List Value := xs.take (i * 2) ++ xs.drop ((i + 1) * 2)
def zE : List Value := [.string ⟨#[]⟩, .int .i64 0]
theorem del_fits (cur xs : List Value) (n i cap : Nat) (hi : i < n) (hc : n ≤ cap) (hl : cur.length = cap * 2) (hx : cur.take (n * 2) = xs) :
    (splice (splice cur (i * 2) (xs.drop ((i + 1) * 2))) ((n - 1) * 2) zE).take ((n - 1) * 2) = delB xs i := by
  subst hx
  unfold splice delB
  have hxl : (cur.take (n * 2)).length = n * 2 := by rw [List.length_take, hl]; omega
  have e0 : ((cur.take (n * 2)).drop ((i + 1) * 2)).length = n * 2 - (i + 1) * 2 := by rw [List.length_drop, hxl]
  have e1 : (cur.take (i * 2) ++ ((cur.take (n * 2)).drop ((i + 1) * 2) ++ cur.drop (i * 2 + ((cur.take (n * 2)).drop ((i + 1) * 2)).length))).take ((n - 1) * 2) = (cur.take (n * 2)).take (i * 2) ++ (cur.take (n * 2)).drop ((i + 1) * 2) := by
    rw [← List.append_assoc, List.take_left' (by rw [List.length_append, e0, List.length_take, hl]; omega), List.take_take, Nat.min_eq_left (by omega)]
  rw [e1, List.take_left' (by simp only [List.length_append, List.length_take, hxl, e0]; omega)]
set_option maxHeartbeats 4000000 in
set_option maxRecDepth 100000 in
theorem delete_calls (g cap n i B : Nat) (xs : List Value) (w : World) (HO : Hd (w.ownsRow B 31 2 (.slice (some ⟨g, 0, none⟩) n cap) n xs)) (H1 : Hd (∀ u ∈ xs, u.oneCell' = true))
    (hi : i < n) (hn : n ≤ 5864062014634) :
    Calls Try.prog 34 #[.slice (some ⟨g, 0, none⟩) n cap, .int .i64 (i : Int), .int .i64 ((i : Int) + 1)] w fun e w' => ∃ v', e = .returned v' ∧ w'.ownsRow B 31 2 v' (n - 1) (delB xs i) ∧ Below B w w' := by
  obtain ⟨cur, hb, hBg, hnc, hc63, hcl, hct⟩ := own_blk HO.out
  have hxl : xs.length = n * 2 := HO.out.1
  obtain ⟨i0, hi0, hzz⟩ := Option.map_eq_some_iff.1 info_ent
  simp only [Prod.mk.injEq] at hzz
  obtain ⟨hz0, hzs, hzb⟩ := hzz
  obtain ⟨news, hnews⟩ : ∃ news, news = xs.drop ((i + 1) * 2) := ⟨_, rfl⟩
  have hnl : news.length = (n - (i + 1)) * 2 := by rw [hnews, List.length_drop, hxl, Nat.sub_mul]
  obtain ⟨A, hA, hsrc⟩ : ∃ A : Addr, (if cap = i + 1 then some (⟨g, 0, none⟩ : Addr) else some ⟨g, (i + 1) * 2, none⟩) = some A ∧ Hd (∀ t u, news[t]? = some u → w.drew.cell? (A.add t) = some u) := by
    by_cases h : cap = i + 1
    · refine ⟨⟨g, 0, none⟩, by simp [h], ⟨fun t u hu => ?_⟩⟩
      have h0 : news.length = 0 := by rw [hnl]; omega
      rw [List.length_eq_zero_iff.1 h0] at hu
      simp at hu
    · refine ⟨⟨g, (i + 1) * 2, none⟩, by simp [h], ⟨fun t u hu => ?_⟩⟩
      rw [addr_add]
      refine hb.drew.cell ?_
      rw [hnews, List.getElem?_drop, ← hct, List.getElem?_take] at hu
      split at hu
      · exact hu
      · cases hu
  have s1 : Hd (news.length = (n - (i + 1)) * 2) := ⟨hnl⟩
  have s2 : Hd (∀ u ∈ news, u.oneCell' = true) := ⟨fun u hu => H1.out u (by rw [hnews] at hu; exact List.mem_of_mem_drop hu)⟩
  have s3 : Hd (∀ t, t < news.length → (w.drew.cell? ⟨g, 0 + i * 2 + t, none⟩).isSome = true ∧ w.drew.frozen? ⟨g, 0 + i * 2 + t, none⟩ = false) := ⟨fun t ht => by
    rw [hnl] at ht
    exact ⟨by rw [hb.drew.cell (List.getElem?_eq_getElem (by rw [hcl]; omega))]; rfl, hb.drew.frz _⟩⟩
  obtain ⟨W1, hW1⟩ : ∃ W1, W1 = w.drew.setCells g (0 + i * 2) news := ⟨_, rfl⟩
  have hW := Hd.mk hW1
  have hb1 : Blk W1 g 31 (splice cur (i * 2) news) := by rw [hW1, Nat.zero_add]; exact hb.drew.setCells _ _ _ _ (by rw [hnl, hcl]; omega)
  have hl1 : (splice cur (i * 2) news).length = cap * 2 := by rw [length_splice _ _ _ (by rw [hnl, hcl]; omega), hcl]
  have hcl2 : ∀ ty c', (Builtin.clear_ #[25] ty #[.slice (some ⟨g, (i + (n - (i + 1))) * 2, none⟩) (n - (i + (n - (i + 1)))) c']).run Try.prog W1 = .ok (.tuple #[]) (W1.setCells g ((i + (n - (i + 1))) * 2) zE) := fun ty c' =>
    run_clear_k W1 _ 31 ty (.agg #[.string ⟨#[]⟩, .int .i64 0]) Try.underlying25 (fun w => by simp [zeroValue, typeInfo, hi0, hz0]) g _ _ c' (by omega) zE (by rw [show n - (i + (n - (i + 1))) = 1 by omega]; kernel_rfl) (fun v hv => by simp [zE] at hv; rcases hv with rfl | rfl <;> rfl)
      (fun j hj => by simp [zE] at hj; rw [hb1.cell (List.getElem?_eq_getElem (by rw [hl1]; omega))]; rfl) (fun j hj => hb1.frz _)
  have hnn : i + (n - (i + 1)) = n - 1 := by omega
  have HE : Hd ((W1.setCells g ((i + (n - (i + 1))) * 2) zE).ownsRow B 31 2 (.slice (some ⟨g, 0, none⟩) (i + (n - (i + 1))) cap) (n - 1) (delB xs i)) := ⟨by
    rw [hnn]
    refine blk_own (hb1.setCells zE ((n - 1) * 2) _ _ (by rw [hl1]; simp [zE]; omega)) hBg (by omega) hc63 ?_ ?_
    · rw [length_splice _ _ _ (by rw [hl1]; simp [zE]; omega), hl1]
    · rw [hnews]; exact del_fits cur xs n i cap hi hnc hcl hct⟩
  have HB : Hd (Below B w (W1.setCells g ((i + (n - (i + 1))) * 2) zE)) := ⟨below_setCells hBg _ _ _ (by rw [hW1]; exact below_setCells hBg _ _ _ (Below.refl _ _).drew)⟩
  have hic : i ≤ cap := by omega
  have hjc : i + 1 ≤ cap := by omega
  have hjn : i + 1 ≤ n := by omega
  have hne : ¬ ((i : Int) = (i : Int) + 1) := by omega
  have t2 : ((i : Int) + 1).toNat = i + 1 := by omega
  have p1 : (0 : Int) ≤ (i : Int) + 1 := by omega
  have p3 : (i : Int) + 1 ≤ (n : Int) := by omega
  have p4 : (i : Int) + 1 ≤ (cap : Int) := by omega
  clear hnn hb1 hl1 hW1 hnl hxl hb hcl hct hnews hz0 hzb
  go_enter Try.func34, Try.ntmps34
  go_wp2_with fail
  go_region_law (refine step_append_room rfl (.tmp 22) (.tmp 25) 25 rfl 31 i0 2 Try.underlying25 hi0 hzs g 0 i cap (by simp [Act.eval, Act.put]) A (n - (i + 1)) (cap - (i + 1)) news (by simp [Act.eval, Act.put]) s1.out hsrc.out s2.out (by omega) s3.out ?_; rw [← hW.out])
  go_wp2
  go_ret
  exact ⟨_, rfl, HE.out, HB.out⟩
end Go.Proofs.Ytiloeaenpanjcaa
