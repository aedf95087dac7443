/- Walks: some that are free. -/
import Derived.Test.YtpgkfabiflhkfaaB12First
namespace Go.Proofs.Ytpgkfabiflhkfaa
open Go.RowKit Go.Sac Go.Shelf
set_option linter.unusedVariables false
set_option linter.unusedSimpArgs false
attribute [local go_sem] Oper.semAt_some

/-- What the loop holds: its row, in its box, and how many are wanted, in another one. -/
def HasR (n₀ n₂ R N m : Nat) (mm : Int) (t e : TypeId) (ti : TypeId) (w : World) (pre : List Int) (W : World) : Prop :=
  ((∃ v, Boxed W R t v ∧ W.ownsRow n₀ e 1 v pre.length (ns pre) ∧ (pre.length ≤ m ∧ ∀ k, v.ownBlock = some k → n₂ ≤ k)) ∧ Boxed W N ti (.int .i64 mm)) ∧ Below n₀ w W ∧ n₂ ≤ W.heap.size
theorem hasR_own (n₀ n₂ R N m : Nat) (mm : Int) (t e ti : TypeId) (w : World) (B : Nat) (h1 : n₀ ≤ w.heap.size) (h2 : n₀ ≤ B) : OwnFrom B (fun pre W => HasR n₀ n₂ R N m mm t e ti w pre W) :=
  OwnFrom.and (OwnFrom.and (Own.from (holdsRow_own n₀ R t e 1 (fun pre : List Int => pre.length) (fun pre => ns pre) (fun pre v => pre.length ≤ m ∧ ∀ k, v.ownBlock = some k → n₂ ≤ k)) _) (Own.from (boxed_own _ _ _) _)) (OwnFrom.and (ownFrom_below h1 h2) (fun s X Y row hs hg hr => Nat.le_trans hs hg.size))

set_option maxRecDepth 100000 in
set_option maxHeartbeats 4000000 in
theorem some_calls (A : Option Addr) (c : Nat) (b : List UInt8) (m f t : Int) (w : World) (hb : Rc w A (bs b)) (hn : b.length ≤ 1099511627776) :
    Calls Try.prog 10 #[.slice A b.length c, .int .i64 m, .int .i64 f, .int .i64 t] w fun e w' => RetIE (soL b m f t) (soE b m f t) w e w' := by
  refine (callsIn_wide (n := 4)).1 ?_
  have HL := Hd.mk hb
  clear hb
  obtain ⟨i0, hi, hz0, hz1, hz2⟩ := info_parts info_int
  refine callsIn_of_wp_marks Try.func10 rfl trivial ?_ rfl
  simp only [Try.ntmps10, List.size_toArray, List.length_cons, List.length_nil, Nat.reduceAdd, Nat.reduceSub, Array.replicate_succ, Array.replicate_zero, List.push_toArray, List.append_toArray, List.nil_append, List.cons_append]
  gi_wp2
  apply wpInW_scope
  gi_wp2
  apply wpIn_label
  gi_wp2_with (refine ⟨trivial, ?_⟩; gi_at_call 25; refine (callsIn_wide.2 (free_calls _ _ _ _ _ _)).mono ?_; rintro e w' ⟨rfl, rfl⟩)
  have a0 := Boxed.new w 3 (.int .i64 m)
  have a1 := Boxed.new (w.alloc (.cells #[.int .i64 m] 3)) 24 (.slice none 0 0)
  obtain ⟨wx, hwx⟩ : ∃ wx, wx = (w.alloc (.cells #[.int .i64 m] 3)).alloc (.cells #[.slice none 0 0] 24) := ⟨_, rfl⟩
  have hsx : wx.heap.size = w.heap.size + 1 + 1 := by rw [hwx]; simp
  have hBx : Below w.heap.size w wx := by rw [hwx]; exact ((Below.refl _ w).alloc (Nat.le_refl _) _).alloc (by simp) _
  have a0' := a0.alloc (.cells #[.slice none 0 0] 24)
  simp only [World.size_alloc] at a1 ⊢
  rw [← hwx] at a0' a1 ⊢
  clear hwx a0
  have b0 := Boxed.new wx 22 (.slice A b.length c)
  have b1 := Boxed.new (wx.alloc (.cells #[.slice A b.length c] 22)) 3 (.int .i64 f)
  have b2 := Boxed.new ((wx.alloc (.cells #[.slice A b.length c] 22)).alloc (.cells #[.int .i64 f] 3)) 3 (.int .i64 t)
  simp only [World.size_alloc, hsx] at b0 b1 b2 ⊢
  have hB0 : Below w.heap.size w (((wx.alloc (.cells #[.slice A b.length c] 22)).alloc (.cells #[.int .i64 f] 3)).alloc (.cells #[.int .i64 t] 3)) :=
    ((hBx.alloc (by omega) _).alloc (by simp; omega) _).alloc (by simp; omega) _
  have A0 := ((a0'.alloc (.cells #[.slice A b.length c] 22)).alloc (.cells #[.int .i64 f] 3)).alloc (.cells #[.int .i64 t] 3)
  have A1 := ((a1.alloc (.cells #[.slice A b.length c] 22)).alloc (.cells #[.int .i64 f] 3)).alloc (.cells #[.int .i64 t] 3)
  have B0 := (b0.alloc (.cells #[.int .i64 f] 3)).alloc (.cells #[.int .i64 t] 3)
  have B1 := b1.alloc (.cells #[.int .i64 t] 3)
  obtain ⟨wl, hwl⟩ : ∃ wl, wl = (((wx.alloc (.cells #[.slice A b.length c] 22)).alloc (.cells #[.int .i64 f] 3)).alloc (.cells #[.int .i64 t] 3)) := ⟨_, rfl⟩
  have hsz : wl.heap.size = w.heap.size + 1 + 1 + 1 + 1 + 1 := by rw [hwl]; simp [hsx]
  rw [← hwl] at b2 hB0 A0 A1 B0 B1 ⊢
  clear hwl a0' a1 b0 b1 hBx hsx
  obtain ⟨fr, hfr⟩ : ∃ fr, fr = frT b f.toNat (hiT b t) := ⟨_, rfl⟩
  refine wpIn_rangeFunc_ownF (F := Fence.wide) (n := 4) rfl (by decide) (gf := 29) (lb := #[.pointer (some ⟨w.heap.size + 1 + 1, 0, none⟩), .pointer (some ⟨w.heap.size + 1 + 1 + 1, 0, none⟩), .pointer (some ⟨w.heap.size + 1 + 1 + 1 + 1, 0, none⟩)]) rfl trivial (enters_of Try.func29 (by kernel_rfl) rfl)
    (free_stops w.heap.size (w.heap.size + 1 + 1) (w.heap.size + 1 + 1 + 3) A c b f t w wl rfl hB0 HL.out hn rfl (by omega) B0 B1 b2) keepR_t (keepR_b (by omega) (by omega)) (Below.refl _ _) (fun _ => rfl)
    (HasR w.heap.size (w.heap.size + 1 + 1 + 3) (w.heap.size + 1) w.heap.size m.toNat m 24 3 3 w)
    (fun c pre W => (c = .exit 0 ∧ ∃ q x, pre = q ++ [x] ∧ m ≤ q.length) ∧ HasR w.heap.size (w.heap.size + 1 + 1 + 3) (w.heap.size + 1) w.heap.size m.toNat m 24 3 3 w pre.dropLast W)
    (hasR_own _ _ _ _ _ _ _ _ _ _ _ (Nat.le_refl _) (by omega))
    (fun c => OwnFrom.and (ownFrom_pure _ _) (fun s X Y row hs hg hr => hasR_own _ _ _ _ _ _ _ _ _ _ wl.heap.size (Nat.le_refl _) (by omega) s.dropLast X Y row hs hg hr))
    ⟨⟨⟨_, A1, World.ownsRow_nil _ _ _ _, Nat.zero_le _, by simp [Value.ownBlock]⟩, A0⟩, hB0, by omega⟩
    (fun x => { tmps := #[.slice A b.length c, .int .i64 m, .int .i64 f, .int .i64 t, undef, .pointer (some ⟨w.heap.size, 0, none⟩), undef, undef, .slice none 0 0, .int .i64 0, .pointer (some ⟨w.heap.size + 1, 0, none⟩), .int .i64 x, .slice A b.length c, .int .i64 f, .int .i64 t, .func (.func 29) #[] #[.pointer (some ⟨w.heap.size + 1 + 1, 0, none⟩), .pointer (some ⟨w.heap.size + 1 + 1 + 1, 0, none⟩), .pointer (some ⟨w.heap.size + 1 + 1 + 1 + 1, 0, none⟩)], .int .i64 x, undef, undef, undef, undef, undef, undef, undef, undef, undef, undef, undef, undef, undef], defers := [] }) ?assign ?body ?done ?stop
  case assign =>
    intro l x W K hK
    gi_wp2
    exact hK
  case body =>
    rintro l pre x W ⟨⟨⟨v, hv, hrow, hle, hown⟩, hN⟩, hB, hSz⟩ hlt
    have hc := hv.cell
    have hc2 := hN.cell
    obtain ⟨A1, c1, hvf, _, _, _⟩ := own_rc hrow
    subst hvf
    by_cases hm : m ≤ (pre.length : Int)
    · gi_wp2
      exact ⟨KeepsOthers.refl _, ⟨rfl, pre, x, rfl, hm⟩, by rw [List.dropLast_concat]; exact ⟨⟨⟨_, hv, hrow, hle, hown⟩, hN⟩, hB, hSz⟩⟩
    · have hm' : (pre.length : Int) < m := by omega
      have hml : pre.length + 1 ≤ maxLen := by simp only [maxLen]; omega
      gi_wp2_with (gi_at_builtin; refine app_in w.heap.size 24 3 (.int .i64 0) 1 8 (.tmp 21) (.tmp 23) rfl rfl Try.underlying24 info_int rfl (by decide) (by decide) (.slice A1 pre.length c1) pre.length (ns pre) [.int .i64 x] (some ⟨W.heap.size, 0, none⟩) 1 1 rfl rfl (own_alloc hrow _) (Rc.one _ _ _) (by simp) (by simp [Value.oneCell']) (by have := hB.size; simp; omega) (by omega) (pre.length + 1) (ns pre ++ [.int .i64 x]) rfl rfl ?_; intro v' w1 hown' hgrow hat; obtain ⟨g', cap', rfl⟩ := ownsRow_succ hown'; obtain ⟨hv1, hv2, hr2, hk2, hb2⟩ := hv.appended (by decide) hrow hB.size (by omega) hown' hgrow; have hc1 := hv1.cell; have hf1 := hv1.frozen)
      refine ⟨hk2, ⟨hb2, fun B h1 h2 => grown_at hgrow (by omega) (fun k hk => by have := hown k hk; omega) (by omega)⟩, ⟨⟨⟨_, hv2, by simpa [ns, i64v] using hr2, by simp; omega, ?_⟩, (grown_at hgrow (by have := hN.lt; omega) (fun k hk => by have := hown k hk; omega) (by omega)).trans hN⟩, hB.trans hb2, ?_⟩⟩
      · intro k hk
        rcases hat with e | e
        · exact hown k (by rw [← e]; exact hk)
        · rw [e] at hk; injection hk with hk; simp at hk; omega
      · have h1 := hgrow.size
        simp at h1 ⊢; omega
  case done =>
    rintro D ys W hD hys ⟨⟨⟨v, hv, hrow, hle, hown⟩, hN⟩, hB, hSz⟩ hK
    have hc := hv.cell
    have hc2 := hN.cell
    obtain ⟨A1, c1, hvf, _, _, _⟩ := own_rc hrow
    subst hvf
    have hrow2 := ownsRow_putObj hrow (.deferred none) hK rfl
    obtain ⟨A2, c2, hvf2, hle2, hR2, _⟩ := own_rc hrow2
    injection hvf2 with h1 h2 h3
    subst h1; subst h3
    have hBB := hB.trans (belowK_b (w := w) (Nat.le_refl _) W D _ (.deferred none) (by omega) hK rfl rfl)
    by_cases hm : m ≤ (ys.length : Int)
    · have HLL : Hd (soL b m f t = ys) := ⟨by unfold soL; rw [← hys, if_pos hm, List.take_of_length_le (by omega)]⟩
      have HEE : Hd (soE b m f t = 0) := ⟨by unfold soE; rw [← hys, if_pos hm]⟩
      have hdc : decide ((ys.length : Int) < m) = false := by rw [decide_eq_false_iff_not]; omega
      clear hys
      gi_wp2
      refine ⟨by simp, .inl ⟨_, _, rfl, run_takeDeferred hK, ?_⟩⟩
      exact ⟨_, results_tmp2 rfl _ _ _, A1, c1, by rw [HLL.out, HEE.out]; rfl, by rw [HLL.out]; exact hle2, by rw [HLL.out]; exact hR2, hBB⟩
    · have hdc : decide ((ys.length : Int) < m) = true := by rw [decide_eq_true_iff]; omega
      have hm' : (ys.length : Int) < m := by omega
      have HLL : Hd (soL b m f t = []) := ⟨by unfold soL; rw [← hys, if_neg hm]⟩
      have HEE : Hd (soE b m f t = 12) := ⟨by unfold soE; rw [← hys, if_neg hm]⟩
      clear hys
      gi_wp2
      refine ⟨by simp, .inl ⟨_, _, rfl, run_takeDeferred hK, ?_⟩⟩
      exact ⟨_, results_tmp2 rfl _ _ _, none, 0, by rw [HLL.out, HEE.out]; rfl, by rw [HLL.out]; exact Nat.le_refl _, by rw [HLL.out]; exact Rc.nil _ _, hBB⟩
  case stop =>
    rintro D c pre W hD hpre ⟨⟨rfl, q, x, rfl, hm⟩, hH⟩ hK
    rw [List.dropLast_concat] at hH
    obtain ⟨⟨⟨v, hv, hrow, hle, hown⟩, hN⟩, hB, hSz⟩ := hH
    have hc := hv.cell
    have hc2 := hN.cell
    obtain ⟨A1, c1, hvf, _, _, _⟩ := own_rc hrow
    subst hvf
    have hrow2 := ownsRow_putObj hrow (.deferred none) hK rfl
    obtain ⟨A2, c2, hvf2, hle2, hR2, _⟩ := own_rc hrow2
    injection hvf2 with h1 h2 h3
    subst h1; subst h3
    have hBB := hB.trans (belowK_b (w := w) (Nat.le_refl _) W D _ (.deferred none) (by omega) hK rfl rfl)
    have hdc : decide ((q.length : Int) < m) = false := by rw [decide_eq_false_iff_not]; omega
    have hfl : (q.length : Int) + 1 ≤ ((frT b f.toNat (hiT b t)).length : Int) := by have := hpre.length_le; simp at this; omega
    have hq : (frT b f.toNat (hiT b t)).take m.toNat = q := by
      obtain ⟨s, hs⟩ := hpre
      rw [← hs, List.append_assoc, show m.toNat = q.length by omega, List.take_left]
    have HLL : Hd (soL b m f t = q) := ⟨by unfold soL; rw [if_pos (by omega), hq]⟩
    have HEE : Hd (soE b m f t = 0) := ⟨by unfold soE; rw [if_pos (by omega)]⟩
    clear hq hfl
    gi_wp2
    refine ⟨by simp, .inl ⟨_, _, rfl, run_takeDeferred hK, ?_⟩⟩
    exact ⟨_, results_tmp2 rfl _ _ _, A1, c1, by rw [HLL.out, HEE.out]; rfl, by rw [HLL.out]; exact hle2, by rw [HLL.out]; exact hR2, hBB⟩
theorem some_any (A : Option Addr) (n c : Nat) (b : List UInt8) (m f t : Int) (w : World) (hb : Rc w A (bs b)) (hn : b.length ≤ 1099511627776) (e1 : n = b.length) :
    Calls Try.prog 10 #[.slice A n c, .int .i64 m, .int .i64 f, .int .i64 t] w fun e w' => RetIE (soL b m f t) (soE b m f t) w e w' := by subst e1; exact some_calls A c b m f t w hb hn
end Go.Proofs.Ytpgkfabiflhkfaa
