/- A10Epochs: audit.Epochs of no trace: one epoch, which is empty. -/
import Derived.Test.YtpahmlgbljfcjaaBaseR3
import Derived.Test.YtpahmlgbljfcjaaA10It
namespace Go.Proofs.Ytpahmlgbljfcjaa
open Go.RowKit Go.Sac
set_option linter.unusedVariables false
set_option linter.unusedSimpArgs false
attribute [local go_sem] Oper.semAt_some

theorem rows_calls (w : World) :
    Calls Try.prog 14 #[.slice none 0 0] w fun e w' => e = .returned (.func (.func 16) #[] #[.pointer (some ⟨w.heap.size, 0, none⟩)]) ∧ w' = w.alloc (.cells #[.slice none 0 0] 29) := by
  go_enter Try.func14, Try.ntmps14
  go_wp2
  go_ret
  exact ⟨rfl, rfl⟩
set_option maxRecDepth 100000 in
set_option maxHeartbeats 4000000 in
theorem rows1_in (l n₀ n₁ : Nat) (J Jx : List Unit → World → Prop) (hJ0 : ∀ p, StabR n₁ (n₁ + 1) (J p)) (hJx0 : ∀ p, StabR n₁ (n₁ + 1) (Jx p)) (hn0 : n₀ ≤ n₁)
    (hY : ∀ pre x W, J pre W → pre.length < 1 → YieldAt Fence.wide (3 - 1) Try.prog l #[(fun _ => Value.slice none 0 0) x] W fun e W' =>
      (e = .returned (.bool true) ∧ J (pre ++ [x]) W' ∧ KeepR n₀ n₁ (n₁ + 1) W W') ∨ (e = .returned (.bool false) ∧ Jx (pre ++ [x]) W'))
    (W : World) (hB0 : Boxed W n₁ 29 (.slice none 0 0)) (h0 : J [] W) :
    CallsIn Fence.wide 3 Try.prog 16 #[.func (.yield l) #[] #[], .pointer (some ⟨n₁, 0, none⟩)] W fun e W' => (∃ v, e = .returned v) ∧
      ((∃ ys, ys = [()] ∧ J ys W') ∨ (∃ pre : List Unit, True ∧ Jx pre W')) := by
  have hJ := Hd.mk hJ0
  have hJx := Hd.mk hJx0
  have HN0 := Hd.mk hn0
  clear hJ0 hJx0 hn0
  have c0 := hB0.cell
  refine callsIn_of_wp Try.func16 rfl trivial ?_ rfl
  simp only [Try.ntmps16, List.size_toArray, List.length_cons, List.length_nil, Nat.reduceAdd, Nat.reduceSub, Array.replicate_succ, Array.replicate_zero, List.push_toArray, List.append_toArray, List.nil_append, List.cons_append]
  gi_wp2
  gi_loopw [3, 8] (fun fv iv wr => fv = .int .i64 0 ∧ iv = .int .i64 0 ∧ wr = W) (fun _ _ _ => 0)
  case atStart => exact ⟨rfl, rfl, rfl⟩
  case round =>
    obtain ⟨rfl, rfl, rfl⟩ := hrel
    obtain ⟨fn, tmps, assign, body, hy, hR⟩ := hY [] () wr h0 (by simp)
    gi_wp2
    refine hR.mono ?_
    rintro e W3 (⟨rfl, hJ3, hk3⟩ | ⟨rfl, hJx3⟩)
    · gi_wp2
      go_end0
      exact ⟨⟨_, rfl⟩, .inl ⟨_, rfl, hJ3⟩⟩
    · gi_wp2
      go_end0
      exact ⟨⟨_, rfl⟩, .inr ⟨_, trivial, hJx3⟩⟩
theorem rows_iter (n₀ : Nat) (w : World) (hB0 : Boxed w n₀ 29 (.slice none 0 0)) (n₁ : Nat) (hn1 : n₁ ≤ n₀) :
    IterS 3 Try.prog 16 #[.pointer (some ⟨n₀, 0, none⟩)] (fun _ : Unit => Value.slice none 0 0) (KeepR n₁ n₀ (n₀ + 1)) (fun ys : List Unit => ys = [()]) (fun pre : List Unit => True) 1 n₀ (n₀ + 1) w := by
  intro l J Jx W hW hJ hJx hY h0
  have hlt : n₀ < w.heap.size := (Array.getElem?_eq_some_iff.1 hB0).1
  exact rows1_in l n₁ n₀ J Jx hJ hJx hn1 hY W ((hW.block _ hlt).trans hB0) h0
/-- what the loop holds: the row so far, in block n -/
def EpI (n : Nat) (w : World) (pre : List Unit) (W : World) : Prop :=
  (∃ v xs, Blk W n 32 [v] ∧ W.ownsRow (n + 2) 29 1 v pre.length xs) ∧ (Below n w W ∧ n + 2 ≤ W.heap.size)
theorem epI_stab (n : Nat) (w : World) (B : Nat) (hw : n ≤ w.heap.size) (hB : n ≤ B) (pre : List Unit) : StabW (n + 1) (n + 2) B (EpI n w pre) := by
  have h1 : StabW (n + 1) (n + 2) B (fun W => ∃ v xs, Blk W n 32 [v] ∧ W.ownsRow (n + 2) 29 1 v pre.length xs) := fun W W' row hs hg hr =>
    let ⟨v, xs, a, b⟩ := hs
    ⟨v, xs, StabW.block (Or.inl (by omega)) W W' row a hg hr, StabW.row (Or.inl (Nat.le_refl _)) W W' row b hg hr⟩
  have h2 : StabW (n + 1) (n + 2) B (fun W => n + 2 ≤ W.heap.size) := fun W W' row hs hg hr => Nat.le_trans hs hg.size
  exact h1.and ((StabW.below hw (by omega) hB).and h2)
theorem info_row : (Try.prog.info? 29).map (fun i => (i.zero, i.size, i.bytes)) = some (some (.slice none 0 0), 1, 24) := by kernel_rfl
set_option maxRecDepth 100000 in
set_option maxHeartbeats 4000000 in
theorem epochs_nil (w : World) : Calls Try.prog 10 #[.slice none 0 0] w fun e w' => ∃ v xs, e = .returned v ∧ w'.ownsRow w.heap.size 29 1 v 1 xs ∧ Below w.heap.size w w' := by
  refine (callsIn_wide (n := 4)).1 ?_
  refine callsIn_of_wp_marks Try.func10 rfl trivial ?_ rfl
  simp only [Try.ntmps10, List.size_toArray, List.length_cons, List.length_nil, Nat.reduceAdd, Nat.reduceSub, Array.replicate_succ, Array.replicate_zero, List.push_toArray, List.append_toArray, List.nil_append, List.cons_append]
  gi_wp2_with (refine ⟨trivial, ?_⟩; gi_at_call 14; refine (callsIn_wide.2 (rows_calls _)).mono ?_; rintro e w' ⟨rfl, rfl⟩)
  have a0 : Blk (w.alloc (.cells #[.slice none 0 0] 32)) w.heap.size 32 [.slice none 0 0] := Blk.new w _ _
  have hBx : Below w.heap.size w (w.alloc (.cells #[.slice none 0 0] 32)) := (Below.refl _ w).alloc (Nat.le_refl _) _
  obtain ⟨wx, hwx⟩ : ∃ wx, wx = w.alloc (.cells #[.slice none 0 0] 32) := ⟨_, rfl⟩
  have hsx : wx.heap.size = w.heap.size + 1 := by rw [hwx]; simp
  rw [← hwx] at a0 hBx ⊢
  clear hwx
  have b0 := Boxed.new wx 29 (.slice none 0 0)
  have A0 := a0.alloc (.cells #[.slice none 0 0] 29)
  have hBl := hBx.alloc (by omega) (.cells #[.slice none 0 0] 29)
  obtain ⟨wl, hwl⟩ : ∃ wl, wl = wx.alloc (.cells #[.slice none 0 0] 29) := ⟨_, rfl⟩
  have hsl : wl.heap.size = w.heap.size + 2 := by rw [hwl]; simp; omega
  simp only [World.size_alloc, hsx] at b0 ⊢
  rw [← hwl] at b0 A0 hBl ⊢
  clear hwl a0 hBx
  refine range_state (n := 4) (P := Try.prog) (gf := 16) (lb := #[.pointer (some ⟨w.heap.size + 1, 0, none⟩)]) rfl (enters_of Try.func16 (by kernel_rfl) rfl) rfl (by decide)
    (rows_iter (w.heap.size + 1) wl b0 w.heap.size (by omega)) (by omega) keepR_t (keepR_b (by omega) (by omega))
    (EpI w.heap.size w) (fun _ _ _ => False) (epI_stab _ _ _ (Nat.le_refl _) (by omega)) (fun _ _ _ _ _ h _ _ => h)
    ⟨⟨_, [], A0, World.ownsRow_nil _ _ _ _⟩, hBl, by omega⟩
    (fun _ => { tmps := #[.slice none 0 0, undef, .slice none 0 0, .pointer (some ⟨w.heap.size, 0, none⟩), .slice none 0 0, undef, undef, undef, .slice none 0 0, .func (.func 16) #[] #[.pointer (some ⟨w.heap.size + 1, 0, none⟩)], .slice none 0 0, undef, undef, undef, undef, undef, undef, undef, undef, undef, undef, undef, undef, undef, undef, undef, undef, undef, undef, undef, undef], defers := [] })
    ?assign ?body ?done ?stop
  case assign =>
    intro l s W K hK
    gi_wp2
    exact hK
  case body =>
    rintro l pre s W hI hlt
    obtain ⟨⟨v, xs, hP, hrow⟩, hB, hz⟩ := hI
    obtain ⟨A1, c1', rfl, _, _, _⟩ := own_rc hrow
    obtain rfl : pre = [] := List.eq_nil_of_length_eq_zero (by omega)
    rw [List.length_nil] at hP hrow
    have hc := hP.cell (i := 0) rfl
    have hf := hP.frz 0
    gi_wp2
    gi_loopw [5, 13] (fun ev iv wr => ev = .slice none 0 0 ∧ iv = .int .i64 0 ∧ wr = W) (fun _ _ _ => 0)
    case atStart => exact ⟨rfl, rfl, rfl⟩
    case round =>
      obtain ⟨rfl, rfl, rfl⟩ := hrel
      gi_wp2_with (gi_at_builtin; refine app_in (w.heap.size + 2) 32 29 (.slice none 0 0) 1 24 (.tmp 26) (.tmp 28) rfl rfl Try.underlying32 info_row rfl (by decide) (by decide) (.slice A1 0 c1') 0 xs [.slice none 0 0] (some ⟨wr.heap.size, 0, none⟩) 1 1 rfl rfl (own_alloc hrow _) (Blk.new wr 29 [.slice none 0 0]).rc rfl (by simp [Value.oneCell']) (by simp; omega) (by omega) 1 (xs ++ [.slice none 0 0]) rfl rfl ?_; intro v' w1 hown' hgrow hat; obtain ⟨hq1, hq2, hq3, hq4, hq5, hq6, hq7, hq8⟩ := blk_appended (n₀ := w.heap.size) (j := 0) hP (show w.heap.size < w.heap.size + 2 by omega) (Nat.le_refl _) hz hrow hown' hgrow; obtain ⟨g', cap', rfl⟩ := ownsRow_succ hown'; have hc1 := hq1.cell (i := 0) rfl; have hf1 := hq1.frz 0)
      exact ⟨hq4, ⟨hq5, fun b hb1 hb2 => hq7 b (by omega) (by omega)⟩, ⟨_, _, hq2, hq3⟩, hB.trans hq5, Nat.le_trans hz hq8⟩
  case done =>
    rintro D xs W hD rfl ⟨⟨v, ys, hP, hrow⟩, hB, hz⟩ hdef
    have hc := hP.cell (i := 0) rfl
    gi_wp2
    have hBB := hB.trans (belowK_b (w := w) (Nat.le_refl _) W D _ (.deferred none) (by omega) hdef rfl rfl)
    have hrow4 := ownsRow_putObj hrow (.deferred none) hdef rfl
    refine ⟨by simp, .inl ⟨_, _, rfl, run_takeDeferred hdef, ?_⟩⟩
    exact ⟨_, results_tmp (fn := Try.f10) (t := 2) rfl _ _ _, v, ys, rfl, own_lower hrow4 (by omega), hBB⟩
  case stop =>
    rintro D c pre W hD _ hf
    exact hf.elim
end Go.Proofs.Ytpahmlgbljfcjaa
