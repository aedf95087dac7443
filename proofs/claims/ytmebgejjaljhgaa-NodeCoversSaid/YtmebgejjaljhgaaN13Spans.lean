/- Walks: spans of bytes. -/
import Derived.Test.YtmebgejjaljhgaaN13Seq
import Derived.Test.YtmebgejjaljhgaaBaseR3
namespace Go.Proofs.Ytmebgejjaljhgaa
open Go.RowKit Go.Sac
set_option linter.unusedVariables false
set_option linter.unusedSimpArgs false
attribute [local go_sem] Oper.semAt_some

theorem span_iter (n₀ a t : Nat) (hat : a < t) (ht : t ≤ 40000) (w w0 : World) (hw : w0.heap.size = n₀)
    (hB0 : Boxed w n₀ 3 (.int .i64 (a : Int))) (hB1 : Boxed w (n₀ + 1) 3 (.int .i64 (t : Int))) (n₁ : Nat) (hn1 : n₁ ≤ n₀) :
    IterS 3 Try.prog 39 #[.pointer (some ⟨n₀, 0, none⟩), .pointer (some ⟨n₀ + 1, 0, none⟩)] spe (KeepR n₁ n₀ (n₀ + 2)) (fun ys : List Spn => ys = spL a t) (fun pre : List Spn => True) (nbS a t) n₀ (n₀ + 2) w := by
  intro l J Jx W hW hJ hJx hY h0
  have hlt : n₀ + 1 < w.heap.size := (Array.getElem?_eq_some_iff.1 hB1).1
  exact span1_in l n₁ n₀ a t hat ht J Jx hJ hJx hn1 hY W ((hW.block _ (by omega)).trans hB0) ((hW.block _ (by omega)).trans hB1) h0
/-- what the loop holds -/
def SpI (n : Nat) (w : World) (pre : List Spn) (W : World) : Prop :=
  (∃ v, Blk W n 34 [v] ∧ W.ownsRow (n + 3) 40 3 v pre.length (spc pre)) ∧ (Below n w W ∧ n + 3 ≤ W.heap.size)
theorem spI_stab (n : Nat) (w : World) (B : Nat) (hw : n ≤ w.heap.size) (hB : n ≤ B) (pre : List Spn) : StabW (n + 1) (n + 3) B (SpI n w pre) := by
  have h1 : StabW (n + 1) (n + 3) B (fun W => ∃ v, Blk W n 34 [v] ∧ W.ownsRow (n + 3) 40 3 v pre.length (spc pre)) := fun W W' row hs hg hr =>
    let ⟨v, a, b⟩ := hs
    ⟨v, StabW.block (Or.inl (by omega)) W W' row a hg hr, StabW.row (Or.inl (Nat.le_refl _)) W W' row b hg hr⟩
  have h2 : StabW (n + 1) (n + 3) B (fun W => n + 3 ≤ W.heap.size) := fun W W' row hs hg hr => Nat.le_trans hs hg.size
  exact h1.and ((StabW.below hw (by omega) hB).and h2)
set_option maxRecDepth 100000 in
set_option maxHeartbeats 4000000 in
theorem spans_core (x m : Nat) (w : World) (hx : x ≤ 17920) (hm : m ≤ 17920) (hm0 : 1 ≤ m) : Calls Try.prog 16 #[.int .i64 (x : Int), .int .i64 (m : Int)] w (RetS (spL x (x + m)) w) := by
  refine (callsIn_wide (n := 4)).1 ?_
  have c0 : decide ((x : Int) < 0) = false := by simp
  have c1 : decide ((m : Int) < 1) = false := by simp; omega
  have c3 : decide (max (x : Int) (m : Int) > 17920) = false := by simp; omega
  refine callsIn_of_wp_marks Try.func16 rfl trivial ?_ rfl
  simp only [Try.ntmps16, List.size_toArray, List.length_cons, List.length_nil, Nat.reduceAdd, Nat.reduceSub, Array.replicate_succ, Array.replicate_zero, List.push_toArray, List.append_toArray, List.nil_append, List.cons_append]
  gi_wp2_with (refine ⟨trivial, ?_⟩; gi_at_call 32; refine (callsIn_wide.2 (mkseq_calls _ _ _)).mono ?_; rintro e w' ⟨rfl, rfl⟩)
  have a0 : Blk (w.alloc (.cells #[.slice none 0 0] 34)) w.heap.size 34 [.slice none 0 0] := Blk.new w _ _
  have hBx : Below w.heap.size w (w.alloc (.cells #[.slice none 0 0] 34)) := (Below.refl _ w).alloc (Nat.le_refl _) _
  obtain ⟨wx, hwx⟩ : ∃ wx, wx = w.alloc (.cells #[.slice none 0 0] 34) := ⟨_, rfl⟩
  have hsx : wx.heap.size = w.heap.size + 1 := by rw [hwx]; simp
  rw [← hwx] at a0 hBx ⊢
  clear hwx
  rw [show (x : Int) + (m : Int) = ((x + m : Nat) : Int) by omega]
  have b0 := (Boxed.new wx 3 (.int .i64 (x : Int))).alloc (.cells #[.int .i64 ((x + m : Nat) : Int)] 3)
  have b1 := Boxed.new (wx.alloc (.cells #[.int .i64 (x : Int)] 3)) 3 (.int .i64 ((x + m : Nat) : Int))
  have A0 := (a0.alloc (.cells #[.int .i64 (x : Int)] 3)).alloc (.cells #[.int .i64 ((x + m : Nat) : Int)] 3)
  have hBl := (hBx.alloc (by omega) (.cells #[.int .i64 (x : Int)] 3)).alloc (by simp; omega) (.cells #[.int .i64 ((x + m : Nat) : Int)] 3)
  obtain ⟨wl, hwl⟩ : ∃ wl, wl = (wx.alloc (.cells #[.int .i64 (x : Int)] 3)).alloc (.cells #[.int .i64 ((x + m : Nat) : Int)] 3) := ⟨_, rfl⟩
  have hsl : wl.heap.size = w.heap.size + 3 := by rw [hwl]; simp; omega
  simp only [World.size_alloc, hsx] at b0 b1 ⊢
  rw [← hwl] at b0 b1 A0 hBl ⊢
  clear hwl a0 hBx
  refine range_stateB (n := 4) (P := Try.prog) (gf := 39) (lb := #[.pointer (some ⟨w.heap.size + 1, 0, none⟩), .pointer (some ⟨w.heap.size + 1 + 1, 0, none⟩)]) rfl (enters_of Try.func39 (by kernel_rfl) rfl) rfl (by decide)
    (span_iter (w.heap.size + 1) x (x + m) (by omega) (by omega) wl wx hsx b0 b1 w.heap.size (by omega)) (by omega) keepR_t (keepR_b (by omega) (by omega))
    (SpI w.heap.size w) (fun _ _ _ => False) (spI_stab _ _ _ (Nat.le_refl _) (by omega)) (fun _ _ _ _ _ h _ _ => h)
    ⟨⟨_, A0, World.ownsRow_nil _ _ _ _⟩, hBl, by omega⟩
    (fun s => .cells #[.int .i64 (s.1 : Int), .int .i64 (s.2.1 : Int), .int .i64 (s.2.2 : Int)] 40)
    (fun s b => { tmps := #[.int .i64 x, .int .i64 m, undef, undef, .slice none 0 0, .pointer (some ⟨w.heap.size, 0, none⟩), .pointer (some ⟨b, 0, none⟩), .int .i64 x, .bool false, .bool false, .int .i64 m, .bool false, .bool false, .bool false, .int .i64 x, .int .i64 m, .int .i64 (max (x : Int) (m : Int)), .bool false, .bool false, .int .i64 x, .int .i64 x, .int .i64 m, .int .i64 ((x + m : Nat) : Int), .func (.func 39) #[] #[.pointer (some ⟨w.heap.size + 1, 0, none⟩), .pointer (some ⟨w.heap.size + 1 + 1, 0, none⟩)], spe s, undef, undef, undef, undef, undef], defers := [] })
    (fun W o hz => KeepR.below ((Below.refl _ W).alloc (by omega) o) (by omega)) ?assign ?body ?done ?stop
  case assign =>
    intro l s W K hK
    unfold spe at hK ⊢
    gi_wp2
    exact hK
  case body =>
    rintro l pre s W b hI hlt hbz hbb
    obtain ⟨⟨v, hP, hrow⟩, hB, hz⟩ := hI
    obtain ⟨A1, c1', rfl, _, _, _⟩ := own_rc hrow
    have hc := hP.cell (i := 0) rfl
    have hf := hP.frz 0
    have hbk : Blk W b 40 [.int .i64 (s.1 : Int), .int .i64 (s.2.1 : Int), .int .i64 (s.2.2 : Int)] := hbb
    have e0 := hbk.cell (i := 0) rfl
    have e1 := hbk.cell (i := 1) rfl
    have e2 := hbk.cell (i := 2) rfl
    have hp2 : pre.length ≤ 200 := by unfold nbS at hlt; omega
    have HSP : Hd (spc (pre ++ [s]) = spc pre ++ [.int .i64 (s.1 : Int), .int .i64 (s.2.1 : Int), .int .i64 (s.2.2 : Int)]) := ⟨by rw [spc_app, spc_single]; rfl⟩
    obtain ⟨k0, hk0⟩ : ∃ k, pre.length = k := ⟨_, rfl⟩
    have HLN := Hd.mk hk0
    rw [hk0] at hrow hc hp2 hP
    clear hbb hlt hk0
    gi_wp2_with (gi_at_builtin; refine app_in (w.heap.size + 3) 34 40 (.agg #[.int .i64 0, .int .i64 0, .int .i64 0]) 3 24 (.tmp 25) (.tmp 27) rfl rfl Try.underlying34 info_span rfl (by decide) (by decide) (.slice A1 k0 c1') k0 (spc pre) [.int .i64 (s.1 : Int), .int .i64 (s.2.1 : Int), .int .i64 (s.2.2 : Int)] (some ⟨W.heap.size, 0, none⟩) 1 1 rfl rfl (own_alloc hrow _) (Blk.new W 40 [.int .i64 (s.1 : Int), .int .i64 (s.2.1 : Int), .int .i64 (s.2.2 : Int)]).rc rfl (by simp [Value.oneCell']) (by simp; omega) (by omega) (k0 + 1) (spc (pre ++ [s])) rfl HSP.out.symm ?_; intro v' w1 hown' hgrow hat; obtain ⟨hq1, hq2, hq3, hq4, hq5, hq6, hq7, hq8⟩ := blk_appended (n₀ := w.heap.size) (j := 0) hP (by omega) (by omega) hz hrow hown' hgrow; obtain ⟨g', cap', rfl⟩ := ownsRow_succ hown'; have hc1 := hq1.cell (i := 0) rfl; have hf1 := hq1.frz 0)
    refine ⟨hq4, ⟨hq5, fun b hb1 hb2 => hq7 b (by omega) (by omega)⟩, ⟨_, hq2, ?_⟩, hB.trans hq5, Nat.le_trans hz hq8⟩
    rw [List.length_append, HLN.out]
    exact hq3
  case done =>
    rintro D xs W hD rfl ⟨⟨v, hP, hrow⟩, hB, hz⟩ hdef
    have hc := hP.cell (i := 0) rfl
    gi_wp2
    have hBB := hB.trans (belowK_b (w := w) (Nat.le_refl _) W D _ (.deferred none) (by omega) hdef rfl rfl)
    have hrow4 := ownsRow_putObj hrow (.deferred none) hdef rfl
    refine ⟨by simp, .inl ⟨_, _, rfl, run_takeDeferred hdef, ?_⟩⟩
    exact ⟨_, results_tmp (fn := Try.f16) (t := 4) rfl _ _ _, v, rfl, own_lower hrow4 (by omega), hBB⟩
  case stop =>
    rintro D c pre W hD _ hf
    exact hf.elim
set_option maxHeartbeats 4000000 in
theorem spans_calls (a n : Int) (w : World) : Calls Try.prog 16 #[.int .i64 a, .int .i64 n] w (RetS (spansOf a n) w) := by
  by_cases h0 : a < 0
  · have c0 : decide (a < 0) = true := by simpa using h0
    have HN := Hd.mk (spans_no (a := a) (n := n) (.inl h0))
    clear h0
    go_enter Try.func16, Try.ntmps16
    go_wp2
    go_ret
    rw [HN.out]
    exact ⟨_, rfl, World.ownsRow_nil _ _ _ _, Below.refl _ _⟩
  have c0 : decide (a < 0) = false := by simpa using h0
  by_cases h1 : n < 1
  · have c1 : decide (n < 1) = true := by simpa using h1
    have HN := Hd.mk (spans_no (a := a) (n := n) (.inr (.inl h1)))
    clear h0 h1
    go_enter Try.func16, Try.ntmps16
    go_wp2
    go_ret
    rw [HN.out]
    exact ⟨_, rfl, World.ownsRow_nil _ _ _ _, Below.refl _ _⟩
  have c1 : decide (n < 1) = false := by simpa using h1
  by_cases h2 : max a n > 17920
  · have c2 : decide (max a n > 17920) = true := by simp only [decide_eq_true_eq]; omega
    have HN := Hd.mk (spans_no (a := a) (n := n) (by omega))
    clear h0 h1 h2
    go_enter Try.func16, Try.ntmps16
    go_wp2
    go_ret
    rw [HN.out]
    exact ⟨_, rfl, World.ownsRow_nil _ _ _ _, Below.refl _ _⟩
  obtain ⟨x, rfl⟩ := Int.eq_ofNat_of_zero_le (show 0 ≤ a by omega)
  obtain ⟨m, rfl⟩ := Int.eq_ofNat_of_zero_le (show 0 ≤ n by omega)
  rw [spans_yes (by omega) (by omega) (by omega)]
  exact spans_core x m w (by omega) (by omega) (by omega)
end Go.Proofs.Ytmebgejjaljhgaa
