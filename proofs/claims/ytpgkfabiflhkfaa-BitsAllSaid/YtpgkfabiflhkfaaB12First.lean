/- Walks: the first that is free. -/
import Derived.Test.YtpgkfabiflhkfaaB12Free
namespace Go.Proofs.Ytpgkfabiflhkfaa
open Go.RowKit Go.Sac Go.Shelf
set_option linter.unusedVariables false
set_option linter.unusedSimpArgs false
attribute [local go_sem] Oper.semAt_some

theorem free_stops (n₀ n₁ n₂ : Nat) (A : Option Addr) (c : Nat) (b : List UInt8) (f t : Int) (w0 w : World) (hw0 : w0.heap.size = n₀) (hB0 : Below n₀ w0 w) (hA : Rc w0 A (bs b)) (hn : b.length ≤ 1099511627776) (h12 : n₁ + 3 = n₂) (h2 : n₂ ≤ w.heap.size)
    (hBa : Boxed w n₁ 22 (.slice A b.length c)) (hBf : Boxed w (n₁ + 1) 3 (.int .i64 f)) (hBt : Boxed w (n₁ + 1 + 1) 3 (.int .i64 t)) :
    SeqStopsK Fence.wide 3 Try.prog 29 #[.pointer (some ⟨n₁, 0, none⟩), .pointer (some ⟨n₁ + 1, 0, none⟩), .pointer (some ⟨n₁ + 1 + 1, 0, none⟩)] (fun x : Int => #[Value.int .i64 x]) (KeepR n₀ n₁ n₂)
      (fun ys => ys = frT b f.toNat (hiT b t)) (fun pre => pre <+: frT b f.toNat (hiT b t)) (8 * b.length) w := fun l J Jx W hW _ _ hY h0 =>
  free1_in l n₀ n₁ n₂ A c b f t J Jx hY w0 W hw0 (hB0.trans (hW.mono (by rw [← hw0]; exact hB0.size))) hA hn h12 (boxed_below hW hBa (by omega)) (boxed_below hW hBf (by omega)) (boxed_below hW hBt (by omega)) h0

theorem pre_one {x : Int} {pre l : List Int} (h : pre <+: l) (hp : pre = [x]) : l.headD (-1) = x := by
  subst hp
  obtain ⟨s, rfl⟩ := h
  rfl

set_option maxRecDepth 100000 in
set_option maxHeartbeats 4000000 in
theorem first_calls (A : Option Addr) (c : Nat) (b : List UInt8) (f t : Int) (w : World) (hb : Rc w A (bs b)) (hn : b.length ≤ 1099511627776) :
    Calls Try.prog 17 #[.slice A b.length c, .int .i64 f, .int .i64 t] w fun e w' => e = .returned (.int .i64 (fiT b f t)) ∧ Below w.heap.size w w' := by
  refine (callsIn_wide (n := 4)).1 ?_
  have HL := Hd.mk hb
  clear hb
  refine callsIn_of_wp_marks Try.func17 rfl trivial ?_ rfl
  simp only [Try.ntmps17, List.size_toArray, List.length_cons, List.length_nil, Nat.reduceAdd, Nat.reduceSub, Array.replicate_succ, Array.replicate_zero, List.push_toArray, List.append_toArray, List.nil_append, List.cons_append]
  gi_wp2_with (refine ⟨trivial, ?_⟩; gi_at_call 25; refine (callsIn_wide.2 (free_calls _ _ _ _ _ _)).mono ?_; rintro e w' ⟨rfl, rfl⟩)
  have r0 := Boxed.new w 3 (.int .i64 0)
  have b0 := Boxed.new (w.alloc (.cells #[.int .i64 0] 3)) 22 (.slice A b.length c)
  have b1 := Boxed.new ((w.alloc (.cells #[.int .i64 0] 3)).alloc (.cells #[.slice A b.length c] 22)) 3 (.int .i64 f)
  have b2 := Boxed.new (((w.alloc (.cells #[.int .i64 0] 3)).alloc (.cells #[.slice A b.length c] 22)).alloc (.cells #[.int .i64 f] 3)) 3 (.int .i64 t)
  simp only [World.size_alloc] at b0 b1 b2 ⊢
  have hB0 : Below w.heap.size w ((((w.alloc (.cells #[.int .i64 0] 3)).alloc (.cells #[.slice A b.length c] 22)).alloc (.cells #[.int .i64 f] 3)).alloc (.cells #[.int .i64 t] 3)) :=
    ((((Below.refl _ w).alloc (Nat.le_refl _) _).alloc (by simp) _).alloc (by simp; omega) _).alloc (by simp; omega) _
  have R0 := ((r0.alloc (.cells #[.slice A b.length c] 22)).alloc (.cells #[.int .i64 f] 3)).alloc (.cells #[.int .i64 t] 3)
  have B0 := (b0.alloc (.cells #[.int .i64 f] 3)).alloc (.cells #[.int .i64 t] 3)
  have B1 := b1.alloc (.cells #[.int .i64 t] 3)
  obtain ⟨wl, hwl⟩ : ∃ wl, wl = ((((w.alloc (.cells #[.int .i64 0] 3)).alloc (.cells #[.slice A b.length c] 22)).alloc (.cells #[.int .i64 f] 3)).alloc (.cells #[.int .i64 t] 3)) := ⟨_, rfl⟩
  have hsz : wl.heap.size = w.heap.size + 1 + 1 + 1 + 1 := by rw [hwl]; simp
  rw [← hwl] at b2 hB0 R0 B0 B1 ⊢
  clear hwl r0 b0 b1
  refine wpIn_rangeFunc_ownF (F := Fence.wide) (n := 4) rfl (by decide) (gf := 29) (lb := #[.pointer (some ⟨w.heap.size + 1, 0, none⟩), .pointer (some ⟨w.heap.size + 1 + 1, 0, none⟩), .pointer (some ⟨w.heap.size + 1 + 1 + 1, 0, none⟩)]) rfl trivial (enters_of Try.func29 (by kernel_rfl) rfl)
    (free_stops w.heap.size (w.heap.size + 1) (w.heap.size + 1 + 3) A c b f t w wl rfl hB0 HL.out hn rfl (by omega) B0 B1 b2) keepR_t (keepR_b (by omega) (by omega)) (Below.refl _ _) (fun _ => rfl)
    (fun pre W => (pre = [] ∧ Boxed W w.heap.size 3 (.int .i64 0)) ∧ Below w.heap.size w W)
    (fun c pre W => (c = .ret ∧ ∃ x, pre = [x] ∧ Boxed W w.heap.size 3 (.int .i64 x)) ∧ Below w.heap.size w W)
    (OwnFrom.and (OwnFrom.and (ownFrom_pure _ _) (Own.from (boxed_own _ _ _) _)) (ownFrom_below (Nat.le_refl _) (by omega)))
    (fun c => OwnFrom.and (fun s X Y row hs hg hr => ⟨hs.1, let ⟨x, h1, h2⟩ := hs.2; ⟨x, h1, (Own.from (boxed_own (β := Unit) w.heap.size 3 (fun _ => .int .i64 x)) _) () X Y row h2 hg hr⟩⟩) (ownFrom_below (Nat.le_refl _) (by omega)))
    ⟨⟨rfl, R0⟩, hB0⟩
    (fun x => { tmps := #[.slice A b.length c, .int .i64 f, .int .i64 t, undef, undef, undef, .pointer (some ⟨w.heap.size, 0, none⟩), .int .i64 x, .slice A b.length c, .int .i64 f, .int .i64 t, .func (.func 29) #[] #[.pointer (some ⟨w.heap.size + 1, 0, none⟩), .pointer (some ⟨w.heap.size + 1 + 1, 0, none⟩), .pointer (some ⟨w.heap.size + 1 + 1 + 1, 0, none⟩)], .int .i64 x, undef], defers := [] }) ?assign ?body ?done ?stop
  case assign =>
    intro l x W K hK
    gi_wp2
    exact hK
  case body =>
    rintro l pre x W ⟨⟨rfl, hR⟩, hB⟩ _
    have hc := hR.cell
    have hf := hR.frozen
    gi_wp2
    exact ⟨KeepsOthers.setCell _ _ _, ⟨rfl, x, rfl, hR.set _⟩, hB.setCell (p := ⟨w.heap.size, 0, none⟩) (Nat.le_refl _) _⟩
  case done =>
    rintro D ys W hD hys ⟨⟨rfl, hR⟩, hB⟩ hK
    have hc := hR.cell
    have hf := hR.frozen
    gi_wp2
    have hR2 := hR.set (.int .i64 (-1))
    have hK' := (KeepsOthers.setCell W ⟨w.heap.size, 0, none⟩ (.int .i64 (-1))).same D _ hK rfl
    refine ⟨by simp, .inl ⟨_, _, rfl, run_takeDeferred hK', ?_⟩⟩
    have hc5 := cell_kept hR2.cell (grownBy_putObj' _ D (.deferred none)) (fun r e => by cases e; exact ⟨_, hK', rfl⟩)
    refine ⟨.int .i64 (-1), ?_, by unfold fiT; rw [← hys]; rfl, (hB.setCell (p := ⟨w.heap.size, 0, none⟩) (by simp) _).trans (belowK_b (w := w) (Nat.le_refl _) _ D _ _ (by omega) hK' rfl rfl)⟩
    simp [results, Try.f17, go_sem, hc5]
  case stop =>
    rintro D c pre W hD hpre ⟨⟨rfl, x, hx, hR⟩, hB⟩ hK
    gi_wp2
    refine ⟨by simp, .inl ⟨_, _, rfl, run_takeDeferred hK, ?_⟩⟩
    have hc5 := cell_kept hR.cell (grownBy_putObj' _ D (.deferred none)) (fun r e => by cases e; exact ⟨_, hK, rfl⟩)
    refine ⟨.int .i64 x, ?_, by unfold fiT; rw [pre_one hpre hx], hB.trans (belowK_b (w := w) (Nat.le_refl _) W D _ _ (by omega) hK rfl rfl)⟩
    simp [results, Try.f17, go_sem, hc5]
theorem first_any (A : Option Addr) (n c : Nat) (b : List UInt8) (f t : Int) (w : World) (hb : Rc w A (bs b)) (hn : b.length ≤ 1099511627776) (e1 : n = b.length) :
    Calls Try.prog 17 #[.slice A n c, .int .i64 f, .int .i64 t] w fun e w' => e = .returned (.int .i64 (fiT b f t)) ∧ Below w.heap.size w w' := by subst e1; exact first_calls A c b f t w hb hn
end Go.Proofs.Ytpgkfabiflhkfaa
