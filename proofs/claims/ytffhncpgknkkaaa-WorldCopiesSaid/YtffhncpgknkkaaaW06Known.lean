/- W06Known: what the chapter's example fixes. -/
import Derived.Test.YtffhncpgknkkaaaW06Write
import Derived.Test.YtffhncpgknkkaaaW06Lie
import Derived.Lib.SlBytesConst
namespace Go.Proofs.Ytffhncpgknkkaaa
open Go.RowKit Go.Sac
set_option linter.unusedVariables false
set_option linter.unusedSimpArgs false
section
variable {w w0 : World} {g : Nat} {K : Nat → Nat} {s : Wd}
theorem wo_new (h : Below w0.heap.size w0 w) (n : Int) : Calls Try.prog 11 #[.int .i64 n] w fun e w' => ∃ g K, e = .returned (.pointer (some ⟨g, 0, none⟩)) ∧ Wo w0 w' g K (newP n) ∧ Below w.heap.size w w' := by
  refine (new_calls w n).mono ?_
  rintro e w' ⟨g, K, c, rfl, h1, h2, h3⟩
  exact ⟨g, K, rfl, ⟨⟨c, h1⟩, below_then h h.size h2, fun k hk => Nat.le_trans h.size (h3 k hk)⟩, h2⟩
def RetU (w0 : World) (g : Nat) (K : Nat → Nat) (s' : Wd) (w : World) (e : Ending) (w' : World) : Prop := e = .returned (.tuple #[]) ∧ ∃ K', Wo w0 w' g K' s' ∧ Stp K K' w w'
theorem wo_arm (h : Wo w0 w g K s) (n : Int) : Calls Try.prog 16 #[.pointer (some ⟨g, 0, none⟩), .int .i64 n] w (RetU w0 g K (armP s n) w) := by
  obtain ⟨c, hc⟩ := h.ex
  refine (arm_calls hc n).mono ?_
  rintro e w' ⟨rfl, h1, h2⟩
  exact ⟨rfl, K, h.step h1 h2, h2⟩
theorem wo_restart (h : Wo w0 w g K s) : Calls Try.prog 20 #[.pointer (some ⟨g, 0, none⟩)] w (RetU w0 g K (restartP s) w) := by
  obtain ⟨c, hc⟩ := h.ex
  refine (restart_calls hc).mono ?_
  rintro e w' ⟨rfl, h1, h2⟩
  exact ⟨rfl, K, h.step h1 h2, h2⟩
theorem wo_set (h : Wo w0 w g K s) (n : Int) (h0 : 0 ≤ n) (h1 : n < 18446744073709551616) : Calls Try.prog 24 #[.pointer (some ⟨g, 0, none⟩), .int .u64 n] w (RetU w0 g K (setP s n) w) := by
  obtain ⟨c, hc⟩ := h.ex
  refine (set_calls hc n h0 h1).mono ?_
  rintro e w' ⟨rfl, h1, h2⟩
  exact ⟨rfl, K, h.step h1 h2, h2⟩
theorem wo_lie (h : Wo w0 w g K s) (n : Int) (AB : Option Addr) (m cap : Nat) (b : List UInt8) (hr : Rc w AB (bs b)) (e : m = b.length) (hn : b.length ≤ 1099511627776) :
    Calls Try.prog 14 #[.pointer (some ⟨g, 0, none⟩), .int .i64 n, .slice AB m cap] w (RetU w0 g K (lieP s n b) w) := by
  obtain ⟨c, hc⟩ := h.ex
  refine (lie_calls hc n AB m cap b hr e hn).mono ?_
  rintro e w' ⟨rfl, K', c', h1, h2, _⟩
  exact ⟨rfl, K', h.step h1 h2, h2⟩
theorem wo_dead (h : Wo w0 w g K s) : Calls Try.prog 17 #[.pointer (some ⟨g, 0, none⟩)] w fun e w' => e = .returned (.bool s.dead) ∧ w' = w := by
  obtain ⟨c, hc⟩ := h.ex
  exact dead_calls hc
theorem wo_counter (h : Wo w0 w g K s) : Calls Try.prog 19 #[.pointer (some ⟨g, 0, none⟩)] w fun e w' => e = .returned (.int .u64 (counterP s)) ∧ w' = w := by
  obtain ⟨c, hc⟩ := h.ex
  exact counter_calls hc
/-- two bytes of the law's own -/
theorem fr_two (h : Wo w0 w g K s) (x y : UInt8) (fr : Nat × Nat) : Fr (w.alloc (.cells #[.int .u8 (x.toNat : Int), .int .u8 (y.toNat : Int)] 5 fr)) K (some ⟨w.heap.size, 0, none⟩) [x, y] :=
  ⟨Rc.mk (b := w.heap.size) (off := 0) fun i u hi => by
    rw [Nat.zero_add, cell_of_row _ _ _ _ _ _ (heap_alloc_new w _)]
    simpa [bs, u8v] using hi, fun a e _ => by
    injection e with e
    subst e
    refine ⟨?_, by simp⟩
    obtain ⟨c, hc⟩ := h.ex
    by_cases e0 : K w.heap.size = 0
    · exact e0
    · have := hc.dom _ e0; omega⟩
def k1 : Wd := writeP (newP 1) 0 1 [97, 98]
def k2 : Wd := readP k1 0 1
def k3 : Wd := armP k2 1
def k4 : Wd := writeP k3 0 1 [99, 100]
def k5 : Wd := restartP k4
theorem few_of (h1 : decide (s.reads ≤ 1000000) = true) (h2 : decide (s.trace.length ≤ 1000000) = true) (h3 : ∀ n, s.lies n = none) (h4 : s.s0 = []) (h5 : s.s1 = []) : Few s :=
  ⟨of_decide_eq_true h1, of_decide_eq_true h2, fun n l h => (by rw [h3 n] at h; cases h), by rw [h4]; decide, by rw [h5]; decide⟩
theorem few0 : Few (newP 1) := few_of (by kernel_rfl) (by kernel_rfl) (fun _ => rfl) rfl rfl
theorem few1 : Few k1 := few_of (by kernel_rfl) (by kernel_rfl) (fun _ => by kernel_rfl) (by kernel_rfl) (by kernel_rfl)
theorem few3 : Few k3 := few_of (by kernel_rfl) (by kernel_rfl) (fun _ => by kernel_rfl) (by kernel_rfl) (by kernel_rfl)
theorem few5 : Few k5 := few_of (by kernel_rfl) (by kernel_rfl) (fun _ => by kernel_rfl) (by kernel_rfl) (by kernel_rfl)
theorem r1 : writeR (newP 1) 0 1 [97, 98] = true := by kernel_rfl
theorem r3 : writeR k3 0 1 [99, 100] = false := by kernel_rfl
theorem d4 : k4.dead = true := by kernel_rfl
theorem b1 : readB k1 0 1 = 97 :: 98 :: List.replicate 270 0 := by kernel_rfl
theorem b5 : readB k5 0 1 = 99 :: 98 :: List.replicate 270 0 := by kernel_rfl
theorem len270 (x y : UInt8) : (x :: y :: List.replicate 270 (0 : UInt8)).length = 272 := by rw [List.length_cons, List.length_cons, List.length_replicate]
set_option maxRecDepth 100000 in
set_option maxHeartbeats 4000000 in
theorem known_calls (w : World) : Calls Try.prog 10 #[] w fun e w' => e = .returned (.bool true) ∧ Below w.heap.size w w' := by
  have kc := fun (w : World) (C : Array Value) (n c : Nat) => Lib.run_convert_bytes_const (P := Try.prog) w 22 5 C n c Try.underlying22 Try.underlying5
  have T1 : Hd True := ⟨trivial⟩
  have T2 : Hd True := ⟨trivial⟩
  go_enter Try.func10, Try.ntmps10
  go_wp2_with (first
    | (go_at_call 11; refine (wo_new (Below.refl _ _) 1).mono ?_; rintro e w1 ⟨g, K1, rfl, h, _⟩; have W1 := Hd.mk h; clear h)
    | (go_at_call 12; clear T1; refine (wo_write (W1.out.below ((Below.refl _ _).alloc (Nat.le_refl _) _)) few0 0 1 _ 2 2 [97, 98] (fr_two W1.out 97 98 (2, 3)) rfl (by decide)).mono ?_; rw [r1]; rintro e w2 ⟨rfl, K2, h, _⟩; have W2 : Hd (Wo w w2 g K2 k1) := ⟨h⟩; clear h)
    | (go_at_call 13; clear T2; refine (wo_read W2.out few1 0 1).mono ?_; rw [b1]; rintro e w3 ⟨A3, c3, K3, rfl, hc3, hf, h, _⟩; have W3 : Hd (Wo w w3 g K3 k2) := ⟨h⟩; have F3 := Hd.mk hf; have HC3 : Hd (272 ≤ c3) := ⟨by rw [len270] at hc3; exact hc3⟩; rw [len270]; clear h hf hc3)
    | (go_at_call 16; refine (wo_arm W3.out 1).mono ?_; rintro e w4 ⟨rfl, K4, h, hs⟩; have W4 : Hd (Wo w w4 g K4 k3) := ⟨h⟩; have F4 := Hd.mk (F3.out.step hs); have T3 : Hd True := ⟨trivial⟩; clear h hs)
    | (go_at_call 12; clear T3; refine (wo_write (W4.out.below ((Below.refl _ _).alloc (Nat.le_refl _) _)) few3 0 1 _ 2 2 [99, 100] (fr_two W4.out 99 100 (2, 3)) rfl (by decide)).mono ?_; rw [r3]; rintro e w5 ⟨rfl, K5, h, hs⟩; have W5 : Hd (Wo w w5 g K5 k4) := ⟨h⟩; have F5 := Hd.mk ((F4.out.below ((Below.refl _ _).alloc (Nat.le_refl _) _)).step hs); clear h hs)
    | (go_at_call 17; refine (wo_dead W5.out).mono ?_; rw [d4]; rintro e w6 ⟨rfl, hw⟩; obtain rfl := hw.symm)
    | (go_at_call 20; refine (wo_restart W5.out).mono ?_; rintro e w7 ⟨rfl, K7, h, hs⟩; have W7 : Hd (Wo w w7 g K7 k5) := ⟨h⟩; have F7 := Hd.mk (F5.out.step hs); have T4 : Hd True := ⟨trivial⟩; clear h hs)
    | (go_at_call 13; clear T4; refine (wo_read W7.out few5 0 1).mono ?_; rw [b5]; rintro e w8 ⟨A8, c8, K8, rfl, hc8, hf, h, hs⟩; have W8 := Hd.mk h; have F8 := Hd.mk hf; have F9 := Hd.mk (F7.out.step hs); have HC8 : Hd (272 ≤ c8) := ⟨by rw [len270] at hc8; exact hc8⟩; rw [len270]; have S3 : (convert 22 9 (.slice A3 2 c3)).run Try.prog w8 = .ok (.string ⟨#[97, 98]⟩) w8 := run_str (P := Try.prog) w8 22 5 9 Try.underlying22 Try.underlying5 Try.underlying9 A3 c3 [97, 98] (F9.out.rc.take 2); have S8 : (convert 22 9 (.slice A8 2 c8)).run Try.prog w8 = .ok (.string ⟨#[99, 98]⟩) w8 := run_str (P := Try.prog) w8 22 5 9 Try.underlying22 Try.underlying5 Try.underlying9 A8 c8 [99, 98] (F8.out.rc.take 2); clear h hf hc8 hs)
    | (go_at_call 32; refine (blocks_nil _).mono ?_; rintro e w9 ⟨rfl, hw⟩; obtain rfl := hw.symm))
  all_goals first
    | (exfalso; have := HC3.out; omega)
    | (exfalso; have := HC8.out; omega)
    | skip
  go_ret
  exact ⟨rfl, W8.out.bel⟩
end
end Go.Proofs.Ytffhncpgknkkaaa
