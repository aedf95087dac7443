/- W06LawCopies: W06Copy, W06Step, W06New, W06DidB, W06LawCopies. -/
import Derived.Maps.RangeWalk
import Derived.Test.YtffhncpgknkkaaaW06Rt
import Derived.Test.YtffhncpgknkkaaaW06Ry
import Derived.Test.YtffhncpgknkkaaaW06Did2
import Derived.Test.YtffhncpgknkkaaaW06LawTraces
/-! from W06Copy -/
namespace Go.Proofs.Ytffhncpgknkkaaa
open Go.RowKit Go.Sac
set_option linter.unusedVariables false
set_option linter.unusedSimpArgs false
def VC (g : Nat) (s : Wd) (i : Nat) (w : World) (v : Value) : Prop :=
  match i with
  | 0 => v = Value.pointer (some ⟨g, 0, none⟩)
  | 1 => v = Value.pointer (some ⟨g, 0, none⟩)
  | 2 => v = Value.pointer (some ⟨g, 0, none⟩)
  | 3 => v = Value.int .i64 s.blocks
  | 5 => v = Value.pointer (some ⟨g, 0, none⟩)
  | 6 => v = Value.pointer (some ⟨g, 0, none⟩)
  | 7 => v = Value.pointer (some ⟨g, 4, none⟩)
  | 8 => v = Value.int .u64 s.counter
  | 10 => v = Value.pointer (some ⟨g, 0, none⟩)
  | 11 => v = Value.pointer (some ⟨g, 0, none⟩)
  | 12 => v = Value.pointer (some ⟨g, 7, none⟩)
  | 13 => v = Value.bool s.armed
  | 14 => v = Value.pointer (some ⟨g, 0, none⟩)
  | 15 => v = Value.pointer (some ⟨g, 0, none⟩)
  | 16 => v = Value.pointer (some ⟨g, 8, none⟩)
  | 17 => v = Value.int .i64 s.power
  | 18 => v = Value.pointer (some ⟨g, 0, none⟩)
  | 19 => v = Value.pointer (some ⟨g, 0, none⟩)
  | 20 => v = Value.pointer (some ⟨g, 9, none⟩)
  | 21 => v = Value.bool s.dead
  | 22 => v = Value.pointer (some ⟨g, 0, none⟩)
  | _ => True
theorem arr_size' {l : List UInt8} (h : l.length = 272) : (Try.prog.info? 96).map (·.size) = some (bs l).toArray.size := by
  rw [List.size_toArray]; exact arr_size h
theorem bs_all (l : List UInt8) : (bs l).toArray.all (·.oneCell') = true := by
  rw [List.all_toArray, List.all_eq_true]; exact bs_one
structure Cp3 (w0 : World) (s : Wd) (gx : Nat) (i : Int) (J : Nat → Nat) (d : Wc) (w : World) : Prop where
  wd : WdAt w gx J d (cp3 s i)
  bel : Below w0.heap.size w0 w
  own : ∀ k, J k ≠ 0 → w0.heap.size ≤ k
structure GS (w0 : World) (gx o : Nat) (b : List UInt8) (L : Nat → Bool) (w : World) (f : Nat → Value) : Prop where
  fa : L 3 = false → L 7 = false → w = w0
  fb : L 3 = true → L 7 = false → Below w0.heap.size w0 w ∧ w.ownsRow w0.heap.size 5 1 (f 3) b.length (bs b)
  fc : L 7 = true → ∃ w1 v, Below w0.heap.size w0 w1 ∧ w1.ownsRow w0.heap.size 5 1 v b.length (bs b) ∧ w = w1.setCell ⟨gx, o, none⟩ v
theorem GS.past {w0 w : World} {gx o : Nat} {b : List UInt8} {L : Nat → Bool} {f : Nat → Value} (h : GS w0 gx o b L w f) (i : Nat) (v : Value) (h3 : 3 ≠ i) (h7 : 7 ≠ i) : GS w0 gx o b (fun j => j == i || L j) w (upd f i v) := by
  have e3 : (3 == i || L 3) = L 3 := by simp [h3]
  have e7 : (7 == i || L 7) = L 7 := by simp [h7]
  exact ⟨fun x y => h.fa (e3 ▸ x) (e7 ▸ y), fun x y => by rw [upd_ne _ _ _ _ h3]; exact h.fb (e3 ▸ x) (e7 ▸ y), fun x => h.fc (e7 ▸ x)⟩
def VS (gx o : Nat) (i : Int) (A : Option Addr) (n c : Nat) (j : Nat) (w : World) (v : Value) : Prop :=
  match j with
  | 0 => v = Value.pointer (some ⟨gx, 0, none⟩)
  | 1 => v = Value.int .i64 i
  | 2 => v = Value.slice A n c
  | 4 => v = Value.pointer (some ⟨gx, 0, none⟩)
  | 5 => v = Value.pointer (some ⟨gx, 2, none⟩)
  | 6 => v = Value.pointer (some ⟨gx, o, none⟩)
  | _ => True
def VK (gx rs : Nat) (a b : Int) (i : Nat) (w : World) (v : Value) : Prop :=
  match i with
  | 0 => v = Value.pointer (some ⟨gx, 0, none⟩)
  | 1 => v = Value.pointer (some ⟨gx, 0, none⟩)
  | 2 => v = Value.pointer (some ⟨gx, 1, none⟩)
  | 3 => v = Value.map (some rs)
  | 4 => v = Value.agg #[.int .i64 a, .int .i64 b]
  | _ => True
theorem built_run (w : World) (s : Wd) (r4 r9 : Nat) (A : Option Addr) (n c : Nat) : (Instr.build 73 #[(0, .int .i64 s.blocks), (1, .map (some r4)), (3, .int .u64 s.counter), (4, .map (some r9)), (6, .bool s.armed), (7, .int .i64 s.power), (8, .bool s.dead), (9, .slice A n c)]).run Try.prog w = .ok (.agg #[.int .i64 s.blocks, .map (some r4), .slice none 0 0, .slice none 0 0, .int .u64 s.counter, .map (some r9), .int .i64 0, .bool s.armed, .int .i64 s.power, .bool s.dead, .slice A n c]) w :=
  run_build _ _ _ _ (by kernel_rfl)
theorem run_aload (w : World) (g o : Nat) (x : Int) (hc : w.cell? ⟨g, o, none⟩ = some (.int .i64 x)) : (callFunc 57 #[.pointer (some ⟨g, o, none⟩)]).run Try.prog w = .ok (.value (.int .i64 x)) w :=
  run_call_load Try.func57 (by kernel_rfl) (by kernel_rfl) (by kernel_rfl) .i64 (by kernel_rfl) hc
theorem run_astore (w : World) (g o : Nat) (x : Int) {u : Value} (hc : w.cell? ⟨g, o, none⟩ = some u) (hf : w.frozen? ⟨g, o, none⟩ = false) : (callFunc 56 #[.pointer (some ⟨g, o, none⟩), .int .i64 x]).run Try.prog w = .ok (.value (.tuple #[])) (w.setCell ⟨g, o, none⟩ (.int .i64 x)) :=
  run_call_store Try.func56 (by kernel_rfl) (by kernel_rfl) (by kernel_rfl) (by kernel_rfl) hc hf
theorem aload_calls (w : World) (g o : Nat) (x : Int) (hc : w.cell? ⟨g, o, none⟩ = some (.int .i64 x)) : Calls Try.prog 47 #[.pointer (some ⟨g, o, none⟩)] w fun e w' => e = .returned (.int .i64 x) ∧ w' = w := by
  have hcall := run_aload w g o x hc
  go_enter Try.func47, Try.ntmps47
  go_wp2
  go_ret
  exact ⟨rfl, rfl⟩
theorem astore_calls (w : World) (g o : Nat) (x : Int) {u : Value} (hc : w.cell? ⟨g, o, none⟩ = some u) (hf : w.frozen? ⟨g, o, none⟩ = false) : Calls Try.prog 46 #[.pointer (some ⟨g, o, none⟩), .int .i64 x] w fun e w' => e = .returned (.tuple #[]) ∧ w' = w.setCell ⟨g, o, none⟩ (.int .i64 x) := by
  have hcall := run_astore w g o x hc hf
  go_enter Try.func46, Try.ntmps46
  go_wp2
  go_end0
  exact ⟨rfl, rfl⟩
section
variable {w : World} {g : Nat} {K : Nat → Nat} {c : Wc} {s : Wd}
set_option maxRecDepth 100000 in
set_option maxHeartbeats 8000000 in
theorem copy_calls (h : WdAt w g K c s) (hf : Few s) (hl : ∀ x ∈ s.trace, x.2.2.2.length ≤ 1099511627776) :
    Calls Try.prog 30 #[.pointer (some ⟨g, 0, none⟩)] w fun e w' => ∃ gx J d, e = .returned (.pointer (some ⟨gx, 0, none⟩)) ∧ WdAt w' gx J d s ∧ Below w.heap.size w w' ∧ ∀ k, J k ≠ 0 → w.heap.size ≤ k := by
  have HW := Hd.mk h
  have HF := Hd.mk hf
  have HOB : Hd (∀ W, Below w.heap.size w W → Blk W g 73 (c.cells s)) := ⟨fun W hb => h.obj.below hb h.lt⟩
  have HTR : Hd (∀ W, Below w.heap.size w W → Calls Try.prog 26 #[.pointer (some ⟨g, 0, none⟩)] W (RetTrO s.trace W)) := ⟨fun W hb => trace_own (h.below hb) hf.trace hl⟩
  have hmm := @run_makeMap Try.prog
  clear h hf hl
  go_enter Try.func30, Try.ntmps30
  go_wp2_with (fail)
  apply wp_scope_straight
  go_wp2_with (refine wp_label ?_)
  refine region_stp (VC g s) (fun L W f => CGE s w L W f ∧ (L 26 = true → f 26 = f 25)) NoR (by kernel_rfl) (by kernel_rfl) (by kernel_rfl) (by kernel_rfl) (fun f => ⟨⟨_, CG.start w s f⟩, nofun⟩) ?stab ?steps ?fin
  case stab => intro i j w1 w2 v o ho hij hwt hR h; exact h
  case steps =>
    refine StepsG.cons ?_ (StepsG.cons ?_ (StepsG.cons ?_ (StepsG.cons ?_ (StepsG.cons ?_ (StepsG.cons ?_ (StepsG.cons ?_ (StepsG.cons ?_ (StepsG.cons ?_ (StepsG.cons ?_ (StepsG.cons ?_ (StepsG.cons ?_ (StepsG.cons ?_ (StepsG.cons ?_ (StepsG.cons ?_ (StepsG.cons ?_ (StepsG.cons ?_ (StepsG.cons ?_ (StepsG.cons ?_ (StepsG.cons ?_ (StepsG.cons ?_ (StepsG.cons ?_ (StepsG.cons ?_ (StepsG.cons ?_ (StepsG.cons ?_ (StepsG.cons ?_ (StepsG.cons ?_ StepsG.nil))))))))))))))))))))))))))
    · intro L f A w6 Q hL hG hsz hlow hun hnl hp
      have e0 : A.tmps.getD 0 undef = Value.pointer (some ⟨g, 0, none⟩) := hlow 0 rfl
      clear hlow hun hnl hp
      refine wpOp_go rfl rfl ?_
      go_simp
      first | exact ⟨_, rfl, ⟨hG.1.past 0 _ (by decide), fun h => by rw [upd_ne _ _ _ _ (by decide), upd_ne _ _ _ _ (by decide)]; exact hG.2 (by simpa using h)⟩, ⟨⟩, rfl⟩ | exact ⟨⟨hG.1.past 0 _ (by decide), fun h => by rw [upd_ne _ _ _ _ (by decide), upd_ne _ _ _ _ (by decide)]; exact hG.2 (by simpa using h)⟩, ⟨⟩, rfl⟩ | exact ⟨⟨hG.1.past 0 _ (by decide), fun h => by rw [upd_ne _ _ _ _ (by decide), upd_ne _ _ _ _ (by decide)]; exact hG.2 (by simpa using h)⟩, rfl⟩ | exact ⟨hG.1.past 0 _ (by decide), fun h => by rw [upd_ne _ _ _ _ (by decide), upd_ne _ _ _ _ (by decide)]; exact hG.2 (by simpa using h)⟩ | exact ⟨⟨hG.1.past 0 _ (by decide), fun h => by rw [upd_ne _ _ _ _ (by decide), upd_ne _ _ _ _ (by decide)]; exact hG.2 (by simpa using h)⟩, ⟨⟩⟩ | exact ⟨_, rfl, ⟨hG.1.past 0 _ (by decide), fun h => by rw [upd_ne _ _ _ _ (by decide), upd_ne _ _ _ _ (by decide)]; exact hG.2 (by simpa using h)⟩, ⟨⟩, trivial⟩ | exact ⟨_, rfl, ⟨⟩, rfl⟩ | exact ⟨⟨⟩, rfl⟩
    · intro L f A w6 Q hL hG hsz hlow hun hnl hp
      have f0 : f 0 = Value.pointer (some ⟨g, 0, none⟩) := (hp 0 rfl).2.1
      have e13 : A.tmps.getD 13 undef = Value.pointer (some ⟨g, 0, none⟩) := ((hp 0 rfl).2.2 13 rfl).trans f0
      clear hlow hun hnl hp
      refine wpOp_go rfl rfl ?_
      go_simp
      first | exact ⟨_, rfl, ⟨hG.1.past 1 _ (by decide), fun h => by rw [upd_ne _ _ _ _ (by decide), upd_ne _ _ _ _ (by decide)]; exact hG.2 (by simpa using h)⟩, ⟨⟩, rfl⟩ | exact ⟨⟨hG.1.past 1 _ (by decide), fun h => by rw [upd_ne _ _ _ _ (by decide), upd_ne _ _ _ _ (by decide)]; exact hG.2 (by simpa using h)⟩, ⟨⟩, rfl⟩ | exact ⟨⟨hG.1.past 1 _ (by decide), fun h => by rw [upd_ne _ _ _ _ (by decide), upd_ne _ _ _ _ (by decide)]; exact hG.2 (by simpa using h)⟩, rfl⟩ | exact ⟨hG.1.past 1 _ (by decide), fun h => by rw [upd_ne _ _ _ _ (by decide), upd_ne _ _ _ _ (by decide)]; exact hG.2 (by simpa using h)⟩ | exact ⟨⟨hG.1.past 1 _ (by decide), fun h => by rw [upd_ne _ _ _ _ (by decide), upd_ne _ _ _ _ (by decide)]; exact hG.2 (by simpa using h)⟩, ⟨⟩⟩ | exact ⟨_, rfl, ⟨hG.1.past 1 _ (by decide), fun h => by rw [upd_ne _ _ _ _ (by decide), upd_ne _ _ _ _ (by decide)]; exact hG.2 (by simpa using h)⟩, ⟨⟩, trivial⟩ | exact ⟨_, rfl, ⟨⟩, rfl⟩ | exact ⟨⟨⟩, rfl⟩
    · intro L f A w6 Q hL hG hsz hlow hun hnl hp
      have f1 : f 1 = Value.pointer (some ⟨g, 0, none⟩) := (hp 1 rfl).2.1
      have e14 : A.tmps.getD 14 undef = Value.pointer (some ⟨g, 0, none⟩) := ((hp 1 rfl).2.2 14 rfl).trans f1
      clear hlow hun hnl hp
      refine wpOp_go rfl rfl ?_
      go_simp
      first | exact ⟨_, rfl, ⟨hG.1.past 2 _ (by decide), fun h => by rw [upd_ne _ _ _ _ (by decide), upd_ne _ _ _ _ (by decide)]; exact hG.2 (by simpa using h)⟩, ⟨⟩, rfl⟩ | exact ⟨⟨hG.1.past 2 _ (by decide), fun h => by rw [upd_ne _ _ _ _ (by decide), upd_ne _ _ _ _ (by decide)]; exact hG.2 (by simpa using h)⟩, ⟨⟩, rfl⟩ | exact ⟨⟨hG.1.past 2 _ (by decide), fun h => by rw [upd_ne _ _ _ _ (by decide), upd_ne _ _ _ _ (by decide)]; exact hG.2 (by simpa using h)⟩, rfl⟩ | exact ⟨hG.1.past 2 _ (by decide), fun h => by rw [upd_ne _ _ _ _ (by decide), upd_ne _ _ _ _ (by decide)]; exact hG.2 (by simpa using h)⟩ | exact ⟨⟨hG.1.past 2 _ (by decide), fun h => by rw [upd_ne _ _ _ _ (by decide), upd_ne _ _ _ _ (by decide)]; exact hG.2 (by simpa using h)⟩, ⟨⟩⟩ | exact ⟨_, rfl, ⟨hG.1.past 2 _ (by decide), fun h => by rw [upd_ne _ _ _ _ (by decide), upd_ne _ _ _ _ (by decide)]; exact hG.2 (by simpa using h)⟩, ⟨⟩, trivial⟩ | exact ⟨_, rfl, ⟨⟩, rfl⟩ | exact ⟨⟨⟩, rfl⟩
    · intro L f A w6 Q hL hG hsz hlow hun hnl hp
      have f2 : f 2 = Value.pointer (some ⟨g, 0, none⟩) := (hp 2 rfl).2.1
      have e15 : A.tmps.getD 15 undef = Value.pointer (some ⟨g, 0, none⟩) := ((hp 2 rfl).2.2 15 rfl).trans f2
      have hcc := (HOB.out w6 hG.1.bel).cell (i := 0) (v := .int .i64 s.blocks) rfl
      clear hlow hun hnl hp
      refine wpOp_go rfl rfl ?_
      go_simp
      first | exact ⟨_, rfl, ⟨hG.1.past 3 _ (by decide), fun h => by rw [upd_ne _ _ _ _ (by decide), upd_ne _ _ _ _ (by decide)]; exact hG.2 (by simpa using h)⟩, ⟨⟩, rfl⟩ | exact ⟨⟨hG.1.past 3 _ (by decide), fun h => by rw [upd_ne _ _ _ _ (by decide), upd_ne _ _ _ _ (by decide)]; exact hG.2 (by simpa using h)⟩, ⟨⟩, rfl⟩ | exact ⟨⟨hG.1.past 3 _ (by decide), fun h => by rw [upd_ne _ _ _ _ (by decide), upd_ne _ _ _ _ (by decide)]; exact hG.2 (by simpa using h)⟩, rfl⟩ | exact ⟨hG.1.past 3 _ (by decide), fun h => by rw [upd_ne _ _ _ _ (by decide), upd_ne _ _ _ _ (by decide)]; exact hG.2 (by simpa using h)⟩ | exact ⟨⟨hG.1.past 3 _ (by decide), fun h => by rw [upd_ne _ _ _ _ (by decide), upd_ne _ _ _ _ (by decide)]; exact hG.2 (by simpa using h)⟩, ⟨⟩⟩ | exact ⟨_, rfl, ⟨hG.1.past 3 _ (by decide), fun h => by rw [upd_ne _ _ _ _ (by decide), upd_ne _ _ _ _ (by decide)]; exact hG.2 (by simpa using h)⟩, ⟨⟩, trivial⟩ | exact ⟨_, rfl, ⟨⟩, rfl⟩ | exact ⟨⟨⟩, rfl⟩
    · intro L f A w6 Q hL hG hsz hlow hun hnl hp
      have n24 := (hnl 24 4 hL rfl)
      have n25 := (hnl 25 24 (hnl 24 4 hL rfl) rfl)
      have n26 := (hnl 26 4 hL rfl)
      clear hlow hun hnl hp
      refine wpOp_go rfl rfl ?_
      go_simp
      first | exact ⟨_, rfl, hG.1.map4 n24 n25, ⟨⟩, trivial⟩ | exact ⟨_, rfl, ⟨hG.1.map4 n24 n25, fun h => absurd h (by simp [n26])⟩, ⟨⟩, trivial⟩
    · intro L f A w6 Q hL hG hsz hlow hun hnl hp
      have e0 : A.tmps.getD 0 undef = Value.pointer (some ⟨g, 0, none⟩) := hlow 0 rfl
      clear hlow hun hnl hp
      refine wpOp_go rfl rfl ?_
      go_simp
      first | exact ⟨_, rfl, ⟨hG.1.past 5 _ (by decide), fun h => by rw [upd_ne _ _ _ _ (by decide), upd_ne _ _ _ _ (by decide)]; exact hG.2 (by simpa using h)⟩, ⟨⟩, rfl⟩ | exact ⟨⟨hG.1.past 5 _ (by decide), fun h => by rw [upd_ne _ _ _ _ (by decide), upd_ne _ _ _ _ (by decide)]; exact hG.2 (by simpa using h)⟩, ⟨⟩, rfl⟩ | exact ⟨⟨hG.1.past 5 _ (by decide), fun h => by rw [upd_ne _ _ _ _ (by decide), upd_ne _ _ _ _ (by decide)]; exact hG.2 (by simpa using h)⟩, rfl⟩ | exact ⟨hG.1.past 5 _ (by decide), fun h => by rw [upd_ne _ _ _ _ (by decide), upd_ne _ _ _ _ (by decide)]; exact hG.2 (by simpa using h)⟩ | exact ⟨⟨hG.1.past 5 _ (by decide), fun h => by rw [upd_ne _ _ _ _ (by decide), upd_ne _ _ _ _ (by decide)]; exact hG.2 (by simpa using h)⟩, ⟨⟩⟩ | exact ⟨_, rfl, ⟨hG.1.past 5 _ (by decide), fun h => by rw [upd_ne _ _ _ _ (by decide), upd_ne _ _ _ _ (by decide)]; exact hG.2 (by simpa using h)⟩, ⟨⟩, trivial⟩ | exact ⟨_, rfl, ⟨⟩, rfl⟩ | exact ⟨⟨⟩, rfl⟩
    · intro L f A w6 Q hL hG hsz hlow hun hnl hp
      have f5 : f 5 = Value.pointer (some ⟨g, 0, none⟩) := (hp 5 rfl).2.1
      have e18 : A.tmps.getD 18 undef = Value.pointer (some ⟨g, 0, none⟩) := ((hp 5 rfl).2.2 18 rfl).trans f5
      clear hlow hun hnl hp
      refine wpOp_go rfl rfl ?_
      go_simp
      first | exact ⟨_, rfl, ⟨hG.1.past 6 _ (by decide), fun h => by rw [upd_ne _ _ _ _ (by decide), upd_ne _ _ _ _ (by decide)]; exact hG.2 (by simpa using h)⟩, ⟨⟩, rfl⟩ | exact ⟨⟨hG.1.past 6 _ (by decide), fun h => by rw [upd_ne _ _ _ _ (by decide), upd_ne _ _ _ _ (by decide)]; exact hG.2 (by simpa using h)⟩, ⟨⟩, rfl⟩ | exact ⟨⟨hG.1.past 6 _ (by decide), fun h => by rw [upd_ne _ _ _ _ (by decide), upd_ne _ _ _ _ (by decide)]; exact hG.2 (by simpa using h)⟩, rfl⟩ | exact ⟨hG.1.past 6 _ (by decide), fun h => by rw [upd_ne _ _ _ _ (by decide), upd_ne _ _ _ _ (by decide)]; exact hG.2 (by simpa using h)⟩ | exact ⟨⟨hG.1.past 6 _ (by decide), fun h => by rw [upd_ne _ _ _ _ (by decide), upd_ne _ _ _ _ (by decide)]; exact hG.2 (by simpa using h)⟩, ⟨⟩⟩ | exact ⟨_, rfl, ⟨hG.1.past 6 _ (by decide), fun h => by rw [upd_ne _ _ _ _ (by decide), upd_ne _ _ _ _ (by decide)]; exact hG.2 (by simpa using h)⟩, ⟨⟩, trivial⟩ | exact ⟨_, rfl, ⟨⟩, rfl⟩ | exact ⟨⟨⟩, rfl⟩
    · intro L f A w6 Q hL hG hsz hlow hun hnl hp
      have f6 : f 6 = Value.pointer (some ⟨g, 0, none⟩) := (hp 6 rfl).2.1
      have e19 : A.tmps.getD 19 undef = Value.pointer (some ⟨g, 0, none⟩) := ((hp 6 rfl).2.2 19 rfl).trans f6
      clear hlow hun hnl hp
      refine wpOp_go rfl rfl ?_
      go_simp
      first | exact ⟨_, rfl, ⟨hG.1.past 7 _ (by decide), fun h => by rw [upd_ne _ _ _ _ (by decide), upd_ne _ _ _ _ (by decide)]; exact hG.2 (by simpa using h)⟩, ⟨⟩, rfl⟩ | exact ⟨⟨hG.1.past 7 _ (by decide), fun h => by rw [upd_ne _ _ _ _ (by decide), upd_ne _ _ _ _ (by decide)]; exact hG.2 (by simpa using h)⟩, ⟨⟩, rfl⟩ | exact ⟨⟨hG.1.past 7 _ (by decide), fun h => by rw [upd_ne _ _ _ _ (by decide), upd_ne _ _ _ _ (by decide)]; exact hG.2 (by simpa using h)⟩, rfl⟩ | exact ⟨hG.1.past 7 _ (by decide), fun h => by rw [upd_ne _ _ _ _ (by decide), upd_ne _ _ _ _ (by decide)]; exact hG.2 (by simpa using h)⟩ | exact ⟨⟨hG.1.past 7 _ (by decide), fun h => by rw [upd_ne _ _ _ _ (by decide), upd_ne _ _ _ _ (by decide)]; exact hG.2 (by simpa using h)⟩, ⟨⟩⟩ | exact ⟨_, rfl, ⟨hG.1.past 7 _ (by decide), fun h => by rw [upd_ne _ _ _ _ (by decide), upd_ne _ _ _ _ (by decide)]; exact hG.2 (by simpa using h)⟩, ⟨⟩, trivial⟩ | exact ⟨_, rfl, ⟨⟩, rfl⟩ | exact ⟨⟨⟩, rfl⟩
    · intro L f A w6 Q hL hG hsz hlow hun hnl hp
      have f7 : f 7 = Value.pointer (some ⟨g, 4, none⟩) := (hp 7 rfl).2.1
      have e20 : A.tmps.getD 20 undef = Value.pointer (some ⟨g, 4, none⟩) := ((hp 7 rfl).2.2 20 rfl).trans f7
      have hcc := (HOB.out w6 hG.1.bel).cell (i := 4) (v := .int .u64 s.counter) rfl
      clear hlow hun hnl hp
      refine wpOp_go rfl rfl ?_
      go_simp
      first | exact ⟨_, rfl, ⟨hG.1.past 8 _ (by decide), fun h => by rw [upd_ne _ _ _ _ (by decide), upd_ne _ _ _ _ (by decide)]; exact hG.2 (by simpa using h)⟩, ⟨⟩, rfl⟩ | exact ⟨⟨hG.1.past 8 _ (by decide), fun h => by rw [upd_ne _ _ _ _ (by decide), upd_ne _ _ _ _ (by decide)]; exact hG.2 (by simpa using h)⟩, ⟨⟩, rfl⟩ | exact ⟨⟨hG.1.past 8 _ (by decide), fun h => by rw [upd_ne _ _ _ _ (by decide), upd_ne _ _ _ _ (by decide)]; exact hG.2 (by simpa using h)⟩, rfl⟩ | exact ⟨hG.1.past 8 _ (by decide), fun h => by rw [upd_ne _ _ _ _ (by decide), upd_ne _ _ _ _ (by decide)]; exact hG.2 (by simpa using h)⟩ | exact ⟨⟨hG.1.past 8 _ (by decide), fun h => by rw [upd_ne _ _ _ _ (by decide), upd_ne _ _ _ _ (by decide)]; exact hG.2 (by simpa using h)⟩, ⟨⟩⟩ | exact ⟨_, rfl, ⟨hG.1.past 8 _ (by decide), fun h => by rw [upd_ne _ _ _ _ (by decide), upd_ne _ _ _ _ (by decide)]; exact hG.2 (by simpa using h)⟩, ⟨⟩, trivial⟩ | exact ⟨_, rfl, ⟨⟩, rfl⟩ | exact ⟨⟨⟩, rfl⟩
    · intro L f A w6 Q hL hG hsz hlow hun hnl hp
      have n24 := (hnl 24 9 hL rfl)
      have n25 := (hnl 25 24 (hnl 24 9 hL rfl) rfl)
      have n26 := (hnl 26 9 hL rfl)
      clear hlow hun hnl hp
      refine wpOp_go rfl rfl ?_
      go_simp
      first | exact ⟨_, rfl, hG.1.map9 n24 n25, ⟨⟩, trivial⟩ | exact ⟨_, rfl, ⟨hG.1.map9 n24 n25, fun h => absurd h (by simp [n26])⟩, ⟨⟩, trivial⟩
    · intro L f A w6 Q hL hG hsz hlow hun hnl hp
      have e0 : A.tmps.getD 0 undef = Value.pointer (some ⟨g, 0, none⟩) := hlow 0 rfl
      clear hlow hun hnl hp
      refine wpOp_go rfl rfl ?_
      go_simp
      first | exact ⟨_, rfl, ⟨hG.1.past 10 _ (by decide), fun h => by rw [upd_ne _ _ _ _ (by decide), upd_ne _ _ _ _ (by decide)]; exact hG.2 (by simpa using h)⟩, ⟨⟩, rfl⟩ | exact ⟨⟨hG.1.past 10 _ (by decide), fun h => by rw [upd_ne _ _ _ _ (by decide), upd_ne _ _ _ _ (by decide)]; exact hG.2 (by simpa using h)⟩, ⟨⟩, rfl⟩ | exact ⟨⟨hG.1.past 10 _ (by decide), fun h => by rw [upd_ne _ _ _ _ (by decide), upd_ne _ _ _ _ (by decide)]; exact hG.2 (by simpa using h)⟩, rfl⟩ | exact ⟨hG.1.past 10 _ (by decide), fun h => by rw [upd_ne _ _ _ _ (by decide), upd_ne _ _ _ _ (by decide)]; exact hG.2 (by simpa using h)⟩ | exact ⟨⟨hG.1.past 10 _ (by decide), fun h => by rw [upd_ne _ _ _ _ (by decide), upd_ne _ _ _ _ (by decide)]; exact hG.2 (by simpa using h)⟩, ⟨⟩⟩ | exact ⟨_, rfl, ⟨hG.1.past 10 _ (by decide), fun h => by rw [upd_ne _ _ _ _ (by decide), upd_ne _ _ _ _ (by decide)]; exact hG.2 (by simpa using h)⟩, ⟨⟩, trivial⟩ | exact ⟨_, rfl, ⟨⟩, rfl⟩ | exact ⟨⟨⟩, rfl⟩
    · intro L f A w6 Q hL hG hsz hlow hun hnl hp
      have f10 : f 10 = Value.pointer (some ⟨g, 0, none⟩) := (hp 10 rfl).2.1
      have e23 : A.tmps.getD 23 undef = Value.pointer (some ⟨g, 0, none⟩) := ((hp 10 rfl).2.2 23 rfl).trans f10
      clear hlow hun hnl hp
      refine wpOp_go rfl rfl ?_
      go_simp
      first | exact ⟨_, rfl, ⟨hG.1.past 11 _ (by decide), fun h => by rw [upd_ne _ _ _ _ (by decide), upd_ne _ _ _ _ (by decide)]; exact hG.2 (by simpa using h)⟩, ⟨⟩, rfl⟩ | exact ⟨⟨hG.1.past 11 _ (by decide), fun h => by rw [upd_ne _ _ _ _ (by decide), upd_ne _ _ _ _ (by decide)]; exact hG.2 (by simpa using h)⟩, ⟨⟩, rfl⟩ | exact ⟨⟨hG.1.past 11 _ (by decide), fun h => by rw [upd_ne _ _ _ _ (by decide), upd_ne _ _ _ _ (by decide)]; exact hG.2 (by simpa using h)⟩, rfl⟩ | exact ⟨hG.1.past 11 _ (by decide), fun h => by rw [upd_ne _ _ _ _ (by decide), upd_ne _ _ _ _ (by decide)]; exact hG.2 (by simpa using h)⟩ | exact ⟨⟨hG.1.past 11 _ (by decide), fun h => by rw [upd_ne _ _ _ _ (by decide), upd_ne _ _ _ _ (by decide)]; exact hG.2 (by simpa using h)⟩, ⟨⟩⟩ | exact ⟨_, rfl, ⟨hG.1.past 11 _ (by decide), fun h => by rw [upd_ne _ _ _ _ (by decide), upd_ne _ _ _ _ (by decide)]; exact hG.2 (by simpa using h)⟩, ⟨⟩, trivial⟩ | exact ⟨_, rfl, ⟨⟩, rfl⟩ | exact ⟨⟨⟩, rfl⟩
    · intro L f A w6 Q hL hG hsz hlow hun hnl hp
      have f11 : f 11 = Value.pointer (some ⟨g, 0, none⟩) := (hp 11 rfl).2.1
      have e24 : A.tmps.getD 24 undef = Value.pointer (some ⟨g, 0, none⟩) := ((hp 11 rfl).2.2 24 rfl).trans f11
      clear hlow hun hnl hp
      refine wpOp_go rfl rfl ?_
      go_simp
      first | exact ⟨_, rfl, ⟨hG.1.past 12 _ (by decide), fun h => by rw [upd_ne _ _ _ _ (by decide), upd_ne _ _ _ _ (by decide)]; exact hG.2 (by simpa using h)⟩, ⟨⟩, rfl⟩ | exact ⟨⟨hG.1.past 12 _ (by decide), fun h => by rw [upd_ne _ _ _ _ (by decide), upd_ne _ _ _ _ (by decide)]; exact hG.2 (by simpa using h)⟩, ⟨⟩, rfl⟩ | exact ⟨⟨hG.1.past 12 _ (by decide), fun h => by rw [upd_ne _ _ _ _ (by decide), upd_ne _ _ _ _ (by decide)]; exact hG.2 (by simpa using h)⟩, rfl⟩ | exact ⟨hG.1.past 12 _ (by decide), fun h => by rw [upd_ne _ _ _ _ (by decide), upd_ne _ _ _ _ (by decide)]; exact hG.2 (by simpa using h)⟩ | exact ⟨⟨hG.1.past 12 _ (by decide), fun h => by rw [upd_ne _ _ _ _ (by decide), upd_ne _ _ _ _ (by decide)]; exact hG.2 (by simpa using h)⟩, ⟨⟩⟩ | exact ⟨_, rfl, ⟨hG.1.past 12 _ (by decide), fun h => by rw [upd_ne _ _ _ _ (by decide), upd_ne _ _ _ _ (by decide)]; exact hG.2 (by simpa using h)⟩, ⟨⟩, trivial⟩ | exact ⟨_, rfl, ⟨⟩, rfl⟩ | exact ⟨⟨⟩, rfl⟩
    · intro L f A w6 Q hL hG hsz hlow hun hnl hp
      have f12 : f 12 = Value.pointer (some ⟨g, 7, none⟩) := (hp 12 rfl).2.1
      have e25 : A.tmps.getD 25 undef = Value.pointer (some ⟨g, 7, none⟩) := ((hp 12 rfl).2.2 25 rfl).trans f12
      have hcc := (HOB.out w6 hG.1.bel).cell (i := 7) (v := .bool s.armed) rfl
      clear hlow hun hnl hp
      refine wpOp_go rfl rfl ?_
      go_simp
      first | exact ⟨_, rfl, ⟨hG.1.past 13 _ (by decide), fun h => by rw [upd_ne _ _ _ _ (by decide), upd_ne _ _ _ _ (by decide)]; exact hG.2 (by simpa using h)⟩, ⟨⟩, rfl⟩ | exact ⟨⟨hG.1.past 13 _ (by decide), fun h => by rw [upd_ne _ _ _ _ (by decide), upd_ne _ _ _ _ (by decide)]; exact hG.2 (by simpa using h)⟩, ⟨⟩, rfl⟩ | exact ⟨⟨hG.1.past 13 _ (by decide), fun h => by rw [upd_ne _ _ _ _ (by decide), upd_ne _ _ _ _ (by decide)]; exact hG.2 (by simpa using h)⟩, rfl⟩ | exact ⟨hG.1.past 13 _ (by decide), fun h => by rw [upd_ne _ _ _ _ (by decide), upd_ne _ _ _ _ (by decide)]; exact hG.2 (by simpa using h)⟩ | exact ⟨⟨hG.1.past 13 _ (by decide), fun h => by rw [upd_ne _ _ _ _ (by decide), upd_ne _ _ _ _ (by decide)]; exact hG.2 (by simpa using h)⟩, ⟨⟩⟩ | exact ⟨_, rfl, ⟨hG.1.past 13 _ (by decide), fun h => by rw [upd_ne _ _ _ _ (by decide), upd_ne _ _ _ _ (by decide)]; exact hG.2 (by simpa using h)⟩, ⟨⟩, trivial⟩ | exact ⟨_, rfl, ⟨⟩, rfl⟩ | exact ⟨⟨⟩, rfl⟩
    · intro L f A w6 Q hL hG hsz hlow hun hnl hp
      have e0 : A.tmps.getD 0 undef = Value.pointer (some ⟨g, 0, none⟩) := hlow 0 rfl
      clear hlow hun hnl hp
      refine wpOp_go rfl rfl ?_
      go_simp
      first | exact ⟨_, rfl, ⟨hG.1.past 14 _ (by decide), fun h => by rw [upd_ne _ _ _ _ (by decide), upd_ne _ _ _ _ (by decide)]; exact hG.2 (by simpa using h)⟩, ⟨⟩, rfl⟩ | exact ⟨⟨hG.1.past 14 _ (by decide), fun h => by rw [upd_ne _ _ _ _ (by decide), upd_ne _ _ _ _ (by decide)]; exact hG.2 (by simpa using h)⟩, ⟨⟩, rfl⟩ | exact ⟨⟨hG.1.past 14 _ (by decide), fun h => by rw [upd_ne _ _ _ _ (by decide), upd_ne _ _ _ _ (by decide)]; exact hG.2 (by simpa using h)⟩, rfl⟩ | exact ⟨hG.1.past 14 _ (by decide), fun h => by rw [upd_ne _ _ _ _ (by decide), upd_ne _ _ _ _ (by decide)]; exact hG.2 (by simpa using h)⟩ | exact ⟨⟨hG.1.past 14 _ (by decide), fun h => by rw [upd_ne _ _ _ _ (by decide), upd_ne _ _ _ _ (by decide)]; exact hG.2 (by simpa using h)⟩, ⟨⟩⟩ | exact ⟨_, rfl, ⟨hG.1.past 14 _ (by decide), fun h => by rw [upd_ne _ _ _ _ (by decide), upd_ne _ _ _ _ (by decide)]; exact hG.2 (by simpa using h)⟩, ⟨⟩, trivial⟩ | exact ⟨_, rfl, ⟨⟩, rfl⟩ | exact ⟨⟨⟩, rfl⟩
    · intro L f A w6 Q hL hG hsz hlow hun hnl hp
      have f14 : f 14 = Value.pointer (some ⟨g, 0, none⟩) := (hp 14 rfl).2.1
      have e27 : A.tmps.getD 27 undef = Value.pointer (some ⟨g, 0, none⟩) := ((hp 14 rfl).2.2 27 rfl).trans f14
      clear hlow hun hnl hp
      refine wpOp_go rfl rfl ?_
      go_simp
      first | exact ⟨_, rfl, ⟨hG.1.past 15 _ (by decide), fun h => by rw [upd_ne _ _ _ _ (by decide), upd_ne _ _ _ _ (by decide)]; exact hG.2 (by simpa using h)⟩, ⟨⟩, rfl⟩ | exact ⟨⟨hG.1.past 15 _ (by decide), fun h => by rw [upd_ne _ _ _ _ (by decide), upd_ne _ _ _ _ (by decide)]; exact hG.2 (by simpa using h)⟩, ⟨⟩, rfl⟩ | exact ⟨⟨hG.1.past 15 _ (by decide), fun h => by rw [upd_ne _ _ _ _ (by decide), upd_ne _ _ _ _ (by decide)]; exact hG.2 (by simpa using h)⟩, rfl⟩ | exact ⟨hG.1.past 15 _ (by decide), fun h => by rw [upd_ne _ _ _ _ (by decide), upd_ne _ _ _ _ (by decide)]; exact hG.2 (by simpa using h)⟩ | exact ⟨⟨hG.1.past 15 _ (by decide), fun h => by rw [upd_ne _ _ _ _ (by decide), upd_ne _ _ _ _ (by decide)]; exact hG.2 (by simpa using h)⟩, ⟨⟩⟩ | exact ⟨_, rfl, ⟨hG.1.past 15 _ (by decide), fun h => by rw [upd_ne _ _ _ _ (by decide), upd_ne _ _ _ _ (by decide)]; exact hG.2 (by simpa using h)⟩, ⟨⟩, trivial⟩ | exact ⟨_, rfl, ⟨⟩, rfl⟩ | exact ⟨⟨⟩, rfl⟩
    · intro L f A w6 Q hL hG hsz hlow hun hnl hp
      have f15 : f 15 = Value.pointer (some ⟨g, 0, none⟩) := (hp 15 rfl).2.1
      have e28 : A.tmps.getD 28 undef = Value.pointer (some ⟨g, 0, none⟩) := ((hp 15 rfl).2.2 28 rfl).trans f15
      clear hlow hun hnl hp
      refine wpOp_go rfl rfl ?_
      go_simp
      first | exact ⟨_, rfl, ⟨hG.1.past 16 _ (by decide), fun h => by rw [upd_ne _ _ _ _ (by decide), upd_ne _ _ _ _ (by decide)]; exact hG.2 (by simpa using h)⟩, ⟨⟩, rfl⟩ | exact ⟨⟨hG.1.past 16 _ (by decide), fun h => by rw [upd_ne _ _ _ _ (by decide), upd_ne _ _ _ _ (by decide)]; exact hG.2 (by simpa using h)⟩, ⟨⟩, rfl⟩ | exact ⟨⟨hG.1.past 16 _ (by decide), fun h => by rw [upd_ne _ _ _ _ (by decide), upd_ne _ _ _ _ (by decide)]; exact hG.2 (by simpa using h)⟩, rfl⟩ | exact ⟨hG.1.past 16 _ (by decide), fun h => by rw [upd_ne _ _ _ _ (by decide), upd_ne _ _ _ _ (by decide)]; exact hG.2 (by simpa using h)⟩ | exact ⟨⟨hG.1.past 16 _ (by decide), fun h => by rw [upd_ne _ _ _ _ (by decide), upd_ne _ _ _ _ (by decide)]; exact hG.2 (by simpa using h)⟩, ⟨⟩⟩ | exact ⟨_, rfl, ⟨hG.1.past 16 _ (by decide), fun h => by rw [upd_ne _ _ _ _ (by decide), upd_ne _ _ _ _ (by decide)]; exact hG.2 (by simpa using h)⟩, ⟨⟩, trivial⟩ | exact ⟨_, rfl, ⟨⟩, rfl⟩ | exact ⟨⟨⟩, rfl⟩
    · intro L f A w6 Q hL hG hsz hlow hun hnl hp
      have f16 : f 16 = Value.pointer (some ⟨g, 8, none⟩) := (hp 16 rfl).2.1
      have e29 : A.tmps.getD 29 undef = Value.pointer (some ⟨g, 8, none⟩) := ((hp 16 rfl).2.2 29 rfl).trans f16
      have hcc := (HOB.out w6 hG.1.bel).cell (i := 8) (v := .int .i64 s.power) rfl
      clear hlow hun hnl hp
      refine wpOp_go rfl rfl ?_
      go_simp
      first | exact ⟨_, rfl, ⟨hG.1.past 17 _ (by decide), fun h => by rw [upd_ne _ _ _ _ (by decide), upd_ne _ _ _ _ (by decide)]; exact hG.2 (by simpa using h)⟩, ⟨⟩, rfl⟩ | exact ⟨⟨hG.1.past 17 _ (by decide), fun h => by rw [upd_ne _ _ _ _ (by decide), upd_ne _ _ _ _ (by decide)]; exact hG.2 (by simpa using h)⟩, ⟨⟩, rfl⟩ | exact ⟨⟨hG.1.past 17 _ (by decide), fun h => by rw [upd_ne _ _ _ _ (by decide), upd_ne _ _ _ _ (by decide)]; exact hG.2 (by simpa using h)⟩, rfl⟩ | exact ⟨hG.1.past 17 _ (by decide), fun h => by rw [upd_ne _ _ _ _ (by decide), upd_ne _ _ _ _ (by decide)]; exact hG.2 (by simpa using h)⟩ | exact ⟨⟨hG.1.past 17 _ (by decide), fun h => by rw [upd_ne _ _ _ _ (by decide), upd_ne _ _ _ _ (by decide)]; exact hG.2 (by simpa using h)⟩, ⟨⟩⟩ | exact ⟨_, rfl, ⟨hG.1.past 17 _ (by decide), fun h => by rw [upd_ne _ _ _ _ (by decide), upd_ne _ _ _ _ (by decide)]; exact hG.2 (by simpa using h)⟩, ⟨⟩, trivial⟩ | exact ⟨_, rfl, ⟨⟩, rfl⟩ | exact ⟨⟨⟩, rfl⟩
    · intro L f A w6 Q hL hG hsz hlow hun hnl hp
      have e0 : A.tmps.getD 0 undef = Value.pointer (some ⟨g, 0, none⟩) := hlow 0 rfl
      clear hlow hun hnl hp
      refine wpOp_go rfl rfl ?_
      go_simp
      first | exact ⟨_, rfl, ⟨hG.1.past 18 _ (by decide), fun h => by rw [upd_ne _ _ _ _ (by decide), upd_ne _ _ _ _ (by decide)]; exact hG.2 (by simpa using h)⟩, ⟨⟩, rfl⟩ | exact ⟨⟨hG.1.past 18 _ (by decide), fun h => by rw [upd_ne _ _ _ _ (by decide), upd_ne _ _ _ _ (by decide)]; exact hG.2 (by simpa using h)⟩, ⟨⟩, rfl⟩ | exact ⟨⟨hG.1.past 18 _ (by decide), fun h => by rw [upd_ne _ _ _ _ (by decide), upd_ne _ _ _ _ (by decide)]; exact hG.2 (by simpa using h)⟩, rfl⟩ | exact ⟨hG.1.past 18 _ (by decide), fun h => by rw [upd_ne _ _ _ _ (by decide), upd_ne _ _ _ _ (by decide)]; exact hG.2 (by simpa using h)⟩ | exact ⟨⟨hG.1.past 18 _ (by decide), fun h => by rw [upd_ne _ _ _ _ (by decide), upd_ne _ _ _ _ (by decide)]; exact hG.2 (by simpa using h)⟩, ⟨⟩⟩ | exact ⟨_, rfl, ⟨hG.1.past 18 _ (by decide), fun h => by rw [upd_ne _ _ _ _ (by decide), upd_ne _ _ _ _ (by decide)]; exact hG.2 (by simpa using h)⟩, ⟨⟩, trivial⟩ | exact ⟨_, rfl, ⟨⟩, rfl⟩ | exact ⟨⟨⟩, rfl⟩
    · intro L f A w6 Q hL hG hsz hlow hun hnl hp
      have f18 : f 18 = Value.pointer (some ⟨g, 0, none⟩) := (hp 18 rfl).2.1
      have e31 : A.tmps.getD 31 undef = Value.pointer (some ⟨g, 0, none⟩) := ((hp 18 rfl).2.2 31 rfl).trans f18
      clear hlow hun hnl hp
      refine wpOp_go rfl rfl ?_
      go_simp
      first | exact ⟨_, rfl, ⟨hG.1.past 19 _ (by decide), fun h => by rw [upd_ne _ _ _ _ (by decide), upd_ne _ _ _ _ (by decide)]; exact hG.2 (by simpa using h)⟩, ⟨⟩, rfl⟩ | exact ⟨⟨hG.1.past 19 _ (by decide), fun h => by rw [upd_ne _ _ _ _ (by decide), upd_ne _ _ _ _ (by decide)]; exact hG.2 (by simpa using h)⟩, ⟨⟩, rfl⟩ | exact ⟨⟨hG.1.past 19 _ (by decide), fun h => by rw [upd_ne _ _ _ _ (by decide), upd_ne _ _ _ _ (by decide)]; exact hG.2 (by simpa using h)⟩, rfl⟩ | exact ⟨hG.1.past 19 _ (by decide), fun h => by rw [upd_ne _ _ _ _ (by decide), upd_ne _ _ _ _ (by decide)]; exact hG.2 (by simpa using h)⟩ | exact ⟨⟨hG.1.past 19 _ (by decide), fun h => by rw [upd_ne _ _ _ _ (by decide), upd_ne _ _ _ _ (by decide)]; exact hG.2 (by simpa using h)⟩, ⟨⟩⟩ | exact ⟨_, rfl, ⟨hG.1.past 19 _ (by decide), fun h => by rw [upd_ne _ _ _ _ (by decide), upd_ne _ _ _ _ (by decide)]; exact hG.2 (by simpa using h)⟩, ⟨⟩, trivial⟩ | exact ⟨_, rfl, ⟨⟩, rfl⟩ | exact ⟨⟨⟩, rfl⟩
    · intro L f A w6 Q hL hG hsz hlow hun hnl hp
      have f19 : f 19 = Value.pointer (some ⟨g, 0, none⟩) := (hp 19 rfl).2.1
      have e32 : A.tmps.getD 32 undef = Value.pointer (some ⟨g, 0, none⟩) := ((hp 19 rfl).2.2 32 rfl).trans f19
      clear hlow hun hnl hp
      refine wpOp_go rfl rfl ?_
      go_simp
      first | exact ⟨_, rfl, ⟨hG.1.past 20 _ (by decide), fun h => by rw [upd_ne _ _ _ _ (by decide), upd_ne _ _ _ _ (by decide)]; exact hG.2 (by simpa using h)⟩, ⟨⟩, rfl⟩ | exact ⟨⟨hG.1.past 20 _ (by decide), fun h => by rw [upd_ne _ _ _ _ (by decide), upd_ne _ _ _ _ (by decide)]; exact hG.2 (by simpa using h)⟩, ⟨⟩, rfl⟩ | exact ⟨⟨hG.1.past 20 _ (by decide), fun h => by rw [upd_ne _ _ _ _ (by decide), upd_ne _ _ _ _ (by decide)]; exact hG.2 (by simpa using h)⟩, rfl⟩ | exact ⟨hG.1.past 20 _ (by decide), fun h => by rw [upd_ne _ _ _ _ (by decide), upd_ne _ _ _ _ (by decide)]; exact hG.2 (by simpa using h)⟩ | exact ⟨⟨hG.1.past 20 _ (by decide), fun h => by rw [upd_ne _ _ _ _ (by decide), upd_ne _ _ _ _ (by decide)]; exact hG.2 (by simpa using h)⟩, ⟨⟩⟩ | exact ⟨_, rfl, ⟨hG.1.past 20 _ (by decide), fun h => by rw [upd_ne _ _ _ _ (by decide), upd_ne _ _ _ _ (by decide)]; exact hG.2 (by simpa using h)⟩, ⟨⟩, trivial⟩ | exact ⟨_, rfl, ⟨⟩, rfl⟩ | exact ⟨⟨⟩, rfl⟩
    · intro L f A w6 Q hL hG hsz hlow hun hnl hp
      have f20 : f 20 = Value.pointer (some ⟨g, 9, none⟩) := (hp 20 rfl).2.1
      have e33 : A.tmps.getD 33 undef = Value.pointer (some ⟨g, 9, none⟩) := ((hp 20 rfl).2.2 33 rfl).trans f20
      have hcc := (HOB.out w6 hG.1.bel).cell (i := 9) (v := .bool s.dead) rfl
      clear hlow hun hnl hp
      refine wpOp_go rfl rfl ?_
      go_simp
      first | exact ⟨_, rfl, ⟨hG.1.past 21 _ (by decide), fun h => by rw [upd_ne _ _ _ _ (by decide), upd_ne _ _ _ _ (by decide)]; exact hG.2 (by simpa using h)⟩, ⟨⟩, rfl⟩ | exact ⟨⟨hG.1.past 21 _ (by decide), fun h => by rw [upd_ne _ _ _ _ (by decide), upd_ne _ _ _ _ (by decide)]; exact hG.2 (by simpa using h)⟩, ⟨⟩, rfl⟩ | exact ⟨⟨hG.1.past 21 _ (by decide), fun h => by rw [upd_ne _ _ _ _ (by decide), upd_ne _ _ _ _ (by decide)]; exact hG.2 (by simpa using h)⟩, rfl⟩ | exact ⟨hG.1.past 21 _ (by decide), fun h => by rw [upd_ne _ _ _ _ (by decide), upd_ne _ _ _ _ (by decide)]; exact hG.2 (by simpa using h)⟩ | exact ⟨⟨hG.1.past 21 _ (by decide), fun h => by rw [upd_ne _ _ _ _ (by decide), upd_ne _ _ _ _ (by decide)]; exact hG.2 (by simpa using h)⟩, ⟨⟩⟩ | exact ⟨_, rfl, ⟨hG.1.past 21 _ (by decide), fun h => by rw [upd_ne _ _ _ _ (by decide), upd_ne _ _ _ _ (by decide)]; exact hG.2 (by simpa using h)⟩, ⟨⟩, trivial⟩ | exact ⟨_, rfl, ⟨⟩, rfl⟩ | exact ⟨⟨⟩, rfl⟩
    · intro L f A w6 Q hL hG hsz hlow hun hnl hp
      have e0 : A.tmps.getD 0 undef = Value.pointer (some ⟨g, 0, none⟩) := hlow 0 rfl
      clear hlow hun hnl hp
      refine wpOp_go rfl rfl ?_
      go_simp
      first | exact ⟨_, rfl, ⟨hG.1.past 22 _ (by decide), fun h => by rw [upd_ne _ _ _ _ (by decide), upd_ne _ _ _ _ (by decide)]; exact hG.2 (by simpa using h)⟩, ⟨⟩, rfl⟩ | exact ⟨⟨hG.1.past 22 _ (by decide), fun h => by rw [upd_ne _ _ _ _ (by decide), upd_ne _ _ _ _ (by decide)]; exact hG.2 (by simpa using h)⟩, ⟨⟩, rfl⟩ | exact ⟨⟨hG.1.past 22 _ (by decide), fun h => by rw [upd_ne _ _ _ _ (by decide), upd_ne _ _ _ _ (by decide)]; exact hG.2 (by simpa using h)⟩, rfl⟩ | exact ⟨hG.1.past 22 _ (by decide), fun h => by rw [upd_ne _ _ _ _ (by decide), upd_ne _ _ _ _ (by decide)]; exact hG.2 (by simpa using h)⟩ | exact ⟨⟨hG.1.past 22 _ (by decide), fun h => by rw [upd_ne _ _ _ _ (by decide), upd_ne _ _ _ _ (by decide)]; exact hG.2 (by simpa using h)⟩, ⟨⟩⟩ | exact ⟨_, rfl, ⟨hG.1.past 22 _ (by decide), fun h => by rw [upd_ne _ _ _ _ (by decide), upd_ne _ _ _ _ (by decide)]; exact hG.2 (by simpa using h)⟩, ⟨⟩, trivial⟩ | exact ⟨_, rfl, ⟨⟩, rfl⟩ | exact ⟨⟨⟩, rfl⟩
    · intro L f A w6 Q hL hG hsz hlow hun hnl hp
      have f22 : f 22 = Value.pointer (some ⟨g, 0, none⟩) := (hp 22 rfl).2.1
      have e35 : A.tmps.getD 35 undef = Value.pointer (some ⟨g, 0, none⟩) := ((hp 22 rfl).2.2 35 rfl).trans f22
      have n24 := (hnl 24 23 hL rfl)
      have n25 := (hnl 25 24 (hnl 24 23 hL rfl) rfl)
      have n26 := (hnl 26 23 hL rfl)
      clear hlow hun hnl hp
      refine wpOp_go rfl rfl ?_
      go_simp
      refine (HTR.out w6 hG.1.bel).mono ?_
      rintro e w8 hr
      obtain ⟨A, cap, T, rfl, hrest⟩ := hr
      first | exact ⟨_, rfl, hG.1.trace n24 n25 (v := .slice A T.length cap) ⟨A, cap, T, rfl, hrest⟩, ⟨⟩, trivial⟩ | exact ⟨_, rfl, ⟨hG.1.trace n24 n25 (v := .slice A T.length cap) ⟨A, cap, T, rfl, hrest⟩, fun h => absurd h (by simp [n26])⟩, ⟨⟩, trivial⟩
    · intro L f A w6 Q hL hG hsz hlow hun hnl hp
      have f3 : f 3 = Value.int .i64 s.blocks := (hp 3 rfl).2.1
      have e16 : A.tmps.getD 16 undef = Value.int .i64 s.blocks := ((hp 3 rfl).2.2 16 rfl).trans f3
      have e17 : A.tmps.getD 17 undef = f 4 := (hp 4 rfl).2.2 17 rfl
      have v4 := (hp 4 rfl).2.1
      have f8 : f 8 = Value.int .u64 s.counter := (hp 8 rfl).2.1
      have e21 : A.tmps.getD 21 undef = Value.int .u64 s.counter := ((hp 8 rfl).2.2 21 rfl).trans f8
      have e22 : A.tmps.getD 22 undef = f 9 := (hp 9 rfl).2.2 22 rfl
      have v9 := (hp 9 rfl).2.1
      have f13 : f 13 = Value.bool s.armed := (hp 13 rfl).2.1
      have e26 : A.tmps.getD 26 undef = Value.bool s.armed := ((hp 13 rfl).2.2 26 rfl).trans f13
      have f17 : f 17 = Value.int .i64 s.power := (hp 17 rfl).2.1
      have e30 : A.tmps.getD 30 undef = Value.int .i64 s.power := ((hp 17 rfl).2.2 30 rfl).trans f17
      have f21 : f 21 = Value.bool s.dead := (hp 21 rfl).2.1
      have e34 : A.tmps.getD 34 undef = Value.bool s.dead := ((hp 21 rfl).2.2 34 rfl).trans f21
      have e36 : A.tmps.getD 36 undef = f 23 := (hp 23 rfl).2.2 36 rfl
      have v23 := (hp 23 rfl).2.1
      have n25 := (hnl 25 24 hL rfl)
      have n26 := (hnl 26 24 hL rfl)
      obtain ⟨J, hJ⟩ := hG.1
      obtain ⟨r4, q4, _, _⟩ := hJ.m4 (hp 4 rfl).1
      obtain ⟨r9, q9, _, _⟩ := hJ.m9 (hp 9 rfl).1
      obtain ⟨T, ho, _⟩ := hJ.t (hp 23 rfl).1
      obtain ⟨A9, c9, q23, _⟩ := own_rc ho
      have hB := CGE.agg ⟨J, hJ⟩ n25
      rw [q4] at e17 hB
      rw [q9] at e22 hB
      rw [q23] at e36 hB
      clear hlow hun hnl hp
      refine wpOp_go rfl rfl (wp_bld 73 #[(0, .tmp 16), (1, .tmp 17), (3, .tmp 21), (4, .tmp 22), (6, .tmp 26), (7, .tmp 30), (8, .tmp 34), (9, .tmp 36)] rfl #[(0, .int .i64 s.blocks), (1, .map (some r4)), (3, .int .u64 s.counter), (4, .map (some r9)), (6, .bool s.armed), (7, .int .i64 s.power), (8, .bool s.dead), (9, .slice A9 T.length c9)] (by simp only [List.map_toArray, List.map_cons, List.map_nil, Act.eval, e16, e17, e21, e22, e26, e30, e34, e36]) (.agg #[.int .i64 s.blocks, .map (some r4), .slice none 0 0, .slice none 0 0, .int .u64 s.counter, .map (some r9), .int .i64 0, .bool s.armed, .int .i64 s.power, .bool s.dead, .slice A9 T.length c9]) (built_run w6 s r4 r9 A9 T.length c9) ?_)
      first | exact ⟨_, rfl, hB, ⟨⟩, trivial⟩ | exact ⟨_, rfl, ⟨hB, fun h => absurd h (by simp [n26])⟩, ⟨⟩, trivial⟩
    · intro L f A w6 Q hL hG hsz hlow hun hnl hp
      have e37 : A.tmps.getD 37 undef = f 24 := (hp 24 rfl).2.2 37 rfl
      have v24 := (hp 24 rfl).2.1
      have n26 := (hnl 26 25 hL rfl)
      obtain ⟨J, hJ⟩ := hG.1
      have l24 := (hp 24 rfl).1
      have hB := CGE.box ⟨J, hJ⟩ l24
      rw [hJ.b l24] at e37
      clear hlow hun hnl hp
      refine wpOp_go rfl rfl ?_
      go_simp
      first | exact ⟨_, rfl, hB, ⟨⟩, trivial⟩ | exact ⟨_, rfl, ⟨hB, fun h => absurd h (by simp [n26])⟩, ⟨⟩, trivial⟩
    · intro L f A w6 Q hL hG hsz hlow hun hnl hp
      have e38 : A.tmps.getD 38 undef = f 25 := (hp 25 rfl).2.2 38 rfl
      have v25 := (hp 25 rfl).2.1
      clear hlow hun hnl hp
      refine wpOp_go rfl rfl ?_
      go_simp
      exact ⟨_, rfl, ⟨hG.1.past 26 _ (by decide), by rw [upd_same, upd_ne _ _ _ _ (by decide)]⟩, ⟨⟩, trivial⟩
  case fin =>
    intro L f w9 hLL hG hV
    obtain ⟨hG, h26⟩ := hG
    obtain ⟨gx, J, d, e25, hw, hF, hb, hown⟩ := hG.done HW.out (hLL 4 (by simp)) (hLL 9 (by simp)) (hLL 23 (by simp)) (hLL 25 (by simp))
    have e26 := (h26 (hLL 26 (by simp))).trans e25
    have HX := Hd.mk hw; have HFX := Hd.mk hF; have HB9 := Hd.mk hb; have HOW := Hd.mk hown
    clear hG h26 hV hLL e25 hw hF hb hown hmm HTR
    simp only [fillD, Act.put, List.setIfInBounds_toArray, List.set_cons_zero, List.set_cons_succ]
    rw [e26]
    clear e26
    generalize f 0 = y0, f 1 = y1, f 2 = y2, f 3 = y3, f 4 = y4, f 5 = y5, f 6 = y6, f 7 = y7, f 8 = y8, f 9 = y9, f 10 = y10, f 11 = y11, f 12 = y12, f 13 = y13, f 14 = y14, f 15 = y15, f 16 = y16, f 17 = y17, f 18 = y18, f 19 = y19, f 20 = y20, f 21 = y21, f 22 = y22, f 23 = y23, f 24 = y24, f 25 = y25
    clear L f
    have hc6 : w9.drew.cell? ⟨g, 6, none⟩ = some (.int .i64 s.reads) := (HOB.out _ (HB9.out.drew)).cell (i := 6) rfl
    have hx6 : w9.drew.cell? ⟨gx, 6, none⟩ = some (.int .i64 0) := HX.out.obj.drew.cell (i := 6) rfl
    have hz6 : w9.drew.frozen? ⟨gx, 6, none⟩ = false := HX.out.obj.drew.frz 6
    go_wp2_with (fail)
    go_region_with (first
      | (go_at_call 47; refine (aload_calls _ g 6 s.reads hc6).mono ?_; rintro e w8 ⟨rfl, hw⟩; obtain rfl := hw.symm)
      | (go_at_call 46; refine (astore_calls _ gx 6 s.reads hx6 hz6).mono ?_; rintro e w8 ⟨rfl, hw⟩; obtain rfl := hw.symm))
    have hw10 : WdAt (w9.setCell ⟨gx, 6, none⟩ (.int .i64 s.reads)).drew gx J d (cp1 s (fun _ => true)) := (HX.out.cell 6 (.int .i64 s.reads) (cp1 s (fun _ => true)) ⟨rfl, rfl, rfl, rfl, rfl⟩ rfl HW.out.num).below ((Below.refl _ _).drew)
    have hb10 : Below w.heap.size w (w9.setCell ⟨gx, 6, none⟩ (.int .i64 s.reads)).drew := (HB9.out.trans ((Stp.cell HX.out 6 _).below HB9.out.size HOW.out)).drew
    clear hc6 hx6 hz6 HB9 HX
    generalize (w9.setCell ⟨gx, 6, none⟩ (.int .i64 s.reads)).drew = w10 at *
    have HX := Hd.mk hw10
    have HB := Hd.mk hb10
    have HMS := Hd.mk (HW.out.ms.below (w' := w10) (by exact HB.out))
    have q1 : w10.cell? ⟨g, 1, none⟩ = some (.map (some c.rs)) := (HOB.out _ HB.out).cell (i := 1) rfl
    clear hw10 hb10
    go_wp2_with (at_range
                 refine wpList_rg_range rfl (.tmp 50) rfl smap_und rfl HMS.out ?_
                 intro w11 cnt0 hrg hb11 hz11)
    go_frame
    obtain ⟨r, hr⟩ : ∃ r, w10.heap.size = r := ⟨_, rfl⟩
    have hJr : J r = 0 := by
      by_cases e : J r = 0
      · exact e
      · have := HX.out.dom r e; omega
    have HC1 : Hd (∃ left cnt J d, Cp1 w c s gx r left cnt J d w11) := ⟨_, _, J, d, {
      wd := by
        rw [← cp1_start s (fun p => ((c.F p).map fun b => Value.pointer (some ⟨b, 0, none⟩)).isSome) (fun p hp => HW.out.h0 p (by cases hc : c.F p with | none => rfl | some b => rw [hc] at hp; cases hp))]
        exact HX.out.below hb11
      fre := fun p _ => HFX.out p
      rg := by rw [← hr]; exact hrg
      bel := below_then HB.out HB.out.size hb11
      own := HOW.out
      jr := hJr
      lr := by rw [← hr]; exact HB.out.size }⟩
    rw [hr]
    clear hrg hb11 hz11 hJr hr q1 HMS HX HFX HB HOW
    go_loopw [5] (fun _ wr => ∃ left cnt J d, Hd (Cp1 w c s gx r left cnt J d wr)) (fun _ wr => wr.rangeLeft c.rs r)
    case atStart =>
      obtain ⟨left, cnt, J, d, h⟩ := HC1.out
      exact ⟨left, cnt, J, d, ⟨h⟩⟩
    case round =>
      clear HC1
      obtain ⟨left, cnt, J1, d1, HC⟩ := hrel
      have q5 : wr.cell? ⟨g, 5, none⟩ = some (.map (some c.rl)) := (HOB.out wr HC.out.bel).cell (i := 5) rfl
      have HML := Hd.mk (HW.out.ml.below HC.out.bel)
      have hnx := @wpList_rg_next (Int × Int) _ Try.prog 95 pkey wr c.rs r (fun p => (c.F p).map fun b => .pointer (some ⟨b, 0, none⟩)) left cnt
      have hrl := @wpList_rg_range Int _ Try.prog 3 22 65 i64v wr c.rl (fun n => (c.L n).map (lieV s n))
      go_wp2_with (at_next; apply Hd.out)
      refine ⟨hnx rfl (.tmp 51) rfl rfl HC.out.rg pkey_ok ?_ ?_⟩
      · intro hd
        have HD := Hd.mk hd
        clear hd hnx
        go_wp2_with (at_range; apply Hd.out)
        refine ⟨hrl rfl (.tmp 68) rfl lmap_und rfl HML.out ?_⟩
        intro w2 cnt2 hrg2 hb2 hz2
        go_wp2_with fail
        go_frame
        obtain ⟨r2, hr2⟩ : ∃ r2, wr.heap.size = r2 := ⟨_, rfl⟩
        have hJr : J1 r2 = 0 := by
          by_cases e : J1 r2 = 0
          · exact e
          · have := HC.out.wd.dom r2 e; omega
        have HC2 : Hd (∃ left cnt J d, Cp2 w c s gx r2 left cnt J d w2) := ⟨_, cnt2, J1, d1, {
          wd := by
            have hx := HC.out.wd.below hb2
            rw [cp1_all s left HD.out (fun n => ((c.L n).map (lieV s n)).isSome) (fun n hn => HW.out.hn n (by cases hc : c.L n with | none => rfl | some b => rw [hc] at hn; cases hn)),
              cp2_start s (fun n => ((c.L n).map (lieV s n)).isSome) (fun n hn => HW.out.hn n (by cases hc : c.L n with | none => rfl | some b => rw [hc] at hn; cases hn))] at hx
            exact hx
          rg := by rw [← hr2]; exact hrg2
          bel := below_then HC.out.bel HC.out.bel.size hb2
          own := HC.out.own
          jr := hJr
          lr := by rw [← hr2]; exact HC.out.bel.size }⟩
        rw [hr2]
        clear hrg2 hb2 hz2 hJr hr2 HD HML hrl q5 HC
        go_loopw [8] (fun _ wr => ∃ left cnt J d, Hd (Cp2 w c s gx r2 left cnt J d wr)) (fun _ wr => wr.rangeLeft c.rl r2)
        case atStart =>
          obtain ⟨left, cnt, J, d, h⟩ := HC2.out
          exact ⟨left, cnt, J, d, ⟨h⟩⟩
        case round =>
          clear HC2 left cnt J1 d1
          obtain ⟨left, cnt, J1, d1, HC⟩ := hrel
          have q2 : wr.cell? ⟨g, 2, none⟩ = some (.slice c.A0 s.s0.length c.c0) := (HOB.out wr HC.out.bel).cell (i := 2) rfl
          have q3 : wr.cell? ⟨g, 3, none⟩ = some (.slice c.A1 s.s1.length c.c1) := (HOB.out wr HC.out.bel).cell (i := 3) rfl
          have hnx := @wpList_rg_next Int _ Try.prog 3 i64v wr c.rl r2 (fun n => (c.L n).map (lieV s n)) left cnt
          go_wp2_with (at_next; apply Hd.out)
          refine ⟨hnx rfl (.tmp 69) rfl rfl HC.out.rg nkey_ok ?_ ?_⟩
          · intro hd
            have hC3 : Cp3 w s gx 0 J1 d1 wr := ⟨by rw [← cp2_all s left hd]; exact HC.out.wd, HC.out.bel, HC.out.own⟩
            have HC3 := Hd.mk hC3
            clear hd hC3 hnx HC
            go_wp2_with (refine wp_label ?_)
            clear q2 q3
            go_loopw [83] (fun iv wr => ∃ i : Int, iv = .int .i64 i ∧ (i = 0 ∨ i = 1 ∨ i = 2) ∧ ∃ J d, Hd (Cp3 w s gx i J d wr)) (fun iv _ => 2 - (intOf iv).toNat)
            case atStart => exact ⟨0, rfl, .inl rfl, _, _, HC3⟩
            case round =>
              clear HC3 J1 d1
              obtain ⟨i, rfl, hi, J1, d1, HC⟩ := hrel
              have hx0 : ∀ (n m : Nat) W, (Instr.index 66 (.agg #[.slice c.A0 n c.c0, .slice c.A1 m c.c1]) (.int .i64 0)).run Try.prog W = .ok (.slice c.A0 n c.c0) W := fun _ _ _ => by kernel_rfl
              have hx1 : ∀ (n m : Nat) W, (Instr.index 66 (.agg #[.slice c.A0 n c.c0, .slice c.A1 m c.c1]) (.int .i64 1)).run Try.prog W = .ok (.slice c.A1 m c.c1) W := fun _ _ _ => by kernel_rfl
              rcases hi with rfl | rfl | rfl
              · by_cases h0 : s.s0 = []
                · have hst : cp3 s 0 = cp3 s (0 + 1) := cp3_skip0 s h0
                  have HN : Hd (Cp3 w s gx (0 + 1) J1 d1 wr) := ⟨by rw [← hst]; exact HC.out.wd, HC.out.bel, HC.out.own⟩
                  have hl0 : s.s0.length = 0 := by rw [h0]; rfl
                  clear h0 hst
                  go_wp2_with fail
                  go_roundw
                  case rel => exact ⟨0 + 1, rfl, by decide, _, _, HN⟩
                  case measure => simp [intOf]
                · have hl0 : (s.s0.length == 0) = false := by rw [beq_eq_false_iff_ne]; exact fun e => h0 (List.length_eq_zero_iff.1 e)
                  have hl1 : ((s.s0.length : Int) == 0) = false := by rw [beq_eq_false_iff_ne]; intro e; exact h0 (List.length_eq_zero_iff.1 (by omega))
                  have HRW : Hd (Rc w c.A0 (bs s.s0)) := ⟨HW.out.q0.rc⟩
                  have HCP : Hd (s.s0.length ≤ c.c0) := ⟨HW.out.q0.cap⟩
                  have HSN : Hd (s.s0.length ≤ 1099511627776) := ⟨HF.out.s0⟩
                  have HWB : Hd (Below w.heap.size w wr) := ⟨HC.out.bel⟩
                  clear h0
                  go_wp2_with fail
                  refine region_stp (VS gx 2 0 c.A0 s.s0.length c.c0) (GS wr.drew gx 2 s.s0) NoR (by kernel_rfl) (by kernel_rfl) (by kernel_rfl) (by kernel_rfl) (fun _ => ⟨fun _ _ => rfl, nofun, nofun⟩) ?stab ?steps ?fin
                  case stab => intro i j w1 w2 v o ho hij hwt hR h; exact h
                  case steps =>
                    refine StepsG.cons ?_ (StepsG.cons ?_ (StepsG.cons ?_ (StepsG.cons ?_ (StepsG.cons ?_ (StepsG.cons ?_ (StepsG.cons ?_ (StepsG.cons ?_ StepsG.nil)))))))
                    · intro L f A w6 Q hL hG hsz hlow hun hnl hp
                      have e3 : A.tmps.getD 3 undef = Value.pointer (some ⟨gx, 0, none⟩) := hlow 3 rfl
                      clear hlow hun hnl hp
                      refine wpOp_go rfl rfl ?_
                      go_simp
                      first | exact ⟨_, rfl, hG.past 0 _ (by decide) (by decide), ⟨⟩, rfl⟩ | exact ⟨hG.past 0 _ (by decide) (by decide), ⟨⟩, rfl⟩ | exact ⟨hG.past 0 _ (by decide) (by decide), rfl⟩ | exact hG.past 0 _ (by decide) (by decide) | exact ⟨hG.past 0 _ (by decide) (by decide), ⟨⟩⟩ | exact ⟨_, rfl, hG.past 0 _ (by decide) (by decide), ⟨⟩, trivial⟩ | exact ⟨_, rfl, ⟨⟩, rfl⟩ | exact ⟨⟨⟩, rfl⟩
                    · intro L f A w6 Q hL hG hsz hlow hun hnl hp
                      have e9 : A.tmps.getD 9 undef = Value.int .i64 0 := hlow 9 rfl
                      clear hlow hun hnl hp
                      refine wpOp_go rfl rfl ?_
                      go_simp
                      first | exact ⟨_, rfl, hG.past 1 _ (by decide) (by decide), ⟨⟩, rfl⟩ | exact ⟨hG.past 1 _ (by decide) (by decide), ⟨⟩, rfl⟩ | exact ⟨hG.past 1 _ (by decide) (by decide), rfl⟩ | exact hG.past 1 _ (by decide) (by decide) | exact ⟨hG.past 1 _ (by decide) (by decide), ⟨⟩⟩ | exact ⟨_, rfl, hG.past 1 _ (by decide) (by decide), ⟨⟩, trivial⟩ | exact ⟨_, rfl, ⟨⟩, rfl⟩ | exact ⟨⟨⟩, rfl⟩
                    · intro L f A w6 Q hL hG hsz hlow hun hnl hp
                      have e10 : A.tmps.getD 10 undef = Value.slice c.A0 s.s0.length c.c0 := hlow 10 rfl
                      clear hlow hun hnl hp
                      refine wpOp_go rfl rfl ?_
                      go_simp
                      first | exact ⟨_, rfl, hG.past 2 _ (by decide) (by decide), ⟨⟩, rfl⟩ | exact ⟨hG.past 2 _ (by decide) (by decide), ⟨⟩, rfl⟩ | exact ⟨hG.past 2 _ (by decide) (by decide), rfl⟩ | exact hG.past 2 _ (by decide) (by decide) | exact ⟨hG.past 2 _ (by decide) (by decide), ⟨⟩⟩ | exact ⟨_, rfl, hG.past 2 _ (by decide) (by decide), ⟨⟩, trivial⟩ | exact ⟨_, rfl, ⟨⟩, rfl⟩ | exact ⟨⟨⟩, rfl⟩
                    · intro L f A w6 Q hL hG hsz hlow hun hnl hp
                      have f2 : f 2 = Value.slice c.A0 s.s0.length c.c0 := (hp 2 rfl).2.1
                      have e92 : A.tmps.getD 92 undef = Value.slice c.A0 s.s0.length c.c0 := ((hp 2 rfl).2.2 92 rfl).trans f2
                      have n7 := (hnl 7 3 hL rfl)
                      obtain rfl := hG.fa hL n7
                      clear hlow hun hnl hp
                      refine wpOp_go rfl rfl (wp_app wr.drew.heap.size 22 5 (.int .u8 0) 1 1 (.const (.slice none 0 0)) (.tmp 92) rfl Try.underlying22 info_u8 rfl (by decide) (by decide) (.slice none 0 0) 0 [] (bs s.s0) c.A0 s.s0.length c.c0 rfl e92 (World.ownsRow_nil _ _ _ _) (HRW.out.below HWB.out.drew) (by rw [bs_len]; omega) bs_one (Nat.le_refl _) (by have := HSN.out; omega) s.s0.length (bs s.s0) (by omega) (by simp) ?_)
                      intro v1 w7 ho hg hat
                      exact ⟨v1, rfl, ⟨fun h => by simp at h, fun _ _ => ⟨below_nil hg, by rw [upd_same]; exact ho⟩, fun h => by simp [n7] at h⟩, ⟨⟩, trivial⟩
                    · intro L f A w6 Q hL hG hsz hlow hun hnl hp
                      have f0 : f 0 = Value.pointer (some ⟨gx, 0, none⟩) := (hp 0 rfl).2.1
                      have e90 : A.tmps.getD 90 undef = Value.pointer (some ⟨gx, 0, none⟩) := ((hp 0 rfl).2.2 90 rfl).trans f0
                      clear hlow hun hnl hp
                      refine wpOp_go rfl rfl ?_
                      go_simp
                      first | exact ⟨_, rfl, hG.past 4 _ (by decide) (by decide), ⟨⟩, rfl⟩ | exact ⟨hG.past 4 _ (by decide) (by decide), ⟨⟩, rfl⟩ | exact ⟨hG.past 4 _ (by decide) (by decide), rfl⟩ | exact hG.past 4 _ (by decide) (by decide) | exact ⟨hG.past 4 _ (by decide) (by decide), ⟨⟩⟩ | exact ⟨_, rfl, hG.past 4 _ (by decide) (by decide), ⟨⟩, trivial⟩ | exact ⟨_, rfl, ⟨⟩, rfl⟩ | exact ⟨⟨⟩, rfl⟩
                    · intro L f A w6 Q hL hG hsz hlow hun hnl hp
                      have f4 : f 4 = Value.pointer (some ⟨gx, 0, none⟩) := (hp 4 rfl).2.1
                      have e94 : A.tmps.getD 94 undef = Value.pointer (some ⟨gx, 0, none⟩) := ((hp 4 rfl).2.2 94 rfl).trans f4
                      clear hlow hun hnl hp
                      refine wpOp_go rfl rfl ?_
                      go_simp
                      first | exact ⟨_, rfl, hG.past 5 _ (by decide) (by decide), ⟨⟩, rfl⟩ | exact ⟨hG.past 5 _ (by decide) (by decide), ⟨⟩, rfl⟩ | exact ⟨hG.past 5 _ (by decide) (by decide), rfl⟩ | exact hG.past 5 _ (by decide) (by decide) | exact ⟨hG.past 5 _ (by decide) (by decide), ⟨⟩⟩ | exact ⟨_, rfl, hG.past 5 _ (by decide) (by decide), ⟨⟩, trivial⟩ | exact ⟨_, rfl, ⟨⟩, rfl⟩ | exact ⟨⟨⟩, rfl⟩
                    · intro L f A w6 Q hL hG hsz hlow hun hnl hp
                      have f1 : f 1 = Value.int .i64 0 := (hp 1 rfl).2.1
                      have e91 : A.tmps.getD 91 undef = Value.int .i64 0 := ((hp 1 rfl).2.2 91 rfl).trans f1
                      have f5 : f 5 = Value.pointer (some ⟨gx, 2, none⟩) := (hp 5 rfl).2.1
                      have e95 : A.tmps.getD 95 undef = Value.pointer (some ⟨gx, 2, none⟩) := ((hp 5 rfl).2.2 95 rfl).trans f5
                      clear hlow hun hnl hp
                      refine wpOp_go rfl rfl ?_
                      go_simp
                      first | exact ⟨_, rfl, hG.past 6 _ (by decide) (by decide), ⟨⟩, rfl⟩ | exact ⟨hG.past 6 _ (by decide) (by decide), ⟨⟩, rfl⟩ | exact ⟨hG.past 6 _ (by decide) (by decide), rfl⟩ | exact hG.past 6 _ (by decide) (by decide) | exact ⟨hG.past 6 _ (by decide) (by decide), ⟨⟩⟩ | exact ⟨_, rfl, hG.past 6 _ (by decide) (by decide), ⟨⟩, trivial⟩ | exact ⟨_, rfl, ⟨⟩, rfl⟩ | exact ⟨⟨⟩, rfl⟩
                    · intro L f A w6 Q hL hG hsz hlow hun hnl hp
                      have e93 : A.tmps.getD 93 undef = f 3 := (hp 3 rfl).2.2 93 rfl
                      have v3 := (hp 3 rfl).2.1
                      have f6 : f 6 = Value.pointer (some ⟨gx, 2, none⟩) := (hp 6 rfl).2.1
                      have e96 : A.tmps.getD 96 undef = Value.pointer (some ⟨gx, 2, none⟩) := ((hp 6 rfl).2.2 96 rfl).trans f6
                      obtain ⟨hb7, ho7⟩ := hG.fb (hp 3 rfl).1 hL
                      have hob7 := (HC.out.wd.below (Below.refl _ _).drew).obj.below hb7 (by exact HC.out.wd.obj.lt)
                      have hcc := hob7.cell (i := 2) rfl
                      have hff := hob7.frz 2
                      have hfe : ∃ v, f 3 = v := ⟨_, rfl⟩
                      obtain ⟨v3, hv3⟩ := hfe
                      rw [hv3] at e93 ho7
                      obtain ⟨A9, c9, rfl, _⟩ := own_rc ho7
                      clear hlow hun hnl hp
                      refine wpOp_go rfl rfl ?_
                      go_simp
                      first | exact ⟨_, rfl, ⟨fun _ h => by simp at h, fun _ h => by simp at h, fun _ => ⟨w6, _, hb7, ho7, rfl⟩⟩, ⟨⟩, trivial⟩ | exact ⟨undef, ⟨fun _ h => by simp at h, fun _ h => by simp at h, fun _ => ⟨w6, _, hb7, ho7, rfl⟩⟩, ⟨⟩, trivial⟩
                  case fin =>
                    intro L f w8 hLL hG hV
                    obtain ⟨w7, v7, hb7, ho7, he7⟩ := hG.fc (hLL 7 (by simp))
                    obtain ⟨K8, c8, hw8, hs8, _⟩ := seal_end (HC.out.wd.below (Below.refl _ _).drew) hb7 (i := 0) (by decide) (v := v7) ho7
                    rw [cp3_step0] at hw8
                    have HN : Hd (Cp3 w s gx (0 + 1) K8 c8 w8) := ⟨by rw [he7]; exact hw8, by rw [he7]; exact (HC.out.bel.trans ((Below.refl _ wr).drew.mono HC.out.bel.size)).trans (hs8.below (by exact HC.out.bel.size) HC.out.own), by have := own_step HC.out.own HC.out.bel.size ((Stp.of_below ((Below.refl _ wr).drew)).trans hs8); exact this⟩
                    clear hG hV hLL hb7 ho7 he7 hw8 hs8
                    simp only [fillD, Act.put, List.setIfInBounds_toArray, List.set_cons_zero, List.set_cons_succ]
                    go_wp2_with fail
                    go_roundw
                    case rel => exact ⟨0 + 1, rfl, by decide, _, _, HN⟩
                    case measure => simp [intOf]
              · by_cases h0 : s.s1 = []
                · have hst : cp3 s 1 = cp3 s (1 + 1) := cp3_skip1 s h0
                  have HN : Hd (Cp3 w s gx (1 + 1) J1 d1 wr) := ⟨by rw [← hst]; exact HC.out.wd, HC.out.bel, HC.out.own⟩
                  have hl0 : s.s1.length = 0 := by rw [h0]; rfl
                  clear h0 hst
                  go_wp2_with fail
                  go_roundw
                  case rel => exact ⟨1 + 1, rfl, by decide, _, _, HN⟩
                  case measure => simp [intOf]
                · have hl0 : (s.s1.length == 0) = false := by rw [beq_eq_false_iff_ne]; exact fun e => h0 (List.length_eq_zero_iff.1 e)
                  have hl1 : ((s.s1.length : Int) == 0) = false := by rw [beq_eq_false_iff_ne]; intro e; exact h0 (List.length_eq_zero_iff.1 (by omega))
                  have HRW : Hd (Rc w c.A1 (bs s.s1)) := ⟨HW.out.q1.rc⟩
                  have HCP : Hd (s.s1.length ≤ c.c1) := ⟨HW.out.q1.cap⟩
                  have HSN : Hd (s.s1.length ≤ 1099511627776) := ⟨HF.out.s1⟩
                  have HWB : Hd (Below w.heap.size w wr) := ⟨HC.out.bel⟩
                  clear h0
                  go_wp2_with fail
                  refine region_stp (VS gx 3 1 c.A1 s.s1.length c.c1) (GS wr.drew gx 3 s.s1) NoR (by kernel_rfl) (by kernel_rfl) (by kernel_rfl) (by kernel_rfl) (fun _ => ⟨fun _ _ => rfl, nofun, nofun⟩) ?stab ?steps ?fin
                  case stab => intro i j w1 w2 v o ho hij hwt hR h; exact h
                  case steps =>
                    refine StepsG.cons ?_ (StepsG.cons ?_ (StepsG.cons ?_ (StepsG.cons ?_ (StepsG.cons ?_ (StepsG.cons ?_ (StepsG.cons ?_ (StepsG.cons ?_ StepsG.nil)))))))
                    · intro L f A w6 Q hL hG hsz hlow hun hnl hp
                      have e3 : A.tmps.getD 3 undef = Value.pointer (some ⟨gx, 0, none⟩) := hlow 3 rfl
                      clear hlow hun hnl hp
                      refine wpOp_go rfl rfl ?_
                      go_simp
                      first | exact ⟨_, rfl, hG.past 0 _ (by decide) (by decide), ⟨⟩, rfl⟩ | exact ⟨hG.past 0 _ (by decide) (by decide), ⟨⟩, rfl⟩ | exact ⟨hG.past 0 _ (by decide) (by decide), rfl⟩ | exact hG.past 0 _ (by decide) (by decide) | exact ⟨hG.past 0 _ (by decide) (by decide), ⟨⟩⟩ | exact ⟨_, rfl, hG.past 0 _ (by decide) (by decide), ⟨⟩, trivial⟩ | exact ⟨_, rfl, ⟨⟩, rfl⟩ | exact ⟨⟨⟩, rfl⟩
                    · intro L f A w6 Q hL hG hsz hlow hun hnl hp
                      have e9 : A.tmps.getD 9 undef = Value.int .i64 1 := hlow 9 rfl
                      clear hlow hun hnl hp
                      refine wpOp_go rfl rfl ?_
                      go_simp
                      first | exact ⟨_, rfl, hG.past 1 _ (by decide) (by decide), ⟨⟩, rfl⟩ | exact ⟨hG.past 1 _ (by decide) (by decide), ⟨⟩, rfl⟩ | exact ⟨hG.past 1 _ (by decide) (by decide), rfl⟩ | exact hG.past 1 _ (by decide) (by decide) | exact ⟨hG.past 1 _ (by decide) (by decide), ⟨⟩⟩ | exact ⟨_, rfl, hG.past 1 _ (by decide) (by decide), ⟨⟩, trivial⟩ | exact ⟨_, rfl, ⟨⟩, rfl⟩ | exact ⟨⟨⟩, rfl⟩
                    · intro L f A w6 Q hL hG hsz hlow hun hnl hp
                      have e10 : A.tmps.getD 10 undef = Value.slice c.A1 s.s1.length c.c1 := hlow 10 rfl
                      clear hlow hun hnl hp
                      refine wpOp_go rfl rfl ?_
                      go_simp
                      first | exact ⟨_, rfl, hG.past 2 _ (by decide) (by decide), ⟨⟩, rfl⟩ | exact ⟨hG.past 2 _ (by decide) (by decide), ⟨⟩, rfl⟩ | exact ⟨hG.past 2 _ (by decide) (by decide), rfl⟩ | exact hG.past 2 _ (by decide) (by decide) | exact ⟨hG.past 2 _ (by decide) (by decide), ⟨⟩⟩ | exact ⟨_, rfl, hG.past 2 _ (by decide) (by decide), ⟨⟩, trivial⟩ | exact ⟨_, rfl, ⟨⟩, rfl⟩ | exact ⟨⟨⟩, rfl⟩
                    · intro L f A w6 Q hL hG hsz hlow hun hnl hp
                      have f2 : f 2 = Value.slice c.A1 s.s1.length c.c1 := (hp 2 rfl).2.1
                      have e92 : A.tmps.getD 92 undef = Value.slice c.A1 s.s1.length c.c1 := ((hp 2 rfl).2.2 92 rfl).trans f2
                      have n7 := (hnl 7 3 hL rfl)
                      obtain rfl := hG.fa hL n7
                      clear hlow hun hnl hp
                      refine wpOp_go rfl rfl (wp_app wr.drew.heap.size 22 5 (.int .u8 0) 1 1 (.const (.slice none 0 0)) (.tmp 92) rfl Try.underlying22 info_u8 rfl (by decide) (by decide) (.slice none 0 0) 0 [] (bs s.s1) c.A1 s.s1.length c.c1 rfl e92 (World.ownsRow_nil _ _ _ _) (HRW.out.below HWB.out.drew) (by rw [bs_len]; omega) bs_one (Nat.le_refl _) (by have := HSN.out; omega) s.s1.length (bs s.s1) (by omega) (by simp) ?_)
                      intro v1 w7 ho hg hat
                      exact ⟨v1, rfl, ⟨fun h => by simp at h, fun _ _ => ⟨below_nil hg, by rw [upd_same]; exact ho⟩, fun h => by simp [n7] at h⟩, ⟨⟩, trivial⟩
                    · intro L f A w6 Q hL hG hsz hlow hun hnl hp
                      have f0 : f 0 = Value.pointer (some ⟨gx, 0, none⟩) := (hp 0 rfl).2.1
                      have e90 : A.tmps.getD 90 undef = Value.pointer (some ⟨gx, 0, none⟩) := ((hp 0 rfl).2.2 90 rfl).trans f0
                      clear hlow hun hnl hp
                      refine wpOp_go rfl rfl ?_
                      go_simp
                      first | exact ⟨_, rfl, hG.past 4 _ (by decide) (by decide), ⟨⟩, rfl⟩ | exact ⟨hG.past 4 _ (by decide) (by decide), ⟨⟩, rfl⟩ | exact ⟨hG.past 4 _ (by decide) (by decide), rfl⟩ | exact hG.past 4 _ (by decide) (by decide) | exact ⟨hG.past 4 _ (by decide) (by decide), ⟨⟩⟩ | exact ⟨_, rfl, hG.past 4 _ (by decide) (by decide), ⟨⟩, trivial⟩ | exact ⟨_, rfl, ⟨⟩, rfl⟩ | exact ⟨⟨⟩, rfl⟩
                    · intro L f A w6 Q hL hG hsz hlow hun hnl hp
                      have f4 : f 4 = Value.pointer (some ⟨gx, 0, none⟩) := (hp 4 rfl).2.1
                      have e94 : A.tmps.getD 94 undef = Value.pointer (some ⟨gx, 0, none⟩) := ((hp 4 rfl).2.2 94 rfl).trans f4
                      clear hlow hun hnl hp
                      refine wpOp_go rfl rfl ?_
                      go_simp
                      first | exact ⟨_, rfl, hG.past 5 _ (by decide) (by decide), ⟨⟩, rfl⟩ | exact ⟨hG.past 5 _ (by decide) (by decide), ⟨⟩, rfl⟩ | exact ⟨hG.past 5 _ (by decide) (by decide), rfl⟩ | exact hG.past 5 _ (by decide) (by decide) | exact ⟨hG.past 5 _ (by decide) (by decide), ⟨⟩⟩ | exact ⟨_, rfl, hG.past 5 _ (by decide) (by decide), ⟨⟩, trivial⟩ | exact ⟨_, rfl, ⟨⟩, rfl⟩ | exact ⟨⟨⟩, rfl⟩
                    · intro L f A w6 Q hL hG hsz hlow hun hnl hp
                      have f1 : f 1 = Value.int .i64 1 := (hp 1 rfl).2.1
                      have e91 : A.tmps.getD 91 undef = Value.int .i64 1 := ((hp 1 rfl).2.2 91 rfl).trans f1
                      have f5 : f 5 = Value.pointer (some ⟨gx, 2, none⟩) := (hp 5 rfl).2.1
                      have e95 : A.tmps.getD 95 undef = Value.pointer (some ⟨gx, 2, none⟩) := ((hp 5 rfl).2.2 95 rfl).trans f5
                      clear hlow hun hnl hp
                      refine wpOp_go rfl rfl ?_
                      go_simp
                      first | exact ⟨_, rfl, hG.past 6 _ (by decide) (by decide), ⟨⟩, rfl⟩ | exact ⟨hG.past 6 _ (by decide) (by decide), ⟨⟩, rfl⟩ | exact ⟨hG.past 6 _ (by decide) (by decide), rfl⟩ | exact hG.past 6 _ (by decide) (by decide) | exact ⟨hG.past 6 _ (by decide) (by decide), ⟨⟩⟩ | exact ⟨_, rfl, hG.past 6 _ (by decide) (by decide), ⟨⟩, trivial⟩ | exact ⟨_, rfl, ⟨⟩, rfl⟩ | exact ⟨⟨⟩, rfl⟩
                    · intro L f A w6 Q hL hG hsz hlow hun hnl hp
                      have e93 : A.tmps.getD 93 undef = f 3 := (hp 3 rfl).2.2 93 rfl
                      have v3 := (hp 3 rfl).2.1
                      have f6 : f 6 = Value.pointer (some ⟨gx, 3, none⟩) := (hp 6 rfl).2.1
                      have e96 : A.tmps.getD 96 undef = Value.pointer (some ⟨gx, 3, none⟩) := ((hp 6 rfl).2.2 96 rfl).trans f6
                      obtain ⟨hb7, ho7⟩ := hG.fb (hp 3 rfl).1 hL
                      have hob7 := (HC.out.wd.below (Below.refl _ _).drew).obj.below hb7 (by exact HC.out.wd.obj.lt)
                      have hcc := hob7.cell (i := 3) rfl
                      have hff := hob7.frz 3
                      have hfe : ∃ v, f 3 = v := ⟨_, rfl⟩
                      obtain ⟨v3, hv3⟩ := hfe
                      rw [hv3] at e93 ho7
                      obtain ⟨A9, c9, rfl, _⟩ := own_rc ho7
                      clear hlow hun hnl hp
                      refine wpOp_go rfl rfl ?_
                      go_simp
                      first | exact ⟨_, rfl, ⟨fun _ h => by simp at h, fun _ h => by simp at h, fun _ => ⟨w6, _, hb7, ho7, rfl⟩⟩, ⟨⟩, trivial⟩ | exact ⟨undef, ⟨fun _ h => by simp at h, fun _ h => by simp at h, fun _ => ⟨w6, _, hb7, ho7, rfl⟩⟩, ⟨⟩, trivial⟩
                  case fin =>
                    intro L f w8 hLL hG hV
                    obtain ⟨w7, v7, hb7, ho7, he7⟩ := hG.fc (hLL 7 (by simp))
                    obtain ⟨K8, c8, hw8, hs8, _⟩ := seal_end (HC.out.wd.below (Below.refl _ _).drew) hb7 (i := 1) (by decide) (v := v7) ho7
                    rw [cp3_step1] at hw8
                    have HN : Hd (Cp3 w s gx (1 + 1) K8 c8 w8) := ⟨by rw [he7]; exact hw8, by rw [he7]; exact (HC.out.bel.trans ((Below.refl _ wr).drew.mono HC.out.bel.size)).trans (hs8.below (by exact HC.out.bel.size) HC.out.own), by have := own_step HC.out.own HC.out.bel.size ((Stp.of_below ((Below.refl _ wr).drew)).trans hs8); exact this⟩
                    clear hG hV hLL hb7 ho7 he7 hw8 hs8
                    simp only [fillD, Act.put, List.setIfInBounds_toArray, List.set_cons_zero, List.set_cons_succ]
                    go_wp2_with fail
                    go_roundw
                    case rel => exact ⟨1 + 1, rfl, by decide, _, _, HN⟩
                    case measure => simp [intOf]
              · clear hx0 hx1
                go_wp2_with fail
                dsimp only [Exit.noGoto]
                go_ret
                refine ⟨gx, J1, d1, rfl, ?_, HC.out.bel, HC.out.own⟩
                have h3 := HC.out.wd
                rw [cp3_all] at h3
                exact h3
          · intro k v w3 cnt' hlk hfv hrg hlt hT hen
            have hfv : (c.L k).map (lieV s k) = some v := hfv
            obtain ⟨x, hcx, rfl⟩ := Option.map_eq_some_iff.1 hfv
            obtain ⟨l, hl, hrow⟩ := HW.out.hl k x hcx
            have hlv : lieV s k x = .slice x.1 l.length x.2 := by unfold lieV; rw [hl]; rfl
            rw [hlv] at hen ⊢
            have HL := Hd.mk hl
            have HROW := Hd.mk hrow
            have HRG := Hd.mk hrg
            have HLT := Hd.mk hlt
            have HTT := Hd.mk hT
            clear hlk hfv hrg hlt hT hcx hlv hl hrow hnx q2 q3
            unfold i64v at hen ⊢
            go_wp2_with (go_at_call 14
                         refine (lie_calls (HC.out.next HTT.out).1 k x.1 l.length x.2 l (HROW.out.rc.below (HC.out.next HTT.out).2) rfl (HF.out.lies k l HL.out)).mono ?_
                         rintro e w4 ⟨rfl, K4, c4, hw4, hs4, _⟩
                         have HC4 := Hd.mk (HC.out.step HW.out HL.out HTT.out HRG.out hw4 hs4)
                         clear hw4 hs4)
            go_roundw
            case rel => exact ⟨_, _, K4, c4, HC4⟩
            case measure => rw [HC4.out.rg.left_eq, HC.out.rg.left_eq]; exact HLT.out
      · intro k v w1 cnt' hlk hfv hrg hlt hT hen
        have hfv : (c.F k).map (fun b => Value.pointer (some ⟨b, 0, none⟩)) = some v := hfv
        obtain ⟨b, hcb, rfl⟩ := Option.map_eq_some_iff.1 hfv
        have HLK := Hd.mk hlk
        have HRG := Hd.mk hrg
        have HLT := Hd.mk hlt
        have HTT := Hd.mk hT
        have hnx' := HC.out.next hT
        have HB1 := Hd.mk hnx'.2
        have HAB : Hd (Blk w1 b 96 (bs (s.slots k))) := ⟨(HW.out.hs k b hcb).2.below hnx'.2 (HW.out.hs k b hcb).2.lt⟩
        have HKL : Hd ((s.slots k).length = 272) := ⟨HW.out.len k⟩
        clear hlk hfv hrg hlt hT hnx' hcb q5 HML hnx hrl
        obtain ⟨ka, kb⟩ := k
        have hz1 : (w1.alloc (.cells #[.int .i64 ka, .int .i64 kb] 95)).heap.size = w1.heap.size + 1 := by simp
        obtain ⟨w2, he2, hb2, hk2, hz2⟩ := arr_made (w1.alloc (.cells #[.int .i64 ka, .int .i64 kb] 95)) 96 (bs nought) (bs (s.slots (ka, kb))) (by rw [bs_len, bs_len, nought_len, HKL.out])
        have hbw : Below w1.heap.size w1 w2 := below_then ((Below.refl _ w1).alloc (Nat.le_refl _) _) (by simp) hb2
        have hbox : Blk w2 w1.heap.size 95 [.int .i64 ka, .int .i64 kb] := (Blk.new w1 95 [.int .i64 ka, .int .i64 kb]).below hb2 (by simp)
        rw [hz1] at he2 hk2
        obtain ⟨w3, hu, J3, d3, hC3⟩ := HC.out.step HW.out HLK.out HTT.out HRG.out (w2 := w2.drew) (hbw.drew) (n := w1.heap.size + 1) (by omega) hk2
        have HE2 := Hd.mk he2
        have HU := Hd.mk hu
        have HC3 := Hd.mk hC3
        have HBX := Hd.mk hbox
        have HAB2 := Hd.mk (HAB.out.alloc (.cells #[.int .i64 ka, .int .i64 kb] 95))
        have HKN : Hd (Blk ((w1.alloc (.cells #[.int .i64 ka, .int .i64 kb] 95)).alloc (.cells (bs nought).toArray 96)) (w1.heap.size + 1) 96 (bs nought)) := ⟨by rw [← hz1]; exact Blk.new _ _ _⟩
        have hwd2 := ((HC.out.next HTT.out).1.below hbw).below ((Below.refl _ w2).drew)
        have HR1 : Hd (w2.drew.cell? ⟨gx, 1, none⟩ = some (.map (some d1.rs))) := ⟨hwd2.obj.cell (i := 1) rfl⟩
        clear he2 hu hC3 hbox hb2 hbw hk2 hz2 hz1 hwd2
        have hz96 := fun W => run_zero_of arr_zero W
        unfold pkey at hen ⊢
        go_wp2_with (first
          | (refine wpList_load_row rfl 96 (.tmp 58) rfl b rfl 96 (bs (s.slots (ka, kb))).toArray (0, 0) _ HAB2.out Try.underlying96 rfl (arr_size' HKL.out) ?_)
          | (refine wpList_store_row rfl 96 (.tmp 6) (.tmp 59) rfl (w1.heap.size + 1) (bs (s.slots (ka, kb))).toArray rfl rfl 96 (bs nought).toArray HKN.out (arr_size' HKL.out) (by rw [List.size_toArray, List.size_toArray, bs_len, bs_len, nought_len, HKL.out]) (bs_all _) ?_; rw [HE2.out]))
        refine region_stp (VK gx d1.rs ka kb) (fun L W _ => G1 5 w2.drew w3 L W) NoR (by kernel_rfl) (by kernel_rfl) (by kernel_rfl) (by kernel_rfl) (fun _ => ⟨fun _ => rfl, nofun⟩) ?stab ?steps ?fin
        case stab => intro i j w1 w2 v o ho hij hwt hR h; exact h
        case steps =>
          refine StepsG.cons ?_ (StepsG.cons ?_ (StepsG.cons ?_ (StepsG.cons ?_ (StepsG.cons ?_ (StepsG.cons ?_ StepsG.nil)))))
          · intro L f A w6 Q hL hG hsz hlow hun hnl hp
            have e3 : A.tmps.getD 3 undef = Value.pointer (some ⟨gx, 0, none⟩) := hlow 3 rfl
            clear hlow hun hnl hp
            refine wpOp_go rfl rfl ?_
            go_simp
            first | exact ⟨_, rfl, hG.past 0 (by decide), ⟨⟩, rfl⟩ | exact ⟨hG.past 0 (by decide), ⟨⟩, rfl⟩ | exact ⟨hG.past 0 (by decide), rfl⟩ | exact hG.past 0 (by decide) | exact ⟨hG.past 0 (by decide), ⟨⟩⟩ | exact ⟨_, rfl, hG.past 0 (by decide), ⟨⟩, trivial⟩ | exact ⟨_, rfl, ⟨⟩, rfl⟩ | exact ⟨⟨⟩, rfl⟩
          · intro L f A w6 Q hL hG hsz hlow hun hnl hp
            have f0 : f 0 = Value.pointer (some ⟨gx, 0, none⟩) := (hp 0 rfl).2.1
            have e60 : A.tmps.getD 60 undef = Value.pointer (some ⟨gx, 0, none⟩) := ((hp 0 rfl).2.2 60 rfl).trans f0
            clear hlow hun hnl hp
            refine wpOp_go rfl rfl ?_
            go_simp
            first | exact ⟨_, rfl, hG.past 1 (by decide), ⟨⟩, rfl⟩ | exact ⟨hG.past 1 (by decide), ⟨⟩, rfl⟩ | exact ⟨hG.past 1 (by decide), rfl⟩ | exact hG.past 1 (by decide) | exact ⟨hG.past 1 (by decide), ⟨⟩⟩ | exact ⟨_, rfl, hG.past 1 (by decide), ⟨⟩, trivial⟩ | exact ⟨_, rfl, ⟨⟩, rfl⟩ | exact ⟨⟨⟩, rfl⟩
          · intro L f A w6 Q hL hG hsz hlow hun hnl hp
            have f1 : f 1 = Value.pointer (some ⟨gx, 0, none⟩) := (hp 1 rfl).2.1
            have e61 : A.tmps.getD 61 undef = Value.pointer (some ⟨gx, 0, none⟩) := ((hp 1 rfl).2.2 61 rfl).trans f1
            clear hlow hun hnl hp
            refine wpOp_go rfl rfl ?_
            go_simp
            first | exact ⟨_, rfl, hG.past 2 (by decide), ⟨⟩, rfl⟩ | exact ⟨hG.past 2 (by decide), ⟨⟩, rfl⟩ | exact ⟨hG.past 2 (by decide), rfl⟩ | exact hG.past 2 (by decide) | exact ⟨hG.past 2 (by decide), ⟨⟩⟩ | exact ⟨_, rfl, hG.past 2 (by decide), ⟨⟩, trivial⟩ | exact ⟨_, rfl, ⟨⟩, rfl⟩ | exact ⟨⟨⟩, rfl⟩
          · intro L f A w6 Q hL hG hsz hlow hun hnl hp
            have f2 : f 2 = Value.pointer (some ⟨gx, 1, none⟩) := (hp 2 rfl).2.1
            have e62 : A.tmps.getD 62 undef = Value.pointer (some ⟨gx, 1, none⟩) := ((hp 2 rfl).2.2 62 rfl).trans f2
            have n5 := (hnl 5 3 hL rfl)
            have hcc : w6.cell? ⟨gx, 1, none⟩ = some (.map (some d1.rs)) := by rw [hG.a n5]; exact HR1.out
            clear hlow hun hnl hp
            refine wpOp_go rfl rfl ?_
            go_simp
            first | exact ⟨_, rfl, hG.past 3 (by decide), ⟨⟩, rfl⟩ | exact ⟨hG.past 3 (by decide), ⟨⟩, rfl⟩ | exact ⟨hG.past 3 (by decide), rfl⟩ | exact hG.past 3 (by decide) | exact ⟨hG.past 3 (by decide), ⟨⟩⟩ | exact ⟨_, rfl, hG.past 3 (by decide), ⟨⟩, trivial⟩ | exact ⟨_, rfl, ⟨⟩, rfl⟩ | exact ⟨⟨⟩, rfl⟩
          · intro L f A w6 Q hL hG hsz hlow hun hnl hp
            have e4 : A.tmps.getD 4 undef = Value.pointer (some ⟨w1.heap.size, 0, none⟩) := hlow 4 rfl
            have n5 := (hnl 5 4 hL rfl)
            have hk0 : w6.cell? ⟨w1.heap.size, 0, none⟩ = some (.int .i64 ka) := by rw [hG.a n5]; exact (HBX.out.drew).cell (i := 0) rfl
            have hk1 : w6.cell? ⟨w1.heap.size, 1, none⟩ = some (.int .i64 kb) := by rw [hG.a n5]; exact (HBX.out.drew).cell (i := 1) rfl
            clear hlow hun hnl hp
            refine wpOp_go rfl rfl ?_
            go_simp
            first | exact ⟨_, rfl, hG.past 4 (by decide), ⟨⟩, rfl⟩ | exact ⟨hG.past 4 (by decide), ⟨⟩, rfl⟩ | exact ⟨hG.past 4 (by decide), rfl⟩ | exact hG.past 4 (by decide) | exact ⟨hG.past 4 (by decide), ⟨⟩⟩ | exact ⟨_, rfl, hG.past 4 (by decide), ⟨⟩, trivial⟩ | exact ⟨_, rfl, ⟨⟩, rfl⟩ | exact ⟨⟨⟩, rfl⟩
          · intro L f A w6 Q hL hG hsz hlow hun hnl hp
            have e6 : A.tmps.getD 6 undef = Value.pointer (some ⟨w1.heap.size + 1, 0, none⟩) := hlow 6 rfl
            have f3 : f 3 = Value.map (some d1.rs) := (hp 3 rfl).2.1
            have e63 : A.tmps.getD 63 undef = Value.map (some d1.rs) := ((hp 3 rfl).2.2 63 rfl).trans f3
            have f4 : f 4 = Value.agg #[.int .i64 ka, .int .i64 kb] := (hp 4 rfl).2.1
            have e64 : A.tmps.getD 64 undef = Value.agg #[.int .i64 ka, .int .i64 kb] := ((hp 4 rfl).2.2 64 rfl).trans f4
            obtain rfl := hG.a hL
            clear hlow hun hnl hp
            refine wpOp_go rfl rfl (wp_mup 64 (.tmp 63) (.tmp 64) (.tmp 6) rfl w3 ?_ ⟨_, rfl, ⟨fun h => by simp at h, fun _ => rfl⟩, ⟨⟩, trivial⟩)
            show (Instr.mapUpdate _ (A.tmps.getD 63 undef) (A.tmps.getD 64 undef) (A.tmps.getD 6 undef)).run _ _ = _
            rw [e63, e64, e6]
            exact HU.out
        case fin =>
          intro L f w8 hLL hG hV
          obtain rfl := hG.b (hLL 5 (by simp))
          clear hG hV hLL HU
          simp only [fillD, Act.put, List.setIfInBounds_toArray, List.set_cons_zero, List.set_cons_succ]
          go_wp2_with (fail)
          go_roundw
          case rel => exact ⟨_, _, J3, d3, HC3⟩
          case measure => rw [HC3.out.rg.left_eq, HC.out.rg.left_eq]; exact HLT.out
end
end Go.Proofs.Ytffhncpgknkkaaa
/-! from W06Step -/
namespace Go.Proofs.Ytffhncpgknkkaaa
open Go.RowKit Go.Sac
set_option linter.unusedVariables false
set_option linter.unusedSimpArgs false
theorem results_cell_slots2 {P : Program} {fn : Func} {p q r : Tmp} {ty : TypeId} (h : fn.results = #[.cell p ty, .tmp q, .tmp r]) (tmps : Array Value) (w : World) (g : Nat) (v1 v2 v3 : Value)
    (hp : tmps.getD p undef = .pointer (some ⟨g, 0, none⟩)) (hq : tmps.getD q undef = v2) (hr : tmps.getD r undef = v3) (h1 : (loadVar ty ⟨g, 0, none⟩).run P w = .ok v1 w) :
    (results fn tmps).run P w = .ok (.tuple #[v1, v2, v3]) w := by
  have hp' : tmps[p]?.getD undef = .pointer (some ⟨g, 0, none⟩) := by simpa using hp
  have hq' : tmps[q]?.getD undef = v2 := by simpa using hq
  have hr' : tmps[r]?.getD undef = v3 := by simpa using hr
  simp only [results, h]
  simp [Sem.run_bind, Result.andThen, hp', hq', hr', asAddr, h1]
/-- what one thing makes of a world; what is told: bytes -/
def stepP (s : Wd) (k a t n : Int) (b : List UInt8) : Wd := if k = 9 then setP s (IntKind.u64.wrap n) else doP s k a t n b
def stepB (s : Wd) (k a t : Int) : List UInt8 := if k = 1 then readB s a t else if k = 3 then lookB s a else []
theorem Tm.more {w : World} {K : Nat → Nat} {q : Nat} {x : Td} {s : Wd} (h : Tm w K q x s) : Tm w K (q + 1) x s := { h with lq := Nat.le_succ_of_le h.lq }
theorem nil_fr (w : World) (K : Nat → Nat) : Fr w K none [] := ⟨Rc.nil _ _, fun _ e _ => by cases e⟩
/-- told of a step -/
def RetS (K : Nat → Nat) (q : Nat) (s : Wd) (b : List UInt8) (r : Bool) (w : World) (e : Ending) (w' : World) : Prop := ∃ x A c, e = .returned (.tuple #[.agg x.cells.toArray, .slice A b.length c, .bool r]) ∧ Tm w' K (q + 1) x s ∧ Fr w' K A b ∧ b.length ≤ c ∧ Below w.heap.size w w'
/-- three boxes: the T's, the Do's, the result's -/
structure B3 (w : World) (X Y : List Value) (W : World) : Prop where
  bel : Below w.heap.size w W
  b0 : Blk W w.heap.size 56 X
  bd : Blk W (w.heap.size + 1) 44 Y
  b1 : Blk W (w.heap.size + 2) 56 zT
theorem B3.below {w W W' : World} {X Y : List Value} (h : B3 w X Y W) (hb : Below W.heap.size W W') : B3 w X Y W' := ⟨below_then h.bel h.bel.size hb, h.b0.below hb h.b0.lt, h.bd.below hb h.bd.lt, h.b1.below hb h.b1.lt⟩
theorem B3.set {w W : World} {X Y : List Value} (h : B3 w X Y W) (i : Nat) (v : Value) : B3 w (X.set i v) Y (W.setCell ⟨w.heap.size, i, none⟩ v) :=
  ⟨h.bel.setCell (Nat.le_refl _) _, h.b0.set i v, h.bd.far (p := ⟨w.heap.size, i, none⟩) (by show w.heap.size + 1 ≠ w.heap.size; omega) v, h.b1.far (p := ⟨w.heap.size, i, none⟩) (by show w.heap.size + 2 ≠ w.heap.size; omega) v⟩
theorem B3.row {w W : World} {X Y : List Value} (h : B3 w X Y W) (cs : Array Value) : Below w.heap.size w (W.setRow (w.heap.size + 2) cs) := below_row h.bel (by omega) cs
theorem three_boxes (w : World) (X Y : List Value) : ∃ W, ((w.alloc (.cells X.toArray 56)).alloc (.cells Y.toArray 44)).alloc (.cells #[.int .i64 0, .slice none 0 0, .slice none 0 0, .int .u64 0, .slice none 0 0, .int .i64 0, .bool false, .int .i64 0, .bool false, .slice none 0 0] 56) = W ∧ B3 w X Y W ∧ W.heap.size = w.heap.size + 3 := by
  refine ⟨_, rfl, ⟨(((Below.refl w.heap.size w).alloc (Nat.le_refl _) _).alloc (by simp) _).alloc (by simp; omega) _, ((Blk.new w _ _).alloc _).alloc _, ?_, ?_⟩, by simp⟩
  · have : (w.alloc (.cells X.toArray 56)).heap.size = w.heap.size + 1 := by simp
    rw [← this]
    exact (Blk.new _ _ _).alloc _
  · have : ((w.alloc (.cells X.toArray 56)).alloc (.cells Y.toArray 44)).heap.size = w.heap.size + 2 := by simp
    rw [← this]
    exact Blk.new _ _ zT
theorem boxed3 {w W : World} {K : Nat → Nat} (hb : Below w.heap.size w W) (hz : W.heap.size = w.heap.size + 3) (hK : ∀ k, w.heap.size ≤ k → K k = 0) :
    ∃ K3 : Nat → Nat, (∀ k, K3 k = 0 → K k = 0) ∧ K3 w.heap.size ≠ 0 ∧ K3 (w.heap.size + 1) ≠ 0 ∧ K3 (w.heap.size + 2) ≠ 0 ∧ (∀ k, W.heap.size ≤ k → K3 k = 0) ∧ Stp K K3 w W := by
  refine ⟨fun k => if k = w.heap.size ∨ k = w.heap.size + 1 ∨ k = w.heap.size + 2 then 1 else K k, fun k hk => ?_, by simp, by simp, by simp, fun k hk => ?_, Stp.into hb fun k hk => if_neg (by omega)⟩
  · by_cases e : k = w.heap.size ∨ k = w.heap.size + 1 ∨ k = w.heap.size + 2
    · simp [e] at hk
    · simpa [e] using hk
  · show (if k = w.heap.size ∨ k = w.heap.size + 1 ∨ k = w.heap.size + 2 then 1 else K k) = 0
    rw [if_neg (by omega)]
    exact hK k (by omega)
section
variable {w : World} {K : Nat → Nat} {q : Nat} {x : Td} {s : Wd}
set_option maxRecDepth 100000 in
set_option maxHeartbeats 8000000 in
theorem rstep1 (h : Tm w K q x s) (hK : ∀ k, w.heap.size ≤ k → K k = 0) (hq : q ≤ 1000000) (hf : Few s) (a t n : Int) (AB : Option Addr) (bb : List UInt8) (cap : Nat) (hr : Fr w K AB bb) (hc : bb.length ≤ cap) (hn : bb.length ≤ 1099511627776) :
    Calls Try.prog 29 #[.agg x.cells.toArray, .agg #[.int .i64 1, .int .i64 a, .int .i64 t, .int .i64 n, .slice AB bb.length cap]] w (RetS K q (stepP s 1 a t n bb) (stepB s 1 a t) (doR s 1 a t bb) w) := by
  have HQ := Hd.mk hq
  have HFW := Hd.mk hf
  have HCB := Hd.mk hc
  have HNB := Hd.mk hn
  obtain ⟨blocks, AS, sS, cS, AQ, sQ, cQ, counter, AL, sL, cL, reads, armed, power, dead, AT, sT, cT⟩ := x
  have HX := Hd.mk h
  unfold Td.cells
  dsimp only
  obtain ⟨W, hW, hb3, hz⟩ := three_boxes w [.int .i64 blocks, .slice AS sS.length cS, .slice AQ sQ.length cQ, .int .u64 counter, .slice AL sL.length cL, .int .i64 reads, .bool armed, .int .i64 power, .bool dead, .slice AT sT.length cT] [.int .i64 1, .int .i64 a, .int .i64 t, .int .i64 n, .slice AB bb.length cap]
  have HBX := Hd.mk hb3
  obtain ⟨K3, hl3, ht0, _, ht3, hh3, hs3⟩ := boxed3 hb3.bel hz hK
  have HX3 := Hd.mk (h.step hs3)
  have HFB3 := Hd.mk (hr.step hs3)
  have HL3 := Hd.mk hl3
  have HT0 := Hd.mk ht0
  have HT3 := Hd.mk ht3
  have HK3 := Hd.mk hh3
  have d0 := HBX.out.bd.cell (i := 0) rfl
  have d1 := HBX.out.bd.cell (i := 1) rfl
  have d2 := HBX.out.bd.cell (i := 2) rfl
  have d3 := HBX.out.bd.cell (i := 3) rfl
  have d4 := HBX.out.bd.cell (i := 4) rfl
  clear hb3 hz hK hr hc hn hq hf hl3 ht0 ht3 hh3 hs3 h
  go_enter Try.func29, Try.ntmps29
  go_wp2_with (first
  | (go_at_call 41
     refine (rread_calls HX3.out HK3.out HQ.out HFW.out a t).mono ?_
     rintro e w1 ⟨x1, A7, c7, rfl, h1, hf7, hc7, hb1⟩
     obtain ⟨w2, hw2, K4, g1, g2, g3, g4, g5, g6, g7, g8⟩ := box_made (w := w1) (K := K3) (fun k hk => HK3.out k (Nat.le_trans hb1.size hk)) x1
     have HW2 := Hd.mk hw2
     have HX2 := Hd.mk (h1.step g4)
     have HBK := Hd.mk g5
     have HF7 := Hd.mk ((hf7.step g4).step (boxed_end (fun k hk => HL3.out k (g1 k hk)) (fun e => HT3.out (g1 _ e)) w2 x1.cells.toArray))
     have HC7 := Hd.mk hc7
     have HL4 : Hd (∀ k, K4 k = 0 → K k = 0) := ⟨fun k hk => HL3.out k (g1 k hk)⟩
     have HT4 : Hd (K4 (w.heap.size + 2) ≠ 0) := ⟨fun e => HT3.out (g1 _ e)⟩
     have HBX := Hd.mk ((HBX.out.below hb1).below g6)
     clear h1 hb1 hw2 g1 g2 g3 g4 g5 g6 g7 g8)
  | (refine wpList_load_row rfl 56 (.tmp 2) rfl w.heap.size rfl 56 _ (0, 0) _ HBX.out.b0 Try.underlying56 rfl t_info ?_)
  | (refine wpList_store_row rfl 56 (.tmp 7) (.tmp 29) rfl w1.heap.size x1.cells.toArray rfl rfl 56 zT.toArray (Blk.new w1 _ zT) t_info rfl (t_all x1) ?_; rw [HW2.out])
  | (refine wpList_load_row rfl 56 (.tmp 7) rfl w1.heap.size rfl 56 _ (0, 0) _ HBK.out Try.underlying56 rfl t_info ?_)
  | (refine wpList_store_row rfl 56 (.tmp 4) (.tmp 31) rfl (w.heap.size + 2) x1.cells.toArray rfl rfl 56 zT.toArray HBX.out.b1 t_info rfl (t_all x1) ?_))
  have hb4 := HBX.out.b1.putRow x1.cells
  have hst := boxed_end HL4.out HT4.out w2 x1.cells.toArray
  refine bodyPost_ret (results_cell_slots2 rfl _ _ (w.heap.size + 2) _ _ _ rfl rfl rfl (load_row hb4 Try.underlying56 rfl t_info)) rfl ?_
  exact ⟨x1, A7, c7, rfl, (HX2.out.step hst).more, HF7.out, HC7.out, HBX.out.row _⟩
set_option maxRecDepth 100000 in
set_option maxHeartbeats 8000000 in
theorem rstep2 (h : Tm w K q x s) (hK : ∀ k, w.heap.size ≤ k → K k = 0) (hq : q ≤ 1000000) (hf : Few s) (a t n : Int) (AB : Option Addr) (bb : List UInt8) (cap : Nat) (hr : Fr w K AB bb) (hc : bb.length ≤ cap) (hn : bb.length ≤ 1099511627776) :
    Calls Try.prog 29 #[.agg x.cells.toArray, .agg #[.int .i64 2, .int .i64 a, .int .i64 t, .int .i64 n, .slice AB bb.length cap]] w (RetS K q (stepP s 2 a t n bb) (stepB s 2 a t) (doR s 2 a t bb) w) := by
  have HQ := Hd.mk hq
  have HFW := Hd.mk hf
  have HCB := Hd.mk hc
  have HNB := Hd.mk hn
  obtain ⟨blocks, AS, sS, cS, AQ, sQ, cQ, counter, AL, sL, cL, reads, armed, power, dead, AT, sT, cT⟩ := x
  have HX := Hd.mk h
  unfold Td.cells
  dsimp only
  obtain ⟨W, hW, hb3, hz⟩ := three_boxes w [.int .i64 blocks, .slice AS sS.length cS, .slice AQ sQ.length cQ, .int .u64 counter, .slice AL sL.length cL, .int .i64 reads, .bool armed, .int .i64 power, .bool dead, .slice AT sT.length cT] [.int .i64 2, .int .i64 a, .int .i64 t, .int .i64 n, .slice AB bb.length cap]
  have HBX := Hd.mk hb3
  obtain ⟨K3, hl3, ht0, _, ht3, hh3, hs3⟩ := boxed3 hb3.bel hz hK
  have HX3 := Hd.mk (h.step hs3)
  have HFB3 := Hd.mk (hr.step hs3)
  have HL3 := Hd.mk hl3
  have HT0 := Hd.mk ht0
  have HT3 := Hd.mk ht3
  have HK3 := Hd.mk hh3
  have d0 := HBX.out.bd.cell (i := 0) rfl
  have d1 := HBX.out.bd.cell (i := 1) rfl
  have d2 := HBX.out.bd.cell (i := 2) rfl
  have d3 := HBX.out.bd.cell (i := 3) rfl
  have d4 := HBX.out.bd.cell (i := 4) rfl
  clear hb3 hz hK hr hc hn hq hf hl3 ht0 ht3 hh3 hs3 h
  go_enter Try.func29, Try.ntmps29
  go_wp2_with (first
  | (go_at_call 42
     refine (rwrite_calls HX3.out HK3.out HQ.out HFW.out a t AB _ cap bb HFB3.out rfl HCB.out HNB.out).mono ?_
     rintro e w1 ⟨x1, rfl, h1, hb1⟩
     obtain ⟨w2, hw2, K4, g1, g2, g3, g4, g5, g6, g7, g8⟩ := box_made (w := w1) (K := K3) (fun k hk => HK3.out k (Nat.le_trans hb1.size hk)) x1
     have HW2 := Hd.mk hw2
     have HX2 := Hd.mk (h1.step g4)
     have HBK := Hd.mk g5
     have HL4 : Hd (∀ k, K4 k = 0 → K k = 0) := ⟨fun k hk => HL3.out k (g1 k hk)⟩
     have HT4 : Hd (K4 (w.heap.size + 2) ≠ 0) := ⟨fun e => HT3.out (g1 _ e)⟩
     have HBX := Hd.mk ((HBX.out.below hb1).below g6)
     clear h1 hb1 hw2 g1 g2 g3 g4 g5 g6 g7 g8)
  | (refine wpList_load_row rfl 56 (.tmp 2) rfl w.heap.size rfl 56 _ (0, 0) _ HBX.out.b0 Try.underlying56 rfl t_info ?_)
  | (refine wpList_store_row rfl 56 (.tmp 9) (.tmp 44) rfl w1.heap.size x1.cells.toArray rfl rfl 56 zT.toArray (Blk.new w1 _ zT) t_info rfl (t_all x1) ?_; rw [HW2.out])
  | (refine wpList_load_row rfl 56 (.tmp 9) rfl w1.heap.size rfl 56 _ (0, 0) _ HBK.out Try.underlying56 rfl t_info ?_)
  | (refine wpList_store_row rfl 56 (.tmp 4) (.tmp 46) rfl (w.heap.size + 2) x1.cells.toArray rfl rfl 56 zT.toArray HBX.out.b1 t_info rfl (t_all x1) ?_))
  have hb4 := HBX.out.b1.putRow x1.cells
  have hst := boxed_end HL4.out HT4.out w2 x1.cells.toArray
  refine bodyPost_ret (results_cell_slots2 rfl _ _ (w.heap.size + 2) _ _ _ rfl rfl rfl (load_row hb4 Try.underlying56 rfl t_info)) rfl ?_
  exact ⟨x1, none, 0, rfl, (HX2.out.step hst).more, nil_fr _ _, Nat.le_refl _, HBX.out.row _⟩
set_option maxRecDepth 100000 in
set_option maxHeartbeats 8000000 in
theorem rstep3 (h : Tm w K q x s) (hK : ∀ k, w.heap.size ≤ k → K k = 0) (hq : q ≤ 1000000) (hf : Few s) (a t n : Int) (AB : Option Addr) (bb : List UInt8) (cap : Nat) (hr : Fr w K AB bb) (hc : bb.length ≤ cap) (hn : bb.length ≤ 1099511627776) :
    Calls Try.prog 29 #[.agg x.cells.toArray, .agg #[.int .i64 3, .int .i64 a, .int .i64 t, .int .i64 n, .slice AB bb.length cap]] w (RetS K q (stepP s 3 a t n bb) (stepB s 3 a t) (doR s 3 a t bb) w) := by
  have HQ := Hd.mk hq
  have HFW := Hd.mk hf
  have HCB := Hd.mk hc
  have HNB := Hd.mk hn
  obtain ⟨blocks, AS, sS, cS, AQ, sQ, cQ, counter, AL, sL, cL, reads, armed, power, dead, AT, sT, cT⟩ := x
  have HX := Hd.mk h
  unfold Td.cells
  dsimp only
  obtain ⟨W, hW, hb3, hz⟩ := three_boxes w [.int .i64 blocks, .slice AS sS.length cS, .slice AQ sQ.length cQ, .int .u64 counter, .slice AL sL.length cL, .int .i64 reads, .bool armed, .int .i64 power, .bool dead, .slice AT sT.length cT] [.int .i64 3, .int .i64 a, .int .i64 t, .int .i64 n, .slice AB bb.length cap]
  have HBX := Hd.mk hb3
  obtain ⟨K3, hl3, ht0, _, ht3, hh3, hs3⟩ := boxed3 hb3.bel hz hK
  have HX3 := Hd.mk (h.step hs3)
  have HFB3 := Hd.mk (hr.step hs3)
  have HL3 := Hd.mk hl3
  have HT0 := Hd.mk ht0
  have HT3 := Hd.mk ht3
  have HK3 := Hd.mk hh3
  have d0 := HBX.out.bd.cell (i := 0) rfl
  have d1 := HBX.out.bd.cell (i := 1) rfl
  have d2 := HBX.out.bd.cell (i := 2) rfl
  have d3 := HBX.out.bd.cell (i := 3) rfl
  have d4 := HBX.out.bd.cell (i := 4) rfl
  clear hb3 hz hK hr hc hn hq hf hl3 ht0 ht3 hh3 hs3 h
  go_enter Try.func29, Try.ntmps29
  go_wp2_with (first
  | (go_at_call 43
     refine (rlook_calls HX3.out HK3.out HQ.out HFW.out a).mono ?_
     rintro e w1 ⟨x1, A7, c7, rfl, h1, hf7, hc7, hb1⟩
     obtain ⟨w2, hw2, K4, g1, g2, g3, g4, g5, g6, g7, g8⟩ := box_made (w := w1) (K := K3) (fun k hk => HK3.out k (Nat.le_trans hb1.size hk)) x1
     have HW2 := Hd.mk hw2
     have HX2 := Hd.mk (h1.step g4)
     have HBK := Hd.mk g5
     have HF7 := Hd.mk ((hf7.step g4).step (boxed_end (fun k hk => HL3.out k (g1 k hk)) (fun e => HT3.out (g1 _ e)) w2 x1.cells.toArray))
     have HC7 := Hd.mk hc7
     have HL4 : Hd (∀ k, K4 k = 0 → K k = 0) := ⟨fun k hk => HL3.out k (g1 k hk)⟩
     have HT4 : Hd (K4 (w.heap.size + 2) ≠ 0) := ⟨fun e => HT3.out (g1 _ e)⟩
     have HBX := Hd.mk ((HBX.out.below hb1).below g6)
     clear h1 hb1 hw2 g1 g2 g3 g4 g5 g6 g7 g8)
  | (refine wpList_load_row rfl 56 (.tmp 2) rfl w.heap.size rfl 56 _ (0, 0) _ HBX.out.b0 Try.underlying56 rfl t_info ?_)
  | (refine wpList_store_row rfl 56 (.tmp 11) (.tmp 55) rfl w1.heap.size x1.cells.toArray rfl rfl 56 zT.toArray (Blk.new w1 _ zT) t_info rfl (t_all x1) ?_; rw [HW2.out])
  | (refine wpList_load_row rfl 56 (.tmp 11) rfl w1.heap.size rfl 56 _ (0, 0) _ HBK.out Try.underlying56 rfl t_info ?_)
  | (refine wpList_store_row rfl 56 (.tmp 4) (.tmp 57) rfl (w.heap.size + 2) x1.cells.toArray rfl rfl 56 zT.toArray HBX.out.b1 t_info rfl (t_all x1) ?_))
  have hb4 := HBX.out.b1.putRow x1.cells
  have hst := boxed_end HL4.out HT4.out w2 x1.cells.toArray
  refine bodyPost_ret (results_cell_slots2 rfl _ _ (w.heap.size + 2) _ _ _ rfl rfl rfl (load_row hb4 Try.underlying56 rfl t_info)) rfl ?_
  exact ⟨x1, A7, c7, rfl, (HX2.out.step hst).more, HF7.out, HC7.out, HBX.out.row _⟩
set_option maxRecDepth 100000 in
set_option maxHeartbeats 8000000 in
theorem rstep4 (h : Tm w K q x s) (hK : ∀ k, w.heap.size ≤ k → K k = 0) (hq : q ≤ 1000000) (hf : Few s) (a t n : Int) (AB : Option Addr) (bb : List UInt8) (cap : Nat) (hr : Fr w K AB bb) (hc : bb.length ≤ cap) (hn : bb.length ≤ 1099511627776) :
    Calls Try.prog 29 #[.agg x.cells.toArray, .agg #[.int .i64 4, .int .i64 a, .int .i64 t, .int .i64 n, .slice AB bb.length cap]] w (RetS K q (stepP s 4 a t n bb) (stepB s 4 a t) (doR s 4 a t bb) w) := by
  have HQ := Hd.mk hq
  have HFW := Hd.mk hf
  have HCB := Hd.mk hc
  have HNB := Hd.mk hn
  obtain ⟨blocks, AS, sS, cS, AQ, sQ, cQ, counter, AL, sL, cL, reads, armed, power, dead, AT, sT, cT⟩ := x
  have HX := Hd.mk h
  unfold Td.cells
  dsimp only
  obtain ⟨W, hW, hb3, hz⟩ := three_boxes w [.int .i64 blocks, .slice AS sS.length cS, .slice AQ sQ.length cQ, .int .u64 counter, .slice AL sL.length cL, .int .i64 reads, .bool armed, .int .i64 power, .bool dead, .slice AT sT.length cT] [.int .i64 4, .int .i64 a, .int .i64 t, .int .i64 n, .slice AB bb.length cap]
  have HBX := Hd.mk hb3
  obtain ⟨K3, hl3, ht0, _, ht3, hh3, hs3⟩ := boxed3 hb3.bel hz hK
  have HX3 := Hd.mk (h.step hs3)
  have HFB3 := Hd.mk (hr.step hs3)
  have HL3 := Hd.mk hl3
  have HT0 := Hd.mk ht0
  have HT3 := Hd.mk ht3
  have HK3 := Hd.mk hh3
  have d0 := HBX.out.bd.cell (i := 0) rfl
  have d1 := HBX.out.bd.cell (i := 1) rfl
  have d2 := HBX.out.bd.cell (i := 2) rfl
  have d3 := HBX.out.bd.cell (i := 3) rfl
  have d4 := HBX.out.bd.cell (i := 4) rfl
  clear hb3 hz hK hr hc hn hq hf hl3 ht0 ht3 hh3 hs3 h
  go_enter Try.func29, Try.ntmps29
  go_wp2_with (first
  | (go_at_call 44
     refine (rseal_calls HX3.out HK3.out HQ.out HFW.out a AB _ cap bb HFB3.out rfl HCB.out HNB.out).mono ?_
     rintro e w1 ⟨x1, rfl, h1, hb1⟩
     obtain ⟨w2, hw2, K4, g1, g2, g3, g4, g5, g6, g7, g8⟩ := box_made (w := w1) (K := K3) (fun k hk => HK3.out k (Nat.le_trans hb1.size hk)) x1
     have HW2 := Hd.mk hw2
     have HX2 := Hd.mk (h1.step g4)
     have HBK := Hd.mk g5
     have HL4 : Hd (∀ k, K4 k = 0 → K k = 0) := ⟨fun k hk => HL3.out k (g1 k hk)⟩
     have HT4 : Hd (K4 (w.heap.size + 2) ≠ 0) := ⟨fun e => HT3.out (g1 _ e)⟩
     have HBX := Hd.mk ((HBX.out.below hb1).below g6)
     clear h1 hb1 hw2 g1 g2 g3 g4 g5 g6 g7 g8)
  | (refine wpList_load_row rfl 56 (.tmp 2) rfl w.heap.size rfl 56 _ (0, 0) _ HBX.out.b0 Try.underlying56 rfl t_info ?_)
  | (refine wpList_store_row rfl 56 (.tmp 13) (.tmp 68) rfl w1.heap.size x1.cells.toArray rfl rfl 56 zT.toArray (Blk.new w1 _ zT) t_info rfl (t_all x1) ?_; rw [HW2.out])
  | (refine wpList_load_row rfl 56 (.tmp 13) rfl w1.heap.size rfl 56 _ (0, 0) _ HBK.out Try.underlying56 rfl t_info ?_)
  | (refine wpList_store_row rfl 56 (.tmp 4) (.tmp 70) rfl (w.heap.size + 2) x1.cells.toArray rfl rfl 56 zT.toArray HBX.out.b1 t_info rfl (t_all x1) ?_))
  have hb4 := HBX.out.b1.putRow x1.cells
  have hst := boxed_end HL4.out HT4.out w2 x1.cells.toArray
  refine bodyPost_ret (results_cell_slots2 rfl _ _ (w.heap.size + 2) _ _ _ rfl rfl rfl (load_row hb4 Try.underlying56 rfl t_info)) rfl ?_
  exact ⟨x1, none, 0, rfl, (HX2.out.step hst).more, nil_fr _ _, Nat.le_refl _, HBX.out.row _⟩
set_option maxRecDepth 100000 in
set_option maxHeartbeats 8000000 in
theorem rstep5 (h : Tm w K q x s) (hK : ∀ k, w.heap.size ≤ k → K k = 0) (hq : q ≤ 1000000) (hf : Few s) (a t n : Int) (AB : Option Addr) (bb : List UInt8) (cap : Nat) (hr : Fr w K AB bb) (hc : bb.length ≤ cap) (hn : bb.length ≤ 1099511627776) :
    Calls Try.prog 29 #[.agg x.cells.toArray, .agg #[.int .i64 5, .int .i64 a, .int .i64 t, .int .i64 n, .slice AB bb.length cap]] w (RetS K q (stepP s 5 a t n bb) (stepB s 5 a t) (doR s 5 a t bb) w) := by
  have HQ := Hd.mk hq
  have HFW := Hd.mk hf
  have HCB := Hd.mk hc
  have HNB := Hd.mk hn
  obtain ⟨blocks, AS, sS, cS, AQ, sQ, cQ, counter, AL, sL, cL, reads, armed, power, dead, AT, sT, cT⟩ := x
  have HX := Hd.mk h
  unfold Td.cells
  dsimp only
  obtain ⟨W, hW, hb3, hz⟩ := three_boxes w [.int .i64 blocks, .slice AS sS.length cS, .slice AQ sQ.length cQ, .int .u64 counter, .slice AL sL.length cL, .int .i64 reads, .bool armed, .int .i64 power, .bool dead, .slice AT sT.length cT] [.int .i64 5, .int .i64 a, .int .i64 t, .int .i64 n, .slice AB bb.length cap]
  have HBX := Hd.mk hb3
  obtain ⟨K3, hl3, ht0, _, ht3, hh3, hs3⟩ := boxed3 hb3.bel hz hK
  have HX3 := Hd.mk (h.step hs3)
  have HFB3 := Hd.mk (hr.step hs3)
  have HL3 := Hd.mk hl3
  have HT0 := Hd.mk ht0
  have HT3 := Hd.mk ht3
  have HK3 := Hd.mk hh3
  have d0 := HBX.out.bd.cell (i := 0) rfl
  have d1 := HBX.out.bd.cell (i := 1) rfl
  have d2 := HBX.out.bd.cell (i := 2) rfl
  have d3 := HBX.out.bd.cell (i := 3) rfl
  have d4 := HBX.out.bd.cell (i := 4) rfl
  clear hb3 hz hK hr hc hn hq hf hl3 ht0 ht3 hh3 hs3 h
  go_enter Try.func29, Try.ntmps29
  go_wp2_with (first
  | (go_at_call 45
     refine (rbump_calls HX3.out HK3.out HFW.out).mono ?_
     rintro e w1 ⟨x1, rfl, h1, hb1⟩
     obtain ⟨w2, hw2, K4, g1, g2, g3, g4, g5, g6, g7, g8⟩ := box_made (w := w1) (K := K3) (fun k hk => HK3.out k (Nat.le_trans hb1.size hk)) x1
     have HW2 := Hd.mk hw2
     have HX2 := Hd.mk (h1.step g4)
     have HBK := Hd.mk g5
     have HL4 : Hd (∀ k, K4 k = 0 → K k = 0) := ⟨fun k hk => HL3.out k (g1 k hk)⟩
     have HT4 : Hd (K4 (w.heap.size + 2) ≠ 0) := ⟨fun e => HT3.out (g1 _ e)⟩
     have HBX := Hd.mk ((HBX.out.below hb1).below g6)
     clear h1 hb1 hw2 g1 g2 g3 g4 g5 g6 g7 g8)
  | (refine wpList_load_row rfl 56 (.tmp 2) rfl w.heap.size rfl 56 _ (0, 0) _ HBX.out.b0 Try.underlying56 rfl t_info ?_)
  | (refine wpList_store_row rfl 56 (.tmp 15) (.tmp 77) rfl w1.heap.size x1.cells.toArray rfl rfl 56 zT.toArray (Blk.new w1 _ zT) t_info rfl (t_all x1) ?_; rw [HW2.out])
  | (refine wpList_load_row rfl 56 (.tmp 15) rfl w1.heap.size rfl 56 _ (0, 0) _ HBK.out Try.underlying56 rfl t_info ?_)
  | (refine wpList_store_row rfl 56 (.tmp 4) (.tmp 79) rfl (w.heap.size + 2) x1.cells.toArray rfl rfl 56 zT.toArray HBX.out.b1 t_info rfl (t_all x1) ?_))
  have hb4 := HBX.out.b1.putRow x1.cells
  have hst := boxed_end HL4.out HT4.out w2 x1.cells.toArray
  refine bodyPost_ret (results_cell_slots2 rfl _ _ (w.heap.size + 2) _ _ _ rfl rfl rfl (load_row hb4 Try.underlying56 rfl t_info)) rfl ?_
  exact ⟨x1, none, 0, rfl, (HX2.out.step hst).more, nil_fr _ _, Nat.le_refl _, HBX.out.row _⟩
set_option maxRecDepth 100000 in
set_option maxHeartbeats 8000000 in
theorem rstep0 (h : Tm w K q x s) (hK : ∀ k, w.heap.size ≤ k → K k = 0) (hq : q ≤ 1000000) (hf : Few s) (k : Int) (a t n : Int) (AB : Option Addr) (bb : List UInt8) (cap : Nat) (hr : Fr w K AB bb) (hc : bb.length ≤ cap) (hn : bb.length ≤ 1099511627776) (n1 : ¬ k = 1) (n2 : ¬ k = 2) (n3 : ¬ k = 3) (n4 : ¬ k = 4) (n5 : ¬ k = 5) (n6 : ¬ k = 6) (n7 : ¬ k = 7) (n8 : ¬ k = 8) (n9 : ¬ k = 9) :
    Calls Try.prog 29 #[.agg x.cells.toArray, .agg #[.int .i64 k, .int .i64 a, .int .i64 t, .int .i64 n, .slice AB bb.length cap]] w (RetS K q (stepP s k a t n bb) (stepB s k a t) (doR s k a t bb) w) := by
  have HQ := Hd.mk hq
  have HFW := Hd.mk hf
  have HCB := Hd.mk hc
  have HNB := Hd.mk hn
  obtain ⟨blocks, AS, sS, cS, AQ, sQ, cQ, counter, AL, sL, cL, reads, armed, power, dead, AT, sT, cT⟩ := x
  have HX := Hd.mk h
  unfold Td.cells
  dsimp only
  obtain ⟨W, hW, hb3, hz⟩ := three_boxes w [.int .i64 blocks, .slice AS sS.length cS, .slice AQ sQ.length cQ, .int .u64 counter, .slice AL sL.length cL, .int .i64 reads, .bool armed, .int .i64 power, .bool dead, .slice AT sT.length cT] [.int .i64 k, .int .i64 a, .int .i64 t, .int .i64 n, .slice AB bb.length cap]
  have HBX := Hd.mk hb3
  obtain ⟨K3, hl3, ht0, _, ht3, hh3, hs3⟩ := boxed3 hb3.bel hz hK
  have HX3 := Hd.mk (h.step hs3)
  have HFB3 := Hd.mk (hr.step hs3)
  have HL3 := Hd.mk hl3
  have HT0 := Hd.mk ht0
  have HT3 := Hd.mk ht3
  have HK3 := Hd.mk hh3
  have d0 := HBX.out.bd.cell (i := 0) rfl
  have d1 := HBX.out.bd.cell (i := 1) rfl
  have d2 := HBX.out.bd.cell (i := 2) rfl
  have d3 := HBX.out.bd.cell (i := 3) rfl
  have d4 := HBX.out.bd.cell (i := 4) rfl
  have e1 : (k == 1) = false := by rw [beq_eq_false_iff_ne]; exact n1
  have e2 : (k == 2) = false := by rw [beq_eq_false_iff_ne]; exact n2
  have e3 : (k == 3) = false := by rw [beq_eq_false_iff_ne]; exact n3
  have e4 : (k == 4) = false := by rw [beq_eq_false_iff_ne]; exact n4
  have e5 : (k == 5) = false := by rw [beq_eq_false_iff_ne]; exact n5
  have e6 : (k == 6) = false := by rw [beq_eq_false_iff_ne]; exact n6
  have e7 : (k == 7) = false := by rw [beq_eq_false_iff_ne]; exact n7
  have e8 : (k == 8) = false := by rw [beq_eq_false_iff_ne]; exact n8
  have e9 : (k == 9) = false := by rw [beq_eq_false_iff_ne]; exact n9
  have HP : Hd (stepP s k a t n bb = s) := ⟨by unfold stepP doP; rw [if_neg n9, if_neg n1, if_neg n2, if_neg n3, if_neg n4, if_neg n5, if_neg n6, if_neg n7, if_neg n8]⟩
  have HB : Hd (stepB s k a t = [] ∧ doR s k a t bb = false) := ⟨by unfold stepB doR; rw [if_neg n1, if_neg n3, if_neg n2, if_neg n4, if_neg n5]; exact ⟨rfl, rfl⟩⟩
  clear n1 n2 n3 n4 n5 n6 n7 n8 n9
  clear hb3 hz hK hr hc hn hq hf hl3 ht0 ht3 hh3 hs3 h
  go_enter Try.func29, Try.ntmps29
  go_wp2_with (first
  | (refine wpList_load_row rfl 56 (.tmp 2) rfl w.heap.size rfl 56 _ (0, 0) _ HBX.out.b0 Try.underlying56 rfl t_info ?_)
  | (refine wpList_store_row rfl 56 (.tmp 4) (.tmp 118) rfl (w.heap.size + 2) #[.int .i64 blocks, .slice AS sS.length cS, .slice AQ sQ.length cQ, .int .u64 counter, .slice AL sL.length cL, .int .i64 reads, .bool armed, .int .i64 power, .bool dead, .slice AT sT.length cT] rfl rfl 56 zT.toArray HBX.out.b1 t_info (zT_size _ rfl) (t_one _ _ _ _ _ _ _ _ _ _ _ _ _ _ _ _ _ _) ?_))
  have hb4 := HBX.out.b1.putRow [.int .i64 blocks, .slice AS sS.length cS, .slice AQ sQ.length cQ, .int .u64 counter, .slice AL sL.length cL, .int .i64 reads, .bool armed, .int .i64 power, .bool dead, .slice AT sT.length cT]
  have hbw := HBX.out.row #[.int .i64 blocks, .slice AS sS.length cS, .slice AQ sQ.length cQ, .int .u64 counter, .slice AL sL.length cL, .int .i64 reads, .bool armed, .int .i64 power, .bool dead, .slice AT sT.length cT]
  refine bodyPost_ret (results_cell_slots2 rfl _ _ (w.heap.size + 2) _ _ _ rfl rfl rfl (load_row hb4 Try.underlying56 rfl t_info)) rfl ?_
  have hx := HX.out.below hbw
  rw [HP.out, HB.out.1, HB.out.2]
  exact ⟨_, none, 0, rfl, hx.more, nil_fr _ _, Nat.le_refl _, hbw⟩
set_option maxRecDepth 100000 in
set_option maxHeartbeats 8000000 in
theorem rstep8 (h : Tm w K q x s) (hK : ∀ k, w.heap.size ≤ k → K k = 0) (hq : q ≤ 1000000) (hf : Few s) (a t n : Int) (AB : Option Addr) (bb : List UInt8) (cap : Nat) (hr : Fr w K AB bb) (hc : bb.length ≤ cap) (hn : bb.length ≤ 1099511627776) :
    Calls Try.prog 29 #[.agg x.cells.toArray, .agg #[.int .i64 8, .int .i64 a, .int .i64 t, .int .i64 n, .slice AB bb.length cap]] w (RetS K q (stepP s 8 a t n bb) (stepB s 8 a t) (doR s 8 a t bb) w) := by
  have HQ := Hd.mk hq
  have HFW := Hd.mk hf
  have HCB := Hd.mk hc
  have HNB := Hd.mk hn
  obtain ⟨blocks, AS, sS, cS, AQ, sQ, cQ, counter, AL, sL, cL, reads, armed, power, dead, AT, sT, cT⟩ := x
  have HX := Hd.mk h
  unfold Td.cells
  dsimp only
  obtain ⟨W, hW, hb3, hz⟩ := three_boxes w [.int .i64 blocks, .slice AS sS.length cS, .slice AQ sQ.length cQ, .int .u64 counter, .slice AL sL.length cL, .int .i64 reads, .bool armed, .int .i64 power, .bool dead, .slice AT sT.length cT] [.int .i64 8, .int .i64 a, .int .i64 t, .int .i64 n, .slice AB bb.length cap]
  have HBX := Hd.mk hb3
  obtain ⟨K3, hl3, ht0, _, ht3, hh3, hs3⟩ := boxed3 hb3.bel hz hK
  have HX3 := Hd.mk (h.step hs3)
  have HFB3 := Hd.mk (hr.step hs3)
  have HL3 := Hd.mk hl3
  have HT0 := Hd.mk ht0
  have HT3 := Hd.mk ht3
  have HK3 := Hd.mk hh3
  have d0 := HBX.out.bd.cell (i := 0) rfl
  have d1 := HBX.out.bd.cell (i := 1) rfl
  have d2 := HBX.out.bd.cell (i := 2) rfl
  have d3 := HBX.out.bd.cell (i := 3) rfl
  have d4 := HBX.out.bd.cell (i := 4) rfl
  clear hb3 hz hK hr hc hn hq hf hl3 ht0 ht3 hh3 hs3 h
  have f06 := HBX.out.b0.frz 6
  have p06 := HBX.out.b0.cell (i := 6) rfl
  have HB0 := Hd.mk (HBX.out.set 6 (.bool false))
  have f18 := HB0.out.b0.frz 8
  have p18 := HB0.out.b0.cell (i := 8) rfl
  have HB1 := Hd.mk (HB0.out.set 8 (.bool false))
  go_enter Try.func29, Try.ntmps29
  go_wp2_with (first
  | (refine wpList_load_row rfl 56 (.tmp 2) rfl w.heap.size rfl 56 _ (0, 0) _ HB1.out.b0 Try.underlying56 rfl t_info ?_)
  | (refine wpList_store_row rfl 56 (.tmp 4) (.tmp 118) rfl (w.heap.size + 2) #[.int .i64 blocks, .slice AS sS.length cS, .slice AQ sQ.length cQ, .int .u64 counter, .slice AL sL.length cL, .int .i64 reads, .bool false, .int .i64 power, .bool false, .slice AT sT.length cT] rfl rfl 56 zT.toArray HB1.out.b1 t_info (zT_size _ rfl) (t_one _ _ _ _ _ _ _ _ _ _ _ _ _ _ _ _ _ _) ?_))
  have hb4 := HB1.out.b1.putRow [.int .i64 blocks, .slice AS sS.length cS, .slice AQ sQ.length cQ, .int .u64 counter, .slice AL sL.length cL, .int .i64 reads, .bool false, .int .i64 power, .bool false, .slice AT sT.length cT]
  have hbw := HB1.out.row #[.int .i64 blocks, .slice AS sS.length cS, .slice AQ sQ.length cQ, .int .u64 counter, .slice AL sL.length cL, .int .i64 reads, .bool false, .int .i64 power, .bool false, .slice AT sT.length cT]
  refine bodyPost_ret (results_cell_slots2 rfl _ _ (w.heap.size + 2) _ _ _ rfl rfl rfl (load_row hb4 Try.underlying56 rfl t_info)) rfl ?_
  have hx := HX.out.below hbw
  refine ⟨⟨blocks, AS, sS, cS, AQ, sQ, cQ, counter, AL, sL, cL, reads, false, power, false, AT, sT, cT⟩, none, 0, rfl, ?_, nil_fr _ _, Nat.le_refl _, hbw⟩
  exact { hx.more with e0 := ⟨hx.e0.1, hx.e0.2.1, hx.e0.2.2.1, rfl, hx.e0.2.2.2.2.1, rfl⟩ }
set_option maxRecDepth 100000 in
set_option maxHeartbeats 8000000 in
theorem rstep9 (h : Tm w K q x s) (hK : ∀ k, w.heap.size ≤ k → K k = 0) (hq : q ≤ 1000000) (hf : Few s) (a t n : Int) (AB : Option Addr) (bb : List UInt8) (cap : Nat) (hr : Fr w K AB bb) (hc : bb.length ≤ cap) (hn : bb.length ≤ 1099511627776) :
    Calls Try.prog 29 #[.agg x.cells.toArray, .agg #[.int .i64 9, .int .i64 a, .int .i64 t, .int .i64 n, .slice AB bb.length cap]] w (RetS K q (stepP s 9 a t n bb) (stepB s 9 a t) (doR s 9 a t bb) w) := by
  have HQ := Hd.mk hq
  have HFW := Hd.mk hf
  have HCB := Hd.mk hc
  have HNB := Hd.mk hn
  obtain ⟨blocks, AS, sS, cS, AQ, sQ, cQ, counter, AL, sL, cL, reads, armed, power, dead, AT, sT, cT⟩ := x
  have HX := Hd.mk h
  unfold Td.cells
  dsimp only
  obtain ⟨W, hW, hb3, hz⟩ := three_boxes w [.int .i64 blocks, .slice AS sS.length cS, .slice AQ sQ.length cQ, .int .u64 counter, .slice AL sL.length cL, .int .i64 reads, .bool armed, .int .i64 power, .bool dead, .slice AT sT.length cT] [.int .i64 9, .int .i64 a, .int .i64 t, .int .i64 n, .slice AB bb.length cap]
  have HBX := Hd.mk hb3
  obtain ⟨K3, hl3, ht0, _, ht3, hh3, hs3⟩ := boxed3 hb3.bel hz hK
  have HX3 := Hd.mk (h.step hs3)
  have HFB3 := Hd.mk (hr.step hs3)
  have HL3 := Hd.mk hl3
  have HT0 := Hd.mk ht0
  have HT3 := Hd.mk ht3
  have HK3 := Hd.mk hh3
  have d0 := HBX.out.bd.cell (i := 0) rfl
  have d1 := HBX.out.bd.cell (i := 1) rfl
  have d2 := HBX.out.bd.cell (i := 2) rfl
  have d3 := HBX.out.bd.cell (i := 3) rfl
  have d4 := HBX.out.bd.cell (i := 4) rfl
  have hwn : 0 ≤ IntKind.u64.wrap n ∧ IntKind.u64.wrap n < 18446744073709551616 := by rw [IntKind.wrap_u64]; omega
  have HWN := Hd.mk hwn
  obtain ⟨nn, hnn⟩ : ∃ nn, IntKind.u64.wrap n = nn := ⟨_, rfl⟩
  have HNN := Hd.mk hnn
  rw [hnn] at HWN
  clear hwn
  clear hb3 hz hK hr hc hn hq hf hl3 ht0 ht3 hh3 hs3 h
  have f03 := HBX.out.b0.frz 3
  have p03 := HBX.out.b0.cell (i := 3) rfl
  have HB0 := Hd.mk (HBX.out.set 3 (.int .u64 nn))
  go_enter Try.func29, Try.ntmps29
  go_wp2_with (first
  | (refine wpList_load_row rfl 56 (.tmp 2) rfl w.heap.size rfl 56 _ (0, 0) _ HB0.out.b0 Try.underlying56 rfl t_info ?_)
  | (refine wpList_store_row rfl 56 (.tmp 4) (.tmp 118) rfl (w.heap.size + 2) #[.int .i64 blocks, .slice AS sS.length cS, .slice AQ sQ.length cQ, .int .u64 nn, .slice AL sL.length cL, .int .i64 reads, .bool armed, .int .i64 power, .bool dead, .slice AT sT.length cT] rfl rfl 56 zT.toArray HB0.out.b1 t_info (zT_size _ rfl) (t_one _ _ _ _ _ _ _ _ _ _ _ _ _ _ _ _ _ _) ?_))
  have hb4 := HB0.out.b1.putRow [.int .i64 blocks, .slice AS sS.length cS, .slice AQ sQ.length cQ, .int .u64 nn, .slice AL sL.length cL, .int .i64 reads, .bool armed, .int .i64 power, .bool dead, .slice AT sT.length cT]
  have hbw := HB0.out.row #[.int .i64 blocks, .slice AS sS.length cS, .slice AQ sQ.length cQ, .int .u64 nn, .slice AL sL.length cL, .int .i64 reads, .bool armed, .int .i64 power, .bool dead, .slice AT sT.length cT]
  refine bodyPost_ret (results_cell_slots2 rfl _ _ (w.heap.size + 2) _ _ _ rfl rfl rfl (load_row hb4 Try.underlying56 rfl t_info)) rfl ?_
  have hx := HX.out.below hbw
  have HP : stepP s 9 a t n bb = setP s nn := by unfold stepP; rw [if_pos rfl, HNN.out]
  rw [HP]
  refine ⟨⟨blocks, AS, sS, cS, AQ, sQ, cQ, nn, AL, sL, cL, reads, armed, power, dead, AT, sT, cT⟩, none, 0, rfl, ?_, nil_fr _ _, Nat.le_refl _, hbw⟩
  exact { hx.more with e0 := ⟨hx.e0.1, rfl, hx.e0.2.2⟩, nm := ⟨hx.nm.1, hx.nm.2.1, HWN.out.1, HWN.out.2, hx.nm.2.2.2.2⟩ }
set_option maxRecDepth 100000 in
set_option maxHeartbeats 8000000 in
theorem rstep7 (h : Tm w K q x s) (hK : ∀ k, w.heap.size ≤ k → K k = 0) (hq : q ≤ 1000000) (hf : Few s) (a t n : Int) (AB : Option Addr) (bb : List UInt8) (cap : Nat) (hr : Fr w K AB bb) (hc : bb.length ≤ cap) (hn : bb.length ≤ 1099511627776) :
    Calls Try.prog 29 #[.agg x.cells.toArray, .agg #[.int .i64 7, .int .i64 a, .int .i64 t, .int .i64 n, .slice AB bb.length cap]] w (RetS K q (stepP s 7 a t n bb) (stepB s 7 a t) (doR s 7 a t bb) w) := by
  have HQ := Hd.mk hq
  have HFW := Hd.mk hf
  have HCB := Hd.mk hc
  have HNB := Hd.mk hn
  obtain ⟨blocks, AS, sS, cS, AQ, sQ, cQ, counter, AL, sL, cL, reads, armed, power, dead, AT, sT, cT⟩ := x
  have HX := Hd.mk h
  unfold Td.cells
  dsimp only
  obtain ⟨W, hW, hb3, hz⟩ := three_boxes w [.int .i64 blocks, .slice AS sS.length cS, .slice AQ sQ.length cQ, .int .u64 counter, .slice AL sL.length cL, .int .i64 reads, .bool armed, .int .i64 power, .bool dead, .slice AT sT.length cT] [.int .i64 7, .int .i64 a, .int .i64 t, .int .i64 n, .slice AB bb.length cap]
  have HBX := Hd.mk hb3
  obtain ⟨K3, hl3, ht0, _, ht3, hh3, hs3⟩ := boxed3 hb3.bel hz hK
  have HX3 := Hd.mk (h.step hs3)
  have HFB3 := Hd.mk (hr.step hs3)
  have HL3 := Hd.mk hl3
  have HT0 := Hd.mk ht0
  have HT3 := Hd.mk ht3
  have HK3 := Hd.mk hh3
  have d0 := HBX.out.bd.cell (i := 0) rfl
  have d1 := HBX.out.bd.cell (i := 1) rfl
  have d2 := HBX.out.bd.cell (i := 2) rfl
  have d3 := HBX.out.bd.cell (i := 3) rfl
  have d4 := HBX.out.bd.cell (i := 4) rfl
  have hdx : dead = s.dead := h.e0.2.2.2.2.2
  clear hb3 hz hK hr hc hn hq hf hl3 ht0 ht3 hh3 hs3 h
  by_cases hd : s.dead = true
  · have HP : Hd (stepP s 7 a t n bb = s) := ⟨by unfold stepP doP armP; simp [hd]⟩
    obtain rfl : dead = true := hdx.trans hd
    clear hd hdx
    have q8 := HBX.out.b0.cell (i := 8) rfl
    go_enter Try.func29, Try.ntmps29
    go_wp2_with (first
    | (refine wpList_load_row rfl 56 (.tmp 2) rfl w.heap.size rfl 56 _ (0, 0) _ HBX.out.b0 Try.underlying56 rfl t_info ?_)
    | (refine wpList_store_row rfl 56 (.tmp 4) (.tmp 118) rfl (w.heap.size + 2) #[.int .i64 blocks, .slice AS sS.length cS, .slice AQ sQ.length cQ, .int .u64 counter, .slice AL sL.length cL, .int .i64 reads, .bool armed, .int .i64 power, .bool true, .slice AT sT.length cT] rfl rfl 56 zT.toArray HBX.out.b1 t_info (zT_size _ rfl) (t_one _ _ _ _ _ _ _ _ _ _ _ _ _ _ _ _ _ _) ?_))
    have hb4 := HBX.out.b1.putRow [.int .i64 blocks, .slice AS sS.length cS, .slice AQ sQ.length cQ, .int .u64 counter, .slice AL sL.length cL, .int .i64 reads, .bool armed, .int .i64 power, .bool true, .slice AT sT.length cT]
    have hbw := HBX.out.row #[.int .i64 blocks, .slice AS sS.length cS, .slice AQ sQ.length cQ, .int .u64 counter, .slice AL sL.length cL, .int .i64 reads, .bool armed, .int .i64 power, .bool true, .slice AT sT.length cT]
    refine bodyPost_ret (results_cell_slots2 rfl _ _ (w.heap.size + 2) _ _ _ rfl rfl rfl (load_row hb4 Try.underlying56 rfl t_info)) rfl ?_
    rw [HP.out]
    exact ⟨_, none, 0, rfl, (HX.out.below hbw).more, nil_fr _ _, Nat.le_refl _, hbw⟩
  · have HP : Hd (stepP s 7 a t n bb = { s with armed := true, power := max 0 (min n 1000000) }) := ⟨by unfold stepP doP armP; simp [hd]⟩
    obtain rfl : dead = false := hdx.trans (by simpa using hd)
    clear hd hdx
    have q8 := HBX.out.b0.cell (i := 8) rfl
    have f06 := HBX.out.b0.frz 6
    have p06 := HBX.out.b0.cell (i := 6) rfl
    have HB0 := Hd.mk (HBX.out.set 6 (.bool true))
    have f17 := HB0.out.b0.frz 7
    have p17 := HB0.out.b0.cell (i := 7) rfl
    have HB1 := Hd.mk (HB0.out.set 7 (.int .i64 (max 0 (min n 1000000))))
    have dd3 := HB0.out.bd.cell (i := 3) rfl
    go_enter Try.func29, Try.ntmps29
    go_wp2_with (first
    | (refine wpList_load_row rfl 56 (.tmp 2) rfl w.heap.size rfl 56 _ (0, 0) _ HB1.out.b0 Try.underlying56 rfl t_info ?_)
    | (refine wpList_store_row rfl 56 (.tmp 4) (.tmp 118) rfl (w.heap.size + 2) #[.int .i64 blocks, .slice AS sS.length cS, .slice AQ sQ.length cQ, .int .u64 counter, .slice AL sL.length cL, .int .i64 reads, .bool true, .int .i64 (max 0 (min n 1000000)), .bool false, .slice AT sT.length cT] rfl rfl 56 zT.toArray HB1.out.b1 t_info (zT_size _ rfl) (t_one _ _ _ _ _ _ _ _ _ _ _ _ _ _ _ _ _ _) ?_))
    have hb4 := HB1.out.b1.putRow [.int .i64 blocks, .slice AS sS.length cS, .slice AQ sQ.length cQ, .int .u64 counter, .slice AL sL.length cL, .int .i64 reads, .bool true, .int .i64 (max 0 (min n 1000000)), .bool false, .slice AT sT.length cT]
    have hbw := HB1.out.row #[.int .i64 blocks, .slice AS sS.length cS, .slice AQ sQ.length cQ, .int .u64 counter, .slice AL sL.length cL, .int .i64 reads, .bool true, .int .i64 (max 0 (min n 1000000)), .bool false, .slice AT sT.length cT]
    refine bodyPost_ret (results_cell_slots2 rfl _ _ (w.heap.size + 2) _ _ _ rfl rfl rfl (load_row hb4 Try.underlying56 rfl t_info)) rfl ?_
    rw [HP.out]
    have hx := HX.out.below hbw
    refine ⟨⟨blocks, AS, sS, cS, AQ, sQ, cQ, counter, AL, sL, cL, reads, true, max 0 (min n 1000000), false, AT, sT, cT⟩, none, 0, rfl, ?_, nil_fr _ _, Nat.le_refl _, hbw⟩
    exact { hx.more with e0 := ⟨hx.e0.1, hx.e0.2.1, hx.e0.2.2.1, rfl, rfl, hx.e0.2.2.2.2.2⟩, nm := ⟨hx.nm.1, hx.nm.2.1, hx.nm.2.2.1, hx.nm.2.2.2.1, hx.nm.2.2.2.2.1, by show 0 ≤ max 0 (min n 1000000); omega, by show max 0 (min n 1000000) ≤ 1000000; omega⟩ }
set_option maxRecDepth 100000 in
set_option maxHeartbeats 8000000 in
theorem rstep6 (h : Tm w K q x s) (hK : ∀ k, w.heap.size ≤ k → K k = 0) (hq : q ≤ 1000000) (hf : Few s) (a t n : Int) (AB : Option Addr) (bb : List UInt8) (cap : Nat) (hr : Fr w K AB bb) (hc : bb.length ≤ cap) (hn : bb.length ≤ 1099511627776) :
    Calls Try.prog 29 #[.agg x.cells.toArray, .agg #[.int .i64 6, .int .i64 a, .int .i64 t, .int .i64 n, .slice AB bb.length cap]] w (RetS K q (stepP s 6 a t n bb) (stepB s 6 a t) (doR s 6 a t bb) w) := by
  have HQ := Hd.mk hq
  have HFW := Hd.mk hf
  have HCB := Hd.mk hc
  have HNB := Hd.mk hn
  obtain ⟨blocks, AS, sS, cS, AQ, sQ, cQ, counter, AL, sL, cL, reads, armed, power, dead, AT, sT, cT⟩ := x
  have HX := Hd.mk h
  unfold Td.cells
  dsimp only
  obtain ⟨W, hW, hb3, hz⟩ := three_boxes w [.int .i64 blocks, .slice AS sS.length cS, .slice AQ sQ.length cQ, .int .u64 counter, .slice AL sL.length cL, .int .i64 reads, .bool armed, .int .i64 power, .bool dead, .slice AT sT.length cT] [.int .i64 6, .int .i64 a, .int .i64 t, .int .i64 n, .slice AB bb.length cap]
  have HBX := Hd.mk hb3
  obtain ⟨K3, hl3, ht0, _, ht3, hh3, hs3⟩ := boxed3 hb3.bel hz hK
  have HX3 := Hd.mk (h.step hs3)
  have HFB3 := Hd.mk (hr.step hs3)
  have HL3 := Hd.mk hl3
  have HT0 := Hd.mk ht0
  have HT3 := Hd.mk ht3
  have HK3 := Hd.mk hh3
  have d0 := HBX.out.bd.cell (i := 0) rfl
  have d1 := HBX.out.bd.cell (i := 1) rfl
  have d2 := HBX.out.bd.cell (i := 2) rfl
  have d3 := HBX.out.bd.cell (i := 3) rfl
  have d4 := HBX.out.bd.cell (i := 4) rfl
  have HLL : Hd (sL.length ≤ 1000000) := ⟨by have : sL.length ≤ q := h.lq; omega⟩
  clear hb3 hz hK hr hc hn hq hf hl3 ht0 ht3 hh3 hs3 h
  have HLQ : Hd (sL.length ≤ 1000000) := HLL
  obtain ⟨nl, hnl⟩ : ∃ nl, sL.length = nl := ⟨_, rfl⟩
  have HNL := Hd.mk hnl
  have hnl0 : nl ≤ 1000000 := by have := HLL.out; omega
  have HRL : Hd (Rc W AL (lws sL)) := ⟨HX3.out.rl.rc⟩
  rw [hnl] at hW HBX ⊢
  have p4 := HBX.out.b0.cell (i := 4) rfl
  have HZ : Hd (w.heap.size + 2 < W.heap.size) := ⟨HBX.out.b1.lt⟩
  clear hnl
  go_enter Try.func29, Try.ntmps29
  go_wp2_with (at_builtin; apply Hd.out)
  try rw [hW]
  clear hW
  refine ⟨app_rc W.heap.size 54 91 (.agg #[.int .i64 0, .slice none 0 0]) 2 32 (.tmp 83) (.tmp 85) rfl rfl Try.underlying54 lie_info rfl (by decide) (by decide) (.slice none 0 0) 0 [] (lws sL) AL nl cL rfl rfl (World.ownsRow_nil _ _ _ _) HRL.out (by rw [lws_len, HNL.out]) (rowK_one lw_one sL) (Nat.le_refl _) (by omega) nl (lws sL) (by omega) (by simp) ?_⟩
  intro v1 w1 ho hg hat
  have hb1 := below_nil hg
  obtain ⟨A1, c1, rfl, _, _, _⟩ := own_rc ho
  have HO1 := Hd.mk ho
  have HBX := Hd.mk (HBX.out.below hb1)
  have HZ1 : Hd (W.heap.size ≤ w1.heap.size) := ⟨hb1.size⟩
  have HB1 := Hd.mk hb1
  have d0 := HBX.out.bd.cell (i := 0) rfl
  have d3 := HBX.out.bd.cell (i := 3) rfl
  have d4 := HBX.out.bd.cell (i := 4) rfl
  clear ho hg hat hb1 p4
  go_wp2_with (at_builtin; apply Hd.out)
  refine ⟨app_rc W.heap.size 54 91 (.agg #[.int .i64 0, .slice none 0 0]) 2 32 (.tmp 87) (.tmp 93) rfl rfl Try.underlying54 lie_info rfl (by decide) (by decide) (.slice A1 nl c1) nl (lws sL) [.int .i64 n, .slice AB bb.length cap] (some ⟨w1.heap.size, 0, none⟩) 1 1 rfl rfl (own_below HO1.out ((Below.refl _ _).alloc (Nat.le_refl _) _)) (Blk.new w1 _ _).rc rfl (lw_one ⟨n, AB, bb, cap⟩) (by have := HZ1.out; simp; omega) (by omega) (nl + 1) (lws (sL ++ [⟨n, AB, bb, cap⟩])) rfl (by unfold lws; rw [rowK_app, rowK_single]; rfl) ?_⟩
  intro v2 w2 ho hg hat
  have hne : ∀ k, k < W.heap.size → some k ≠ (Value.slice A1 nl c1).ownBlock := fun k hk e => by have := (own_lt HO1.out k e.symm).1; omega
  have hbW : Below W.heap.size W w2 := below_lift (below_then HB1.out HB1.out.size ((Below.refl _ _).alloc (Nat.le_refl _) _)) (by have := HZ1.out; simp; omega) hg (fun k e => (own_lt HO1.out k e).1)
  have hB0 : B3 w [.int .i64 blocks, .slice AS sS.length cS, .slice AQ sQ.length cQ, .int .u64 counter, .slice AL nl cL, .int .i64 reads, .bool armed, .int .i64 power, .bool dead, .slice AT sT.length cT] [.int .i64 6, .int .i64 a, .int .i64 t, .int .i64 n, .slice AB bb.length cap] w2 := by
    have h0 := HBX.out
    have hz := HZ.out
    exact ⟨below_then h0.bel h0.bel.size (Below.refl _ _) |> fun hh => (by
        have := below_lift ((hh.alloc hh.size (.cells #[.int .i64 n, .slice AB bb.length cap] 91))) (by simp; exact Nat.le_succ_of_le hh.size) hg (fun k e => by have := (own_lt HO1.out k e).1; omega)
        exact this), (h0.b0.alloc _).grown hg (hne _ (by omega)), (h0.bd.alloc _).grown hg (hne _ (by omega)), (h0.b1.alloc _).grown hg (hne _ (by omega))⟩
  obtain ⟨A2, c2, rfl, hc2, hf2⟩ := FrC.own (K := K3) ho HK3.out
  have HBX := Hd.mk hB0
  have HC2 := Hd.mk hc2
  have HF2 := Hd.mk hf2
  have HX6 := Hd.mk (HX3.out.below hbW)
  have HFB6 := Hd.mk (HFB3.out.below hbW)
  have p4 := HBX.out.b0.cell (i := 4) rfl
  have f4 := HBX.out.b0.frz 4
  have d0 := HBX.out.bd.cell (i := 0) rfl
  have HB4 := Hd.mk (HBX.out.set 4 (.slice A2 (nl + 1) c2))
  have dd0 := HB4.out.bd.cell (i := 0) rfl
  clear ho hg hat hne hbW hB0 hc2 hf2
  go_wp2_with (first
  | (refine wpList_load_row rfl 56 (.tmp 2) rfl w.heap.size rfl 56 _ (0, 0) _ HB4.out.b0 Try.underlying56 rfl t_info ?_)
  | (refine wpList_store_row rfl 56 (.tmp 4) (.tmp 118) rfl (w.heap.size + 2) #[.int .i64 blocks, .slice AS sS.length cS, .slice AQ sQ.length cQ, .int .u64 counter, .slice A2 (nl + 1) c2, .int .i64 reads, .bool armed, .int .i64 power, .bool dead, .slice AT sT.length cT] rfl rfl 56 zT.toArray HB4.out.b1 t_info (zT_size _ rfl) (t_one _ _ _ _ _ _ _ _ _ _ _ _ _ _ _ _ _ _) ?_))
  have hb4 := HB4.out.b1.putRow [.int .i64 blocks, .slice AS sS.length cS, .slice AQ sQ.length cQ, .int .u64 counter, .slice A2 (nl + 1) c2, .int .i64 reads, .bool armed, .int .i64 power, .bool dead, .slice AT sT.length cT]
  have hbw := HB4.out.row #[.int .i64 blocks, .slice AS sS.length cS, .slice AQ sQ.length cQ, .int .u64 counter, .slice A2 (nl + 1) c2, .int .i64 reads, .bool armed, .int .i64 power, .bool dead, .slice AT sT.length cT]
  refine bodyPost_ret (results_cell_slots2 rfl _ _ (w.heap.size + 2) _ _ _ rfl rfl rfl (load_row hb4 Try.underlying56 rfl t_info)) rfl ?_
  have hst := (Stp.tagged w2 ⟨w.heap.size, 4, none⟩ HT0.out (.slice A2 (nl + 1) c2)).trans (boxed_end HL3.out HT3.out _ #[.int .i64 blocks, .slice AS sS.length cS, .slice AQ sQ.length cQ, .int .u64 counter, .slice A2 (nl + 1) c2, .int .i64 reads, .bool armed, .int .i64 power, .bool dead, .slice AT sT.length cT])
  have hx := HX6.out.step hst
  refine ⟨⟨blocks, AS, sS, cS, AQ, sQ, cQ, counter, A2, sL ++ [⟨n, AB, bb, cap⟩], c2, reads, armed, power, dead, AT, sT, cT⟩, none, 0, ?_, ?_, nil_fr _ _, Nat.le_refl _, hbw⟩
  · unfold Td.cells; dsimp only; rw [List.length_append, HNL.out]; rfl
  · exact { hx with
      lq := by show (sL ++ [_]).length ≤ q + 1; have : sL.length ≤ q := HX.out.lq; rw [List.length_append]; simp; exact this
      rl := HF2.out.step hst
      hl := fun y hy => by
        rcases List.mem_append.1 hy with hy | hy
        · exact hx.hl y hy
        · rw [List.mem_singleton.1 hy]; exact ⟨HFB6.out.step hst, HCB.out⟩
      el := fun z => by
        show (if z = n then some bb else s.lies z) = lastLie (sL ++ [⟨n, AB, bb, cap⟩]) z
        rw [lastLie_app]
        have he := hx.el z
        by_cases e : z = n
        · rw [if_pos e, if_pos e.symm]
        · rw [if_neg e, if_neg (fun e2 => e e2.symm)]; exact he
      cp := ⟨hx.cp.1, hx.cp.2.1, by show (sL ++ [_]).length ≤ c2; rw [List.length_append, HNL.out]; exact HC2.out, hx.cp.2.2.2⟩ }
theorem rstep_calls (h : Tm w K q x s) (hK : ∀ k, w.heap.size ≤ k → K k = 0) (hq : q ≤ 1000000) (hf : Few s) (y : Dd) (hr : Fr w K y.A y.b) (hc : y.b.length ≤ y.c) (hn : y.b.length ≤ 1099511627776) :
    Calls Try.prog 29 #[.agg x.cells.toArray, .agg y.cells.toArray] w (RetS K q (stepP s y.kind y.at_ y.slot y.n y.b) (stepB s y.kind y.at_ y.slot) (doR s y.kind y.at_ y.slot y.b) w) := by
  obtain ⟨k, a, t, n, A, b, c⟩ := y
  by_cases n1 : k = 1
  · subst n1; exact rstep1 h hK hq hf a t n A b c hr hc hn
  by_cases n2 : k = 2
  · subst n2; exact rstep2 h hK hq hf a t n A b c hr hc hn
  by_cases n3 : k = 3
  · subst n3; exact rstep3 h hK hq hf a t n A b c hr hc hn
  by_cases n4 : k = 4
  · subst n4; exact rstep4 h hK hq hf a t n A b c hr hc hn
  by_cases n5 : k = 5
  · subst n5; exact rstep5 h hK hq hf a t n A b c hr hc hn
  by_cases n6 : k = 6
  · subst n6; exact rstep6 h hK hq hf a t n A b c hr hc hn
  by_cases n7 : k = 7
  · subst n7; exact rstep7 h hK hq hf a t n A b c hr hc hn
  by_cases n8 : k = 8
  · subst n8; exact rstep8 h hK hq hf a t n A b c hr hc hn
  by_cases n9 : k = 9
  · subst n9; exact rstep9 h hK hq hf a t n A b c hr hc hn
  exact rstep0 h hK hq hf k a t n A b c hr hc hn n1 n2 n3 n4 n5 n6 n7 n8 n9
end
end Go.Proofs.Ytffhncpgknkkaaa
/-! from W06New -/
namespace Go.Proofs.Ytffhncpgknkkaaa
open Go.RowKit Go.Sac
set_option linter.unusedVariables false
set_option linter.unusedSimpArgs false
/-- the region: a row of noughts is made, and appended, and the field is stored -/
structure NW (gB B : Nat) (v : Value) (n : Nat) (X : List Value) (W0 : World) (L : Nat → Bool) (w : World) (f : Nat → Value) : Prop where
  gb : L 6 = false → W0.grownBy w v.ownBlock ∧ W0.heap.size ≤ w.heap.size
  own : L 4 = false → w.ownsRow B 22 1 v n X
  md : L 2 = true → L 6 = false → ∃ g, f 2 = .slice (some ⟨g, 0, none⟩) 272 272 ∧ W0.heap.size ≤ g ∧ Blk w g 5 (bs nought)
  row : L 3 = true → L 4 = false → ∃ g, f 3 = .slice (some ⟨g, 0, none⟩) 1 1 ∧ W0.heap.size ≤ g ∧ Blk w g 22 [f 2]
  out : L 4 = true → L 6 = false → w.ownsRow B 22 1 (f 4) (n + 1) (X ++ [f 2]) ∧ (∀ p, (f 4).ownBlock = some p → some p = v.ownBlock ∨ W0.heap.size ≤ p) ∧ ∀ g a b, f 2 = .slice (some ⟨g, 0, none⟩) a b → some g ≠ (f 4).ownBlock
  st : L 6 = true → ∃ w1 A c g, W0.grownBy w1 v.ownBlock ∧ w1.ownsRow B 22 1 (.slice A (n + 1) c) (n + 1) (X ++ [.slice (some ⟨g, 0, none⟩) 272 272]) ∧ W0.heap.size ≤ g ∧ Blk w1 g 5 (bs nought) ∧ w = w1.setCell ⟨gB, 1, none⟩ (.slice A (n + 1) c) ∧ (∀ p, A = some p → some p.block = v.ownBlock ∨ W0.heap.size ≤ p.block) ∧ ∀ p, A = some p → p.block ≠ g
section
variable {gB B : Nat} {v : Value} {n : Nat} {X : List Value} {W0 : World} {L : Nat → Bool} {w : World} {f : Nat → Value}
theorem NW.start (h : W0.ownsRow B 22 1 v n X) (f : Nat → Value) : NW gB B v n X W0 (fun _ => false) W0.drew f :=
  ⟨fun _ => ⟨grown_below ((Below.refl _ _).drew) _, Nat.le_refl _⟩, fun _ => own_below h ((Below.refl _ _).drew), nofun, nofun, nofun, nofun⟩
theorem NW.past (h : NW gB B v n X W0 L w f) (i : Nat) (u : Value) (hi : i = 0 ∨ i = 1 ∨ i = 5) : NW gB B v n X W0 (fun j => j == i || L j) w (upd f i u) := by
  have e : ∀ k, k ≠ i → (k == i || L k) = L k := fun k hk => by simp [hk]
  have n2 : 2 ≠ i := by omega
  have n3 : 3 ≠ i := by omega
  have n4 : 4 ≠ i := by omega
  have n6 : 6 ≠ i := by omega
  refine ⟨fun a => h.gb (e 6 n6 ▸ a), fun a => h.own (e 4 n4 ▸ a), fun a b => ?_, fun a b => ?_, fun a b => ?_, fun a => h.st (e 6 n6 ▸ a)⟩
  · rw [upd_ne _ _ _ _ n2]; exact h.md (e 2 n2 ▸ a) (e 6 n6 ▸ b)
  · rw [upd_ne _ _ _ _ n2, upd_ne _ _ _ _ n3]; exact h.row (e 3 n3 ▸ a) (e 4 n4 ▸ b)
  · rw [upd_ne _ _ _ _ n2, upd_ne _ _ _ _ n4]; exact h.out (e 4 n4 ▸ a) (e 6 n6 ▸ b)
theorem NW.make (h : NW gB B v n X W0 L w f) (l3 : L 3 = false) (l4 : L 4 = false) (l6 : L 6 = false) : NW gB B v n X W0 (fun j => j == 2 || L j) (w.alloc (.cells (bs nought).toArray 5)) (upd f 2 (.slice (some ⟨w.heap.size, 0, none⟩) 272 272)) := by
  have hb := (Below.refl w.heap.size w).alloc (Nat.le_refl _) (.cells (bs nought).toArray 5)
  have e3 : (3 == 2 || L 3) = false := by simp [l3]
  have e4 : (4 == 2 || L 4) = false := by simp [l4]
  have e6 : (6 == 2 || L 6) = false := by simp [l6]
  obtain ⟨g1, g2⟩ := h.gb l6
  refine ⟨fun _ => ⟨grown_more g1 (grown_below hb _), Nat.le_trans g2 hb.size⟩, fun _ => own_below (h.own l4) hb, fun _ _ => ⟨_, upd_same _ _ _, g2, Blk.new w _ _⟩, fun a => ?_, fun a => ?_, fun a => ?_⟩
  · rw [e3] at a; cases a
  · rw [e4] at a; cases a
  · rw [e6] at a; cases a
theorem NW.built (h : NW gB B v n X W0 L w f) (l2 : L 2 = true) (l4 : L 4 = false) (l6 : L 6 = false) : NW gB B v n X W0 (fun j => j == 3 || L j) (w.alloc (.cells #[f 2] 22)) (upd f 3 (.slice (some ⟨w.heap.size, 0, none⟩) 1 1)) := by
  have hb := (Below.refl w.heap.size w).alloc (Nat.le_refl _) (.cells #[f 2] 22)
  have e4 : (4 == 3 || L 4) = false := by simp [l4]
  have e6 : (6 == 3 || L 6) = false := by simp [l6]
  obtain ⟨g1, g2⟩ := h.gb l6
  refine ⟨fun _ => ⟨grown_more g1 (grown_below hb _), Nat.le_trans g2 hb.size⟩, fun _ => own_below (h.own l4) hb, fun _ _ => ?_, fun _ _ => ⟨_, upd_same _ _ _, g2, by rw [upd_ne _ _ _ _ (by decide)]; exact Blk.new w _ [f 2]⟩, fun a => ?_, fun a => ?_⟩
  · rw [upd_ne _ _ _ _ (by decide)]
    obtain ⟨g, h1, h2, h3⟩ := h.md l2 l6
    exact ⟨g, h1, h2, h3.alloc _⟩
  · rw [e4] at a; cases a
  · rw [e6] at a; cases a
theorem NW.app (h : NW gB B v n X W0 L w f) (hv : ∀ p, v.ownBlock = some p → p < W0.heap.size) (l2 : L 2 = true) (l4 : L 4 = false) (l6 : L 6 = false) {w' : World} {u : Value} (hg : w.grownBy w' v.ownBlock) (hat : u.ownBlock = v.ownBlock ∨ u.ownBlock = some w.heap.size) (ho : w'.ownsRow B 22 1 u (n + 1) (X ++ [f 2])) : NW gB B v n X W0 (fun j => j == 4 || L j) w' (upd f 4 u) := by
  have e6 : (6 == 4 || L 6) = false := by simp [l6]
  obtain ⟨g1, g2⟩ := h.gb l6
  obtain ⟨g, h1, h2, h3⟩ := h.md l2 l6
  have hne : some g ≠ v.ownBlock := fun e => by have := hv _ e.symm; omega
  refine ⟨fun _ => ⟨grown_more g1 hg, Nat.le_trans g2 hg.size⟩, fun a => by simp at a, fun _ _ => ?_, fun _ a => by simp at a, fun _ _ => ?_, fun a => ?_⟩
  · rw [upd_ne _ _ _ _ (by decide)]; exact ⟨g, h1, h2, h3.grown hg hne⟩
  · rw [upd_same, upd_ne _ _ _ _ (by decide)]
    refine ⟨ho, fun p hp => ?_, fun g' a b e1 e2 => ?_⟩
    · rcases hat with e | e
      · exact .inl (by rw [← e, hp])
      · rw [e] at hp; have := Option.some.inj hp; exact .inr (by omega)
    · rw [h1] at e1
      injection e1 with e1
      injection e1 with e1
      injection e1 with e1
      rw [← e1] at e2
      rcases hat with e | e
      · rw [e] at e2; exact hne e2
      · rw [e] at e2; have := Option.some.inj e2; have := h3.lt; omega
  · rw [e6] at a; cases a
theorem NW.store (h : NW gB B v n X W0 L w f) (l2 : L 2 = true) (l4 : L 4 = true) (l6 : L 6 = false) (u : Value) : ∃ A c, f 4 = .slice A (n + 1) c ∧ NW gB B v n X W0 (fun j => j == 6 || L j) (w.setCell ⟨gB, 1, none⟩ (.slice A (n + 1) c)) (upd f 6 u) := by
  obtain ⟨g1, g2⟩ := h.gb l6
  obtain ⟨g, h1, h2, h3⟩ := h.md l2 l6
  obtain ⟨ho, hp, hn⟩ := h.out l4 l6
  obtain ⟨A, c, e4, _⟩ := own_rc ho
  rw [e4] at ho hp hn
  rw [h1] at ho
  refine ⟨A, c, e4, fun a => by simp at a, fun a => ?_, fun _ a => by simp at a, fun a b => ?_, fun _ a => by simp at a, fun _ => ⟨w, A, c, g, g1, ho, h2, h3, rfl, fun p hA => ?_, fun p hA e => ?_⟩⟩
  · have : (4 == 6 || L 4) = true := by simp [l4]
    rw [this] at a; cases a
  · have : (4 == 6 || L 4) = true := by simp [l4]
    rw [this] at b; cases b
  · exact hp p.block (by rw [hA]; rfl)
  · exact hn g 272 272 h1 (by rw [hA, ← e]; rfl)
end
def VN5 (w0 : World) (A : Option Addr) (i c : Nat) (k : Nat) (w : World) (v : Value) : Prop :=
  match k with
  | 0 => v = Value.pointer (some ⟨w0.heap.size + 2, 1, none⟩)
  | 1 => v = Value.slice A i c
  | 5 => v = Value.pointer (some ⟨w0.heap.size + 2, 1, none⟩)
  | _ => True
def tN (B : Nat) (i : Nat) (A : Option Addr) (c : Nat) : List Value := [.int .i64 4, .slice A i c, .slice (some ⟨B, 0, none⟩) 2 2, .int .u64 0, .slice none 0 0, .int .i64 0, .bool false, .int .i64 0, .bool false, .slice none 0 0]
structure NI (w : World) (i : Nat) (A : Option Addr) (c : Nat) (l : List Rw) (wr : World) : Prop where
  bel : Below w.heap.size w wr
  res : Blk wr w.heap.size 56 zT
  two : Blk wr (w.heap.size + 1) 22 [.slice none 0 0, .slice none 0 0]
  box : Blk wr (w.heap.size + 2) 56 (tN (w.heap.size + 1) i A c)
  own : wr.ownsRow (w.heap.size + 3) 22 1 (.slice A i c) i (rws l)
  hs : ∀ y ∈ l, Rc wr y.A (bs y.b) ∧ y.b = nought ∧ y.c = 272 ∧ ∀ a, y.A = some a → w.heap.size + 3 ≤ a.block ∧ a.block < wr.heap.size ∧ ∀ p, A = some p → p.block ≠ a.block
theorem NI.step {w wr w9 : World} {i : Nat} {A : Option Addr} {c : Nat} {l : List Rw} (h : NI w i A c l wr)
    (hst : ∃ w1 A9 c9 g, wr.grownBy w1 (Value.slice A i c).ownBlock ∧ w1.ownsRow (w.heap.size + 3) 22 1 (.slice A9 (i + 1) c9) (i + 1) (rws l ++ [.slice (some ⟨g, 0, none⟩) 272 272]) ∧ wr.heap.size ≤ g ∧ Blk w1 g 5 (bs nought) ∧ w9 = w1.setCell ⟨w.heap.size + 2, 1, none⟩ (.slice A9 (i + 1) c9) ∧ (∀ p, A9 = some p → some p.block = (Value.slice A i c).ownBlock ∨ wr.heap.size ≤ p.block) ∧ ∀ p, A9 = some p → p.block ≠ g) :
    ∃ A9 c9 l9, NI w (i + 1) A9 c9 l9 w9 := by
  obtain ⟨w1, A9, c9, g, h1, h2, h3, h4, h5, h6, h7⟩ := hst
  have hob : ∀ k, k < w.heap.size + 3 → some k ≠ (Value.slice A i c).ownBlock := fun k hk e => by have := (own_lt h.own k e.symm).1; omega
  have hz : w.heap.size + 3 ≤ wr.heap.size := h.box.lt
  have hne : ∀ k, k ≠ w.heap.size + 2 → w9.heap[k]? = w1.heap[k]? := fun k hk => by rw [h5]; exact Below.heap_setCell w1 ⟨w.heap.size + 2, 1, none⟩ _ k hk
  have hsz : w9.heap.size = w1.heap.size := by rw [h5]; simp
  have hA : ∀ p, A = some p → (Value.slice A i c).ownBlock = some p.block := fun p e => by rw [e]; rfl
  have hg9 : w.heap.size + 3 ≤ g := Nat.le_trans hz h3
  refine ⟨A9, c9, l ++ [⟨some ⟨g, 0, none⟩, nought, 272⟩], ?_, ?_, ?_, ?_, ?_, ?_⟩
  · rw [h5]; exact (below_lift h.bel h.bel.size h1 (fun k e => by have := (own_lt h.own k e).1; omega)).setCell (by show w.heap.size ≤ w.heap.size + 2; omega) _
  · exact (hne _ (by omega)).trans (h.res.grown h1 (hob _ (by omega)))
  · exact (hne _ (by omega)).trans (h.two.grown h1 (hob _ (by omega)))
  · rw [h5]; exact (h.box.grown h1 (hob _ (by omega))).set 1 _
  · have e : rws (l ++ [⟨some ⟨g, 0, none⟩, nought, 272⟩]) = rws l ++ [.slice (some ⟨g, 0, none⟩) 272 272] := by rw [rws_map, rws_map, List.map_append, List.map_cons, List.map_nil, nought_len]
    rw [e]
    exact own_keep h2 fun k hk => hne k (by have := (own_lt h2 k hk).1; omega)
  · intro y hy
    rcases List.mem_append.1 hy with hy | hy
    · obtain ⟨q1, q2, q3, q4⟩ := h.hs y hy
      refine ⟨q1.keep fun b off e hb => ?_, q2, q3, fun a e => ?_⟩
      · have hb4 := q4 _ e
        have hb4a : w.heap.size + 3 ≤ b := hb4.1
        refine (hne b (by omega)).trans (h1.block b hb fun e2 => ?_)
        cases hAA : A with
        | none => rw [hAA] at e2; cases e2
        | some p => rw [hA p hAA] at e2; exact hb4.2.2 p hAA (Option.some.inj e2).symm
      · obtain ⟨r1, r2, r3⟩ := q4 a e
        refine ⟨r1, by rw [hsz]; exact Nat.lt_of_lt_of_le r2 h1.size, fun p hp => ?_⟩
        rcases h6 p hp with e2 | e2
        · cases hAA : A with
          | none => rw [hAA] at e2; cases e2
          | some p' => rw [hA p' hAA] at e2; have := Option.some.inj e2; rw [this]; exact r3 p' hAA
        · omega
    · rw [List.mem_singleton.1 hy]
      have hb9 : Blk w9 g 5 (bs nought) := (hne g (by omega)).trans h4
      exact ⟨hb9.rc, rfl, rfl, fun a e => by injection e with e; subst e; exact ⟨hg9, hb9.lt, fun p hp => h7 p hp⟩⟩
set_option maxRecDepth 100000 in
set_option maxHeartbeats 4000000 in
theorem rnew_calls (w : World) (K : Nat → Nat) (hK : ∀ k, w.heap.size ≤ k → K k = 0) : Calls Try.prog 28 #[.int .i64 4] w (RetT K 0 (newP 4) w) := by
  have HK := Hd.mk hK
  clear hK
  have hmake : ∀ W : World, (Instr.makeSlice 22 (.int .i64 272) (.int .i64 272)).run Try.prog W = .ok (.slice (some ⟨W.heap.size, 0, none⟩) 272 272) (W.alloc (.cells (bs nought).toArray 5)) := run_make_u8 (P := Try.prog) 22 5 Try.underlying22 info_u8 272 (by omega)
  go_enter Try.func28, Try.ntmps28
  go_wp2
  obtain ⟨W, hW⟩ : ∃ W, ((w.alloc (.cells #[.int .i64 0, .slice none 0 0, .slice none 0 0, .int .u64 0, .slice none 0 0, .int .i64 0, .bool false, .int .i64 0, .bool false, .slice none 0 0] 56)).alloc (.cells #[.slice none 0 0, .slice none 0 0] 22)).alloc (.cells #[.int .i64 4, .slice none 0 0, .slice (some ⟨w.heap.size + 1, 0, none⟩) 2 2, .int .u64 0, .slice none 0 0, .int .i64 0, .bool false, .int .i64 0, .bool false, .slice none 0 0] 56) = W := ⟨_, rfl⟩
  have HI0 : Hd (NI w 0 none 0 [] W) := ⟨by
    have e1 : (w.alloc (.cells #[.int .i64 0, .slice none 0 0, .slice none 0 0, .int .u64 0, .slice none 0 0, .int .i64 0, .bool false, .int .i64 0, .bool false, .slice none 0 0] 56)).heap.size = w.heap.size + 1 := by simp
    have e2 : ((w.alloc (.cells #[.int .i64 0, .slice none 0 0, .slice none 0 0, .int .u64 0, .slice none 0 0, .int .i64 0, .bool false, .int .i64 0, .bool false, .slice none 0 0] 56)).alloc (.cells #[.slice none 0 0, .slice none 0 0] 22)).heap.size = w.heap.size + 2 := by simp
    rw [← hW]
    refine ⟨(((Below.refl w.heap.size w).alloc (Nat.le_refl _) _).alloc (by simp) _).alloc (by simp; omega) _, ((Blk.new w _ zT).alloc _).alloc _, ?_, ?_, World.ownsRow_nil _ _ _ _, fun _ h => (nomatch h)⟩
    · rw [← e1]; exact (Blk.new _ _ _).alloc _
    · rw [← e2]; exact Blk.new _ _ (tN (w.heap.size + 1) 0 none 0)⟩
  rw [show max (0 : Int) (min 4 4096) = 4 by decide, hW]
  clear hW
  go_loopw [4] (fun iv wr => ∃ i : Nat, iv = .int .i64 (i : Int) ∧ i ≤ 8 ∧ ∃ A0 c l, Hd (NI w i A0 c l wr)) (fun iv _ => 8 - (intOf iv).toNat)
  case atStart => exact ⟨0, rfl, Nat.zero_le _, _, _, _, HI0⟩
  case round =>
    clear HI0
    obtain ⟨i, rfl, hi, A0, c, l, HI⟩ := hrel
    have q0 := HI.out.box.cell (i := 0) (v := .int .i64 4) rfl
    by_cases hlt : i < 8
    · have hii : (i : Int) < 8 := by omega
      have HCC : Hd (∀ L w6 f, NW (w.heap.size + 2) (w.heap.size + 3) (.slice A0 i c) i (rws l) wr L w6 f → L 6 = false → w6.cell? ⟨w.heap.size + 2, 1, none⟩ = some (.slice A0 i c)) := ⟨fun L w6 f h h6 => by
        have := (h.gb h6).1
        exact (HI.out.box.grown this (fun e => by have := (own_lt HI.out.own _ e.symm).1; omega)).cell (i := 1) rfl⟩
      have HFF : Hd (∀ L w6 f, NW (w.heap.size + 2) (w.heap.size + 3) (.slice A0 i c) i (rws l) wr L w6 f → L 6 = false → w6.frozen? ⟨w.heap.size + 2, 1, none⟩ = false) := ⟨fun L w6 f h h6 => by
        have := (h.gb h6).1
        exact (HI.out.box.grown this (fun e => by have := (own_lt HI.out.own _ e.symm).1; omega)).frz 1⟩
      have HWZ : Hd (w.heap.size + 3 ≤ wr.heap.size) := ⟨HI.out.box.lt⟩
      have HOL : Hd (∀ p, (Value.slice A0 i c).ownBlock = some p → p < wr.heap.size) := ⟨fun p hp => (own_lt HI.out.own p hp).2⟩
      go_wp2_with (fail)
      refine region_stp (VN5 w A0 i c) (fun L Wx f => NW (w.heap.size + 2) (w.heap.size + 3) (.slice A0 i c) i (rws l) wr L Wx f) NoR (by kernel_rfl) (by kernel_rfl) (by kernel_rfl) (by kernel_rfl) (fun f => NW.start HI.out.own f) ?stab ?steps ?fin
      case stab => intro i j w1 w2 v o ho hij hwt hR h; exact h
      case steps =>
        refine StepsG.cons ?_ (StepsG.cons ?_ (StepsG.cons ?_ (StepsG.cons ?_ (StepsG.cons ?_ (StepsG.cons ?_ (StepsG.cons ?_ StepsG.nil))))))
        · intro L f A w6 Q hL hG hsz hlow hun hnl hp
          have e3 : A.tmps.getD 3 undef = Value.pointer (some ⟨w.heap.size + 2, 0, none⟩) := hlow 3 rfl
          clear hlow hun hnl hp
          refine wpOp_go rfl rfl ?_
          go_simp
          first | exact ⟨_, rfl, hG.past 0 _ (by decide), ⟨⟩, rfl⟩ | exact ⟨hG.past 0 _ (by decide), ⟨⟩, rfl⟩ | exact ⟨hG.past 0 _ (by decide), rfl⟩ | exact hG.past 0 _ (by decide) | exact ⟨hG.past 0 _ (by decide), ⟨⟩⟩ | exact ⟨_, rfl, hG.past 0 _ (by decide), ⟨⟩, trivial⟩ | exact ⟨_, rfl, ⟨⟩, rfl⟩ | exact ⟨⟨⟩, rfl⟩
        · intro L f A w6 Q hL hG hsz hlow hun hnl hp
          have f0 : f 0 = Value.pointer (some ⟨w.heap.size + 2, 1, none⟩) := (hp 0 rfl).2.1
          have e17 : A.tmps.getD 17 undef = Value.pointer (some ⟨w.heap.size + 2, 1, none⟩) := ((hp 0 rfl).2.2 17 rfl).trans f0
          have n6 := (hnl 6 1 hL rfl)
          have hcc := HCC.out L w6 f hG n6
          clear hlow hun hnl hp
          refine wpOp_go rfl rfl ?_
          go_simp
          first | exact ⟨_, rfl, hG.past 1 _ (by decide), ⟨⟩, rfl⟩ | exact ⟨hG.past 1 _ (by decide), ⟨⟩, rfl⟩ | exact ⟨hG.past 1 _ (by decide), rfl⟩ | exact hG.past 1 _ (by decide) | exact ⟨hG.past 1 _ (by decide), ⟨⟩⟩ | exact ⟨_, rfl, hG.past 1 _ (by decide), ⟨⟩, trivial⟩ | exact ⟨_, rfl, ⟨⟩, rfl⟩ | exact ⟨⟨⟩, rfl⟩
        · intro L f A w6 Q hL hG hsz hlow hun hnl hp
          have n3 := (hnl 3 2 hL rfl)
          have n4 := (hnl 4 3 (hnl 3 2 hL rfl) rfl)
          have n6 := (hnl 6 2 hL rfl)
          clear hlow hun hnl hp
          refine wpOp_go rfl rfl ?_
          go_simp
          exact ⟨_, rfl, hG.make n3 n4 n6, ⟨⟩, trivial⟩
        · intro L f A w6 Q hL hG hsz hlow hun hnl hp
          have e19 : A.tmps.getD 19 undef = f 2 := (hp 2 rfl).2.2 19 rfl
          have v2 := (hp 2 rfl).2.1
          have n4 := (hnl 4 3 hL rfl)
          have n6 := (hnl 6 3 hL rfl)
          obtain ⟨g2, h2, _, _⟩ := hG.md (hp 2 rfl).1 n6
          have hB := hG.built (hp 2 rfl).1 n4 n6
          rw [h2] at e19 hB
          clear hlow hun hnl hp
          refine wpOp_go rfl rfl (wp_bsl 53 1 #[(0, .tmp 19)] rfl #[(0, .slice (some ⟨g2, 0, none⟩) 272 272)] (by simp only [List.map_toArray, List.map_cons, List.map_nil, Act.eval]; rw [e19]) (.slice (some ⟨w6.heap.size, 0, none⟩) 1 1) (w6.alloc (.cells #[.slice (some ⟨g2, 0, none⟩) 272 272] 22)) (by go_simp) ?_)
          exact ⟨_, rfl, hB, ⟨⟩, trivial⟩
        · intro L f A w6 Q hL hG hsz hlow hun hnl hp
          have f1 : f 1 = Value.slice A0 i c := (hp 1 rfl).2.1
          have e18 : A.tmps.getD 18 undef = Value.slice A0 i c := ((hp 1 rfl).2.2 18 rfl).trans f1
          have e20 : A.tmps.getD 20 undef = f 3 := (hp 3 rfl).2.2 20 rfl
          have v3 := (hp 3 rfl).2.1
          have n6 := (hnl 6 4 hL rfl)
          obtain ⟨g7, h7, hg7, hb7⟩ := hG.row (hp 3 rfl).1 hL
          rw [h7] at e20
          have l2 : L 2 = true := by
            cases h : L 2 with
            | true => rfl
            | false => have := hnl 3 2 h rfl; rw [(hp 3 rfl).1] at this; cases this
          obtain ⟨g2, h2, _, _⟩ := hG.md l2 n6
          have hz := (hG.gb n6).2
          have hwz := HWZ.out
          clear hlow hun hnl hp
          refine wpOp_go rfl rfl (wp_app (w.heap.size + 3) 53 22 (.slice none 0 0) 1 24 (.tmp 18) (.tmp 20) rfl Try.underlying53 row_info rfl (by decide) (by decide) (.slice A0 i c) i (rws l) [f 2] (some ⟨g7, 0, none⟩) 1 1 e18 e20 (hG.own hL) hb7.rc rfl (by rw [h2]; simp [Value.oneCell']) (by omega) (by omega) (i + 1) (rws l ++ [f 2]) rfl rfl ?_)
          intro v1 w7 ho hg hat
          exact ⟨v1, rfl, hG.app HOL.out l2 hL n6 hg hat ho, ⟨⟩, trivial⟩
        · intro L f A w6 Q hL hG hsz hlow hun hnl hp
          have e3 : A.tmps.getD 3 undef = Value.pointer (some ⟨w.heap.size + 2, 0, none⟩) := hlow 3 rfl
          clear hlow hun hnl hp
          refine wpOp_go rfl rfl ?_
          go_simp
          first | exact ⟨_, rfl, hG.past 5 _ (by decide), ⟨⟩, rfl⟩ | exact ⟨hG.past 5 _ (by decide), ⟨⟩, rfl⟩ | exact ⟨hG.past 5 _ (by decide), rfl⟩ | exact hG.past 5 _ (by decide) | exact ⟨hG.past 5 _ (by decide), ⟨⟩⟩ | exact ⟨_, rfl, hG.past 5 _ (by decide), ⟨⟩, trivial⟩ | exact ⟨_, rfl, ⟨⟩, rfl⟩ | exact ⟨⟨⟩, rfl⟩
        · intro L f A w6 Q hL hG hsz hlow hun hnl hp
          have e21 : A.tmps.getD 21 undef = f 4 := (hp 4 rfl).2.2 21 rfl
          have v4 := (hp 4 rfl).2.1
          have f5 : f 5 = Value.pointer (some ⟨w.heap.size + 2, 1, none⟩) := (hp 5 rfl).2.1
          have e22 : A.tmps.getD 22 undef = Value.pointer (some ⟨w.heap.size + 2, 1, none⟩) := ((hp 5 rfl).2.2 22 rfl).trans f5
          have l2 : L 2 = true := by
            cases h : L 2 with
            | true => rfl
            | false => have h3 := hnl 3 2 h rfl; have := hnl 4 3 h3 rfl; rw [(hp 4 rfl).1] at this; cases this
          obtain ⟨A9, c9, h4, hS⟩ := hG.store l2 (hp 4 rfl).1 hL undef
          rw [h4] at e21
          have hcc := HCC.out L w6 f hG hL
          have hff := HFF.out L w6 f hG hL
          clear hlow hun hnl hp
          refine wpOp_go rfl rfl ?_
          go_simp
          first | exact ⟨undef, hS, ⟨⟩, trivial⟩ | exact ⟨undef, rfl, hS, ⟨⟩, trivial⟩ | exact ⟨_, rfl, hS, ⟨⟩, trivial⟩
      case fin =>
        intro L f w9 hLL hG hV
        obtain ⟨A9, c9, l9, hn⟩ := HI.out.step (hG.st (hLL 6 (by simp)))
        have HN := Hd.mk hn
        clear hG hV hLL hn HI HCC HFF HWZ HOL q0
        simp only [fillD, Act.put, List.setIfInBounds_toArray, List.set_cons_zero, List.set_cons_succ]
        go_wp2_with fail
        go_roundw
        case rel => exact ⟨i + 1, by go_num, by omega, A9, c9, l9, HN⟩
        case measure => simp [intOf]; omega
    · obtain rfl : i = 8 := by omega
      go_wp2_with (first
        | (refine wpList_load_row rfl 56 (.tmp 3) rfl (w.heap.size + 2) rfl 56 _ (0, 0) _ HI.out.box Try.underlying56 rfl t_info ?_)
        | (refine wpList_store_row rfl 56 (.tmp 2) (.tmp 23) rfl w.heap.size #[.int .i64 4, .slice A0 8 c, .slice (some ⟨w.heap.size + 1, 0, none⟩) 2 2, .int .u64 0, .slice none 0 0, .int .i64 0, .bool false, .int .i64 0, .bool false, .slice none 0 0] rfl rfl 56 zT.toArray HI.out.res t_info (zT_size _ rfl) (t_one _ _ _ _ _ _ _ _ _ _ _ _ _ _ _ _ _ _) ?_))
      obtain ⟨w9, hw9⟩ : ∃ w9, wr.setRow w.heap.size #[.int .i64 4, .slice A0 8 c, .slice (some ⟨w.heap.size + 1, 0, none⟩) 2 2, .int .u64 0, .slice none 0 0, .int .i64 0, .bool false, .int .i64 0, .bool false, .slice none 0 0] = w9 := ⟨_, rfl⟩
      have hb4 : Blk w9 w.heap.size 56 (tN (w.heap.size + 1) 8 A0 c) := by rw [← hw9]; exact HI.out.res.putRow (tN (w.heap.size + 1) 8 A0 c)
      have hbw : Below w.heap.size w w9 := by rw [← hw9]; exact below_row HI.out.bel (Nat.le_refl _) _
      have hne : ∀ k, k ≠ w.heap.size → w9.heap[k]? = wr.heap[k]? := fun k hk => by rw [← hw9]; exact setRow_other _ _ _ _ hk
      have hsz : w9.heap.size = wr.heap.size := by rw [← hw9]; simp
      rw [hw9]
      refine bodyPost_ret (results_cell_row rfl _ _ w.heap.size 56 (tN (w.heap.size + 1) 8 A0 c).toArray (0, 0) _ rfl hb4 Try.underlying56 rfl t_info) rfl ?_
      have hll : l.length = 8 := by have := HI.out.own.1; rw [rws_len] at this; omega
      obtain ⟨A5, c5, e5, hc5, hr5, ha5⟩ := own_rc HI.out.own
      injection e5 with e5 _ e6
      subst e5; subst e6
      have h2 : Blk w9 (w.heap.size + 1) 22 [.slice none 0 0, .slice none 0 0] := (hne _ (by omega)).trans HI.out.two
      refine ⟨⟨4, A0, l, c, some ⟨w.heap.size + 1, 0, none⟩, [⟨none, [], 0⟩, ⟨none, [], 0⟩], 2, 0, none, [], 0, 0, false, 0, false, none, [], 0⟩, ?_, ?_, hbw⟩
      · unfold Td.cells tN; dsimp only; rw [hll]; rfl
      · exact {
          lq := Nat.le_refl _
          rs := ⟨hr5.keep fun b off e hb => hne b (by have := (ha5 _ e).1; have : w.heap.size + 3 ≤ b := this; omega), fun a e _ => ⟨HK.out _ (by have := (ha5 a e).1; omega), by rw [hsz]; exact (ha5 a e).2⟩⟩
          hs := fun y hy => by
            obtain ⟨q1, q2, q3, q4⟩ := HI.out.hs y hy
            refine ⟨⟨q1.keep fun b off e hb => hne b (by have := (q4 _ e).1; have : w.heap.size + 3 ≤ b := this; omega), fun a e _ => ⟨HK.out _ (by have := (q4 a e).1; omega), by rw [hsz]; exact (q4 a e).2.1⟩⟩, by rw [q2, q3, nought_len]; exact Nat.le_refl _, by rw [q2, nought_len]⟩
          rq := ⟨h2.rc, fun a e _ => by injection e with e; subst e; exact ⟨HK.out _ (by show w.heap.size ≤ w.heap.size + 1; omega), h2.lt⟩⟩
          hq := fun y hy => by
            have : y = ⟨none, [], 0⟩ := by simpa using hy
            rw [this]; exact ⟨nil_fr _ _, Nat.le_refl _⟩
          rl := FrC.nil _ _ _
          hl := fun _ h => (nomatch h)
          rt := FrC.nil _ _ _
          ht := fun _ h => (nomatch h)
          e0 := ⟨rfl, rfl, rfl, rfl, rfl, rfl⟩
          et := rfl
          es := hll
          em := fun a t hlt _ => (HI.out.hs _ (List.getElem_mem hlt)).2.1
          eq := rfl
          el := fun _ => rfl
          nm := ⟨by decide, by decide, by decide, by decide, by decide, by decide, by decide⟩
          cp := ⟨by show l.length ≤ c; omega, Nat.le_refl _, Nat.le_refl _, Nat.le_refl _⟩ }
end Go.Proofs.Ytffhncpgknkkaaa
/-! from W06DidB -/
namespace Go.Proofs.Ytffhncpgknkkaaa
open Go.RowKit Go.Sac
set_option linter.unusedVariables false
set_option linter.unusedSimpArgs false
section
variable {w w0 : World} {g : Nat} {K : Nat → Nat} {s : Wd}
def RetVB (w0 : World) (g : Nat) (K : Nat → Nat) (s' : Wd) (bl : List UInt8) (r : Bool) (w : World) (e : Ending) (w' : World) : Prop :=
  ∃ A c, e = .returned (.tuple #[.slice A bl.length c, .bool r]) ∧ ∃ K', Fr w' K' A bl ∧ Wo w0 w' g K' s' ∧ Stp K K' w w'
set_option maxRecDepth 100000 in
set_option maxHeartbeats 4000000 in
theorem didb1 (h : Wo w0 w g K s) (hf : Few s) (a t n : Int) (AB : Option Addr) (b : List UInt8) (c : Nat) (hr : Fr w K AB b) (hc : b.length ≤ c) (hb : b.length ≤ 1099511627776) :
    Calls Try.prog 25 #[.pointer (some ⟨g, 0, none⟩), .agg #[.int .i64 1, .int .i64 a, .int .i64 t, .int .i64 n, .slice AB b.length c]] w (RetVB w0 g K (stepP s 1 a t n b) (stepB s 1 a t) (doR s 1 a t b) w) := by
  have h1 : Wo w0 (w.alloc (.cells #[.int .i64 1, .int .i64 a, .int .i64 t, .int .i64 n, .slice AB b.length c] 44)) g K s := h.below ((Below.refl _ _).alloc (Nat.le_refl _) _)
  have hs1 : Stp K K w (w.alloc (.cells #[.int .i64 1, .int .i64 a, .int .i64 t, .int .i64 n, .slice AB b.length c] 44)) := Stp.of_below ((Below.refl _ _).alloc (Nat.le_refl _) _)
  have HW := Hd.mk h1
  have HS := Hd.mk hs1
  clear h h1 hs1
  have HF := Hd.mk hf
  have HFR := Hd.mk hr
  have HC := Hd.mk hc
  have HB := Hd.mk hb
  clear hf hr hc hb
  go_enter Try.func25, Try.ntmps25
  go_wp2_with (go_at_call 13; refine (wo_read HW.out HF.out a t).mono ?_; rintro e w3 ⟨A3, c3, K3, rfl, _, hf3, h3, s3⟩; have H3 := Hd.mk h3; have S3 := Hd.mk s3; have F3 := Hd.mk hf3; clear h3 s3 hf3)
  go_ret2
  exact ⟨A3, c3, rfl, K3, F3.out, H3.out, HS.out.trans S3.out⟩
set_option maxRecDepth 100000 in
set_option maxHeartbeats 4000000 in
theorem didb2 (h : Wo w0 w g K s) (hf : Few s) (a t n : Int) (AB : Option Addr) (b : List UInt8) (c : Nat) (hr : Fr w K AB b) (hc : b.length ≤ c) (hb : b.length ≤ 1099511627776) :
    Calls Try.prog 25 #[.pointer (some ⟨g, 0, none⟩), .agg #[.int .i64 2, .int .i64 a, .int .i64 t, .int .i64 n, .slice AB b.length c]] w (RetVB w0 g K (stepP s 2 a t n b) (stepB s 2 a t) (doR s 2 a t b) w) := by
  have h1 : Wo w0 (w.alloc (.cells #[.int .i64 2, .int .i64 a, .int .i64 t, .int .i64 n, .slice AB b.length c] 44)) g K s := h.below ((Below.refl _ _).alloc (Nat.le_refl _) _)
  have hs1 : Stp K K w (w.alloc (.cells #[.int .i64 2, .int .i64 a, .int .i64 t, .int .i64 n, .slice AB b.length c] 44)) := Stp.of_below ((Below.refl _ _).alloc (Nat.le_refl _) _)
  have HW := Hd.mk h1
  have HS := Hd.mk hs1
  clear h h1 hs1
  have HF := Hd.mk hf
  have HFR := Hd.mk hr
  have HC := Hd.mk hc
  have HB := Hd.mk hb
  clear hf hr hc hb
  go_enter Try.func25, Try.ntmps25
  go_wp2_with (go_at_call 12; refine (wo_write HW.out HF.out a t AB _ c b (HFR.out.step HS.out) rfl HB.out).mono ?_; rintro e w3 ⟨rfl, K3, h3, s3⟩; have H3 := Hd.mk h3; have S3 := Hd.mk s3; clear h3 s3)
  go_ret2
  exact ⟨none, 0, rfl, K3, nil_fr _ _, H3.out, HS.out.trans S3.out⟩
set_option maxRecDepth 100000 in
set_option maxHeartbeats 4000000 in
theorem didb3 (h : Wo w0 w g K s) (hf : Few s) (a t n : Int) (AB : Option Addr) (b : List UInt8) (c : Nat) (hr : Fr w K AB b) (hc : b.length ≤ c) (hb : b.length ≤ 1099511627776) :
    Calls Try.prog 25 #[.pointer (some ⟨g, 0, none⟩), .agg #[.int .i64 3, .int .i64 a, .int .i64 t, .int .i64 n, .slice AB b.length c]] w (RetVB w0 g K (stepP s 3 a t n b) (stepB s 3 a t) (doR s 3 a t b) w) := by
  have h1 : Wo w0 (w.alloc (.cells #[.int .i64 3, .int .i64 a, .int .i64 t, .int .i64 n, .slice AB b.length c] 44)) g K s := h.below ((Below.refl _ _).alloc (Nat.le_refl _) _)
  have hs1 : Stp K K w (w.alloc (.cells #[.int .i64 3, .int .i64 a, .int .i64 t, .int .i64 n, .slice AB b.length c] 44)) := Stp.of_below ((Below.refl _ _).alloc (Nat.le_refl _) _)
  have HW := Hd.mk h1
  have HS := Hd.mk hs1
  clear h h1 hs1
  have HF := Hd.mk hf
  have HFR := Hd.mk hr
  have HC := Hd.mk hc
  have HB := Hd.mk hb
  clear hf hr hc hb
  go_enter Try.func25, Try.ntmps25
  go_wp2_with (go_at_call 22; refine (wo_look HW.out HF.out a).mono ?_; rintro e w3 ⟨A3, c3, K3, rfl, _, hf3, h3, s3⟩; have H3 := Hd.mk h3; have S3 := Hd.mk s3; have F3 := Hd.mk hf3; clear h3 s3 hf3)
  go_ret2
  exact ⟨A3, c3, rfl, K3, F3.out, H3.out, HS.out.trans S3.out⟩
set_option maxRecDepth 100000 in
set_option maxHeartbeats 4000000 in
theorem didb4 (h : Wo w0 w g K s) (hf : Few s) (a t n : Int) (AB : Option Addr) (b : List UInt8) (c : Nat) (hr : Fr w K AB b) (hc : b.length ≤ c) (hb : b.length ≤ 1099511627776) :
    Calls Try.prog 25 #[.pointer (some ⟨g, 0, none⟩), .agg #[.int .i64 4, .int .i64 a, .int .i64 t, .int .i64 n, .slice AB b.length c]] w (RetVB w0 g K (stepP s 4 a t n b) (stepB s 4 a t) (doR s 4 a t b) w) := by
  have h1 : Wo w0 (w.alloc (.cells #[.int .i64 4, .int .i64 a, .int .i64 t, .int .i64 n, .slice AB b.length c] 44)) g K s := h.below ((Below.refl _ _).alloc (Nat.le_refl _) _)
  have hs1 : Stp K K w (w.alloc (.cells #[.int .i64 4, .int .i64 a, .int .i64 t, .int .i64 n, .slice AB b.length c] 44)) := Stp.of_below ((Below.refl _ _).alloc (Nat.le_refl _) _)
  have HW := Hd.mk h1
  have HS := Hd.mk hs1
  clear h h1 hs1
  have HF := Hd.mk hf
  have HFR := Hd.mk hr
  have HC := Hd.mk hc
  have HB := Hd.mk hb
  clear hf hr hc hb
  go_enter Try.func25, Try.ntmps25
  go_wp2_with (go_at_call 21; refine (wo_seal HW.out HF.out a AB _ c b (HFR.out.step HS.out) rfl HC.out HB.out).mono ?_; rintro e w3 ⟨rfl, K3, h3, s3⟩; have H3 := Hd.mk h3; have S3 := Hd.mk s3; clear h3 s3)
  go_ret2
  exact ⟨none, 0, rfl, K3, nil_fr _ _, H3.out, HS.out.trans S3.out⟩
set_option maxRecDepth 100000 in
set_option maxHeartbeats 4000000 in
theorem didb5 (h : Wo w0 w g K s) (hf : Few s) (a t n : Int) (AB : Option Addr) (b : List UInt8) (c : Nat) (hr : Fr w K AB b) (hc : b.length ≤ c) (hb : b.length ≤ 1099511627776) :
    Calls Try.prog 25 #[.pointer (some ⟨g, 0, none⟩), .agg #[.int .i64 5, .int .i64 a, .int .i64 t, .int .i64 n, .slice AB b.length c]] w (RetVB w0 g K (stepP s 5 a t n b) (stepB s 5 a t) (doR s 5 a t b) w) := by
  have h1 : Wo w0 (w.alloc (.cells #[.int .i64 5, .int .i64 a, .int .i64 t, .int .i64 n, .slice AB b.length c] 44)) g K s := h.below ((Below.refl _ _).alloc (Nat.le_refl _) _)
  have hs1 : Stp K K w (w.alloc (.cells #[.int .i64 5, .int .i64 a, .int .i64 t, .int .i64 n, .slice AB b.length c] 44)) := Stp.of_below ((Below.refl _ _).alloc (Nat.le_refl _) _)
  have HW := Hd.mk h1
  have HS := Hd.mk hs1
  clear h h1 hs1
  have HF := Hd.mk hf
  have HFR := Hd.mk hr
  have HC := Hd.mk hc
  have HB := Hd.mk hb
  clear hf hr hc hb
  go_enter Try.func25, Try.ntmps25
  go_wp2_with (go_at_call 18; refine (wo_bump HW.out HF.out.trace).mono ?_; rintro e w3 ⟨rfl, K3, h3, s3⟩; have H3 := Hd.mk h3; have S3 := Hd.mk s3; clear h3 s3)
  go_ret2
  exact ⟨none, 0, rfl, K3, nil_fr _ _, H3.out, HS.out.trans S3.out⟩
set_option maxRecDepth 100000 in
set_option maxHeartbeats 4000000 in
theorem didb6 (h : Wo w0 w g K s) (hf : Few s) (a t n : Int) (AB : Option Addr) (b : List UInt8) (c : Nat) (hr : Fr w K AB b) (hc : b.length ≤ c) (hb : b.length ≤ 1099511627776) :
    Calls Try.prog 25 #[.pointer (some ⟨g, 0, none⟩), .agg #[.int .i64 6, .int .i64 a, .int .i64 t, .int .i64 n, .slice AB b.length c]] w (RetVB w0 g K (stepP s 6 a t n b) (stepB s 6 a t) (doR s 6 a t b) w) := by
  have h1 : Wo w0 (w.alloc (.cells #[.int .i64 6, .int .i64 a, .int .i64 t, .int .i64 n, .slice AB b.length c] 44)) g K s := h.below ((Below.refl _ _).alloc (Nat.le_refl _) _)
  have hs1 : Stp K K w (w.alloc (.cells #[.int .i64 6, .int .i64 a, .int .i64 t, .int .i64 n, .slice AB b.length c] 44)) := Stp.of_below ((Below.refl _ _).alloc (Nat.le_refl _) _)
  have HW := Hd.mk h1
  have HS := Hd.mk hs1
  clear h h1 hs1
  have HF := Hd.mk hf
  have HFR := Hd.mk hr
  have HC := Hd.mk hc
  have HB := Hd.mk hb
  clear hf hr hc hb
  go_enter Try.func25, Try.ntmps25
  go_wp2_with (go_at_call 14; refine (wo_lie HW.out n AB _ c b (HFR.out.step HS.out).rc rfl HB.out).mono ?_; rintro e w3 ⟨rfl, K3, h3, s3⟩; have H3 := Hd.mk h3; have S3 := Hd.mk s3; clear h3 s3)
  go_ret2
  exact ⟨none, 0, rfl, K3, nil_fr _ _, H3.out, HS.out.trans S3.out⟩
set_option maxRecDepth 100000 in
set_option maxHeartbeats 4000000 in
theorem didb7 (h : Wo w0 w g K s) (hf : Few s) (a t n : Int) (AB : Option Addr) (b : List UInt8) (c : Nat) (hr : Fr w K AB b) (hc : b.length ≤ c) (hb : b.length ≤ 1099511627776) :
    Calls Try.prog 25 #[.pointer (some ⟨g, 0, none⟩), .agg #[.int .i64 7, .int .i64 a, .int .i64 t, .int .i64 n, .slice AB b.length c]] w (RetVB w0 g K (stepP s 7 a t n b) (stepB s 7 a t) (doR s 7 a t b) w) := by
  have h1 : Wo w0 (w.alloc (.cells #[.int .i64 7, .int .i64 a, .int .i64 t, .int .i64 n, .slice AB b.length c] 44)) g K s := h.below ((Below.refl _ _).alloc (Nat.le_refl _) _)
  have hs1 : Stp K K w (w.alloc (.cells #[.int .i64 7, .int .i64 a, .int .i64 t, .int .i64 n, .slice AB b.length c] 44)) := Stp.of_below ((Below.refl _ _).alloc (Nat.le_refl _) _)
  have HW := Hd.mk h1
  have HS := Hd.mk hs1
  clear h h1 hs1
  have HF := Hd.mk hf
  have HFR := Hd.mk hr
  have HC := Hd.mk hc
  have HB := Hd.mk hb
  clear hf hr hc hb
  go_enter Try.func25, Try.ntmps25
  go_wp2_with (go_at_call 16; refine (wo_arm HW.out n).mono ?_; rintro e w3 ⟨rfl, K3, h3, s3⟩; have H3 := Hd.mk h3; have S3 := Hd.mk s3; clear h3 s3)
  go_ret2
  exact ⟨none, 0, rfl, K3, nil_fr _ _, H3.out, HS.out.trans S3.out⟩
set_option maxRecDepth 100000 in
set_option maxHeartbeats 4000000 in
theorem didb8 (h : Wo w0 w g K s) (hf : Few s) (a t n : Int) (AB : Option Addr) (b : List UInt8) (c : Nat) (hr : Fr w K AB b) (hc : b.length ≤ c) (hb : b.length ≤ 1099511627776) :
    Calls Try.prog 25 #[.pointer (some ⟨g, 0, none⟩), .agg #[.int .i64 8, .int .i64 a, .int .i64 t, .int .i64 n, .slice AB b.length c]] w (RetVB w0 g K (stepP s 8 a t n b) (stepB s 8 a t) (doR s 8 a t b) w) := by
  have h1 : Wo w0 (w.alloc (.cells #[.int .i64 8, .int .i64 a, .int .i64 t, .int .i64 n, .slice AB b.length c] 44)) g K s := h.below ((Below.refl _ _).alloc (Nat.le_refl _) _)
  have hs1 : Stp K K w (w.alloc (.cells #[.int .i64 8, .int .i64 a, .int .i64 t, .int .i64 n, .slice AB b.length c] 44)) := Stp.of_below ((Below.refl _ _).alloc (Nat.le_refl _) _)
  have HW := Hd.mk h1
  have HS := Hd.mk hs1
  clear h h1 hs1
  have HF := Hd.mk hf
  have HFR := Hd.mk hr
  have HC := Hd.mk hc
  have HB := Hd.mk hb
  clear hf hr hc hb
  go_enter Try.func25, Try.ntmps25
  go_wp2_with (go_at_call 20; refine (wo_restart HW.out).mono ?_; rintro e w3 ⟨rfl, K3, h3, s3⟩; have H3 := Hd.mk h3; have S3 := Hd.mk s3; clear h3 s3)
  go_ret2
  exact ⟨none, 0, rfl, K3, nil_fr _ _, H3.out, HS.out.trans S3.out⟩
set_option maxRecDepth 100000 in
set_option maxHeartbeats 4000000 in
theorem didb0 (h : Wo w0 w g K s) (k a t n : Int) (v : Value) (n1 : ¬ k = 1) (n2 : ¬ k = 2) (n3 : ¬ k = 3) (n4 : ¬ k = 4) (n5 : ¬ k = 5) (n6 : ¬ k = 6) (n7 : ¬ k = 7) (n8 : ¬ k = 8) (n9 : ¬ k = 9) :
    Calls Try.prog 25 #[.pointer (some ⟨g, 0, none⟩), .agg #[.int .i64 k, .int .i64 a, .int .i64 t, .int .i64 n, v]] w (RetVB w0 g K s [] false w) := by
  have h1 : Wo w0 (w.alloc (.cells #[.int .i64 k, .int .i64 a, .int .i64 t, .int .i64 n, v] 44)) g K s := h.below ((Below.refl _ _).alloc (Nat.le_refl _) _)
  have hs1 : Stp K K w (w.alloc (.cells #[.int .i64 k, .int .i64 a, .int .i64 t, .int .i64 n, v] 44)) := Stp.of_below ((Below.refl _ _).alloc (Nat.le_refl _) _)
  have HW := Hd.mk h1
  have HS := Hd.mk hs1
  clear h h1 hs1
  have e1 : (k == 1) = false := by rw [beq_eq_false_iff_ne]; exact n1
  have e2 : (k == 2) = false := by rw [beq_eq_false_iff_ne]; exact n2
  have e3 : (k == 3) = false := by rw [beq_eq_false_iff_ne]; exact n3
  have e4 : (k == 4) = false := by rw [beq_eq_false_iff_ne]; exact n4
  have e5 : (k == 5) = false := by rw [beq_eq_false_iff_ne]; exact n5
  have e6 : (k == 6) = false := by rw [beq_eq_false_iff_ne]; exact n6
  have e7 : (k == 7) = false := by rw [beq_eq_false_iff_ne]; exact n7
  have e8 : (k == 8) = false := by rw [beq_eq_false_iff_ne]; exact n8
  have e9 : (k == 9) = false := by rw [beq_eq_false_iff_ne]; exact n9
  go_enter Try.func25, Try.ntmps25
  go_wp2_with fail
  go_ret2
  exact ⟨none, 0, rfl, K, nil_fr _ _, HW.out, HS.out⟩
set_option maxRecDepth 100000 in
set_option maxHeartbeats 4000000 in
theorem didb9 (h : Wo w0 w g K s) (a t n : Int) (v : Value) :
    Calls Try.prog 25 #[.pointer (some ⟨g, 0, none⟩), .agg #[.int .i64 9, .int .i64 a, .int .i64 t, .int .i64 n, v]] w (RetVB w0 g K (setP s (IntKind.u64.wrap n)) [] false w) := by
  have h1 : Wo w0 (w.alloc (.cells #[.int .i64 9, .int .i64 a, .int .i64 t, .int .i64 n, v] 44)) g K s := h.below ((Below.refl _ _).alloc (Nat.le_refl _) _)
  have hs1 : Stp K K w (w.alloc (.cells #[.int .i64 9, .int .i64 a, .int .i64 t, .int .i64 n, v] 44)) := Stp.of_below ((Below.refl _ _).alloc (Nat.le_refl _) _)
  have HW := Hd.mk h1
  have HS := Hd.mk hs1
  clear h h1 hs1
  have hb : 0 ≤ IntKind.u64.wrap n ∧ IntKind.u64.wrap n < 18446744073709551616 := by rw [IntKind.wrap_u64]; omega
  have HB := Hd.mk hb
  clear hb
  go_enter Try.func25, Try.ntmps25
  go_wp2_with (go_at_call 24; refine (wo_set HW.out (IntKind.u64.wrap n) HB.out.1 HB.out.2).mono ?_; rintro e w3 ⟨rfl, K3, h3, s3⟩; have H3 := Hd.mk h3; have S3 := Hd.mk s3; clear h3 s3)
  go_ret2
  exact ⟨none, 0, rfl, K3, nil_fr _ _, H3.out, HS.out.trans S3.out⟩
theorem didb_calls (h : Wo w0 w g K s) (hf : Few s) (x : Dd) (hr : Fr w K x.A x.b) (hc : x.b.length ≤ x.c) (hb : x.b.length ≤ 1099511627776) :
    Calls Try.prog 25 #[.pointer (some ⟨g, 0, none⟩), .agg x.cells.toArray] w (RetVB w0 g K (stepP s x.kind x.at_ x.slot x.n x.b) (stepB s x.kind x.at_ x.slot) (doR s x.kind x.at_ x.slot x.b) w) := by
  obtain ⟨k, a, t, n, A, b, c⟩ := x
  by_cases n1 : k = 1
  · subst n1; exact didb1 h hf a t n A b c hr hc hb
  by_cases n2 : k = 2
  · subst n2; exact didb2 h hf a t n A b c hr hc hb
  by_cases n3 : k = 3
  · subst n3; exact didb3 h hf a t n A b c hr hc hb
  by_cases n4 : k = 4
  · subst n4; exact didb4 h hf a t n A b c hr hc hb
  by_cases n5 : k = 5
  · subst n5; exact didb5 h hf a t n A b c hr hc hb
  by_cases n6 : k = 6
  · subst n6; exact didb6 h hf a t n A b c hr hc hb
  by_cases n7 : k = 7
  · subst n7; exact didb7 h hf a t n A b c hr hc hb
  by_cases n8 : k = 8
  · subst n8; exact didb8 h hf a t n A b c hr hc hb
  by_cases n9 : k = 9
  · subst n9; exact didb9 h a t n _
  have ep : stepP s k a t n b = s := by unfold stepP doP; rw [if_neg n9, if_neg n1, if_neg n2, if_neg n3, if_neg n4, if_neg n5, if_neg n6, if_neg n7, if_neg n8]
  have eb : stepB s k a t = [] := by unfold stepB; rw [if_neg n1, if_neg n3]
  have er : doR s k a t b = false := by unfold doR; rw [if_neg n2, if_neg n4, if_neg n5]
  dsimp only
  rw [ep, eb, er]
  exact didb0 h k a t n _ n1 n2 n3 n4 n5 n6 n7 n8 n9
end
end Go.Proofs.Ytffhncpgknkkaaa
/-! from W06LawCopies -/
namespace Go.Proofs.Ytffhncpgknkkaaa
open Go.RowKit Go.Sac
set_option linter.unusedVariables false
set_option linter.unusedSimpArgs false
def tagK (K : Nat → Nat) (B : Nat) : Nat → Nat := fun k => if k = B then 1 else K k
theorem tagK_at (K : Nat → Nat) (B : Nat) : tagK K B B ≠ 0 := by unfold tagK; simp
theorem tagK_ne (K : Nat → Nat) {B k : Nat} (h : k ≠ B) : tagK K B k = K k := if_neg h
theorem tagK_zero {K : Nat → Nat} {B k : Nat} (h : tagK K B k = 0) : k ≠ B ∧ K k = 0 := by
  by_cases e : k = B
  · rw [e] at h; exact absurd h (tagK_at K B)
  · exact ⟨e, by rw [tagK_ne K e] at h; exact h⟩
theorem Stp.tag {K K' : Nat → Nat} {w w' : World} (h : Stp K K' w w') (B : Nat) : Stp (tagK K B) (tagK K' B) w w' :=
  ⟨h.os, h.tape, h.output, h.size, fun k hk e => h.block k hk (tagK_zero e).2, fun k hk e => by rw [tagK_ne K' (tagK_zero e).1]; exact h.free k hk (tagK_zero e).2⟩
theorem blk_stp {w w' : World} {K K' : Nat → Nat} {B : Nat} {t : TypeId} {cs : List Value} (h : Blk w B t cs) (hs : Stp K K' w w') (h0 : K B = 0) : Blk w' B t cs := (hs.block B h.lt h0).trans h
theorem Wo.row {w0 w : World} {g : Nat} {K : Nat → Nat} {s : Wd} (h : Wo w0 w g K s) {B : Nat} (hB : K B = 0) (h0 : w0.heap.size ≤ B) (cs : Array Value) : Wo w0 (w.setRow B cs) g K s := by
  obtain ⟨c, hc⟩ := h.ex
  exact ⟨⟨c, hc.keep (by simp) fun k hk => setRow_other _ _ _ _ (fun e => hk (by rw [e]; exact hB))⟩, below_row h.bel h0 cs, h.own⟩
theorem Wo.other {w0 w w1 : World} {g : Nat} {J K K1 : Nat → Nat} {s : Wd} (h : Wo w0 w g J s) (hs : Stp K K1 w w1) (hb : Below w0.heap.size w0 w1) (hd : ∀ k, J k = 0 ∨ K k = 0) : Wo w0 w1 g J s ∧ ∀ k, J k = 0 ∨ K1 k = 0 := by
  obtain ⟨c, hc⟩ := h.ex
  have h0 : ∀ k, J k ≠ 0 → K k = 0 := fun k hk => (hd k).resolve_left hk
  refine ⟨⟨⟨c, hc.keep hs.size fun k hk => hs.block k (hc.dom k hk) (h0 k hk)⟩, hb, h.own⟩, fun k => ?_⟩
  by_cases e : J k = 0
  · exact .inl e
  · exact .inr (hs.free k (hc.dom k e) (h0 k e))
theorem Wo.arg_tag {w0 w : World} {g : Nat} {K : Nat → Nat} {s : Wd} (h : Wo w0 w g K s) {B : Nat} (hB : w0.heap.size ≤ B) {A : Option Addr} {b : List UInt8} (hr : Rc w0 A (bs b)) : Fr w (tagK K B) A b :=
  ⟨hr.below h.bel, fun a e hb => by
    have hf := (h.arg hr).fr a e hb
    obtain ⟨q, off, e2, hq, _⟩ := hr.form (by rw [bs_len]; exact List.length_pos_iff.2 hb)
    rw [e] at e2
    injection e2 with e2
    have hn : a.block ≠ B := by rw [e2]; show q ≠ B; omega
    exact ⟨by rw [tagK_ne K hn]; exact hf.1, hf.2⟩⟩
/-- a row of bytes is no T's box -/
theorem Fr.tag {w : World} {K : Nat → Nat} {B : Nat} {x : Td} {A : Option Addr} {b : List UInt8} (h : Fr w K A b) (hb : Blk w B 56 x.cells) : Fr w (tagK K B) A b :=
  ⟨h.rc, fun a e hne => by
    have hf := h.fr a e hne
    refine ⟨?_, hf.2⟩
    rw [tagK_ne K]
    · exact hf.1
    intro eB
    obtain ⟨q, off, e2, hq, hc⟩ := h.rc.form (by rw [bs_len]; exact List.length_pos_iff.2 hne)
    rw [e] at e2
    injection e2 with e2
    have eq : q = B := by rw [← eB, e2]
    subst eq
    have h0 := hc 0 _ (List.getElem?_eq_getElem (by rw [bs_len]; exact List.length_pos_iff.2 hne))
    rw [Nat.add_zero] at h0
    obtain ⟨y, hy⟩ : ∃ y : UInt8, (bs b)[0]'(by rw [bs_len]; exact List.length_pos_iff.2 hne) = .int .u8 (y.toNat : Int) := by
      cases b with
      | nil => exact absurd rfl hne
      | cons y t => exact ⟨y, rfl⟩
    rw [hy] at h0
    by_cases ho : off < 10
    · have h1 : ∃ u, x.cells[off]? = some u := ⟨_, List.getElem?_eq_getElem (by show off < 10; exact ho)⟩
      obtain ⟨u, hu⟩ := h1
      have h2 := hb.cell (i := off) hu
      rw [h0] at h2
      have h3 := Option.some.inj h2
      subst h3
      rcases (show off = 0 ∨ off = 1 ∨ off = 2 ∨ off = 3 ∨ off = 4 ∨ off = 5 ∨ off = 6 ∨ off = 7 ∨ off = 8 ∨ off = 9 by omega) with rfl | rfl | rfl | rfl | rfl | rfl | rfl | rfl | rfl | rfl <;> simp [Td.cells] at hu
    · rw [cell_of_row w q off x.cells.toArray _ _ hb] at h0
      have : x.cells.toArray[off]? = none := Array.getElem?_eq_none (by show 10 ≤ off; omega)
      rw [this] at h0
      cases h0⟩
/-- what goes along with a world: a T in a box -/
structure CopSt (w0 w : World) (g B : Nat) (K : Nat → Nat) (q : Nat) (s : Wd) (x : Td) : Prop where
  wo : Wo w0 w g K s
  tm : Tm w (tagK K B) q x s
  bk : Blk w B 56 x.cells
  k0 : K B = 0
  b0 : w0.heap.size ≤ B
  li : Lite s q
  tr : ∀ x ∈ s.trace, x.2.2.2.length ≤ 1099511627776
structure CopMid (w0 w : World) (g B : Nat) (K : Nat → Nat) (q : Nat) (s s2 : Wd) (x : Td) : Prop where
  wo : Wo w0 w g K s2
  tm : Tm w (tagK K B) q x s
  bk : Blk w B 56 x.cells
  k0 : K B = 0
  b0 : w0.heap.size ≤ B
  li : Lite s2 (q + 1)
  tr : ∀ x ∈ s2.trace, x.2.2.2.length ≤ 1099511627776
section
variable {w0 w : World} {g B : Nat} {K : Nat → Nat} {q : Nat} {s s2 : Wd} {x : Td}
theorem CopSt.hi (h : CopSt w0 w g B K q s x) : ∀ k, w.heap.size ≤ k → tagK K B k = 0 := fun k hk => by
  have := h.bk.lt
  rw [tagK_ne K (by omega)]
  exact h.wo.len.2 k hk
theorem CopMid.hi (h : CopMid w0 w g B K q s s2 x) : ∀ k, w.heap.size ≤ k → tagK K B k = 0 := fun k hk => by
  have := h.bk.lt
  rw [tagK_ne K (by omega)]
  exact h.wo.len.2 k hk
theorem lite_step (L : Lite s q) (T : ∀ x ∈ s.trace, x.2.2.2.length ≤ 1099511627776) (hl : ∀ p, (s.slots p).length = 272) (hp : 0 ≤ s.power) (k a t n : Int) (b : List UInt8) (hb : b.length ≤ 1099511627776) : Lite (stepP s k a t n b) (q + 1) ∧ ∀ x ∈ (stepP s k a t n b).trace, x.2.2.2.length ≤ 1099511627776 := by
  unfold stepP
  split
  · exact ⟨⟨L.up.reads, L.up.trace, L.lies, L.s0, L.s1⟩, T⟩
  · refine ⟨L.step _ _ _ _ _ hb hp, fun y hy => ?_⟩
    rw [trace_step] at hy
    rcases List.mem_append.1 hy with h | h
    · exact T y h
    · exact add_small L hl k a t b hb y h
theorem CopSt.did (h : CopSt w0 w g B K q s x) {w3 : World} {K3 : Nat → Nat} (h3 : Wo w0 w3 g K3 s2) (hs : Stp K K3 w w3) (hl : Lite s2 (q + 1) ∧ ∀ x ∈ s2.trace, x.2.2.2.length ≤ 1099511627776) : CopMid w0 w3 g B K3 q s s2 x :=
  ⟨h3, h.tm.step (hs.tag B), blk_stp h.bk hs h.k0, hs.free _ h.bk.lt h.k0, h.b0, hl.1, hl.2⟩
theorem CopMid.next (h : CopMid w0 w g B K q s s2 x) {w9 : World} (hb : Below w.heap.size w w9) {x9 : Td} (h9 : Tm w9 (tagK K B) (q + 1) x9 s2) : CopSt w0 (w9.setRow B x9.cells.toArray) g B K (q + 1) s2 x9 :=
  ⟨(h.wo.below hb).row h.k0 h.b0 _, h9.step (boxed_end (fun _ h => h) (tagK_at K B) w9 _), (h.bk.below hb h.bk.lt).putRow x9.cells, h.k0, h.b0, h.li, h.tr⟩
theorem CopSt.start {K0 : Nat → Nat} (h : Wo w0 w g K0 s) (ht : Tm w K0 0 x s) (hl : Lite s 0) (htr : ∀ x ∈ s.trace, x.2.2.2.length ≤ 1099511627776) {w2 : World} (hb : Below w.heap.size w w2) (hk : Blk w2 w.heap.size 56 x.cells) : CopSt w0 w2 g w.heap.size K0 0 s x :=
  ⟨h.below hb, ht.step (Stp.into hb fun k hk => tagK_ne K0 (by omega)), hk, h.len.2 _ (Nat.le_refl _), h.bel.size, hl, htr⟩
end
/-- the first world, with its T, beside the copy, with its own -/
structure Cop2 (w0 w : World) (g B : Nat) (K : Nat → Nat) (n1 : Nat) (s1 : Wd) (x1 : Td) (gx C : Nat) (J : Nat → Nat) (q : Nat) (s : Wd) (x : Td) : Prop where
  c : CopSt w0 w gx C J q s x
  wo : Wo w0 w g K s1
  tm : Tm w (tagK J C) n1 x1 s1
  bk : Blk w B 56 x1.cells
  ap : ∀ k, K k = 0 ∨ J k = 0
  jb : J B = 0
  bc : B ≠ C
  kc : K C = 0
section
variable {w0 w : World} {g B gx C : Nat} {K J : Nat → Nat} {n1 q : Nat} {s1 s s2 : Wd} {x1 x : Td}
theorem Cop2.did (h : Cop2 w0 w g B K n1 s1 x1 gx C J q s x) {w3 w9 : World} {J3 : Nat → Nat} (h3 : Wo w0 w3 gx J3 s2) (hs : Stp J J3 w w3) (hl : Lite s2 (q + 1) ∧ ∀ x ∈ s2.trace, x.2.2.2.length ≤ 1099511627776)
    (hb : Below w3.heap.size w3 w9) {x9 : Td} (h9 : Tm w9 (tagK J3 C) (q + 1) x9 s2) : Cop2 w0 (w9.setRow C x9.cells.toArray) g B K n1 s1 x1 gx C J3 (q + 1) s2 x9 := by
  have hm := h.c.did h3 hs hl
  obtain ⟨a, b⟩ := h.wo.other hs h3.bel h.ap
  have hst := boxed_end (K := tagK J3 C) (K3 := tagK J3 C) (fun _ h => h) (tagK_at J3 C) w9 x9.cells.toArray
  have hb3 := blk_stp h.bk hs h.jb
  have hj : J3 B = 0 := hs.free B h.bk.lt h.jb
  exact ⟨hm.next hb h9, (a.below hb).row h.kc h.c.b0 _, ((h.tm.step (hs.tag C)).below hb).step hst, blk_stp (hb3.below hb hb3.lt) hst (by rw [tagK_ne J3 h.bc]; exact hj), b, hj, h.bc, h.kc⟩
/-- the copy is made, and its box -/
theorem Cop2.start {K : Nat → Nat} (h : CopSt w0 w g B K n1 s1 x1) {w1 w2 : World} {J : Nat → Nat} {d : Wc} (hw : WdAt w1 gx J d s1) (hb : Below w.heap.size w w1) (hn : ∀ k, J k ≠ 0 → w.heap.size ≤ k)
    (hb2 : Below w1.heap.size w1 w2) (hk : Blk w2 w1.heap.size 56 x1.cells) : Cop2 w0 w2 g B K n1 s1 x1 gx w1.heap.size J n1 s1 x1 := by
  have hbel := below_then h.wo.bel h.wo.bel.size hb
  have hj : Wo w0 w1 gx J s1 := ⟨⟨d, hw⟩, hbel, fun k hk => Nat.le_trans h.wo.bel.size (hn k hk)⟩
  have hj0 : ∀ k, k < w.heap.size → J k = 0 := fun k hk => by
    by_cases e : J k = 0
    · exact e
    · have := hn k e; omega
  have hst : Stp (tagK K B) (tagK J w1.heap.size) w w1 := ⟨hb.os, hb.tape, hb.output, hb.size, fun k hk _ => hb.block k hk, fun k hk _ => by rw [tagK_ne J (by have := hb.size; omega)]; exact hj0 k hk⟩
  have htm := (h.tm.step hst).below hb2
  have hlt := h.bk.lt
  have hsz := hb.size
  refine ⟨⟨hj.below hb2, htm, hk, hj.len.2 _ (Nat.le_refl _), hbel.size, h.li, h.tr⟩, (h.wo.below hb).below hb2, htm, (h.bk.below hb hlt).below hb2 (by omega), fun k => ?_, hj0 _ hlt, by omega, h.wo.len.2 _ hsz⟩
  by_cases e : J k = 0
  · exact .inr e
  · exact .inl (h.wo.len.2 k (hn k e))
theorem Cop2.below (h : Cop2 w0 w g B K n1 s1 x1 gx C J q s x) {w' : World} (hb : Below w.heap.size w w') : Cop2 w0 w' g B K n1 s1 x1 gx C J q s x :=
  ⟨⟨h.c.wo.below hb, h.c.tm.below hb, h.c.bk.below hb h.c.bk.lt, h.c.k0, h.c.b0, h.c.li, h.c.tr⟩, h.wo.below hb, h.tm.below hb, h.bk.below hb h.bk.lt, h.ap, h.jb, h.bc, h.kc⟩
end
/-- told: a T, bytes, and a truth -/
def RSB (q : Nat) (s : Wd) (b : List UInt8) (r : Bool) (w : World) (K : Nat → Nat) (cs : List Value) (v : Value) : Prop :=
  ∃ x, cs = Td.cells x ∧ ∃ A c, v = .tuple #[.agg x.cells.toArray, .slice A b.length c, .bool r] ∧ Tm w K q x s ∧ Fr w K A b ∧ b.length ≤ c
theorem RSB.last (q : Nat) (s : Wd) (b : List UInt8) (r : Bool) : Lasting (RSB q s b r) := fun K1 K2 w w' cs v hs ⟨x, h1, A, c, h2, h3, h4, h5⟩ => ⟨x, h1, A, c, h2, h3.step hs, h4.step hs, h5⟩
theorem RSB.same {q : Nat} {s : Wd} {b : List UInt8} {r : Bool} {w' : World} {K' : Nat → Nat} {x : Td} {A : Option Addr} {c : Nat} {v : Value} (h : v = .tuple #[.agg x.cells.toArray, .slice A b.length c, .bool r]) (hh : ∃ cs, RSB q s b r w' K' cs v) : RSB q s b r w' K' x.cells v := by
  obtain ⟨cs, y, h1, A2, c2, h2, h3⟩ := hh
  have e : Value.agg x.cells.toArray = .agg y.cells.toArray := by
    rw [h] at h2
    injection h2 with h2
    have := congrArg (fun z : Array Value => z.getD 0 undef) h2
    exact this
  exact ⟨y, cells_inj e, A2, c2, h2, h3⟩
def VZ (A : Option Addr) (m ca bb off q : Nat) (x : Td) (y : Dd) (i : Nat) (w : World) (v : Value) : Prop :=
  match i with
  | 0 => v = Value.agg x.cells.toArray
  | 1 => v = Value.slice A m ca
  | 2 => v = Value.int .i64 (q : Int)
  | 3 => v = Value.pointer (some ⟨bb, off + q * 5, none⟩)
  | 4 => v = Value.agg y.cells.toArray
  | _ => True
def VY (g gx B C : Nat) (s s4 : Wd) (x1 x : Td) (i : Nat) (w : World) (v : Value) : Prop :=
  match i with
  | 0 => v = Value.pointer (some ⟨g, 0, none⟩)
  | 1 => ∃ A c T, v = .slice A T.length c ∧ T.map Tr.val = s.trace ∧ Rc w A (trs T) ∧ HeldR w T
  | 2 => v = Value.pointer (some ⟨B, 9, none⟩)
  | 3 => v = Value.slice x1.AT x1.T.length x1.cT
  | 4 => v = Value.bool true
  | 5 => v = Value.bool true
  | 6 => v = Value.pointer (some ⟨gx, 0, none⟩)
  | 7 => ∃ A c T, v = .slice A T.length c ∧ T.map Tr.val = s4.trace ∧ Rc w A (trs T) ∧ HeldR w T
  | 8 => v = Value.pointer (some ⟨C, 9, none⟩)
  | 9 => v = Value.slice x.AT x.T.length x.cT
  | 10 => v = Value.bool true
  | 11 => v = Value.bool true
  | 12 => v = Value.bool true
  | 13 => v = Value.pointer (some ⟨g, 0, none⟩)
  | 14 => v = Value.int .u64 (counterP s)
  | 15 => v = Value.agg x1.cells.toArray
  | 16 => v = Value.int .u64 (counterP s)
  | 17 => v = Value.bool true
  | 18 => v = Value.bool true
  | 19 => v = Value.bool true
  | 20 => v = Value.pointer (some ⟨g, 0, none⟩)
  | 21 => v = Value.bool x1.dead
  | 22 => v = Value.pointer (some ⟨B, 8, none⟩)
  | 23 => v = Value.bool x1.dead
  | 24 => v = Value.bool true
  | 25 => v = Value.bool true
  | 26 => v = Value.bool true
  | 27 => v = Value.bool true
  | 28 => v = Value.bool true
  | 29 => v = Value.bool true
  | _ => True
theorem VY.stab {g gx B C : Nat} {s s4 : Wd} {x1 x : Td} {w w' : World} {v : Value} (hb : Below w.heap.size w w') : ∀ j, VY g gx B C s s4 x1 x j w v → VY g gx B C s s4 x1 x j w' v
  | 1, ⟨A, c, T, h1, h2, h3, h4⟩ => ⟨A, c, T, h1, h2, h3.below hb, h4.below hb⟩
  | 7, ⟨A, c, T, h1, h2, h3, h4⟩ => ⟨A, c, T, h1, h2, h3.below hb, h4.below hb⟩
  | 0, h => h
  | 2, h => h
  | 3, h => h
  | 4, h => h
  | 5, h => h
  | 6, h => h
  | 8, h => h
  | 9, h => h
  | 10, h => h
  | 11, h => h
  | 12, h => h
  | 13, h => h
  | 14, h => h
  | 15, h => h
  | 16, h => h
  | 17, h => h
  | 18, h => h
  | 19, h => h
  | 20, h => h
  | 21, h => h
  | 22, h => h
  | 23, h => h
  | 24, h => h
  | 25, h => h
  | 26, h => h
  | 27, h => h
  | 28, h => h
  | 29, h => h
  | _ + 30, h => h
theorem sametrace_tm {w : World} {K : Nat → Nat} {q : Nat} {x : Td} {s : Wd} (h : Tm w K q x s) (hn : s.trace.length ≤ 1000000) (A : Option Addr) (c : Nat) (T : List Tr) (hv : T.map Tr.val = s.trace) (hr : Rc w A (trs T)) (hh : HeldR w T) :
    Calls Try.prog 27 #[.slice A T.length c, .slice x.AT x.T.length x.cT] w fun e w' => e = .returned (.bool true) ∧ Below w.heap.size w w' :=
  sametrace_calls A x.AT _ _ c x.cT T x.T w hr h.rt.rc hh (fun y hy => ⟨(h.ht y hy).1.rc, (h.ht y hy).2⟩) (hv.trans h.et.symm) rfl rfl (by have := congrArg List.length hv; rw [List.length_map] at this; omega)
set_option maxRecDepth 100000 in
set_option maxHeartbeats 8000000 in
theorem law_copies (A : Option Addr) (m ca : Nat) (l : List Dd) (A2 : Option Addr) (m2 cb : Nat) (l2 : List Dd) (w : World) (hr : Rc w A (dds l)) (hH : HeldD w l) (e1 : m = l.length) (hm : m ≤ 140737488355328) (hl : ∀ x ∈ l, x.b.length ≤ 140737488355328)
    (hr2 : Rc w A2 (dds l2)) (hH2 : HeldD w l2) (e2 : m2 = l2.length) (hm2 : m2 ≤ 140737488355328) (hl2 : ∀ x ∈ l2, x.b.length ≤ 140737488355328) :
    Calls Try.prog 9 #[.slice A m ca, .slice A2 m2 cb] w (Go.Sac.RetT w) := by
  have HR := Hd.mk hr
  have HH := Hd.mk hH
  have E1 := Hd.mk e1
  have HL := Hd.mk hl
  have HR2 := Hd.mk hr2
  have HH2 := Hd.mk hH2
  have E2 := Hd.mk e2
  have HL2 := Hd.mk hl2
  clear hr hH e1 hl hr2 hH2 e2 hl2
  have T1 : Hd True := ⟨trivial⟩
  obtain ⟨sm, hsm⟩ : ∃ sm, (decide (m ≤ 40) && decide (longD l ≤ 3000)) = sm := ⟨_, rfl⟩
  have HSM := Hd.mk hsm
  obtain ⟨sn, hsn⟩ : ∃ sn, (decide (m2 ≤ 40) && decide (longD l2 ≤ 3000)) = sn := ⟨_, rfl⟩
  have HSM2 := Hd.mk hsn
  cases sm
  · clear hsm hsn
    go_enter Try.func9, Try.ntmps9
    go_wp2_with (first
      | (go_at_call 23; clear T1; refine (small_calls A m ca l _ HR.out HH.out E1.out HL.out).mono ?_; rw [HSM.out]; rintro e w1 ⟨rfl, hw⟩; obtain rfl := hw.symm)
      | (go_at_call 10; refine (known_calls _).mono ?_; rintro e w1 ⟨rfl, hb⟩))
    go_ret
    exact ⟨rfl, hb⟩
  cases sn
  · clear hsm hsn
    go_enter Try.func9, Try.ntmps9
    go_wp2_with (first
      | (go_at_call 23; clear T1; refine (small_calls A m ca l _ HR.out HH.out E1.out HL.out).mono ?_; rw [HSM.out]; rintro e w1 ⟨rfl, hw⟩; obtain rfl := hw.symm)
      | (go_at_call 23; refine (small_calls A2 m2 cb l2 _ HR2.out HH2.out E2.out HL2.out).mono ?_; rw [HSM2.out]; rintro e w1 ⟨rfl, hw⟩; obtain rfl := hw.symm)
      | (go_at_call 10; refine (known_calls _).mono ?_; rintro e w1 ⟨rfl, hb⟩))
    go_ret
    exact ⟨rfl, hb⟩
  · simp only [Bool.and_eq_true, decide_eq_true_eq] at hsm hsn
    have H40 : Hd (m ≤ 40 ∧ longD l ≤ 3000) := ⟨hsm⟩
    have H41 : Hd (m2 ≤ 40 ∧ longD l2 ≤ 3000) := ⟨hsn⟩
    clear hsm hsn
    go_enter Try.func9, Try.ntmps9
    go_wp2_with (first
      | (go_at_call 23; clear T1; refine (small_calls A m ca l _ HR.out HH.out E1.out HL.out).mono ?_; rw [HSM.out]; rintro e w1 ⟨rfl, hw⟩; obtain rfl := hw.symm)
      | (go_at_call 23; refine (small_calls A2 m2 cb l2 _ HR2.out HH2.out E2.out HL2.out).mono ?_; rw [HSM2.out]; rintro e w1 ⟨rfl, hw⟩; obtain rfl := hw.symm)
      | (go_at_call 11; refine (wo_new (Below.refl _ _) 4).mono ?_; rintro e w1 ⟨g, K1, rfl, h, _⟩; have W1 := Hd.mk h; clear h)
      | (go_at_call 28; refine (rnew_calls _ K1 W1.out.len.2).mono ?_
         rintro e w2 ⟨x0, rfl, h1, h2⟩
         obtain ⟨w3, hw3, _, _, _, _, _, g5, g6, _⟩ := box_made (w := w2) (K := K1) (fun k hk => W1.out.len.2 k (Nat.le_trans h2.size hk)) x0
         have HW3 := Hd.mk hw3
         have HC0 : Hd (CopSt w w3 g w2.heap.size K1 0 (newP 4) x0) := ⟨CopSt.start (W1.out.below h2) h1 ⟨Int.le_refl _, Nat.le_refl _, (fun _ _ h => nomatch h), Nat.zero_le _, Nat.zero_le _⟩ (fun x h => nomatch h) g6 g5⟩
         clear h1 h2 hw3 g5 g6)
      | (refine wpList_store_row rfl 56 (.tmp 6) (.tmp 29) rfl w2.heap.size x0.cells.toArray rfl rfl 56 zT.toArray (Blk.new w2 _ zT) t_info rfl (t_all x0) ?_; rw [HW3.out]))
    obtain ⟨B, hB⟩ : ∃ B, w2.heap.size = B := ⟨_, rfl⟩
    rw [hB] at HC0 ⊢
    clear hB W1 HW3
    go_loopw [7, 8, 9, 10] (fun iv _ _ _ wr => ∃ q : Nat, iv = .int .i64 (q : Int) ∧ q ≤ m ∧ ∃ (K : Nat → Nat) (s : Wd) (x : Td), Hd (CopSt w wr g B K q s x)) (fun iv _ _ _ _ => m - (intOf iv).toNat)
    case atStart => exact ⟨0, rfl, Nat.zero_le _, _, _, _, HC0⟩
    case round =>
      clear HC0
      obtain ⟨q, rfl, hq, K, s, x, HC⟩ := hrel
      by_cases hlt : q < m
      · have hqi : (q : Int) < (m : Int) := by omega
        have hql : q < l.length := by rw [← E1.out]; exact hlt
        obtain ⟨bb, off, rfl, hbb, hra⟩ := rcK_form dds_len (by decide) HR.out (by omega)
        obtain ⟨y, hy⟩ : ∃ y, l[q] = y := ⟨_, rfl⟩
        have hmem : y ∈ l := by rw [← hy]; exact List.getElem_mem hql
        have hra2 := hra q hql
        rw [hy] at hra2
        have HXW : Hd (∀ W, Below w.heap.size w W → W.rangeAt bb (off + q * 5) [.int .i64 y.kind, .int .i64 y.at_, .int .i64 y.slot, .int .i64 y.n, .slice y.A y.b.length y.c]) := ⟨hra2⟩
        have HYR : Hd (Rc w y.A (bs y.b)) := ⟨(HH.out y hmem).1⟩
        have HYC : Hd (y.b.length ≤ y.c) := ⟨(HH.out y hmem).2⟩
        have HYB : Hd (y.b.length ≤ 1099511627776) := ⟨by have := longD_le l y hmem; have := H40.out; omega⟩
        have HQM : Hd (q < m) := ⟨hlt⟩
        have hq40 : m ≤ 40 := H40.out.1
        clear hra hra2 hy hmem hbb hql
        obtain ⟨s2, hs2⟩ : ∃ s2, stepP s y.kind y.at_ y.slot y.n y.b = s2 := ⟨_, rfl⟩
        obtain ⟨bl, hbl⟩ : ∃ bl, stepB s y.kind y.at_ y.slot = bl := ⟨_, rfl⟩
        obtain ⟨rr, hrr⟩ : ∃ rr, doR s y.kind y.at_ y.slot y.b = rr := ⟨_, rfl⟩
        have HLT : Hd (Lite s2 (q + 1) ∧ ∀ x ∈ s2.trace, x.2.2.2.length ≤ 1099511627776) := ⟨by rw [← hs2]; exact lite_step HC.out.li HC.out.tr HC.out.wo.len.1 HC.out.wo.num.2.2 _ _ _ _ _ HYB.out⟩
        have HFEW : Hd (Few s) := ⟨HC.out.li.few (by omega)⟩
        have HDID : Hd (∀ w1 K, Wo w w1 g K s → Calls Try.prog 25 #[.pointer (some ⟨g, 0, none⟩), .agg #[.int .i64 y.kind, .int .i64 y.at_, .int .i64 y.slot, .int .i64 y.n, .slice y.A y.b.length y.c]] w1 (RetVB w g K s2 bl rr w1)) := ⟨fun w1 K h => by rw [← hs2, ← hbl, ← hrr]; exact didb_calls h HFEW.out y (h.arg HYR.out) HYC.out HYB.out⟩
        have HSTEP : Hd (∀ w1 K x, Tm w1 K (q) x s → (∀ k, w1.heap.size ≤ k → K k = 0) → Fr w1 K y.A y.b → Calls Try.prog 29 #[.agg x.cells.toArray, .agg y.cells.toArray] w1 (RetS K (q) s2 bl rr w1)) := ⟨fun w1 K x h1 h2 h3 => by rw [← hs2, ← hbl, ← hrr]; exact rstep_calls h1 h2 (by omega) HFEW.out y h3 HYC.out HYB.out⟩
        clear hs2 hbl hrr
        go_wp2_with (first
          | (go_at_call 25; refine (HDID.out _ _ HC.out.wo).mono ?_; rintro e w3 ⟨A3, c3, rfl, K3, hf3, h3, hs⟩
             have HM : Hd (CopMid w w3 g B K3 (q) s s2 x) := ⟨HC.out.did h3 hs HLT.out⟩
             have HX3 := Hd.mk HM.out.tm
             have HK3 := Hd.mk HM.out.hi
             have HBK : Hd (∀ w6, Below w3.heap.size w3 w6 → Blk w6 B 56 x.cells) := ⟨fun w6 hb => HM.out.bk.below hb HM.out.bk.lt⟩
             have HXC : Hd (∀ w6, Below w3.heap.size w3 w6 → w6.rangeAt bb (off + q * 5) [.int .i64 y.kind, .int .i64 y.at_, .int .i64 y.slot, .int .i64 y.n, .slice y.A y.b.length y.c]) := ⟨fun w6 hb => HXW.out w6 (below_then HM.out.wo.bel HM.out.wo.bel.size hb)⟩
             have HFY : Hd (Fr w3 (tagK K3 B) y.A y.b) := ⟨HM.out.wo.arg_tag HM.out.b0 HYR.out⟩
             clear h3 hs hf3)
          | (refine wpList_ldmid rfl 44 (.tmp 39) rfl bb (off + q * 5) rfl [.int .i64 y.kind, .int .i64 y.at_, .int .i64 y.slot, .int .i64 y.n, .slice y.A y.b.length y.c] _ (HXW.out _ HC.out.wo.bel) Try.underlying44 rfl (do_info.trans rfl) ?_))
        refine region_stp (VZ (some ⟨bb, off, none⟩) m ca bb off q x y) (fun L Wx f => CSE 5 10 11 w3 (tagK K3 B) (RSB (q + 1) s2 bl rr) L Wx f ∧ LK [(6, 5, 0), (7, 6, 1), (8, 6, 2), (9, 6, 3), (12, 8, 0), (13, 9, 0)] L f) NoR (by kernel_rfl) (by kernel_rfl) (by kernel_rfl) (by kernel_rfl) (fun f => ⟨CSE.start HK3.out f, LK.start _ f⟩) ?stab ?steps ?fin
        case stab => intro i j w1 w2 v o ho hij hwt hR h; exact h
        case steps =>
          refine StepsG.cons ?_ (StepsG.cons ?_ (StepsG.cons ?_ (StepsG.cons ?_ (StepsG.cons ?_ (StepsG.cons ?_ (StepsG.cons ?_ (StepsG.cons ?_ (StepsG.cons ?_ (StepsG.cons ?_ (StepsG.cons ?_ (StepsG.cons ?_ (StepsG.cons ?_ (StepsG.cons ?_ StepsG.nil)))))))))))))
          · intro L f A w6 Q hL hG hsz hlow hun hnl hp
            have e6 : A.tmps.getD 6 undef = Value.pointer (some ⟨B, 0, none⟩) := hlow 6 rfl
            have hbk := HBK.out w6 hG.1.bel
            have hbk := HBK.out w6 hG.1.bel
            clear hlow hun hnl hp
            refine wpOp_go rfl rfl (wp_load_row 56 (.tmp 6) rfl (B) ?_ 56 x.cells.toArray (0, 0) _ hbk Try.underlying56 rfl t_info ⟨_, rfl, ⟨hG.1.past 0 _ (by decide), hG.2.past 0 _ (by decide) (by simp)⟩, ⟨⟩, rfl⟩)
            exact e6
          · intro L f A w6 Q hL hG hsz hlow hun hnl hp
            have e0 : A.tmps.getD 0 undef = Value.slice (some ⟨bb, off, none⟩) m ca := hlow 0 rfl
            clear hlow hun hnl hp
            refine wpOp_go rfl rfl ?_
            go_simp
            first | exact ⟨_, rfl, ⟨hG.1.past 1 _ (by decide), hG.2.past 1 _ (by decide) (by simp)⟩, ⟨⟩, rfl⟩ | exact ⟨⟨hG.1.past 1 _ (by decide), hG.2.past 1 _ (by decide) (by simp)⟩, ⟨⟩, rfl⟩ | exact ⟨⟨hG.1.past 1 _ (by decide), hG.2.past 1 _ (by decide) (by simp)⟩, rfl⟩ | exact ⟨hG.1.past 1 _ (by decide), hG.2.past 1 _ (by decide) (by simp)⟩ | exact ⟨⟨hG.1.past 1 _ (by decide), hG.2.past 1 _ (by decide) (by simp)⟩, ⟨⟩⟩ | exact ⟨_, rfl, ⟨hG.1.past 1 _ (by decide), hG.2.past 1 _ (by decide) (by simp)⟩, ⟨⟩, trivial⟩ | exact ⟨_, rfl, ⟨⟩, rfl⟩ | exact ⟨⟨⟩, rfl⟩
          · intro L f A w6 Q hL hG hsz hlow hun hnl hp
            have e7 : A.tmps.getD 7 undef = Value.int .i64 (q : Int) := hlow 7 rfl
            clear hlow hun hnl hp
            refine wpOp_go rfl rfl ?_
            go_simp
            first | exact ⟨_, rfl, ⟨hG.1.past 2 _ (by decide), hG.2.past 2 _ (by decide) (by simp)⟩, ⟨⟩, rfl⟩ | exact ⟨⟨hG.1.past 2 _ (by decide), hG.2.past 2 _ (by decide) (by simp)⟩, ⟨⟩, rfl⟩ | exact ⟨⟨hG.1.past 2 _ (by decide), hG.2.past 2 _ (by decide) (by simp)⟩, rfl⟩ | exact ⟨hG.1.past 2 _ (by decide), hG.2.past 2 _ (by decide) (by simp)⟩ | exact ⟨⟨hG.1.past 2 _ (by decide), hG.2.past 2 _ (by decide) (by simp)⟩, ⟨⟩⟩ | exact ⟨_, rfl, ⟨hG.1.past 2 _ (by decide), hG.2.past 2 _ (by decide) (by simp)⟩, ⟨⟩, trivial⟩ | exact ⟨_, rfl, ⟨⟩, rfl⟩ | exact ⟨⟨⟩, rfl⟩
          · intro L f A w6 Q hL hG hsz hlow hun hnl hp
            have f1 : f 1 = Value.slice (some ⟨bb, off, none⟩) m ca := (hp 1 rfl).2.1
            have e44 : A.tmps.getD 44 undef = Value.slice (some ⟨bb, off, none⟩) m ca := ((hp 1 rfl).2.2 44 rfl).trans f1
            have f2 : f 2 = Value.int .i64 (q : Int) := (hp 2 rfl).2.1
            have e45 : A.tmps.getD 45 undef = Value.int .i64 (q : Int) := ((hp 2 rfl).2.2 45 rfl).trans f2
            have hqm := HQM.out
            have hqi : (q : Int) < (m : Int) := by omega
            clear hlow hun hnl hp
            refine wpOp_go rfl rfl ?_
            go_simp
            first | exact ⟨_, rfl, ⟨hG.1.past 3 _ (by decide), hG.2.past 3 _ (by decide) (by simp)⟩, ⟨⟩, rfl⟩ | exact ⟨⟨hG.1.past 3 _ (by decide), hG.2.past 3 _ (by decide) (by simp)⟩, ⟨⟩, rfl⟩ | exact ⟨⟨hG.1.past 3 _ (by decide), hG.2.past 3 _ (by decide) (by simp)⟩, rfl⟩ | exact ⟨hG.1.past 3 _ (by decide), hG.2.past 3 _ (by decide) (by simp)⟩ | exact ⟨⟨hG.1.past 3 _ (by decide), hG.2.past 3 _ (by decide) (by simp)⟩, ⟨⟩⟩ | exact ⟨_, rfl, ⟨hG.1.past 3 _ (by decide), hG.2.past 3 _ (by decide) (by simp)⟩, ⟨⟩, trivial⟩ | exact ⟨_, rfl, ⟨⟩, rfl⟩ | exact ⟨⟨⟩, rfl⟩
          · intro L f A w6 Q hL hG hsz hlow hun hnl hp
            have f3 : f 3 = Value.pointer (some ⟨bb, off + q * 5, none⟩) := (hp 3 rfl).2.1
            have e46 : A.tmps.getD 46 undef = Value.pointer (some ⟨bb, off + q * 5, none⟩) := ((hp 3 rfl).2.2 46 rfl).trans f3
            have hxc := HXC.out w6 hG.1.bel
            clear hlow hun hnl hp
            refine wpOp_go rfl rfl (wp_ldmid 44 (.tmp 46) rfl bb (off + q * 5) ?_ y.cells _ hxc Try.underlying44 rfl (do_info.trans rfl) ⟨_, rfl, ⟨hG.1.past 4 _ (by decide), hG.2.past 4 _ (by decide) (by simp)⟩, ⟨⟩, rfl⟩)
            exact e46
          · intro L f A w6 Q hL hG hsz hlow hun hnl hp
            have f0 : f 0 = Value.agg x.cells.toArray := (hp 0 rfl).2.1
            have e43 : A.tmps.getD 43 undef = Value.agg x.cells.toArray := ((hp 0 rfl).2.2 43 rfl).trans f0
            have f4 : f 4 = Value.agg y.cells.toArray := (hp 4 rfl).2.1
            have e47 : A.tmps.getD 47 undef = Value.agg y.cells.toArray := ((hp 4 rfl).2.2 47 rfl).trans f4
            have n6 := (hnl 6 5 hL rfl)
            have n11 := (hnl 11 5 hL rfl)
            clear hlow hun hnl hp
            refine wpOp_go rfl rfl ?_
            go_simp
            refine hG.1.call (RSB.last (q + 1) s2 bl rr) (by decide) n11 (fun K2 hi hx => ?_) ?_
            · refine (HSTEP.out _ _ _ (HX3.out.step (Stp.into hG.1.bel hx)) hi (HFY.out.step (Stp.into hG.1.bel hx))).mono ?_
              rintro e w7 ⟨x7, A7, c7, rfl, h1, h2, h3, h4⟩
              exact ⟨_, _, rfl, ⟨x7, rfl, A7, c7, rfl, h1, h2, h3⟩, h4⟩
            intro v w7 hC
            exact ⟨_, rfl, ⟨hC, hG.2.past 5 _ (by decide) (by simp [n6])⟩, ⟨⟩, trivial⟩
          · intro L f A w6 Q hL hG hsz hlow hun hnl hp
            have e48 : A.tmps.getD 48 undef = f 5 := (hp 5 rfl).2.2 48 rfl
            have v5 := (hp 5 rfl).2.1
            have n7 := (hnl 7 6 hL rfl)
            have n8 := (hnl 8 6 hL rfl)
            have n9 := (hnl 9 6 hL rfl)
            clear hlow hun hnl hp
            refine wpOp_go rfl rfl ?_
            go_simp
            exact ⟨_, rfl, ⟨hG.1.past 6 _ (by decide), hG.2.at 6 5 0 (by decide) (by simp) (by simp [n7, n8, n9]) (by simp)⟩, ⟨⟩, trivial⟩
          · intro L f A w6 Q hL hG hsz hlow hun hnl hp
            have e42 : A.tmps.getD 42 undef = f 6 := (hp 6 rfl).2.2 42 rfl
            have v6 := (hp 6 rfl).2.1
            have hmv := hG.2 (6, 5, 0) (by simp) (hp 6 rfl).1
            have lic : L 5 = true := by
              cases h : L 5 with
              | true => rfl
              | false => have := hnl 6 5 h rfl; rw [(hp 6 rfl).1] at this; cases this
            obtain ⟨K9, cs9, h9⟩ := hG.1.told lic
            obtain ⟨x9, hcs9, A9, c9, hsh9, hTm9, hFr9, hle9⟩ := h9
            have hmv2 : f 6 = .tuple #[.agg x9.cells.toArray, .slice A9 bl.length c9, .bool rr] := hmv.trans hsh9
            rw [hmv2] at e42
            have hpj : prj 1 (f 6) = .agg x9.cells.toArray := by rw [hmv2]; rfl
            have hLK := hG.2.at 7 6 1 (by decide) (by simp) (by simp) (by simp)
            rw [hpj] at hLK
            clear hlow hun hnl hp
            refine wpOp_go rfl rfl ?_
            go_simp
            exact ⟨_, rfl, ⟨hG.1.past 7 _ (by decide), hLK⟩, ⟨⟩, trivial⟩
          · intro L f A w6 Q hL hG hsz hlow hun hnl hp
            have e42 : A.tmps.getD 42 undef = f 6 := (hp 6 rfl).2.2 42 rfl
            have v6 := (hp 6 rfl).2.1
            have n12 := (hnl 12 8 hL rfl)
            have hmv := hG.2 (6, 5, 0) (by simp) (hp 6 rfl).1
            have lic : L 5 = true := by
              cases h : L 5 with
              | true => rfl
              | false => have := hnl 6 5 h rfl; rw [(hp 6 rfl).1] at this; cases this
            obtain ⟨K9, cs9, h9⟩ := hG.1.told lic
            obtain ⟨x9, hcs9, A9, c9, hsh9, hTm9, hFr9, hle9⟩ := h9
            have hmv2 : f 6 = .tuple #[.agg x9.cells.toArray, .slice A9 bl.length c9, .bool rr] := hmv.trans hsh9
            rw [hmv2] at e42
            have hpj : prj 2 (f 6) = .slice A9 bl.length c9 := by rw [hmv2]; rfl
            have hLK := hG.2.at 8 6 2 (by decide) (by simp) (by simp [n12]) (by simp)
            rw [hpj] at hLK
            clear hlow hun hnl hp
            refine wpOp_go rfl rfl ?_
            go_simp
            exact ⟨_, rfl, ⟨hG.1.past 8 _ (by decide), hLK⟩, ⟨⟩, trivial⟩
          · intro L f A w6 Q hL hG hsz hlow hun hnl hp
            have e42 : A.tmps.getD 42 undef = f 6 := (hp 6 rfl).2.2 42 rfl
            have v6 := (hp 6 rfl).2.1
            have n13 := (hnl 13 9 hL rfl)
            have hmv := hG.2 (6, 5, 0) (by simp) (hp 6 rfl).1
            have lic : L 5 = true := by
              cases h : L 5 with
              | true => rfl
              | false => have := hnl 6 5 h rfl; rw [(hp 6 rfl).1] at this; cases this
            obtain ⟨K9, cs9, h9⟩ := hG.1.told lic
            obtain ⟨x9, hcs9, A9, c9, hsh9, hTm9, hFr9, hle9⟩ := h9
            have hmv2 : f 6 = .tuple #[.agg x9.cells.toArray, .slice A9 bl.length c9, .bool rr] := hmv.trans hsh9
            rw [hmv2] at e42
            have hpj : prj 3 (f 6) = .bool rr := by rw [hmv2]; rfl
            have hLK := hG.2.at 9 6 3 (by decide) (by simp) (by simp [n13]) (by simp)
            rw [hpj] at hLK
            clear hlow hun hnl hp
            refine wpOp_go rfl rfl ?_
            go_simp
            exact ⟨_, rfl, ⟨hG.1.past 9 _ (by decide), hLK⟩, ⟨⟩, trivial⟩
          · intro L f A w6 Q hL hG hsz hlow hun hnl hp
            have n11 := (hnl 11 10 hL rfl)
            clear hlow hun hnl hp
            refine wpOp_go rfl rfl ?_
            go_simp
            exact ⟨_, rfl, ⟨hG.1.alloc (RSB.last (q + 1) s2 bl rr) (by decide) n11, hG.2.past 10 _ (by decide) (by simp)⟩, ⟨⟩, trivial⟩
          · intro L f A w6 Q hL hG hsz hlow hun hnl hp
            have e8 : A.tmps.getD 8 undef = f 10 := (hp 10 rfl).2.2 8 rfl
            have v10 := (hp 10 rfl).2.1
            have e49 : A.tmps.getD 49 undef = f 7 := (hp 7 rfl).2.2 49 rfl
            have v7 := (hp 7 rfl).2.1
            have hmv := hG.2 (6, 5, 0) (by simp) (hp 6 rfl).1
            have lic := (hp 5 rfl).1
            obtain ⟨K9, cs9, h9⟩ := hG.1.told lic
            have h90 := h9
            obtain ⟨x9, hcs9, A9, c9, hsh9, hTm9, hFr9, hle9⟩ := h9
            have hx0 := hG.2 (7, 6, 1) (by simp) (hp 7 rfl).1
            have hmv2 : f 6 = .tuple #[.agg x9.cells.toArray, .slice A9 bl.length c9, .bool rr] := hmv.trans hsh9
            rw [hmv2] at hx0
            have hx0 : f 7 = .agg x9.cells.toArray := hx0
            obtain ⟨g9, hg9, hz9, hS⟩ := hG.1.store (RSB.last (q + 1) s2 bl rr) (by decide) lic (hp 10 rfl).1 hL x9.cells (fun K2 hh => RSB.same hsh9 hh)
            rw [hg9] at e8
            rw [hx0] at e49
            clear hlow hun hnl hp
            refine wpOp_go rfl rfl (wp_store_row 56 (.tmp 8) (.tmp 49) rfl g9 x9.cells.toArray e8 e49 56 zT.toArray hz9 t_info rfl (t_all x9) ⟨undef, rfl, ⟨hS undef, hG.2.past 11 _ (by decide) (by simp)⟩, ⟨⟩, trivial⟩)
          · intro L f A w6 Q hL hG hsz hlow hun hnl hp
            have e50 : A.tmps.getD 50 undef = f 8 := (hp 8 rfl).2.2 50 rfl
            have v8 := (hp 8 rfl).2.1
            clear hlow hun hnl hp
            refine wpOp_go rfl rfl ?_
            go_simp
            exact ⟨_, rfl, ⟨hG.1.past 12 _ (by decide), hG.2.at 12 8 0 (by decide) (by simp) (by simp) (by simp)⟩, ⟨⟩, trivial⟩
          · intro L f A w6 Q hL hG hsz hlow hun hnl hp
            have e51 : A.tmps.getD 51 undef = f 9 := (hp 9 rfl).2.2 51 rfl
            have v9 := (hp 9 rfl).2.1
            clear hlow hun hnl hp
            refine wpOp_go rfl rfl ?_
            go_simp
            exact ⟨_, rfl, ⟨hG.1.past 13 _ (by decide), hG.2.at 13 9 0 (by decide) (by simp) (by simp) (by simp)⟩, ⟨⟩, trivial⟩
        case fin =>
          intro L f w9 hLL hG hV
          obtain ⟨g9, cs9, hg9, hge9, ⟨x9, hcs9, A9, c9, hsh9, hTm9, hFr9, hle9⟩, hbk9, hbel9⟩ := hG.1.done (RSB.last (q + 1) s2 bl rr) (hLL 5 (by simp)) (hLL 10 (by simp)) (hLL 11 (by simp))
          have lk := fun t ht hl => hG.2 t ht hl
          have e1 : f 6 = f 5 := lk (6, 5, 0) (by simp) (hLL 6 (by simp))
          have e2 := lk (8, 6, 2) (by simp) (hLL 8 (by simp))
          have e3 : f 12 = f 8 := lk (12, 8, 0) (by simp) (hLL 12 (by simp))
          have e4 := lk (9, 6, 3) (by simp) (hLL 9 (by simp))
          have e5 : f 13 = f 9 := lk (13, 9, 0) (by simp) (hLL 13 (by simp))
          rw [hsh9] at e1
          rw [e1] at e2 e4
          have e2 : f 8 = .slice A9 bl.length c9 := e2
          have e4 : f 9 = .bool rr := e4
          rw [e2] at e3
          rw [e4] at e5
          subst hcs9
          have HBK9 := Hd.mk hbk9
          have HBX9 : Hd (Blk w9 B 56 x.cells) := ⟨HBK.out w9 hbel9⟩
          have HT9 := Hd.mk hTm9
          have HF9 := Hd.mk hFr9
          have HC9 := Hd.mk hle9
          have HB9 := Hd.mk hbel9
          clear hV hG hLL hsh9 hTm9 hFr9 hle9 hbk9 hbel9 e1 e2 e4 lk
          simp only [fillD, Act.put, List.setIfInBounds_toArray, List.set_cons_zero, List.set_cons_succ]
          rw [hg9, e3, e5]
          clear hg9 e3 e5 hge9
          go_wp2_with (first
            | (refine wpList_load_row rfl 56 (.tmp 8) rfl g9 rfl 56 _ (0, 0) _ HBK9.out Try.underlying56 rfl t_info ?_)
            | (refine wpList_store_row rfl 56 (.tmp 6) (.tmp 52) rfl B x9.cells.toArray rfl rfl 56 x.cells.toArray HBX9.out t_info rfl (t_all x9) ?_))
          go_roundw
          case rel => exact ⟨q + 1, by go_num, by omega, K3, s2, x9, ⟨HM.out.next HB9.out HT9.out⟩⟩
          case measure => simp [intOf]; omega
      · have hqm : q = m := by omega
        rw [hqm] at HC
        have hnl : ¬ (q : Int) < (m : Int) := by omega
        obtain ⟨c0, hc0⟩ := HC.out.wo.ex
        have HWD := Hd.mk hc0
        have HFW : Hd (Few s) := ⟨HC.out.li.few (by have := H40.out; omega)⟩
        have HTRS := Hd.mk HC.out.tr
        have HLI := Hd.mk HC.out.li
        clear hc0 hlt hq hqm
        go_wp2_with (first
          | (go_at_call 30; refine (copy_calls HWD.out HFW.out HTRS.out).mono ?_
             rintro e w1 ⟨gx, J, d, rfl, h1, h2, h3⟩
             obtain ⟨w2, hw2, _, _, _, _, _, g5, g6, _⟩ := box_made (w := w1) (K := J) (fun k hk => by
               by_cases e : J k = 0
               · exact e
               · have := h1.dom k e; omega) x
             have HW2 := Hd.mk hw2
             have HCC : Hd (Cop2 w w2 g B K m s x gx w1.heap.size J m s x) := ⟨Cop2.start HC.out h1 h2 h3 g6 g5⟩
             have HBK : Hd (Blk w1 B 56 x.cells) := ⟨HC.out.bk.below h2 HC.out.bk.lt⟩
             clear h1 h2 h3 hw2 g5 g6)
          | (refine wpList_store_row rfl 56 (.tmp 12) (.tmp 55) rfl w1.heap.size x.cells.toArray rfl rfl 56 zT.toArray (Blk.new w1 _ zT) t_info rfl (t_all x) ?_; rw [HW2.out])
          | (refine wpList_load_row rfl 56 (.tmp 6) rfl B rfl 56 _ (0, 0) _ HBK.out Try.underlying56 rfl t_info ?_)
          | (refine wpList_load_row rfl 56 (.tmp 6) rfl B rfl 56 _ (0, 0) _ (HBK.out.alloc _) Try.underlying56 rfl t_info ?_))
        obtain ⟨C, hC⟩ : ∃ C, w1.heap.size = C := ⟨_, rfl⟩
        rw [hC] at HCC ⊢
        clear hC HW2 HBK HWD HC
        obtain ⟨x1, hx1⟩ : ∃ x1, x = x1 := ⟨_, rfl⟩
        rw [hx1] at HCC
        clear hx1
        clear hnl
        go_loopw [13, 14, 15, 16, 17, 18] (fun iv _ _ _ _ _ wr => ∃ p : Nat, iv = .int .i64 (p : Int) ∧ p ≤ m2 ∧ ∃ (J : Nat → Nat) (s4 : Wd) (x : Td), Hd (Cop2 w wr g B K m s x1 gx C J (m + p) s4 x)) (fun iv _ _ _ _ _ _ => m2 - (intOf iv).toNat)
        case atStart => exact ⟨0, rfl, Nat.zero_le _, _, _, _, HCC⟩
        case round =>
          clear HCC
          obtain ⟨q, rfl, hq, J, s4, x, HC⟩ := hrel
          by_cases hlt : q < m2
          · have hqi : (q : Int) < (m2 : Int) := by omega
            have hql : q < l2.length := by rw [← E2.out]; exact hlt
            obtain ⟨bb, off, rfl, hbb, hra⟩ := rcK_form dds_len (by decide) HR2.out (by omega)
            obtain ⟨y, hy⟩ : ∃ y, l2[q] = y := ⟨_, rfl⟩
            have hmem : y ∈ l2 := by rw [← hy]; exact List.getElem_mem hql
            have hra2 := hra q hql
            rw [hy] at hra2
            have HXW : Hd (∀ W, Below w.heap.size w W → W.rangeAt bb (off + q * 5) [.int .i64 y.kind, .int .i64 y.at_, .int .i64 y.slot, .int .i64 y.n, .slice y.A y.b.length y.c]) := ⟨hra2⟩
            have HYR : Hd (Rc w y.A (bs y.b)) := ⟨(HH2.out y hmem).1⟩
            have HYC : Hd (y.b.length ≤ y.c) := ⟨(HH2.out y hmem).2⟩
            have HYB : Hd (y.b.length ≤ 1099511627776) := ⟨by have := longD_le l2 y hmem; have := H41.out; omega⟩
            have HQM : Hd (q < m2) := ⟨hlt⟩
            have hm4 : m ≤ 40 := H40.out.1
            have hq40 : m2 ≤ 40 := H41.out.1
            clear hra hra2 hy hmem hbb hql
            obtain ⟨s2, hs2⟩ : ∃ s2, stepP s4 y.kind y.at_ y.slot y.n y.b = s2 := ⟨_, rfl⟩
            obtain ⟨bl, hbl⟩ : ∃ bl, stepB s4 y.kind y.at_ y.slot = bl := ⟨_, rfl⟩
            obtain ⟨rr, hrr⟩ : ∃ rr, doR s4 y.kind y.at_ y.slot y.b = rr := ⟨_, rfl⟩
            have HLT : Hd (Lite s2 (m + q + 1) ∧ ∀ x ∈ s2.trace, x.2.2.2.length ≤ 1099511627776) := ⟨by rw [← hs2]; exact lite_step HC.out.c.li HC.out.c.tr HC.out.c.wo.len.1 HC.out.c.wo.num.2.2 _ _ _ _ _ HYB.out⟩
            have HFEW : Hd (Few s4) := ⟨HC.out.c.li.few (by omega)⟩
            have HDID : Hd (∀ w1 K, Wo w w1 gx K s4 → Calls Try.prog 25 #[.pointer (some ⟨gx, 0, none⟩), .agg #[.int .i64 y.kind, .int .i64 y.at_, .int .i64 y.slot, .int .i64 y.n, .slice y.A y.b.length y.c]] w1 (RetVB w gx K s2 bl rr w1)) := ⟨fun w1 K h => by rw [← hs2, ← hbl, ← hrr]; exact didb_calls h HFEW.out y (h.arg HYR.out) HYC.out HYB.out⟩
            have HSTEP : Hd (∀ w1 K x, Tm w1 K (m + q) x s4 → (∀ k, w1.heap.size ≤ k → K k = 0) → Fr w1 K y.A y.b → Calls Try.prog 29 #[.agg x.cells.toArray, .agg y.cells.toArray] w1 (RetS K (m + q) s2 bl rr w1)) := ⟨fun w1 K x h1 h2 h3 => by rw [← hs2, ← hbl, ← hrr]; exact rstep_calls h1 h2 (by omega) HFEW.out y h3 HYC.out HYB.out⟩
            clear hs2 hbl hrr
            go_wp2_with (first
              | (go_at_call 25; refine (HDID.out _ _ HC.out.c.wo).mono ?_; rintro e w3 ⟨A3, c3, rfl, K3, hf3, h3, hs⟩
                 have HM : Hd (CopMid w w3 gx C K3 (m + q) s4 s2 x) := ⟨HC.out.c.did h3 hs HLT.out⟩
                 have HX3 := Hd.mk HM.out.tm
                 have HK3 := Hd.mk HM.out.hi
                 have HBK : Hd (∀ w6, Below w3.heap.size w3 w6 → Blk w6 C 56 x.cells) := ⟨fun w6 hb => HM.out.bk.below hb HM.out.bk.lt⟩
                 have HXC : Hd (∀ w6, Below w3.heap.size w3 w6 → w6.rangeAt bb (off + q * 5) [.int .i64 y.kind, .int .i64 y.at_, .int .i64 y.slot, .int .i64 y.n, .slice y.A y.b.length y.c]) := ⟨fun w6 hb => HXW.out w6 (below_then HM.out.wo.bel HM.out.wo.bel.size hb)⟩
                 have HFY : Hd (Fr w3 (tagK K3 C) y.A y.b) := ⟨HM.out.wo.arg_tag HM.out.b0 HYR.out⟩
                 have HWO3 := Hd.mk h3
                 have HST3 := Hd.mk hs
                 have HF3 := Hd.mk hf3
                 clear h3 hs hf3)
              | (refine wpList_ldmid rfl 44 (.tmp 66) rfl bb (off + q * 5) rfl [.int .i64 y.kind, .int .i64 y.at_, .int .i64 y.slot, .int .i64 y.n, .slice y.A y.b.length y.c] _ (HXW.out _ HC.out.c.wo.bel) Try.underlying44 rfl (do_info.trans rfl) ?_))
            refine region_stp (VZ (some ⟨bb, off, none⟩) m2 cb bb off q x y) (fun L Wx f => CSE 5 10 11 w3 (tagK K3 C) (RSB (m + q + 1) s2 bl rr) L Wx f ∧ LK [(6, 5, 0), (7, 6, 1), (8, 6, 2), (9, 6, 3), (12, 8, 0), (13, 9, 0)] L f) NoR (by kernel_rfl) (by kernel_rfl) (by kernel_rfl) (by kernel_rfl) (fun f => ⟨CSE.start HK3.out f, LK.start _ f⟩) ?stab ?steps ?fin
            case stab => intro i j w1 w2 v o ho hij hwt hR h; exact h
            case steps =>
              refine StepsG.cons ?_ (StepsG.cons ?_ (StepsG.cons ?_ (StepsG.cons ?_ (StepsG.cons ?_ (StepsG.cons ?_ (StepsG.cons ?_ (StepsG.cons ?_ (StepsG.cons ?_ (StepsG.cons ?_ (StepsG.cons ?_ (StepsG.cons ?_ (StepsG.cons ?_ (StepsG.cons ?_ StepsG.nil)))))))))))))
              · intro L f A w6 Q hL hG hsz hlow hun hnl hp
                have e12 : A.tmps.getD 12 undef = Value.pointer (some ⟨C, 0, none⟩) := hlow 12 rfl
                have hbk := HBK.out w6 hG.1.bel
                have hbk := HBK.out w6 hG.1.bel
                clear hlow hun hnl hp
                refine wpOp_go rfl rfl (wp_load_row 56 (.tmp 12) rfl (C) ?_ 56 x.cells.toArray (0, 0) _ hbk Try.underlying56 rfl t_info ⟨_, rfl, ⟨hG.1.past 0 _ (by decide), hG.2.past 0 _ (by decide) (by simp)⟩, ⟨⟩, rfl⟩)
                exact e12
              · intro L f A w6 Q hL hG hsz hlow hun hnl hp
                have e1 : A.tmps.getD 1 undef = Value.slice (some ⟨bb, off, none⟩) m2 cb := hlow 1 rfl
                clear hlow hun hnl hp
                refine wpOp_go rfl rfl ?_
                go_simp
                first | exact ⟨_, rfl, ⟨hG.1.past 1 _ (by decide), hG.2.past 1 _ (by decide) (by simp)⟩, ⟨⟩, rfl⟩ | exact ⟨⟨hG.1.past 1 _ (by decide), hG.2.past 1 _ (by decide) (by simp)⟩, ⟨⟩, rfl⟩ | exact ⟨⟨hG.1.past 1 _ (by decide), hG.2.past 1 _ (by decide) (by simp)⟩, rfl⟩ | exact ⟨hG.1.past 1 _ (by decide), hG.2.past 1 _ (by decide) (by simp)⟩ | exact ⟨⟨hG.1.past 1 _ (by decide), hG.2.past 1 _ (by decide) (by simp)⟩, ⟨⟩⟩ | exact ⟨_, rfl, ⟨hG.1.past 1 _ (by decide), hG.2.past 1 _ (by decide) (by simp)⟩, ⟨⟩, trivial⟩ | exact ⟨_, rfl, ⟨⟩, rfl⟩ | exact ⟨⟨⟩, rfl⟩
              · intro L f A w6 Q hL hG hsz hlow hun hnl hp
                have e13 : A.tmps.getD 13 undef = Value.int .i64 (q : Int) := hlow 13 rfl
                clear hlow hun hnl hp
                refine wpOp_go rfl rfl ?_
                go_simp
                first | exact ⟨_, rfl, ⟨hG.1.past 2 _ (by decide), hG.2.past 2 _ (by decide) (by simp)⟩, ⟨⟩, rfl⟩ | exact ⟨⟨hG.1.past 2 _ (by decide), hG.2.past 2 _ (by decide) (by simp)⟩, ⟨⟩, rfl⟩ | exact ⟨⟨hG.1.past 2 _ (by decide), hG.2.past 2 _ (by decide) (by simp)⟩, rfl⟩ | exact ⟨hG.1.past 2 _ (by decide), hG.2.past 2 _ (by decide) (by simp)⟩ | exact ⟨⟨hG.1.past 2 _ (by decide), hG.2.past 2 _ (by decide) (by simp)⟩, ⟨⟩⟩ | exact ⟨_, rfl, ⟨hG.1.past 2 _ (by decide), hG.2.past 2 _ (by decide) (by simp)⟩, ⟨⟩, trivial⟩ | exact ⟨_, rfl, ⟨⟩, rfl⟩ | exact ⟨⟨⟩, rfl⟩
              · intro L f A w6 Q hL hG hsz hlow hun hnl hp
                have f1 : f 1 = Value.slice (some ⟨bb, off, none⟩) m2 cb := (hp 1 rfl).2.1
                have e73 : A.tmps.getD 73 undef = Value.slice (some ⟨bb, off, none⟩) m2 cb := ((hp 1 rfl).2.2 73 rfl).trans f1
                have f2 : f 2 = Value.int .i64 (q : Int) := (hp 2 rfl).2.1
                have e74 : A.tmps.getD 74 undef = Value.int .i64 (q : Int) := ((hp 2 rfl).2.2 74 rfl).trans f2
                have hqm := HQM.out
                have hqi : (q : Int) < (m2 : Int) := by omega
                clear hlow hun hnl hp
                refine wpOp_go rfl rfl ?_
                go_simp
                first | exact ⟨_, rfl, ⟨hG.1.past 3 _ (by decide), hG.2.past 3 _ (by decide) (by simp)⟩, ⟨⟩, rfl⟩ | exact ⟨⟨hG.1.past 3 _ (by decide), hG.2.past 3 _ (by decide) (by simp)⟩, ⟨⟩, rfl⟩ | exact ⟨⟨hG.1.past 3 _ (by decide), hG.2.past 3 _ (by decide) (by simp)⟩, rfl⟩ | exact ⟨hG.1.past 3 _ (by decide), hG.2.past 3 _ (by decide) (by simp)⟩ | exact ⟨⟨hG.1.past 3 _ (by decide), hG.2.past 3 _ (by decide) (by simp)⟩, ⟨⟩⟩ | exact ⟨_, rfl, ⟨hG.1.past 3 _ (by decide), hG.2.past 3 _ (by decide) (by simp)⟩, ⟨⟩, trivial⟩ | exact ⟨_, rfl, ⟨⟩, rfl⟩ | exact ⟨⟨⟩, rfl⟩
              · intro L f A w6 Q hL hG hsz hlow hun hnl hp
                have f3 : f 3 = Value.pointer (some ⟨bb, off + q * 5, none⟩) := (hp 3 rfl).2.1
                have e75 : A.tmps.getD 75 undef = Value.pointer (some ⟨bb, off + q * 5, none⟩) := ((hp 3 rfl).2.2 75 rfl).trans f3
                have hxc := HXC.out w6 hG.1.bel
                clear hlow hun hnl hp
                refine wpOp_go rfl rfl (wp_ldmid 44 (.tmp 75) rfl bb (off + q * 5) ?_ y.cells _ hxc Try.underlying44 rfl (do_info.trans rfl) ⟨_, rfl, ⟨hG.1.past 4 _ (by decide), hG.2.past 4 _ (by decide) (by simp)⟩, ⟨⟩, rfl⟩)
                exact e75
              · intro L f A w6 Q hL hG hsz hlow hun hnl hp
                have f0 : f 0 = Value.agg x.cells.toArray := (hp 0 rfl).2.1
                have e72 : A.tmps.getD 72 undef = Value.agg x.cells.toArray := ((hp 0 rfl).2.2 72 rfl).trans f0
                have f4 : f 4 = Value.agg y.cells.toArray := (hp 4 rfl).2.1
                have e76 : A.tmps.getD 76 undef = Value.agg y.cells.toArray := ((hp 4 rfl).2.2 76 rfl).trans f4
                have n6 := (hnl 6 5 hL rfl)
                have n11 := (hnl 11 5 hL rfl)
                clear hlow hun hnl hp
                refine wpOp_go rfl rfl ?_
                go_simp
                refine hG.1.call (RSB.last (m + q + 1) s2 bl rr) (by decide) n11 (fun K2 hi hx => ?_) ?_
                · refine (HSTEP.out _ _ _ (HX3.out.step (Stp.into hG.1.bel hx)) hi (HFY.out.step (Stp.into hG.1.bel hx))).mono ?_
                  rintro e w7 ⟨x7, A7, c7, rfl, h1, h2, h3, h4⟩
                  exact ⟨_, _, rfl, ⟨x7, rfl, A7, c7, rfl, h1, h2, h3⟩, h4⟩
                intro v w7 hC
                exact ⟨_, rfl, ⟨hC, hG.2.past 5 _ (by decide) (by simp [n6])⟩, ⟨⟩, trivial⟩
              · intro L f A w6 Q hL hG hsz hlow hun hnl hp
                have e77 : A.tmps.getD 77 undef = f 5 := (hp 5 rfl).2.2 77 rfl
                have v5 := (hp 5 rfl).2.1
                have n7 := (hnl 7 6 hL rfl)
                have n8 := (hnl 8 6 hL rfl)
                have n9 := (hnl 9 6 hL rfl)
                clear hlow hun hnl hp
                refine wpOp_go rfl rfl ?_
                go_simp
                exact ⟨_, rfl, ⟨hG.1.past 6 _ (by decide), hG.2.at 6 5 0 (by decide) (by simp) (by simp [n7, n8, n9]) (by simp)⟩, ⟨⟩, trivial⟩
              · intro L f A w6 Q hL hG hsz hlow hun hnl hp
                have e71 : A.tmps.getD 71 undef = f 6 := (hp 6 rfl).2.2 71 rfl
                have v6 := (hp 6 rfl).2.1
                have hmv := hG.2 (6, 5, 0) (by simp) (hp 6 rfl).1
                have lic : L 5 = true := by
                  cases h : L 5 with
                  | true => rfl
                  | false => have := hnl 6 5 h rfl; rw [(hp 6 rfl).1] at this; cases this
                obtain ⟨K9, cs9, h9⟩ := hG.1.told lic
                obtain ⟨x9, hcs9, A9, c9, hsh9, hTm9, hFr9, hle9⟩ := h9
                have hmv2 : f 6 = .tuple #[.agg x9.cells.toArray, .slice A9 bl.length c9, .bool rr] := hmv.trans hsh9
                rw [hmv2] at e71
                have hpj : prj 1 (f 6) = .agg x9.cells.toArray := by rw [hmv2]; rfl
                have hLK := hG.2.at 7 6 1 (by decide) (by simp) (by simp) (by simp)
                rw [hpj] at hLK
                clear hlow hun hnl hp
                refine wpOp_go rfl rfl ?_
                go_simp
                exact ⟨_, rfl, ⟨hG.1.past 7 _ (by decide), hLK⟩, ⟨⟩, trivial⟩
              · intro L f A w6 Q hL hG hsz hlow hun hnl hp
                have e71 : A.tmps.getD 71 undef = f 6 := (hp 6 rfl).2.2 71 rfl
                have v6 := (hp 6 rfl).2.1
                have n12 := (hnl 12 8 hL rfl)
                have hmv := hG.2 (6, 5, 0) (by simp) (hp 6 rfl).1
                have lic : L 5 = true := by
                  cases h : L 5 with
                  | true => rfl
                  | false => have := hnl 6 5 h rfl; rw [(hp 6 rfl).1] at this; cases this
                obtain ⟨K9, cs9, h9⟩ := hG.1.told lic
                obtain ⟨x9, hcs9, A9, c9, hsh9, hTm9, hFr9, hle9⟩ := h9
                have hmv2 : f 6 = .tuple #[.agg x9.cells.toArray, .slice A9 bl.length c9, .bool rr] := hmv.trans hsh9
                rw [hmv2] at e71
                have hpj : prj 2 (f 6) = .slice A9 bl.length c9 := by rw [hmv2]; rfl
                have hLK := hG.2.at 8 6 2 (by decide) (by simp) (by simp [n12]) (by simp)
                rw [hpj] at hLK
                clear hlow hun hnl hp
                refine wpOp_go rfl rfl ?_
                go_simp
                exact ⟨_, rfl, ⟨hG.1.past 8 _ (by decide), hLK⟩, ⟨⟩, trivial⟩
              · intro L f A w6 Q hL hG hsz hlow hun hnl hp
                have e71 : A.tmps.getD 71 undef = f 6 := (hp 6 rfl).2.2 71 rfl
                have v6 := (hp 6 rfl).2.1
                have n13 := (hnl 13 9 hL rfl)
                have hmv := hG.2 (6, 5, 0) (by simp) (hp 6 rfl).1
                have lic : L 5 = true := by
                  cases h : L 5 with
                  | true => rfl
                  | false => have := hnl 6 5 h rfl; rw [(hp 6 rfl).1] at this; cases this
                obtain ⟨K9, cs9, h9⟩ := hG.1.told lic
                obtain ⟨x9, hcs9, A9, c9, hsh9, hTm9, hFr9, hle9⟩ := h9
                have hmv2 : f 6 = .tuple #[.agg x9.cells.toArray, .slice A9 bl.length c9, .bool rr] := hmv.trans hsh9
                rw [hmv2] at e71
                have hpj : prj 3 (f 6) = .bool rr := by rw [hmv2]; rfl
                have hLK := hG.2.at 9 6 3 (by decide) (by simp) (by simp [n13]) (by simp)
                rw [hpj] at hLK
                clear hlow hun hnl hp
                refine wpOp_go rfl rfl ?_
                go_simp
                exact ⟨_, rfl, ⟨hG.1.past 9 _ (by decide), hLK⟩, ⟨⟩, trivial⟩
              · intro L f A w6 Q hL hG hsz hlow hun hnl hp
                have n11 := (hnl 11 10 hL rfl)
                clear hlow hun hnl hp
                refine wpOp_go rfl rfl ?_
                go_simp
                exact ⟨_, rfl, ⟨hG.1.alloc (RSB.last (m + q + 1) s2 bl rr) (by decide) n11, hG.2.past 10 _ (by decide) (by simp)⟩, ⟨⟩, trivial⟩
              · intro L f A w6 Q hL hG hsz hlow hun hnl hp
                have e16 : A.tmps.getD 16 undef = f 10 := (hp 10 rfl).2.2 16 rfl
                have v10 := (hp 10 rfl).2.1
                have e78 : A.tmps.getD 78 undef = f 7 := (hp 7 rfl).2.2 78 rfl
                have v7 := (hp 7 rfl).2.1
                have hmv := hG.2 (6, 5, 0) (by simp) (hp 6 rfl).1
                have lic := (hp 5 rfl).1
                obtain ⟨K9, cs9, h9⟩ := hG.1.told lic
                have h90 := h9
                obtain ⟨x9, hcs9, A9, c9, hsh9, hTm9, hFr9, hle9⟩ := h9
                have hx0 := hG.2 (7, 6, 1) (by simp) (hp 7 rfl).1
                have hmv2 : f 6 = .tuple #[.agg x9.cells.toArray, .slice A9 bl.length c9, .bool rr] := hmv.trans hsh9
                rw [hmv2] at hx0
                have hx0 : f 7 = .agg x9.cells.toArray := hx0
                obtain ⟨g9, hg9, hz9, hS⟩ := hG.1.store (RSB.last (m + q + 1) s2 bl rr) (by decide) lic (hp 10 rfl).1 hL x9.cells (fun K2 hh => RSB.same hsh9 hh)
                rw [hg9] at e16
                rw [hx0] at e78
                clear hlow hun hnl hp
                refine wpOp_go rfl rfl (wp_store_row 56 (.tmp 16) (.tmp 78) rfl g9 x9.cells.toArray e16 e78 56 zT.toArray hz9 t_info rfl (t_all x9) ⟨undef, rfl, ⟨hS undef, hG.2.past 11 _ (by decide) (by simp)⟩, ⟨⟩, trivial⟩)
              · intro L f A w6 Q hL hG hsz hlow hun hnl hp
                have e79 : A.tmps.getD 79 undef = f 8 := (hp 8 rfl).2.2 79 rfl
                have v8 := (hp 8 rfl).2.1
                clear hlow hun hnl hp
                refine wpOp_go rfl rfl ?_
                go_simp
                exact ⟨_, rfl, ⟨hG.1.past 12 _ (by decide), hG.2.at 12 8 0 (by decide) (by simp) (by simp) (by simp)⟩, ⟨⟩, trivial⟩
              · intro L f A w6 Q hL hG hsz hlow hun hnl hp
                have e80 : A.tmps.getD 80 undef = f 9 := (hp 9 rfl).2.2 80 rfl
                have v9 := (hp 9 rfl).2.1
                clear hlow hun hnl hp
                refine wpOp_go rfl rfl ?_
                go_simp
                exact ⟨_, rfl, ⟨hG.1.past 13 _ (by decide), hG.2.at 13 9 0 (by decide) (by simp) (by simp) (by simp)⟩, ⟨⟩, trivial⟩
            case fin =>
              intro L f w9 hLL hG hV
              obtain ⟨g9, cs9, hg9, hge9, ⟨x9, hcs9, A9, c9, hsh9, hTm9, hFr9, hle9⟩, hbk9, hbel9⟩ := hG.1.done (RSB.last (m + q + 1) s2 bl rr) (hLL 5 (by simp)) (hLL 10 (by simp)) (hLL 11 (by simp))
              have lk := fun t ht hl => hG.2 t ht hl
              have e1 : f 6 = f 5 := lk (6, 5, 0) (by simp) (hLL 6 (by simp))
              have e2 := lk (8, 6, 2) (by simp) (hLL 8 (by simp))
              have e3 : f 12 = f 8 := lk (12, 8, 0) (by simp) (hLL 12 (by simp))
              have e4 := lk (9, 6, 3) (by simp) (hLL 9 (by simp))
              have e5 : f 13 = f 9 := lk (13, 9, 0) (by simp) (hLL 13 (by simp))
              rw [hsh9] at e1
              rw [e1] at e2 e4
              have e2 : f 8 = .slice A9 bl.length c9 := e2
              have e4 : f 9 = .bool rr := e4
              rw [e2] at e3
              rw [e4] at e5
              subst hcs9
              have HBK9 := Hd.mk hbk9
              have HBX9 : Hd (Blk w9 C 56 x.cells) := ⟨HBK.out w9 hbel9⟩
              have HT9 := Hd.mk hTm9
              have HF9 := Hd.mk hFr9
              have HC9 := Hd.mk hle9
              have HB9 := Hd.mk hbel9
              clear hV hG hLL hsh9 hTm9 hFr9 hle9 hbk9 hbel9 e1 e2 e4 lk
              simp only [fillD, Act.put, List.setIfInBounds_toArray, List.set_cons_zero, List.set_cons_succ]
              rw [hg9, e3, e5]
              clear hg9 e3 e5 hge9
              have HNX : Hd (Cop2 w (w9.setRow C x9.cells.toArray) g B K m s x1 gx C K3 (m + q + 1) s2 x9) := ⟨HC.out.did HWO3.out HST3.out HLT.out HB9.out HT9.out⟩
              have HRA : Hd (Rc (w9.setRow C x9.cells.toArray) A3 (bs bl)) := ⟨((((HF3.out.tag HM.out.bk).step (Stp.of_below HB9.out)).step (boxed_end (fun _ h => h) (tagK_at K3 C) w9 x9.cells.toArray)).rc)⟩
              have HRB : Hd (Rc (w9.setRow C x9.cells.toArray) A9 (bs bl)) := ⟨(HF9.out.step (boxed_end (K := tagK K3 C) (fun _ h => h) (tagK_at K3 C) w9 x9.cells.toArray)).rc⟩
              clear HSTEP HDID HX3 HK3 HBK HXC HFY HLT HFEW HWO3 HST3 HF3 HM HT9 HF9
              cases rr
              all_goals (
                go_wp2_with (first
                  | (refine wpList_load_row rfl 56 (.tmp 16) rfl g9 rfl 56 _ (0, 0) _ HBK9.out Try.underlying56 rfl t_info ?_)
                  | (refine wpList_store_row rfl 56 (.tmp 12) (.tmp 81) rfl C x9.cells.toArray rfl rfl 56 x.cells.toArray HBX9.out t_info rfl (t_all x9) ?_)
                  | (go_at_call 15; refine (same_q _ _ _ _ _ _ bl _ HRA.out HRB.out rfl rfl).mono ?_; rintro e w10 ⟨rfl, nn, hw⟩; have HB10 : Hd (Below (w9.setRow C x9.cells.toArray).heap.size (w9.setRow C x9.cells.toArray) w10) := ⟨by rw [hw]; exact below_drewN (Below.refl _ _) _⟩; clear hw))
                go_roundw
                case rel => exact ⟨q + 1, by go_num, by omega, K3, s2, x9, ⟨HNX.out.below HB10.out⟩⟩
                case measure => simp [intOf]; omega)
          · have hnl : ¬ (q : Int) < (m2 : Int) := by omega
            have hq2 : q ≤ 40 := by have := H41.out.1; omega
            have hm4 : m ≤ 40 := H40.out.1
            have hcw := HC.out
            have HW1 := Hd.mk hcw.wo
            have HW2 := Hd.mk hcw.c.wo
            have HTM1 := Hd.mk hcw.tm
            have HTM2 := Hd.mk hcw.c.tm
            have HTR1 := Hd.mk HTRS.out
            have HTR2 := Hd.mk hcw.c.tr
            have HT1 : Hd (s.trace.length ≤ 1000000) := ⟨by have := HLI.out.trace; omega⟩
            have HT2 : Hd (s4.trace.length ≤ 1000000) := ⟨by have := hcw.c.li.trace; omega⟩
            have HBK1 : Hd (∀ w6, Below wr.heap.size wr w6 → Blk w6 B 56 x1.cells) := ⟨fun w6 hb => hcw.bk.below hb hcw.bk.lt⟩
            have HBK2 : Hd (∀ w6, Below wr.heap.size wr w6 → Blk w6 C 56 x.cells) := ⟨fun w6 hb => hcw.c.bk.below hb hcw.c.bk.lt⟩
            have HDD : Hd (x1.dead = s.dead) := ⟨hcw.tm.e0.2.2.2.2.2⟩
            have HBL : Hd (Below w.heap.size w wr) := ⟨hcw.wo.bel⟩
            clear hcw
            go_wp2_with (fail)
            refine region_stp (VY g gx B C s s4 x1 x) (fun _ Wx _ => Below wr.heap.size wr Wx) (fun _ w1 w2 => Below w1.heap.size w1 w2) (by kernel_rfl) (by kernel_rfl) (by kernel_rfl) (by kernel_rfl) (fun f => (Below.refl _ _).drew) ?stab ?steps ?fin
            case stab => intro i j w1 w2 v o ho hij hwt hR h; exact VY.stab hR j h
            case steps =>
              refine StepsG.cons ?_ (StepsG.cons ?_ (StepsG.cons ?_ (StepsG.cons ?_ (StepsG.cons ?_ (StepsG.cons ?_ (StepsG.cons ?_ (StepsG.cons ?_ (StepsG.cons ?_ (StepsG.cons ?_ (StepsG.cons ?_ (StepsG.cons ?_ (StepsG.cons ?_ (StepsG.cons ?_ (StepsG.cons ?_ (StepsG.cons ?_ (StepsG.cons ?_ (StepsG.cons ?_ (StepsG.cons ?_ (StepsG.cons ?_ (StepsG.cons ?_ (StepsG.cons ?_ (StepsG.cons ?_ (StepsG.cons ?_ (StepsG.cons ?_ (StepsG.cons ?_ (StepsG.cons ?_ (StepsG.cons ?_ (StepsG.cons ?_ (StepsG.cons ?_ StepsG.nil)))))))))))))))))))))))))))))
              · intro L f A w6 Q hL hG hsz hlow hun hnl hp
                have e5 : A.tmps.getD 5 undef = Value.pointer (some ⟨g, 0, none⟩) := hlow 5 rfl
                clear hlow hun hnl hp
                refine wpOp_go rfl rfl ?_
                go_simp
                first | exact ⟨_, rfl, hG, Below.refl _ _, rfl⟩ | exact ⟨hG, Below.refl _ _, rfl⟩ | exact ⟨hG, rfl⟩ | exact hG | exact ⟨hG, Below.refl _ _⟩ | exact ⟨_, rfl, hG, Below.refl _ _, trivial⟩ | exact ⟨_, rfl, Below.refl _ _, rfl⟩ | exact ⟨Below.refl _ _, rfl⟩
              · intro L f A w6 Q hL hG hsz hlow hun hnl hp
                have f0 : f 0 = Value.pointer (some ⟨g, 0, none⟩) := (hp 0 rfl).2.1
                have e91 : A.tmps.getD 91 undef = Value.pointer (some ⟨g, 0, none⟩) := ((hp 0 rfl).2.2 91 rfl).trans f0
                clear hlow hun hnl hp
                refine wpOp_go rfl rfl ?_
                go_simp
                refine (wo_trace (HW1.out.below hG) HT1.out HTR1.out).mono ?_
                rintro e w7 ⟨A1, c1, T1, rfl, hv, hc, hr, hh, hb, _, _⟩
                exact ⟨_, rfl, below_then hG hG.size hb, hb, ⟨A1, c1, T1, rfl, hv, hr, hh⟩⟩
              · intro L f A w6 Q hL hG hsz hlow hun hnl hp
                have e6 : A.tmps.getD 6 undef = Value.pointer (some ⟨B, 0, none⟩) := hlow 6 rfl
                clear hlow hun hnl hp
                refine wpOp_go rfl rfl ?_
                go_simp
                first | exact ⟨_, rfl, hG, Below.refl _ _, rfl⟩ | exact ⟨hG, Below.refl _ _, rfl⟩ | exact ⟨hG, rfl⟩ | exact hG | exact ⟨hG, Below.refl _ _⟩ | exact ⟨_, rfl, hG, Below.refl _ _, trivial⟩ | exact ⟨_, rfl, Below.refl _ _, rfl⟩ | exact ⟨Below.refl _ _, rfl⟩
              · intro L f A w6 Q hL hG hsz hlow hun hnl hp
                have f2 : f 2 = Value.pointer (some ⟨B, 9, none⟩) := (hp 2 rfl).2.1
                have e93 : A.tmps.getD 93 undef = Value.pointer (some ⟨B, 9, none⟩) := ((hp 2 rfl).2.2 93 rfl).trans f2
                have hcc := (HBK1.out w6 hG).cell (i := 9) (v := .slice x1.AT x1.T.length x1.cT) rfl
                clear hlow hun hnl hp
                refine wpOp_go rfl rfl ?_
                go_simp
                first | exact ⟨_, rfl, hG, Below.refl _ _, rfl⟩ | exact ⟨hG, Below.refl _ _, rfl⟩ | exact ⟨hG, rfl⟩ | exact hG | exact ⟨hG, Below.refl _ _⟩ | exact ⟨_, rfl, hG, Below.refl _ _, trivial⟩ | exact ⟨_, rfl, Below.refl _ _, rfl⟩ | exact ⟨Below.refl _ _, rfl⟩
              · intro L f A w6 Q hL hG hsz hlow hun hnl hp
                have e92 : A.tmps.getD 92 undef = f 1 := (hp 1 rfl).2.2 92 rfl
                have v1 := (hp 1 rfl).2.1
                have f3 : f 3 = Value.slice x1.AT x1.T.length x1.cT := (hp 3 rfl).2.1
                have e94 : A.tmps.getD 94 undef = Value.slice x1.AT x1.T.length x1.cT := ((hp 3 rfl).2.2 94 rfl).trans f3
                obtain ⟨A1, c1, T1, ht1, hv1, hr1, hh1⟩ := v1
                rw [ht1] at e92
                clear hlow hun hnl hp
                refine wpOp_go rfl rfl ?_
                go_simp
                refine (sametrace_tm (HTM1.out.below hG) HT1.out A1 c1 T1 hv1 hr1 hh1).mono ?_
                rintro e w7 ⟨rfl, hb⟩
                exact ⟨_, rfl, below_then hG hG.size hb, hb, rfl⟩
              · intro L f A w6 Q hL hG hsz hlow hun hnl hp
                have f4 : f 4 = Value.bool true := (hp 4 rfl).2.1
                have e95 : A.tmps.getD 95 undef = Value.bool true := ((hp 4 rfl).2.2 95 rfl).trans f4
                clear hlow hun hnl hp
                refine wpOp_go rfl rfl ?_
                go_simp
                first | exact ⟨_, rfl, hG, Below.refl _ _, rfl⟩ | exact ⟨hG, Below.refl _ _, rfl⟩ | exact ⟨hG, rfl⟩ | exact hG | exact ⟨hG, Below.refl _ _⟩ | exact ⟨_, rfl, hG, Below.refl _ _, trivial⟩ | exact ⟨_, rfl, Below.refl _ _, rfl⟩ | exact ⟨Below.refl _ _, rfl⟩
              · intro L f A w6 Q hL hG hsz hlow hun hnl hp
                have e11 : A.tmps.getD 11 undef = Value.pointer (some ⟨gx, 0, none⟩) := hlow 11 rfl
                have e96 : A.tmps.getD 96 undef = Value.bool true := ((hp 5 rfl).2.2 96 rfl).trans (hp 5 rfl).2.1
                clear hlow hun hnl hp
                refine wpOp_go rfl ((wanted_of (want := true) (b := true) rfl rfl e96).trans rfl) ?_
                go_simp
                first | exact ⟨_, rfl, hG, Below.refl _ _, rfl⟩ | exact ⟨hG, Below.refl _ _, rfl⟩ | exact ⟨hG, rfl⟩ | exact hG | exact ⟨hG, Below.refl _ _⟩ | exact ⟨_, rfl, hG, Below.refl _ _, trivial⟩ | exact ⟨_, rfl, Below.refl _ _, rfl⟩ | exact ⟨Below.refl _ _, rfl⟩
              · intro L f A w6 Q hL hG hsz hlow hun hnl hp
                have f6 : f 6 = Value.pointer (some ⟨gx, 0, none⟩) := (hp 6 rfl).2.1
                have e97 : A.tmps.getD 97 undef = Value.pointer (some ⟨gx, 0, none⟩) := ((hp 6 rfl).2.2 97 rfl).trans f6
                have e96 : A.tmps.getD 96 undef = Value.bool true := ((hp 5 rfl).2.2 96 rfl).trans (hp 5 rfl).2.1
                clear hlow hun hnl hp
                refine wpOp_go rfl ((wanted_of (want := true) (b := true) rfl rfl e96).trans rfl) ?_
                go_simp
                refine (wo_trace (HW2.out.below hG) HT2.out HTR2.out).mono ?_
                rintro e w7 ⟨A1, c1, T1, rfl, hv, hc, hr, hh, hb, _, _⟩
                exact ⟨_, rfl, below_then hG hG.size hb, hb, ⟨A1, c1, T1, rfl, hv, hr, hh⟩⟩
              · intro L f A w6 Q hL hG hsz hlow hun hnl hp
                have e12 : A.tmps.getD 12 undef = Value.pointer (some ⟨C, 0, none⟩) := hlow 12 rfl
                have e96 : A.tmps.getD 96 undef = Value.bool true := ((hp 5 rfl).2.2 96 rfl).trans (hp 5 rfl).2.1
                clear hlow hun hnl hp
                refine wpOp_go rfl ((wanted_of (want := true) (b := true) rfl rfl e96).trans rfl) ?_
                go_simp
                first | exact ⟨_, rfl, hG, Below.refl _ _, rfl⟩ | exact ⟨hG, Below.refl _ _, rfl⟩ | exact ⟨hG, rfl⟩ | exact hG | exact ⟨hG, Below.refl _ _⟩ | exact ⟨_, rfl, hG, Below.refl _ _, trivial⟩ | exact ⟨_, rfl, Below.refl _ _, rfl⟩ | exact ⟨Below.refl _ _, rfl⟩
              · intro L f A w6 Q hL hG hsz hlow hun hnl hp
                have f8 : f 8 = Value.pointer (some ⟨C, 9, none⟩) := (hp 8 rfl).2.1
                have e99 : A.tmps.getD 99 undef = Value.pointer (some ⟨C, 9, none⟩) := ((hp 8 rfl).2.2 99 rfl).trans f8
                have e96 : A.tmps.getD 96 undef = Value.bool true := ((hp 5 rfl).2.2 96 rfl).trans (hp 5 rfl).2.1
                have hcc := (HBK2.out w6 hG).cell (i := 9) (v := .slice x.AT x.T.length x.cT) rfl
                clear hlow hun hnl hp
                refine wpOp_go rfl ((wanted_of (want := true) (b := true) rfl rfl e96).trans rfl) ?_
                go_simp
                first | exact ⟨_, rfl, hG, Below.refl _ _, rfl⟩ | exact ⟨hG, Below.refl _ _, rfl⟩ | exact ⟨hG, rfl⟩ | exact hG | exact ⟨hG, Below.refl _ _⟩ | exact ⟨_, rfl, hG, Below.refl _ _, trivial⟩ | exact ⟨_, rfl, Below.refl _ _, rfl⟩ | exact ⟨Below.refl _ _, rfl⟩
              · intro L f A w6 Q hL hG hsz hlow hun hnl hp
                have e98 : A.tmps.getD 98 undef = f 7 := (hp 7 rfl).2.2 98 rfl
                have v7 := (hp 7 rfl).2.1
                have f9 : f 9 = Value.slice x.AT x.T.length x.cT := (hp 9 rfl).2.1
                have e100 : A.tmps.getD 100 undef = Value.slice x.AT x.T.length x.cT := ((hp 9 rfl).2.2 100 rfl).trans f9
                have e96 : A.tmps.getD 96 undef = Value.bool true := ((hp 5 rfl).2.2 96 rfl).trans (hp 5 rfl).2.1
                obtain ⟨A1, c1, T1, ht1, hv1, hr1, hh1⟩ := v7
                rw [ht1] at e98
                clear hlow hun hnl hp
                refine wpOp_go rfl ((wanted_of (want := true) (b := true) rfl rfl e96).trans rfl) ?_
                go_simp
                refine (sametrace_tm (HTM2.out.below hG) HT2.out A1 c1 T1 hv1 hr1 hh1).mono ?_
                rintro e w7 ⟨rfl, hb⟩
                exact ⟨_, rfl, below_then hG hG.size hb, hb, rfl⟩
              · intro L f A w6 Q hL hG hsz hlow hun hnl hp
                have f5 : f 5 = Value.bool true := (hp 5 rfl).2.1
                have e96 : A.tmps.getD 96 undef = Value.bool true := ((hp 5 rfl).2.2 96 rfl).trans f5
                have f10 : f 10 = Value.bool true := (hp 10 rfl).2.1
                have e101 : A.tmps.getD 101 undef = Value.bool true := ((hp 10 rfl).2.2 101 rfl).trans f10
                clear hlow hun hnl hp
                refine wpOp_go rfl rfl ?_
                go_simp
                first | exact ⟨_, rfl, hG, Below.refl _ _, rfl⟩ | exact ⟨hG, Below.refl _ _, rfl⟩ | exact ⟨hG, rfl⟩ | exact hG | exact ⟨hG, Below.refl _ _⟩ | exact ⟨_, rfl, hG, Below.refl _ _, trivial⟩ | exact ⟨_, rfl, Below.refl _ _, rfl⟩ | exact ⟨Below.refl _ _, rfl⟩
              · intro L f A w6 Q hL hG hsz hlow hun hnl hp
                have f11 : f 11 = Value.bool true := (hp 11 rfl).2.1
                have e102 : A.tmps.getD 102 undef = Value.bool true := ((hp 11 rfl).2.2 102 rfl).trans f11
                clear hlow hun hnl hp
                refine wpOp_go rfl rfl ?_
                go_simp
                first | exact ⟨_, rfl, hG, Below.refl _ _, rfl⟩ | exact ⟨hG, Below.refl _ _, rfl⟩ | exact ⟨hG, rfl⟩ | exact hG | exact ⟨hG, Below.refl _ _⟩ | exact ⟨_, rfl, hG, Below.refl _ _, trivial⟩ | exact ⟨_, rfl, Below.refl _ _, rfl⟩ | exact ⟨Below.refl _ _, rfl⟩
              · intro L f A w6 Q hL hG hsz hlow hun hnl hp
                have e5 : A.tmps.getD 5 undef = Value.pointer (some ⟨g, 0, none⟩) := hlow 5 rfl
                have e103 : A.tmps.getD 103 undef = Value.bool true := ((hp 12 rfl).2.2 103 rfl).trans (hp 12 rfl).2.1
                clear hlow hun hnl hp
                refine wpOp_go rfl ((wanted_of (want := true) (b := true) rfl rfl e103).trans rfl) ?_
                go_simp
                first | exact ⟨_, rfl, hG, Below.refl _ _, rfl⟩ | exact ⟨hG, Below.refl _ _, rfl⟩ | exact ⟨hG, rfl⟩ | exact hG | exact ⟨hG, Below.refl _ _⟩ | exact ⟨_, rfl, hG, Below.refl _ _, trivial⟩ | exact ⟨_, rfl, Below.refl _ _, rfl⟩ | exact ⟨Below.refl _ _, rfl⟩
              · intro L f A w6 Q hL hG hsz hlow hun hnl hp
                have f13 : f 13 = Value.pointer (some ⟨g, 0, none⟩) := (hp 13 rfl).2.1
                have e104 : A.tmps.getD 104 undef = Value.pointer (some ⟨g, 0, none⟩) := ((hp 13 rfl).2.2 104 rfl).trans f13
                have e103 : A.tmps.getD 103 undef = Value.bool true := ((hp 12 rfl).2.2 103 rfl).trans (hp 12 rfl).2.1
                clear hlow hun hnl hp
                refine wpOp_go rfl ((wanted_of (want := true) (b := true) rfl rfl e103).trans rfl) ?_
                go_simp
                refine (wo_counter (HW1.out.below hG)).mono ?_
                rintro e w7 ⟨rfl, rfl⟩
                exact ⟨_, rfl, hG, Below.refl _ _, rfl⟩
              · intro L f A w6 Q hL hG hsz hlow hun hnl hp
                have e6 : A.tmps.getD 6 undef = Value.pointer (some ⟨B, 0, none⟩) := hlow 6 rfl
                have e103 : A.tmps.getD 103 undef = Value.bool true := ((hp 12 rfl).2.2 103 rfl).trans (hp 12 rfl).2.1
                have hbk := HBK1.out w6 hG
                clear hlow hun hnl hp
                refine wpOp_go rfl ((wanted_of (want := true) (b := true) rfl rfl e103).trans rfl) (wp_load_row 56 (.tmp 6) rfl B ?_ 56 x1.cells.toArray (0, 0) _ hbk Try.underlying56 rfl t_info ⟨_, rfl, hG, Below.refl _ _, rfl⟩)
                exact e6
              · intro L f A w6 Q hL hG hsz hlow hun hnl hp
                have f15 : f 15 = Value.agg x1.cells.toArray := (hp 15 rfl).2.1
                have e106 : A.tmps.getD 106 undef = Value.agg x1.cells.toArray := ((hp 15 rfl).2.2 106 rfl).trans f15
                have e103 : A.tmps.getD 103 undef = Value.bool true := ((hp 12 rfl).2.2 103 rfl).trans (hp 12 rfl).2.1
                clear hlow hun hnl hp
                refine wpOp_go rfl ((wanted_of (want := true) (b := true) rfl rfl e103).trans rfl) ?_
                go_simp
                refine (rcounter_calls (HTM1.out.below hG)).mono ?_
                rintro e w7 ⟨rfl, hb⟩
                exact ⟨_, rfl, below_then hG hG.size hb, hb, rfl⟩
              · intro L f A w6 Q hL hG hsz hlow hun hnl hp
                have f14 : f 14 = Value.int .u64 (counterP s) := (hp 14 rfl).2.1
                have e105 : A.tmps.getD 105 undef = Value.int .u64 (counterP s) := ((hp 14 rfl).2.2 105 rfl).trans f14
                have f16 : f 16 = Value.int .u64 (counterP s) := (hp 16 rfl).2.1
                have e107 : A.tmps.getD 107 undef = Value.int .u64 (counterP s) := ((hp 16 rfl).2.2 107 rfl).trans f16
                have e103 : A.tmps.getD 103 undef = Value.bool true := ((hp 12 rfl).2.2 103 rfl).trans (hp 12 rfl).2.1
                clear hlow hun hnl hp
                refine wpOp_go rfl ((wanted_of (want := true) (b := true) rfl rfl e103).trans rfl) ?_
                go_simp
                first | exact ⟨_, rfl, hG, Below.refl _ _, rfl⟩ | exact ⟨hG, Below.refl _ _, rfl⟩ | exact ⟨hG, rfl⟩ | exact hG | exact ⟨hG, Below.refl _ _⟩ | exact ⟨_, rfl, hG, Below.refl _ _, trivial⟩ | exact ⟨_, rfl, Below.refl _ _, rfl⟩ | exact ⟨Below.refl _ _, rfl⟩
              · intro L f A w6 Q hL hG hsz hlow hun hnl hp
                have f12 : f 12 = Value.bool true := (hp 12 rfl).2.1
                have e103 : A.tmps.getD 103 undef = Value.bool true := ((hp 12 rfl).2.2 103 rfl).trans f12
                have f17 : f 17 = Value.bool true := (hp 17 rfl).2.1
                have e108 : A.tmps.getD 108 undef = Value.bool true := ((hp 17 rfl).2.2 108 rfl).trans f17
                clear hlow hun hnl hp
                refine wpOp_go rfl rfl ?_
                go_simp
                first | exact ⟨_, rfl, hG, Below.refl _ _, rfl⟩ | exact ⟨hG, Below.refl _ _, rfl⟩ | exact ⟨hG, rfl⟩ | exact hG | exact ⟨hG, Below.refl _ _⟩ | exact ⟨_, rfl, hG, Below.refl _ _, trivial⟩ | exact ⟨_, rfl, Below.refl _ _, rfl⟩ | exact ⟨Below.refl _ _, rfl⟩
              · intro L f A w6 Q hL hG hsz hlow hun hnl hp
                have f18 : f 18 = Value.bool true := (hp 18 rfl).2.1
                have e109 : A.tmps.getD 109 undef = Value.bool true := ((hp 18 rfl).2.2 109 rfl).trans f18
                clear hlow hun hnl hp
                refine wpOp_go rfl rfl ?_
                go_simp
                first | exact ⟨_, rfl, hG, Below.refl _ _, rfl⟩ | exact ⟨hG, Below.refl _ _, rfl⟩ | exact ⟨hG, rfl⟩ | exact hG | exact ⟨hG, Below.refl _ _⟩ | exact ⟨_, rfl, hG, Below.refl _ _, trivial⟩ | exact ⟨_, rfl, Below.refl _ _, rfl⟩ | exact ⟨Below.refl _ _, rfl⟩
              · intro L f A w6 Q hL hG hsz hlow hun hnl hp
                have e5 : A.tmps.getD 5 undef = Value.pointer (some ⟨g, 0, none⟩) := hlow 5 rfl
                have e110 : A.tmps.getD 110 undef = Value.bool true := ((hp 19 rfl).2.2 110 rfl).trans (hp 19 rfl).2.1
                clear hlow hun hnl hp
                refine wpOp_go rfl ((wanted_of (want := true) (b := true) rfl rfl e110).trans rfl) ?_
                go_simp
                first | exact ⟨_, rfl, hG, Below.refl _ _, rfl⟩ | exact ⟨hG, Below.refl _ _, rfl⟩ | exact ⟨hG, rfl⟩ | exact hG | exact ⟨hG, Below.refl _ _⟩ | exact ⟨_, rfl, hG, Below.refl _ _, trivial⟩ | exact ⟨_, rfl, Below.refl _ _, rfl⟩ | exact ⟨Below.refl _ _, rfl⟩
              · intro L f A w6 Q hL hG hsz hlow hun hnl hp
                have f20 : f 20 = Value.pointer (some ⟨g, 0, none⟩) := (hp 20 rfl).2.1
                have e111 : A.tmps.getD 111 undef = Value.pointer (some ⟨g, 0, none⟩) := ((hp 20 rfl).2.2 111 rfl).trans f20
                have e110 : A.tmps.getD 110 undef = Value.bool true := ((hp 19 rfl).2.2 110 rfl).trans (hp 19 rfl).2.1
                clear hlow hun hnl hp
                refine wpOp_go rfl ((wanted_of (want := true) (b := true) rfl rfl e110).trans rfl) ?_
                go_simp
                refine (wo_dead (HW1.out.below hG)).mono ?_
                rintro e w7 ⟨rfl, rfl⟩
                rw [← HDD.out]
                exact ⟨_, rfl, hG, Below.refl _ _, rfl⟩
              · intro L f A w6 Q hL hG hsz hlow hun hnl hp
                have e6 : A.tmps.getD 6 undef = Value.pointer (some ⟨B, 0, none⟩) := hlow 6 rfl
                have e110 : A.tmps.getD 110 undef = Value.bool true := ((hp 19 rfl).2.2 110 rfl).trans (hp 19 rfl).2.1
                clear hlow hun hnl hp
                refine wpOp_go rfl ((wanted_of (want := true) (b := true) rfl rfl e110).trans rfl) ?_
                go_simp
                first | exact ⟨_, rfl, hG, Below.refl _ _, rfl⟩ | exact ⟨hG, Below.refl _ _, rfl⟩ | exact ⟨hG, rfl⟩ | exact hG | exact ⟨hG, Below.refl _ _⟩ | exact ⟨_, rfl, hG, Below.refl _ _, trivial⟩ | exact ⟨_, rfl, Below.refl _ _, rfl⟩ | exact ⟨Below.refl _ _, rfl⟩
              · intro L f A w6 Q hL hG hsz hlow hun hnl hp
                have f22 : f 22 = Value.pointer (some ⟨B, 8, none⟩) := (hp 22 rfl).2.1
                have e113 : A.tmps.getD 113 undef = Value.pointer (some ⟨B, 8, none⟩) := ((hp 22 rfl).2.2 113 rfl).trans f22
                have e110 : A.tmps.getD 110 undef = Value.bool true := ((hp 19 rfl).2.2 110 rfl).trans (hp 19 rfl).2.1
                have hcc := (HBK1.out w6 hG).cell (i := 8) (v := .bool x1.dead) rfl
                clear hlow hun hnl hp
                refine wpOp_go rfl ((wanted_of (want := true) (b := true) rfl rfl e110).trans rfl) ?_
                go_simp
                first | exact ⟨_, rfl, hG, Below.refl _ _, rfl⟩ | exact ⟨hG, Below.refl _ _, rfl⟩ | exact ⟨hG, rfl⟩ | exact hG | exact ⟨hG, Below.refl _ _⟩ | exact ⟨_, rfl, hG, Below.refl _ _, trivial⟩ | exact ⟨_, rfl, Below.refl _ _, rfl⟩ | exact ⟨Below.refl _ _, rfl⟩
              · intro L f A w6 Q hL hG hsz hlow hun hnl hp
                have f21 : f 21 = Value.bool x1.dead := (hp 21 rfl).2.1
                have e112 : A.tmps.getD 112 undef = Value.bool x1.dead := ((hp 21 rfl).2.2 112 rfl).trans f21
                have f23 : f 23 = Value.bool x1.dead := (hp 23 rfl).2.1
                have e114 : A.tmps.getD 114 undef = Value.bool x1.dead := ((hp 23 rfl).2.2 114 rfl).trans f23
                have e110 : A.tmps.getD 110 undef = Value.bool true := ((hp 19 rfl).2.2 110 rfl).trans (hp 19 rfl).2.1
                clear hlow hun hnl hp
                refine wpOp_go rfl ((wanted_of (want := true) (b := true) rfl rfl e110).trans rfl) ?_
                go_simp
                first | exact ⟨_, rfl, hG, Below.refl _ _, rfl⟩ | exact ⟨hG, Below.refl _ _, rfl⟩ | exact ⟨hG, rfl⟩ | exact hG | exact ⟨hG, Below.refl _ _⟩ | exact ⟨_, rfl, hG, Below.refl _ _, trivial⟩ | exact ⟨_, rfl, Below.refl _ _, rfl⟩ | exact ⟨Below.refl _ _, rfl⟩
              · intro L f A w6 Q hL hG hsz hlow hun hnl hp
                have f19 : f 19 = Value.bool true := (hp 19 rfl).2.1
                have e110 : A.tmps.getD 110 undef = Value.bool true := ((hp 19 rfl).2.2 110 rfl).trans f19
                have f24 : f 24 = Value.bool true := (hp 24 rfl).2.1
                have e115 : A.tmps.getD 115 undef = Value.bool true := ((hp 24 rfl).2.2 115 rfl).trans f24
                clear hlow hun hnl hp
                refine wpOp_go rfl rfl ?_
                go_simp
                first | exact ⟨_, rfl, hG, Below.refl _ _, rfl⟩ | exact ⟨hG, Below.refl _ _, rfl⟩ | exact ⟨hG, rfl⟩ | exact hG | exact ⟨hG, Below.refl _ _⟩ | exact ⟨_, rfl, hG, Below.refl _ _, trivial⟩ | exact ⟨_, rfl, Below.refl _ _, rfl⟩ | exact ⟨Below.refl _ _, rfl⟩
              · intro L f A w6 Q hL hG hsz hlow hun hnl hp
                have f25 : f 25 = Value.bool true := (hp 25 rfl).2.1
                have e116 : A.tmps.getD 116 undef = Value.bool true := ((hp 25 rfl).2.2 116 rfl).trans f25
                clear hlow hun hnl hp
                refine wpOp_go rfl rfl ?_
                go_simp
                first | exact ⟨_, rfl, hG, Below.refl _ _, rfl⟩ | exact ⟨hG, Below.refl _ _, rfl⟩ | exact ⟨hG, rfl⟩ | exact hG | exact ⟨hG, Below.refl _ _⟩ | exact ⟨_, rfl, hG, Below.refl _ _, trivial⟩ | exact ⟨_, rfl, Below.refl _ _, rfl⟩ | exact ⟨Below.refl _ _, rfl⟩
              · intro L f A w6 Q hL hG hsz hlow hun hnl hp
                have e117 : A.tmps.getD 117 undef = Value.bool true := ((hp 26 rfl).2.2 117 rfl).trans (hp 26 rfl).2.1
                clear hlow hun hnl hp
                refine wpOp_go rfl ((wanted_of (want := true) (b := true) rfl rfl e117).trans rfl) ?_
                go_simp
                refine (known_calls _).mono ?_
                rintro e w7 ⟨rfl, hb⟩
                exact ⟨_, rfl, below_then hG hG.size hb, hb, rfl⟩
              · intro L f A w6 Q hL hG hsz hlow hun hnl hp
                have f26 : f 26 = Value.bool true := (hp 26 rfl).2.1
                have e117 : A.tmps.getD 117 undef = Value.bool true := ((hp 26 rfl).2.2 117 rfl).trans f26
                have f27 : f 27 = Value.bool true := (hp 27 rfl).2.1
                have e118 : A.tmps.getD 118 undef = Value.bool true := ((hp 27 rfl).2.2 118 rfl).trans f27
                clear hlow hun hnl hp
                refine wpOp_go rfl rfl ?_
                go_simp
                first | exact ⟨_, rfl, hG, Below.refl _ _, rfl⟩ | exact ⟨hG, Below.refl _ _, rfl⟩ | exact ⟨hG, rfl⟩ | exact hG | exact ⟨hG, Below.refl _ _⟩ | exact ⟨_, rfl, hG, Below.refl _ _, trivial⟩ | exact ⟨_, rfl, Below.refl _ _, rfl⟩ | exact ⟨Below.refl _ _, rfl⟩
              · intro L f A w6 Q hL hG hsz hlow hun hnl hp
                have f28 : f 28 = Value.bool true := (hp 28 rfl).2.1
                have e119 : A.tmps.getD 119 undef = Value.bool true := ((hp 28 rfl).2.2 119 rfl).trans f28
                clear hlow hun hnl hp
                refine wpOp_go rfl rfl ?_
                go_simp
                first | exact ⟨_, rfl, hG, Below.refl _ _, rfl⟩ | exact ⟨hG, Below.refl _ _, rfl⟩ | exact ⟨hG, rfl⟩ | exact hG | exact ⟨hG, Below.refl _ _⟩ | exact ⟨_, rfl, hG, Below.refl _ _, trivial⟩ | exact ⟨_, rfl, Below.refl _ _, rfl⟩ | exact ⟨Below.refl _ _, rfl⟩
            case fin =>
              intro L f w9 hLL hG hV
              have e29 : f 29 = .bool true := hV 29 (by simp)
              clear hV hLL
              simp only [fillD, Act.put, List.setIfInBounds_toArray, List.set_cons_zero, List.set_cons_succ]
              rw [e29]
              go_wp2_with (fail)
              go_ret
              exact ⟨rfl, below_then HBL.out HBL.out.size hG⟩
theorem row_copies (A : Option Addr) (ca : Nat) (l : List Dd) (A2 : Option Addr) (cb : Nat) (l2 : List Dd) (w : World) (hr : Rc w A (dds l)) (hc : l.length ≤ ca) (hm : l.length ≤ 140737488355328) (hH : HeldD w l ∧ ∀ x ∈ l, x.b.length ≤ 140737488355328)
    (hr2 : Rc w A2 (dds l2)) (hc2 : l2.length ≤ cb) (hm2 : l2.length ≤ 140737488355328) (hH2 : HeldD w l2 ∧ ∀ x ∈ l2, x.b.length ≤ 140737488355328) :
    Calls Try.prog 9 #[.slice A l.length ca, .slice A2 l2.length cb] w (Go.Sac.RetT w) :=
  law_copies A _ ca l A2 _ cb l2 w hr hH.1 rfl hm hH.2 hr2 hH2.1 rfl hm2 hH2.2
end Go.Proofs.Ytffhncpgknkkaaa
