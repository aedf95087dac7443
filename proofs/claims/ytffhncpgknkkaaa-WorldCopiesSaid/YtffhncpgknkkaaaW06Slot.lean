/- W06Slot: a slot's array. -/
import Derived.Test.YtffhncpgknkkaaaW06Small
namespace Go.Proofs.Ytffhncpgknkkaaa
open Go.RowKit Go.Sac
set_option linter.unusedVariables false
set_option linter.unusedSimpArgs false
section
variable {w : World} {g : Nat} {K : Nat → Nat} {c : Wc} {s : Wd}
theorem look_slot (h : WdAt w g K c s) (p : Int × Int) : (Instr.lookup 64 (.map (some c.rs)) (pkey p) false).run Try.prog w = .ok (.pointer ((c.F p).map fun b => ⟨b, 0, none⟩)) w := by
  have := run_lookup_k pkey_ok smap_und h.ms p (zero_ptr w)
  rw [this]
  cases c.F p <;> rfl
/-- a slot that is not there yet is made -/
theorem made_slot (h : WdAt w g K c s) (p : Int × Int) (hp : c.F p = none) :
    ∃ w', (Instr.mapUpdate 64 (.map (some c.rs)) (pkey p) (.pointer (some ⟨w.heap.size, 0, none⟩))).run Try.prog (w.alloc (.cells (bs nought).toArray 96)) = .ok () w' ∧ Below g (w.alloc (.cells (bs nought).toArray 96)) (w.alloc (.cells (bs nought).toArray 96)) ∧
      Turn c.rs (w.alloc (.cells (bs nought).toArray 96)) w' ∧ ∃ K', WdAt w' g K' { c with F := fun q => if q = p then some w.heap.size else c.F q } s ∧ Stp K K' w w' ∧ ∀ k, K k ≠ 0 → K' k = K k := by
  have h1 := h.below ((Below.refl _ w).alloc (Nat.le_refl _) (.cells (bs nought).toArray 96))
  obtain ⟨w', hu1, hu2, hu3⟩ := run_update_k pkey_ok smap_und h1.ms p (.pointer (some ⟨w.heap.size, 0, none⟩))
  refine ⟨w', hu1, Below.refl _ _, hu2, ?_⟩
  obtain ⟨K', hK'⟩ : ∃ K' : Nat → Nat, K' = fun k => if k = w.heap.size then 4 else K k := ⟨_, rfl⟩
  have old : ∀ k, k ≠ w.heap.size → K' k = K k := fun k hk => by rw [hK']; exact if_neg hk
  have old2 : ∀ k, K k ≠ 0 → K' k = K k := fun k hk => old k (by have := h.dom k hk; omega)
  have blk : ∀ k, K k ≠ 0 → K k ≠ 2 → w'.heap[k]? = w.heap[k]? := fun k h0 h2 =>
    (hu2.other k (fun e => h2 (by rw [e]; exact h.krs))).trans (Below.heap_alloc w _ k (h.dom k h0))
  have row : ∀ {A : Option Addr} {l : List UInt8} {n : Nat}, Row6 w K A l n → Row6 w' K' A l n := fun r =>
    ⟨(r.keep fun k _ h6 => blk k (by omega) (by omega)).rc, r.cap, fun a ha => by rw [old2 _ (by rw [r.kd a ha]; decide)]; exact r.kd a ha⟩
  have hsz : w'.heap.size = w.heap.size + 1 := by rw [hu2.size]; simp
  refine ⟨K', ?_, ⟨hu2.os, hu2.tape, hu2.output, by omega, fun k hk h0 => (hu2.other k (fun e => by have := h.krs; rw [← e] at this; omega)).trans (Below.heap_alloc w _ k hk), fun k hk h0 => by rw [old k (by omega)]; exact h0⟩, old2⟩
  exact {
    obj := (blk g (by rw [h.kg]; decide) (by rw [h.kg]; decide)).trans h.obj
    kg := by rw [old2 g (by rw [h.kg]; decide)]; exact h.kg
    krs := by rw [old2 _ (by rw [h.krs]; decide)]; exact h.krs
    krl := by rw [old2 _ (by rw [h.krl]; decide)]; exact h.krl
    ms := by
      have e : (fun q => if q = p then some (Value.pointer (some ⟨w.heap.size, 0, none⟩)) else (c.F q).map fun b => Value.pointer (some ⟨b, 0, none⟩)) = fun q => (if q = p then some w.heap.size else c.F q).map fun b => Value.pointer (some ⟨b, 0, none⟩) := by
        funext q
        by_cases hq : q = p <;> simp [hq]
      exact e ▸ hu3
    len := h.len
    hs := fun q b hb => by
      by_cases hq : q = p
      · have hb : (if q = p then some w.heap.size else c.F q) = some b := hb
        rw [if_pos hq] at hb
        have hb := Option.some.inj hb
        subst hb
        refine ⟨by rw [hK']; exact if_pos rfl, ?_⟩
        rw [hq, h.h0 p hp]
        exact (hu2.other _ (fun e => by have := h.dom c.rs (by rw [h.krs]; decide); omega)).trans (Blk.new w 96 (bs nought))
      · have hb : (if q = p then some w.heap.size else c.F q) = some b := hb
        rw [if_neg hq] at hb
        have h1 := h.hs q b hb
        exact ⟨by rw [old2 b (by rw [h1.1]; decide)]; exact h1.1, (blk b (by rw [h1.1]; decide) (by rw [h1.1]; decide)).trans h1.2⟩
    h0 := fun q hq => by
      by_cases e : q = p
      · rw [e]; exact h.h0 p hp
      · have hq : (if q = p then some w.heap.size else c.F q) = none := hq
        rw [if_neg e] at hq
        exact h.h0 q hq
    inj := fun q r b hq hr => by
      have hq : (if q = p then some w.heap.size else c.F q) = some b := hq
      have hr : (if r = p then some w.heap.size else c.F r) = some b := hr
      have lt : ∀ q b, c.F q = some b → b < w.heap.size := fun q b hb => h.dom b (by rw [(h.hs q b hb).1]; decide)
      by_cases e1 : q = p <;> by_cases e2 : r = p
      · rw [e1, e2]
      · rw [if_pos e1] at hq; rw [if_neg e2] at hr
        have := lt r b hr; have := Option.some.inj hq; omega
      · rw [if_neg e1] at hq; rw [if_pos e2] at hr
        have := lt q b hq; have := Option.some.inj hr; omega
      · rw [if_neg e1] at hq; rw [if_neg e2] at hr
        exact h.inj q r b hq hr
    ml := map_keep h.ml (blk _ (by rw [h.krl]; decide) (by rw [h.krl]; decide))
    hl := fun n x hx => let ⟨l, h1, h2⟩ := h.hl n x hx; ⟨l, h1, row h2⟩
    hn := h.hn
    q0 := row h.q0
    q1 := row h.q1
    tr := own_keep h.tr fun k hk => by have h5 := h.kt k hk; exact blk k (by omega) (by omega)
    kt := fun k hk => by have h5 := h.kt k hk; rw [old2 k (by omega)]; exact h5
    th := fun x hx => row (h.th x hx)
    tv := h.tv
    dom := fun k hk => by
      by_cases e : k = w.heap.size
      · omega
      · rw [old k e] at hk; have := h.dom k hk; omega
    num := h.num }
/-- what the regions yield -/
def VS2 (g rs : Nat) (a b : Int) (pv : Value) (r : Bool) (i : Nat) (w : World) (v : Value) : Prop :=
  match i with
  | 0 => v = Value.pointer (some ⟨g, 0, none⟩)
  | 1 => v = Value.pointer (some ⟨g, 0, none⟩)
  | 2 => v = Value.pointer (some ⟨g, 1, none⟩)
  | 3 => v = Value.map (some rs)
  | 4 => v = Value.agg #[.int .i64 a, .int .i64 b]
  | 5 => v = pv
  | 6 => v = Value.bool r
  | _ => True
def VS3 (g rs : Nat) (a b : Int) (q : Nat) (i : Nat) (w : World) (v : Value) : Prop :=
  match i with
  | 0 => v = Value.pointer (some ⟨g, 0, none⟩)
  | 1 => v = Value.pointer (some ⟨g, 0, none⟩)
  | 2 => v = Value.pointer (some ⟨g, 1, none⟩)
  | 3 => v = Value.map (some rs)
  | 4 => v = Value.agg #[.int .i64 a, .int .i64 b]
  | 5 => v = Value.pointer (some ⟨q, 0, none⟩)
  | _ => True
def VS4 (g rs : Nat) (a b : Int) (pv : Value) (i : Nat) (w : World) (v : Value) : Prop :=
  match i with
  | 0 => v = Value.pointer (some ⟨g, 0, none⟩)
  | 1 => v = Value.pointer (some ⟨g, 0, none⟩)
  | 2 => v = Value.pointer (some ⟨g, 1, none⟩)
  | 3 => v = Value.map (some rs)
  | 4 => v = Value.agg #[.int .i64 a, .int .i64 b]
  | 5 => v = pv
  | 6 => v = pv
  | _ => True
/-- the regions' worlds: as they stood, with a new array, with the map written -/
structure G3 (wa wb wc : World) (L : Nat → Bool) (w : World) : Prop where
  c : L 6 = true → w = wc
  b : L 6 = false → L 5 = true → w = wb
  a : L 6 = false → L 5 = false → w = wa
theorem G3.past {wa wb wc w : World} {L : Nat → Bool} (h : G3 wa wb wc L w) (i : Nat) (h5 : 5 ≠ i) (h6 : 6 ≠ i) : G3 wa wb wc (fun j => j == i || L j) w := by
  have e5 : (5 == i || L 5) = L 5 := by simp [h5]
  have e6 : (6 == i || L 6) = L 6 := by simp [h6]
  exact ⟨fun a => h.c (e6 ▸ a), fun a b => h.b (e6 ▸ a) (e5 ▸ b), fun a b => h.a (e6 ▸ a) (e5 ▸ b)⟩
set_option maxRecDepth 100000 in
set_option maxHeartbeats 4000000 in
theorem slot_calls (h : WdAt w g K c s) (a b : Int) : Calls Try.prog 36 #[.pointer (some ⟨g, 0, none⟩), .int .i64 a, .int .i64 b] w fun e w' => ∃ q K' F', e = .returned (.pointer (some ⟨q, 0, none⟩)) ∧ F' (a, b) = some q ∧ WdAt w' g K' { c with F := F' } s ∧ Stp K K' w w' ∧ ∀ k, K k ≠ 0 → K' k = K k := by
  have HW := Hd.mk h
  clear h
  go_enter Try.func36, Try.ntmps36
  go_wp2_with (fail)
  have HKP : Hd (Blk (w.alloc (.cells #[.int .i64 a, .int .i64 b] 95)) w.heap.size 95 [.int .i64 a, .int .i64 b]) := ⟨Blk.new w 95 [.int .i64 a, .int .i64 b]⟩
  have HBA : Hd (Below w.heap.size w (w.alloc (.cells #[.int .i64 a, .int .i64 b] 95))) := ⟨(Below.refl _ _).alloc (Nat.le_refl _) _⟩
  have HNP : Hd (∀ k, K k ≠ 0 → k ≠ w.heap.size) := ⟨fun k hk => by have := HW.out.dom k hk; omega⟩
  obtain ⟨p, hp⟩ : ∃ p, w.heap.size = p := ⟨_, rfl⟩
  have HP := Hd.mk hp
  rw [hp] at HKP ⊢
  clear hp
  change Code.wp Try.prog _ _ _ (w.alloc (.cells #[.int .i64 a, .int .i64 b] 95))
  generalize (w.alloc (.cells #[.int .i64 a, .int .i64 b] 95)) = wa at *
  have HWA := Hd.mk (HW.out.below HBA.out)
  cases hF : c.F (a, b) with
  | some q =>
    have HF := Hd.mk hF
    have HLK : Hd (∀ W, Aft wa W → (Instr.lookup 64 (.map (some c.rs)) (pkey (a, b)) false).run Try.prog W = .ok (.pointer (some ⟨q, 0, none⟩)) W) := ⟨fun W hW => (look_slot (HWA.out.below hW) (a, b)).trans (by rw [HF.out]; rfl)⟩
    have HOB : Hd (∀ W, Aft wa W → Blk W g 73 (c.cells s) ∧ Blk W p 95 [.int .i64 a, .int .i64 b]) := ⟨fun W hW => ⟨hW.blk HWA.out.obj, hW.blk HKP.out⟩⟩
    clear hF
    refine region_stp (VS2 g c.rs a b (.pointer (some ⟨q, 0, none⟩)) false) (fun _ W _ => Aft wa W) NoR (by kernel_rfl) (by kernel_rfl) (by kernel_rfl) (by kernel_rfl) (fun _ => Aft.start wa) ?stab ?steps ?fin
    case stab => intro i j w1 w2 v o ho hij hwt hR h; exact h
    case steps =>
      refine StepsG.cons ?_ (StepsG.cons ?_ (StepsG.cons ?_ (StepsG.cons ?_ (StepsG.cons ?_ (StepsG.cons ?_ (StepsG.cons ?_ StepsG.nil))))))
      · intro L f A w6 Q hL hG hsz hlow hun hnl hp
        have e0 : A.tmps.getD 0 undef = Value.pointer (some ⟨g, 0, none⟩) := hlow 0 rfl
        clear hlow hun hnl hp
        refine wpOp_go rfl rfl ?_
        go_simp
        first | exact ⟨_, rfl, hG, ⟨⟩, rfl⟩ | exact ⟨hG, ⟨⟩, rfl⟩ | exact ⟨hG, rfl⟩ | exact hG | exact ⟨hG, ⟨⟩⟩ | exact ⟨_, rfl, hG, ⟨⟩, trivial⟩ | exact ⟨_, rfl, ⟨⟩, rfl⟩ | exact ⟨⟨⟩, rfl⟩
      · intro L f A w6 Q hL hG hsz hlow hun hnl hp
        have f0 : f 0 = Value.pointer (some ⟨g, 0, none⟩) := (hp 0 rfl).2.1
        have e11 : A.tmps.getD 11 undef = Value.pointer (some ⟨g, 0, none⟩) := ((hp 0 rfl).2.2 11 rfl).trans f0
        clear hlow hun hnl hp
        refine wpOp_go rfl rfl ?_
        go_simp
        first | exact ⟨_, rfl, hG, ⟨⟩, rfl⟩ | exact ⟨hG, ⟨⟩, rfl⟩ | exact ⟨hG, rfl⟩ | exact hG | exact ⟨hG, ⟨⟩⟩ | exact ⟨_, rfl, hG, ⟨⟩, trivial⟩ | exact ⟨_, rfl, ⟨⟩, rfl⟩ | exact ⟨⟨⟩, rfl⟩
      · intro L f A w6 Q hL hG hsz hlow hun hnl hp
        have f1 : f 1 = Value.pointer (some ⟨g, 0, none⟩) := (hp 1 rfl).2.1
        have e12 : A.tmps.getD 12 undef = Value.pointer (some ⟨g, 0, none⟩) := ((hp 1 rfl).2.2 12 rfl).trans f1
        clear hlow hun hnl hp
        refine wpOp_go rfl rfl ?_
        go_simp
        first | exact ⟨_, rfl, hG, ⟨⟩, rfl⟩ | exact ⟨hG, ⟨⟩, rfl⟩ | exact ⟨hG, rfl⟩ | exact hG | exact ⟨hG, ⟨⟩⟩ | exact ⟨_, rfl, hG, ⟨⟩, trivial⟩ | exact ⟨_, rfl, ⟨⟩, rfl⟩ | exact ⟨⟨⟩, rfl⟩
      · intro L f A w6 Q hL hG hsz hlow hun hnl hp
        have f2 : f 2 = Value.pointer (some ⟨g, 1, none⟩) := (hp 2 rfl).2.1
        have e13 : A.tmps.getD 13 undef = Value.pointer (some ⟨g, 1, none⟩) := ((hp 2 rfl).2.2 13 rfl).trans f2
        have hcc := (HOB.out w6 hG).1.cell (i := 1) (v := .map (some c.rs)) rfl
        clear hlow hun hnl hp
        refine wpOp_go rfl rfl ?_
        go_simp
        first | exact ⟨_, rfl, hG, ⟨⟩, rfl⟩ | exact ⟨hG, ⟨⟩, rfl⟩ | exact ⟨hG, rfl⟩ | exact hG | exact ⟨hG, ⟨⟩⟩ | exact ⟨_, rfl, hG, ⟨⟩, trivial⟩ | exact ⟨_, rfl, ⟨⟩, rfl⟩ | exact ⟨⟨⟩, rfl⟩
      · intro L f A w6 Q hL hG hsz hlow hun hnl hp
        have e7 : A.tmps.getD 7 undef = Value.pointer (some ⟨p, 0, none⟩) := hlow 7 rfl
        clear hlow hun hnl hp
        refine wpOp_go rfl rfl (wp_load_row 95 (.tmp 7) rfl p e7 95 _ (0, 0) _ (HOB.out w6 hG).2 Try.underlying95 rfl place_info ?_)
        exact ⟨_, rfl, hG, ⟨⟩, rfl⟩
      · intro L f A w6 Q hL hG hsz hlow hun hnl hp
        have f3 : f 3 = Value.map (some c.rs) := (hp 3 rfl).2.1
        have e14 : A.tmps.getD 14 undef = Value.map (some c.rs) := ((hp 3 rfl).2.2 14 rfl).trans f3
        have f4 : f 4 = Value.agg #[.int .i64 a, .int .i64 b] := (hp 4 rfl).2.1
        have e15 : A.tmps.getD 15 undef = Value.agg #[.int .i64 a, .int .i64 b] := ((hp 4 rfl).2.2 15 rfl).trans f4
        clear hlow hun hnl hp
        refine wpOp_go rfl rfl (wp_lkp 64 (.tmp 14) (.tmp 15) false rfl (.pointer (some ⟨q, 0, none⟩)) ?_ ⟨_, rfl, hG, ⟨⟩, rfl⟩)
        show (Instr.lookup _ (A.tmps.getD 14 undef) (A.tmps.getD 15 undef) false).run _ w6 = _
        rw [e14, e15]
        exact HLK.out w6 hG
      · intro L f A w6 Q hL hG hsz hlow hun hnl hp
        have f5 : f 5 = Value.pointer (some ⟨q, 0, none⟩) := (hp 5 rfl).2.1
        have e16 : A.tmps.getD 16 undef = Value.pointer (some ⟨q, 0, none⟩) := ((hp 5 rfl).2.2 16 rfl).trans f5
        clear hlow hun hnl hp
        refine wpOp_go rfl rfl ?_
        go_simp
        first | exact ⟨_, rfl, hG, ⟨⟩, rfl⟩ | exact ⟨hG, ⟨⟩, rfl⟩ | exact ⟨hG, rfl⟩ | exact hG | exact ⟨hG, ⟨⟩⟩ | exact ⟨_, rfl, hG, ⟨⟩, trivial⟩ | exact ⟨_, rfl, ⟨⟩, rfl⟩ | exact ⟨⟨⟩, rfl⟩
    case fin =>
      intro L f wb hLL hG hV
      have h6 : f 6 = _ := hV 6 (by simp)
      have HG2 := Hd.mk hG
      clear hG hV hLL HLK HOB
      simp only [fillD, Act.put, List.setIfInBounds_toArray, List.set_cons_zero, List.set_cons_succ]
      rw [h6]
      clear h6
      go_wp2_with (fail)
      have HLK : Hd (∀ W, Aft wb W → (Instr.lookup 64 (.map (some c.rs)) (pkey (a, b)) false).run Try.prog W = .ok (.pointer (some ⟨q, 0, none⟩)) W) := ⟨fun W hW => (look_slot ((HWA.out.below HG2.out).below hW) (a, b)).trans (by rw [HF.out]; rfl)⟩
      have HOB : Hd (∀ W, Aft wb W → Blk W g 73 (c.cells s) ∧ Blk W p 95 [.int .i64 a, .int .i64 b]) := ⟨fun W hW => ⟨hW.blk (HG2.out.blk HWA.out.obj), hW.blk (HG2.out.blk HKP.out)⟩⟩
      refine region_stp (VS4 g c.rs a b (.pointer (some ⟨q, 0, none⟩))) (fun _ W _ => Aft wb W) NoR (by kernel_rfl) (by kernel_rfl) (by kernel_rfl) (by kernel_rfl) (fun _ => Aft.start wb) ?stab ?steps ?fin
      case stab => intro i j w1 w2 v o ho hij hwt hR h; exact h
      case steps =>
        refine StepsG.cons ?_ (StepsG.cons ?_ (StepsG.cons ?_ (StepsG.cons ?_ (StepsG.cons ?_ (StepsG.cons ?_ (StepsG.cons ?_ StepsG.nil))))))
        · intro L f A w6 Q hL hG hsz hlow hun hnl hp
          have e0 : A.tmps.getD 0 undef = Value.pointer (some ⟨g, 0, none⟩) := hlow 0 rfl
          clear hlow hun hnl hp
          refine wpOp_go rfl rfl ?_
          go_simp
          first | exact ⟨_, rfl, hG, ⟨⟩, rfl⟩ | exact ⟨hG, ⟨⟩, rfl⟩ | exact ⟨hG, rfl⟩ | exact hG | exact ⟨hG, ⟨⟩⟩ | exact ⟨_, rfl, hG, ⟨⟩, trivial⟩ | exact ⟨_, rfl, ⟨⟩, rfl⟩ | exact ⟨⟨⟩, rfl⟩
        · intro L f A w6 Q hL hG hsz hlow hun hnl hp
          have f0 : f 0 = Value.pointer (some ⟨g, 0, none⟩) := (hp 0 rfl).2.1
          have e24 : A.tmps.getD 24 undef = Value.pointer (some ⟨g, 0, none⟩) := ((hp 0 rfl).2.2 24 rfl).trans f0
          clear hlow hun hnl hp
          refine wpOp_go rfl rfl ?_
          go_simp
          first | exact ⟨_, rfl, hG, ⟨⟩, rfl⟩ | exact ⟨hG, ⟨⟩, rfl⟩ | exact ⟨hG, rfl⟩ | exact hG | exact ⟨hG, ⟨⟩⟩ | exact ⟨_, rfl, hG, ⟨⟩, trivial⟩ | exact ⟨_, rfl, ⟨⟩, rfl⟩ | exact ⟨⟨⟩, rfl⟩
        · intro L f A w6 Q hL hG hsz hlow hun hnl hp
          have f1 : f 1 = Value.pointer (some ⟨g, 0, none⟩) := (hp 1 rfl).2.1
          have e25 : A.tmps.getD 25 undef = Value.pointer (some ⟨g, 0, none⟩) := ((hp 1 rfl).2.2 25 rfl).trans f1
          clear hlow hun hnl hp
          refine wpOp_go rfl rfl ?_
          go_simp
          first | exact ⟨_, rfl, hG, ⟨⟩, rfl⟩ | exact ⟨hG, ⟨⟩, rfl⟩ | exact ⟨hG, rfl⟩ | exact hG | exact ⟨hG, ⟨⟩⟩ | exact ⟨_, rfl, hG, ⟨⟩, trivial⟩ | exact ⟨_, rfl, ⟨⟩, rfl⟩ | exact ⟨⟨⟩, rfl⟩
        · intro L f A w6 Q hL hG hsz hlow hun hnl hp
          have f2 : f 2 = Value.pointer (some ⟨g, 1, none⟩) := (hp 2 rfl).2.1
          have e26 : A.tmps.getD 26 undef = Value.pointer (some ⟨g, 1, none⟩) := ((hp 2 rfl).2.2 26 rfl).trans f2
          have hcc := (HOB.out w6 hG).1.cell (i := 1) (v := .map (some c.rs)) rfl
          clear hlow hun hnl hp
          refine wpOp_go rfl rfl ?_
          go_simp
          first | exact ⟨_, rfl, hG, ⟨⟩, rfl⟩ | exact ⟨hG, ⟨⟩, rfl⟩ | exact ⟨hG, rfl⟩ | exact hG | exact ⟨hG, ⟨⟩⟩ | exact ⟨_, rfl, hG, ⟨⟩, trivial⟩ | exact ⟨_, rfl, ⟨⟩, rfl⟩ | exact ⟨⟨⟩, rfl⟩
        · intro L f A w6 Q hL hG hsz hlow hun hnl hp
          have e7 : A.tmps.getD 7 undef = Value.pointer (some ⟨p, 0, none⟩) := hlow 7 rfl
          clear hlow hun hnl hp
          refine wpOp_go rfl rfl (wp_load_row 95 (.tmp 7) rfl p e7 95 _ (0, 0) _ (HOB.out w6 hG).2 Try.underlying95 rfl place_info ?_)
          exact ⟨_, rfl, hG, ⟨⟩, rfl⟩
        · intro L f A w6 Q hL hG hsz hlow hun hnl hp
          have f3 : f 3 = Value.map (some c.rs) := (hp 3 rfl).2.1
          have e27 : A.tmps.getD 27 undef = Value.map (some c.rs) := ((hp 3 rfl).2.2 27 rfl).trans f3
          have f4 : f 4 = Value.agg #[.int .i64 a, .int .i64 b] := (hp 4 rfl).2.1
          have e28 : A.tmps.getD 28 undef = Value.agg #[.int .i64 a, .int .i64 b] := ((hp 4 rfl).2.2 28 rfl).trans f4
          clear hlow hun hnl hp
          refine wpOp_go rfl rfl (wp_lkp 64 (.tmp 27) (.tmp 28) false rfl (.pointer (some ⟨q, 0, none⟩)) ?_ ⟨_, rfl, hG, ⟨⟩, rfl⟩)
          show (Instr.lookup _ (A.tmps.getD 27 undef) (A.tmps.getD 28 undef) false).run _ w6 = _
          rw [e27, e28]
          exact HLK.out w6 hG
        · intro L f A w6 Q hL hG hsz hlow hun hnl hp
          have f5 : f 5 = Value.pointer (some ⟨q, 0, none⟩) := (hp 5 rfl).2.1
          have e29 : A.tmps.getD 29 undef = Value.pointer (some ⟨q, 0, none⟩) := ((hp 5 rfl).2.2 29 rfl).trans f5
          clear hlow hun hnl hp
          refine wpOp_go rfl rfl ?_
          go_simp
          first | exact ⟨_, rfl, hG, ⟨⟩, rfl⟩ | exact ⟨hG, ⟨⟩, rfl⟩ | exact ⟨hG, rfl⟩ | exact hG | exact ⟨hG, ⟨⟩⟩ | exact ⟨_, rfl, hG, ⟨⟩, trivial⟩ | exact ⟨_, rfl, ⟨⟩, rfl⟩ | exact ⟨⟨⟩, rfl⟩
      case fin =>
        intro L f wc hLL hG hV
        have h6 : f 6 = _ := hV 6 (by simp)
        have HG4 := Hd.mk hG
        clear hG hV hLL
        simp only [fillD, Act.put, List.setIfInBounds_toArray, List.set_cons_zero, List.set_cons_succ]
        rw [h6]
        clear h6
        go_wp2_with (fail)
        go_ret
        have hb : Below w.heap.size w wc := below_then (below_then HBA.out HBA.out.size HG2.out) (Nat.le_trans HBA.out.size HG2.out.size) HG4.out
        exact ⟨q, K, c.F, rfl, HF.out, HW.out.below hb, Stp.of_below hb, fun _ _ => rfl⟩
  | none =>
    have HF := Hd.mk hF
    have HLK : Hd (∀ W, Aft wa W → (Instr.lookup 64 (.map (some c.rs)) (pkey (a, b)) false).run Try.prog W = .ok (.pointer none) W) := ⟨fun W hW => (look_slot (HWA.out.below hW) (a, b)).trans (by rw [HF.out]; rfl)⟩
    have HOB : Hd (∀ W, Aft wa W → Blk W g 73 (c.cells s) ∧ Blk W p 95 [.int .i64 a, .int .i64 b]) := ⟨fun W hW => ⟨hW.blk HWA.out.obj, hW.blk HKP.out⟩⟩
    clear hF
    refine region_stp (VS2 g c.rs a b (.pointer none) true) (fun _ W _ => Aft wa W) NoR (by kernel_rfl) (by kernel_rfl) (by kernel_rfl) (by kernel_rfl) (fun _ => Aft.start wa) ?stab ?steps ?fin
    case stab => intro i j w1 w2 v o ho hij hwt hR h; exact h
    case steps =>
      refine StepsG.cons ?_ (StepsG.cons ?_ (StepsG.cons ?_ (StepsG.cons ?_ (StepsG.cons ?_ (StepsG.cons ?_ (StepsG.cons ?_ StepsG.nil))))))
      · intro L f A w6 Q hL hG hsz hlow hun hnl hp
        have e0 : A.tmps.getD 0 undef = Value.pointer (some ⟨g, 0, none⟩) := hlow 0 rfl
        clear hlow hun hnl hp
        refine wpOp_go rfl rfl ?_
        go_simp
        first | exact ⟨_, rfl, hG, ⟨⟩, rfl⟩ | exact ⟨hG, ⟨⟩, rfl⟩ | exact ⟨hG, rfl⟩ | exact hG | exact ⟨hG, ⟨⟩⟩ | exact ⟨_, rfl, hG, ⟨⟩, trivial⟩ | exact ⟨_, rfl, ⟨⟩, rfl⟩ | exact ⟨⟨⟩, rfl⟩
      · intro L f A w6 Q hL hG hsz hlow hun hnl hp
        have f0 : f 0 = Value.pointer (some ⟨g, 0, none⟩) := (hp 0 rfl).2.1
        have e11 : A.tmps.getD 11 undef = Value.pointer (some ⟨g, 0, none⟩) := ((hp 0 rfl).2.2 11 rfl).trans f0
        clear hlow hun hnl hp
        refine wpOp_go rfl rfl ?_
        go_simp
        first | exact ⟨_, rfl, hG, ⟨⟩, rfl⟩ | exact ⟨hG, ⟨⟩, rfl⟩ | exact ⟨hG, rfl⟩ | exact hG | exact ⟨hG, ⟨⟩⟩ | exact ⟨_, rfl, hG, ⟨⟩, trivial⟩ | exact ⟨_, rfl, ⟨⟩, rfl⟩ | exact ⟨⟨⟩, rfl⟩
      · intro L f A w6 Q hL hG hsz hlow hun hnl hp
        have f1 : f 1 = Value.pointer (some ⟨g, 0, none⟩) := (hp 1 rfl).2.1
        have e12 : A.tmps.getD 12 undef = Value.pointer (some ⟨g, 0, none⟩) := ((hp 1 rfl).2.2 12 rfl).trans f1
        clear hlow hun hnl hp
        refine wpOp_go rfl rfl ?_
        go_simp
        first | exact ⟨_, rfl, hG, ⟨⟩, rfl⟩ | exact ⟨hG, ⟨⟩, rfl⟩ | exact ⟨hG, rfl⟩ | exact hG | exact ⟨hG, ⟨⟩⟩ | exact ⟨_, rfl, hG, ⟨⟩, trivial⟩ | exact ⟨_, rfl, ⟨⟩, rfl⟩ | exact ⟨⟨⟩, rfl⟩
      · intro L f A w6 Q hL hG hsz hlow hun hnl hp
        have f2 : f 2 = Value.pointer (some ⟨g, 1, none⟩) := (hp 2 rfl).2.1
        have e13 : A.tmps.getD 13 undef = Value.pointer (some ⟨g, 1, none⟩) := ((hp 2 rfl).2.2 13 rfl).trans f2
        have hcc := (HOB.out w6 hG).1.cell (i := 1) (v := .map (some c.rs)) rfl
        clear hlow hun hnl hp
        refine wpOp_go rfl rfl ?_
        go_simp
        first | exact ⟨_, rfl, hG, ⟨⟩, rfl⟩ | exact ⟨hG, ⟨⟩, rfl⟩ | exact ⟨hG, rfl⟩ | exact hG | exact ⟨hG, ⟨⟩⟩ | exact ⟨_, rfl, hG, ⟨⟩, trivial⟩ | exact ⟨_, rfl, ⟨⟩, rfl⟩ | exact ⟨⟨⟩, rfl⟩
      · intro L f A w6 Q hL hG hsz hlow hun hnl hp
        have e7 : A.tmps.getD 7 undef = Value.pointer (some ⟨p, 0, none⟩) := hlow 7 rfl
        clear hlow hun hnl hp
        refine wpOp_go rfl rfl (wp_load_row 95 (.tmp 7) rfl p e7 95 _ (0, 0) _ (HOB.out w6 hG).2 Try.underlying95 rfl place_info ?_)
        exact ⟨_, rfl, hG, ⟨⟩, rfl⟩
      · intro L f A w6 Q hL hG hsz hlow hun hnl hp
        have f3 : f 3 = Value.map (some c.rs) := (hp 3 rfl).2.1
        have e14 : A.tmps.getD 14 undef = Value.map (some c.rs) := ((hp 3 rfl).2.2 14 rfl).trans f3
        have f4 : f 4 = Value.agg #[.int .i64 a, .int .i64 b] := (hp 4 rfl).2.1
        have e15 : A.tmps.getD 15 undef = Value.agg #[.int .i64 a, .int .i64 b] := ((hp 4 rfl).2.2 15 rfl).trans f4
        clear hlow hun hnl hp
        refine wpOp_go rfl rfl (wp_lkp 64 (.tmp 14) (.tmp 15) false rfl (.pointer none) ?_ ⟨_, rfl, hG, ⟨⟩, rfl⟩)
        show (Instr.lookup _ (A.tmps.getD 14 undef) (A.tmps.getD 15 undef) false).run _ w6 = _
        rw [e14, e15]
        exact HLK.out w6 hG
      · intro L f A w6 Q hL hG hsz hlow hun hnl hp
        have f5 : f 5 = Value.pointer none := (hp 5 rfl).2.1
        have e16 : A.tmps.getD 16 undef = Value.pointer none := ((hp 5 rfl).2.2 16 rfl).trans f5
        clear hlow hun hnl hp
        refine wpOp_go rfl rfl ?_
        go_simp
        first | exact ⟨_, rfl, hG, ⟨⟩, rfl⟩ | exact ⟨hG, ⟨⟩, rfl⟩ | exact ⟨hG, rfl⟩ | exact hG | exact ⟨hG, ⟨⟩⟩ | exact ⟨_, rfl, hG, ⟨⟩, trivial⟩ | exact ⟨_, rfl, ⟨⟩, rfl⟩ | exact ⟨⟨⟩, rfl⟩
    case fin =>
      intro L f wb hLL hG hV
      have h6 : f 6 = _ := hV 6 (by simp)
      have HG2 := Hd.mk hG
      clear hG hV hLL HLK HOB
      simp only [fillD, Act.put, List.setIfInBounds_toArray, List.set_cons_zero, List.set_cons_succ]
      rw [h6]
      clear h6
      go_wp2_with (fail)
      have HWB := Hd.mk ((HWA.out.below HG2.out).below ((Below.refl _ wb).drew))
      have HPB : Hd (Blk wb.drew p 95 [.int .i64 a, .int .i64 b]) := ⟨HG2.out.blk HKP.out⟩
      obtain ⟨w4, hu, _, ht, K', hw4, hst, hkk⟩ := made_slot HWB.out (a, b) HF.out
      have HU := Hd.mk hu
      have HTU := Hd.mk ht
      have HW4 := Hd.mk hw4
      have HS4 := Hd.mk hst
      have HKK := Hd.mk hkk
      have HPA : Hd (Blk (wb.drew.alloc (.cells (bs nought).toArray 96)) p 95 [.int .i64 a, .int .i64 b]) := ⟨HPB.out.alloc _⟩
      have HP4 : Hd (Blk w4 p 95 [.int .i64 a, .int .i64 b]) := ⟨(HTU.out.other p (fun e => by have h1 := HNP.out c.rs (by rw [HW.out.krs]; decide); rw [HP.out] at h1; exact h1 e.symm)).trans HPA.out⟩
      have HOB3 : Hd (∀ L W, G3 wb.drew (wb.drew.alloc (.cells (bs nought).toArray 96)) w4 L W → L 6 = false → Blk W g 73 (c.cells s) ∧ Blk W p 95 [.int .i64 a, .int .i64 b]) := ⟨fun L W hW h6 => by
        cases h5 : L 5 with
        | true => rw [hW.b h6 h5]; exact ⟨HWB.out.obj.alloc _, HPA.out⟩
        | false => rw [hW.a h6 h5]; exact ⟨HWB.out.obj, HPB.out⟩⟩
      clear hu ht hw4 hst hkk
      refine region_stp (VS3 g c.rs a b wb.drew.heap.size) (fun L w _ => G3 wb.drew (wb.drew.alloc (.cells (bs nought).toArray 96)) w4 L w) NoR (by kernel_rfl) (by kernel_rfl) (by kernel_rfl) (by kernel_rfl) (fun _ => ⟨nofun, fun _ h => (nomatch h), fun _ _ => rfl⟩) ?stab ?steps ?fin
      case stab => intro i j w1 w2 v o ho hij hwt hR h; exact h
      case steps =>
        refine StepsG.cons ?_ (StepsG.cons ?_ (StepsG.cons ?_ (StepsG.cons ?_ (StepsG.cons ?_ (StepsG.cons ?_ (StepsG.cons ?_ StepsG.nil))))))
        · intro L f A w6 Q hL hG hsz hlow hun hnl hp
          have e0 : A.tmps.getD 0 undef = Value.pointer (some ⟨g, 0, none⟩) := hlow 0 rfl
          have n6 := (hnl 6 0 hL rfl)
          clear hlow hun hnl hp
          refine wpOp_go rfl rfl ?_
          go_simp
          first | exact ⟨_, rfl, hG.past 0 (by decide) (by decide), ⟨⟩, rfl⟩ | exact ⟨hG.past 0 (by decide) (by decide), ⟨⟩, rfl⟩ | exact ⟨hG.past 0 (by decide) (by decide), rfl⟩ | exact hG.past 0 (by decide) (by decide) | exact ⟨hG.past 0 (by decide) (by decide), ⟨⟩⟩ | exact ⟨_, rfl, hG.past 0 (by decide) (by decide), ⟨⟩, trivial⟩ | exact ⟨_, rfl, ⟨⟩, rfl⟩ | exact ⟨⟨⟩, rfl⟩
        · intro L f A w6 Q hL hG hsz hlow hun hnl hp
          have f0 : f 0 = Value.pointer (some ⟨g, 0, none⟩) := (hp 0 rfl).2.1
          have e18 : A.tmps.getD 18 undef = Value.pointer (some ⟨g, 0, none⟩) := ((hp 0 rfl).2.2 18 rfl).trans f0
          have n6 := (hnl 6 1 hL rfl)
          clear hlow hun hnl hp
          refine wpOp_go rfl rfl ?_
          go_simp
          first | exact ⟨_, rfl, hG.past 1 (by decide) (by decide), ⟨⟩, rfl⟩ | exact ⟨hG.past 1 (by decide) (by decide), ⟨⟩, rfl⟩ | exact ⟨hG.past 1 (by decide) (by decide), rfl⟩ | exact hG.past 1 (by decide) (by decide) | exact ⟨hG.past 1 (by decide) (by decide), ⟨⟩⟩ | exact ⟨_, rfl, hG.past 1 (by decide) (by decide), ⟨⟩, trivial⟩ | exact ⟨_, rfl, ⟨⟩, rfl⟩ | exact ⟨⟨⟩, rfl⟩
        · intro L f A w6 Q hL hG hsz hlow hun hnl hp
          have f1 : f 1 = Value.pointer (some ⟨g, 0, none⟩) := (hp 1 rfl).2.1
          have e19 : A.tmps.getD 19 undef = Value.pointer (some ⟨g, 0, none⟩) := ((hp 1 rfl).2.2 19 rfl).trans f1
          have n6 := (hnl 6 2 hL rfl)
          clear hlow hun hnl hp
          refine wpOp_go rfl rfl ?_
          go_simp
          first | exact ⟨_, rfl, hG.past 2 (by decide) (by decide), ⟨⟩, rfl⟩ | exact ⟨hG.past 2 (by decide) (by decide), ⟨⟩, rfl⟩ | exact ⟨hG.past 2 (by decide) (by decide), rfl⟩ | exact hG.past 2 (by decide) (by decide) | exact ⟨hG.past 2 (by decide) (by decide), ⟨⟩⟩ | exact ⟨_, rfl, hG.past 2 (by decide) (by decide), ⟨⟩, trivial⟩ | exact ⟨_, rfl, ⟨⟩, rfl⟩ | exact ⟨⟨⟩, rfl⟩
        · intro L f A w6 Q hL hG hsz hlow hun hnl hp
          have f2 : f 2 = Value.pointer (some ⟨g, 1, none⟩) := (hp 2 rfl).2.1
          have e20 : A.tmps.getD 20 undef = Value.pointer (some ⟨g, 1, none⟩) := ((hp 2 rfl).2.2 20 rfl).trans f2
          have n6 := (hnl 6 3 hL rfl)
          have hcc := (HOB3.out L w6 hG n6).1.cell (i := 1) (v := .map (some c.rs)) rfl
          clear hlow hun hnl hp
          refine wpOp_go rfl rfl ?_
          go_simp
          first | exact ⟨_, rfl, hG.past 3 (by decide) (by decide), ⟨⟩, rfl⟩ | exact ⟨hG.past 3 (by decide) (by decide), ⟨⟩, rfl⟩ | exact ⟨hG.past 3 (by decide) (by decide), rfl⟩ | exact hG.past 3 (by decide) (by decide) | exact ⟨hG.past 3 (by decide) (by decide), ⟨⟩⟩ | exact ⟨_, rfl, hG.past 3 (by decide) (by decide), ⟨⟩, trivial⟩ | exact ⟨_, rfl, ⟨⟩, rfl⟩ | exact ⟨⟨⟩, rfl⟩
        · intro L f A w6 Q hL hG hsz hlow hun hnl hp
          have e7 : A.tmps.getD 7 undef = Value.pointer (some ⟨p, 0, none⟩) := hlow 7 rfl
          have n6 := (hnl 6 4 hL rfl)
          clear hlow hun hnl hp
          refine wpOp_go rfl rfl (wp_load_row 95 (.tmp 7) rfl p e7 95 _ (0, 0) _ (HOB3.out L w6 hG n6).2 Try.underlying95 rfl place_info ?_)
          exact ⟨_, rfl, hG.past 4 (by decide) (by decide), ⟨⟩, rfl⟩
        · intro L f A w6 Q hL hG hsz hlow hun hnl hp
          have n6 := (hnl 6 5 hL rfl)
          obtain rfl := hG.a n6 hL
          clear hlow hun hnl hp
          refine wpOp_go rfl rfl (wp_val (Instr.alloc 96 true (.tuple #[])) rfl _ _ (run_alloc_of arr_zero _) ?_)
          refine ⟨_, rfl, ⟨fun h => by simp [n6] at h, fun _ _ => rfl, fun _ h => by simp at h⟩, ⟨⟩, rfl⟩
        · intro L f A w6 Q hL hG hsz hlow hun hnl hp
          have f3 : f 3 = Value.map (some c.rs) := (hp 3 rfl).2.1
          have e21 : A.tmps.getD 21 undef = Value.map (some c.rs) := ((hp 3 rfl).2.2 21 rfl).trans f3
          have f4 : f 4 = Value.agg #[.int .i64 a, .int .i64 b] := (hp 4 rfl).2.1
          have e22 : A.tmps.getD 22 undef = Value.agg #[.int .i64 a, .int .i64 b] := ((hp 4 rfl).2.2 22 rfl).trans f4
          have f5 : f 5 = Value.pointer (some ⟨wb.drew.heap.size, 0, none⟩) := (hp 5 rfl).2.1
          have e23 : A.tmps.getD 23 undef = Value.pointer (some ⟨wb.drew.heap.size, 0, none⟩) := ((hp 5 rfl).2.2 23 rfl).trans f5
          obtain rfl := hG.b hL (hp 5 rfl).1
          clear hlow hun hnl hp
          refine wpOp_go rfl rfl (wp_mup 64 (.tmp 21) (.tmp 22) (.tmp 23) rfl w4 ?_ ⟨_, rfl, ⟨fun _ => rfl, fun h => by simp at h, fun h => by simp at h⟩, ⟨⟩, trivial⟩)
          show (Instr.mapUpdate _ (A.tmps.getD 21 undef) (A.tmps.getD 22 undef) (A.tmps.getD 23 undef)).run _ _ = _
          rw [e21, e22, e23]
          exact HU.out
      case fin =>
        intro L f w5 hLL hG hV
        have h5 := hG.c (hLL 6 (by simp))
        obtain rfl := h5
        clear hG hV hLL HOB3
        simp only [fillD, Act.put, List.setIfInBounds_toArray, List.set_cons_zero, List.set_cons_succ]
        go_wp2_with (fail)
        obtain ⟨q, hq⟩ : ∃ q, wb.drew.heap.size = q := ⟨_, rfl⟩
        rw [hq] at HW4
        obtain ⟨F', hF'⟩ : ∃ F' : Int × Int → Option Nat, (fun r => if r = (a, b) then some q else c.F r) = F' := ⟨_, rfl⟩
        rw [hF'] at HW4
        have HF2 : Hd (F' (a, b) = some q) := ⟨by rw [← hF']; exact if_pos rfl⟩
        have HLK : Hd (∀ W, Aft w5 W → (Instr.lookup 64 (.map (some c.rs)) (pkey (a, b)) false).run Try.prog W = .ok (.pointer (some ⟨q, 0, none⟩)) W) := ⟨fun W hW => (look_slot (HW4.out.below hW) (a, b)).trans (by show _ = _; dsimp only; rw [HF2.out]; rfl)⟩
        have HOB : Hd (∀ W, Aft w5 W → Blk W g 73 (c.cells s) ∧ Blk W p 95 [.int .i64 a, .int .i64 b]) := ⟨fun W hW => ⟨hW.blk HW4.out.obj, hW.blk HP4.out⟩⟩
        clear hF' hq
        refine region_stp (VS4 g c.rs a b (.pointer (some ⟨q, 0, none⟩))) (fun _ W _ => Aft w5 W) NoR (by kernel_rfl) (by kernel_rfl) (by kernel_rfl) (by kernel_rfl) (fun _ => Aft.start w5) ?stab ?steps ?fin
        case stab => intro i j w1 w2 v o ho hij hwt hR h; exact h
        case steps =>
          refine StepsG.cons ?_ (StepsG.cons ?_ (StepsG.cons ?_ (StepsG.cons ?_ (StepsG.cons ?_ (StepsG.cons ?_ (StepsG.cons ?_ StepsG.nil))))))
          · intro L f A w6 Q hL hG hsz hlow hun hnl hp
            have e0 : A.tmps.getD 0 undef = Value.pointer (some ⟨g, 0, none⟩) := hlow 0 rfl
            clear hlow hun hnl hp
            refine wpOp_go rfl rfl ?_
            go_simp
            first | exact ⟨_, rfl, hG, ⟨⟩, rfl⟩ | exact ⟨hG, ⟨⟩, rfl⟩ | exact ⟨hG, rfl⟩ | exact hG | exact ⟨hG, ⟨⟩⟩ | exact ⟨_, rfl, hG, ⟨⟩, trivial⟩ | exact ⟨_, rfl, ⟨⟩, rfl⟩ | exact ⟨⟨⟩, rfl⟩
          · intro L f A w6 Q hL hG hsz hlow hun hnl hp
            have f0 : f 0 = Value.pointer (some ⟨g, 0, none⟩) := (hp 0 rfl).2.1
            have e24 : A.tmps.getD 24 undef = Value.pointer (some ⟨g, 0, none⟩) := ((hp 0 rfl).2.2 24 rfl).trans f0
            clear hlow hun hnl hp
            refine wpOp_go rfl rfl ?_
            go_simp
            first | exact ⟨_, rfl, hG, ⟨⟩, rfl⟩ | exact ⟨hG, ⟨⟩, rfl⟩ | exact ⟨hG, rfl⟩ | exact hG | exact ⟨hG, ⟨⟩⟩ | exact ⟨_, rfl, hG, ⟨⟩, trivial⟩ | exact ⟨_, rfl, ⟨⟩, rfl⟩ | exact ⟨⟨⟩, rfl⟩
          · intro L f A w6 Q hL hG hsz hlow hun hnl hp
            have f1 : f 1 = Value.pointer (some ⟨g, 0, none⟩) := (hp 1 rfl).2.1
            have e25 : A.tmps.getD 25 undef = Value.pointer (some ⟨g, 0, none⟩) := ((hp 1 rfl).2.2 25 rfl).trans f1
            clear hlow hun hnl hp
            refine wpOp_go rfl rfl ?_
            go_simp
            first | exact ⟨_, rfl, hG, ⟨⟩, rfl⟩ | exact ⟨hG, ⟨⟩, rfl⟩ | exact ⟨hG, rfl⟩ | exact hG | exact ⟨hG, ⟨⟩⟩ | exact ⟨_, rfl, hG, ⟨⟩, trivial⟩ | exact ⟨_, rfl, ⟨⟩, rfl⟩ | exact ⟨⟨⟩, rfl⟩
          · intro L f A w6 Q hL hG hsz hlow hun hnl hp
            have f2 : f 2 = Value.pointer (some ⟨g, 1, none⟩) := (hp 2 rfl).2.1
            have e26 : A.tmps.getD 26 undef = Value.pointer (some ⟨g, 1, none⟩) := ((hp 2 rfl).2.2 26 rfl).trans f2
            have hcc := (HOB.out w6 hG).1.cell (i := 1) (v := .map (some c.rs)) rfl
            clear hlow hun hnl hp
            refine wpOp_go rfl rfl ?_
            go_simp
            first | exact ⟨_, rfl, hG, ⟨⟩, rfl⟩ | exact ⟨hG, ⟨⟩, rfl⟩ | exact ⟨hG, rfl⟩ | exact hG | exact ⟨hG, ⟨⟩⟩ | exact ⟨_, rfl, hG, ⟨⟩, trivial⟩ | exact ⟨_, rfl, ⟨⟩, rfl⟩ | exact ⟨⟨⟩, rfl⟩
          · intro L f A w6 Q hL hG hsz hlow hun hnl hp
            have e7 : A.tmps.getD 7 undef = Value.pointer (some ⟨p, 0, none⟩) := hlow 7 rfl
            clear hlow hun hnl hp
            refine wpOp_go rfl rfl (wp_load_row 95 (.tmp 7) rfl p e7 95 _ (0, 0) _ (HOB.out w6 hG).2 Try.underlying95 rfl place_info ?_)
            exact ⟨_, rfl, hG, ⟨⟩, rfl⟩
          · intro L f A w6 Q hL hG hsz hlow hun hnl hp
            have f3 : f 3 = Value.map (some c.rs) := (hp 3 rfl).2.1
            have e27 : A.tmps.getD 27 undef = Value.map (some c.rs) := ((hp 3 rfl).2.2 27 rfl).trans f3
            have f4 : f 4 = Value.agg #[.int .i64 a, .int .i64 b] := (hp 4 rfl).2.1
            have e28 : A.tmps.getD 28 undef = Value.agg #[.int .i64 a, .int .i64 b] := ((hp 4 rfl).2.2 28 rfl).trans f4
            clear hlow hun hnl hp
            refine wpOp_go rfl rfl (wp_lkp 64 (.tmp 27) (.tmp 28) false rfl (.pointer (some ⟨q, 0, none⟩)) ?_ ⟨_, rfl, hG, ⟨⟩, rfl⟩)
            show (Instr.lookup _ (A.tmps.getD 27 undef) (A.tmps.getD 28 undef) false).run _ w6 = _
            rw [e27, e28]
            exact HLK.out w6 hG
          · intro L f A w6 Q hL hG hsz hlow hun hnl hp
            have f5 : f 5 = Value.pointer (some ⟨q, 0, none⟩) := (hp 5 rfl).2.1
            have e29 : A.tmps.getD 29 undef = Value.pointer (some ⟨q, 0, none⟩) := ((hp 5 rfl).2.2 29 rfl).trans f5
            clear hlow hun hnl hp
            refine wpOp_go rfl rfl ?_
            go_simp
            first | exact ⟨_, rfl, hG, ⟨⟩, rfl⟩ | exact ⟨hG, ⟨⟩, rfl⟩ | exact ⟨hG, rfl⟩ | exact hG | exact ⟨hG, ⟨⟩⟩ | exact ⟨_, rfl, hG, ⟨⟩, trivial⟩ | exact ⟨_, rfl, ⟨⟩, rfl⟩ | exact ⟨⟨⟩, rfl⟩
        case fin =>
          intro L f wc hLL hG hV
          have h6 : f 6 = _ := hV 6 (by simp)
          have HG4 := Hd.mk hG
          clear hG hV hLL
          simp only [fillD, Act.put, List.setIfInBounds_toArray, List.set_cons_zero, List.set_cons_succ]
          rw [h6]
          clear h6
          go_wp2_with (fail)
          go_ret
          have hb : Below w.heap.size w wb.drew := (below_then HBA.out HBA.out.size HG2.out).trans ((Below.refl _ wb).drew)
          exact ⟨q, K', F', rfl, HF2.out, HW4.out.below HG4.out, (Stp.of_below hb).trans (HS4.out.trans (Stp.of_below HG4.out)), HKK.out⟩
end
end Go.Proofs.Ytffhncpgknkkaaa
