/- W06Note: what was done is noted. -/
import Derived.Test.YtffhncpgknkkaaaBase20
import Derived.Test.YtffhncpgknkkaaaW06Small
namespace Go.Proofs.Ytffhncpgknkkaaa
open Go.RowKit Go.Sac
set_option linter.unusedVariables false
set_option linter.unusedSimpArgs false
section
variable {w : World} {g : Nat} {K : Nat → Nat} {c : Wc} {s : Wd}
def noteP (s : Wd) (kind at_ slot : Int) (b : List UInt8) : Wd := { s with trace := s.trace ++ [(kind, at_, slot, b)] }
theorem note_end (h : WdAt w g K c s) {w1 : World} (gb : w.grownBy w1 c.vt.ownBlock) {A5 : Option Addr} {c5 : Nat} {b : List UInt8} {kind at_ slot : Int} {v : Value}
    (hr : Rc w1 A5 (bs b)) (hc : b.length ≤ c5) (hA : ∀ a, A5 = some a → w.heap.size ≤ a.block ∧ a.block < w1.heap.size)
    (ho : w1.ownsRow 0 52 4 v (c.T.length + 1) (trs (c.T ++ [⟨kind, at_, slot, A5, b, c5⟩]))) (hv : ∀ p, v.ownBlock = some p → some p = c.vt.ownBlock ∨ w.heap.size ≤ p) (hne : ∀ a, A5 = some a → some a.block ≠ v.ownBlock) :
    ∃ K', WdAt (w1.setCell ⟨g, 10, none⟩ v) g K' { c with vt := v, T := c.T ++ [⟨kind, at_, slot, A5, b, c5⟩] } (noteP s kind at_ slot b) ∧ Stp K K' w (w1.setCell ⟨g, 10, none⟩ v) ∧ ∀ k, K k ≠ 0 → K' k = K k := by
  obtain ⟨K', hK'⟩ : ∃ K' : Nat → Nat, K' = fun k => if k < w.heap.size then K k else if A5.map (·.block) = some k then 6 else if v.ownBlock = some k then 5 else 0 := ⟨_, rfl⟩
  have old : ∀ k, k < w.heap.size → K' k = K k := fun k hk => by rw [hK']; exact if_pos hk
  have old2 : ∀ k, K k ≠ 0 → K' k = K k := fun k hk => old k (h.dom k hk)
  have k6 : ∀ a, A5 = some a → K' a.block = 6 := fun a ha => by
    have := hA a ha
    rw [hK']; dsimp only
    rw [if_neg (by omega), ha]; simp
  have k5 : ∀ p, v.ownBlock = some p → K' p = 5 := fun p hp => by
    rcases hv p hp with e | e
    · have h5 := h.kt p e.symm
      rw [old2 p (by omega)]; exact h5
    · rw [hK']; dsimp only
      rw [if_neg (by omega), if_neg, if_pos hp]
      intro e2
      cases hA5 : A5 with
      | none => rw [hA5] at e2; cases e2
      | some a => rw [hA5] at e2; injection e2 with e2; have e2 : a.block = p := e2; exact hne a hA5 (by rw [e2, hp])
  have blk : ∀ k, K k ≠ 0 → K k ≠ 5 → K k ≠ 1 → (w1.setCell ⟨g, 10, none⟩ v).heap[k]? = w.heap[k]? := fun k h0 h5 h1 =>
    (Below.heap_setCell w1 ⟨g, 10, none⟩ v k (fun e => h1 (by have e : k = g := e; rw [e]; exact h.kg))).trans (gb.block k (h.dom k h0) (fun e => h5 (h.kt k e.symm)))
  have hk6 : ∀ k, k < w.heap.size → K k = 6 → (w1.setCell ⟨g, 10, none⟩ v).heap[k]? = w.heap[k]? := fun k _ h6 => blk k (by omega) (by omega) (by omega)
  have row : ∀ {A : Option Addr} {l : List UInt8} {n : Nat}, Row6 w K A l n → Row6 (w1.setCell ⟨g, 10, none⟩ v) K' A l n := fun r =>
    ⟨(r.keep hk6).rc, r.cap, fun a ha => by rw [old2 _ (by rw [r.kd a ha]; decide)]; exact r.kd a ha⟩
  have hg1 : w1.heap[g]? = w.heap[g]? := gb.block g h.lt (fun e => by have := h.kt g e.symm; have := h.kg; omega)
  have hob : Blk w1 g 73 (c.cells s) := hg1.trans h.obj
  refine ⟨K', ?_, ⟨gb.os, gb.tape, gb.output, by simpa using gb.size, fun k hk h0 => ?_, fun k hk h0 => by rw [old k hk]; exact h0⟩, old2⟩
  · exact {
      obj := hob.set 10 v
      kg := by rw [old2 g (by rw [h.kg]; decide)]; exact h.kg
      krs := by rw [old2 _ (by rw [h.krs]; decide)]; exact h.krs
      krl := by rw [old2 _ (by rw [h.krl]; decide)]; exact h.krl
      ms := map_keep h.ms (blk _ (by rw [h.krs]; decide) (by rw [h.krs]; decide) (by rw [h.krs]; decide))
      len := h.len
      hs := fun p q hq => by
        have h1 := h.hs p q hq
        exact ⟨by rw [old2 q (by rw [h1.1]; decide)]; exact h1.1, (blk q (by rw [h1.1]; decide) (by rw [h1.1]; decide) (by rw [h1.1]; decide)).trans h1.2⟩
      h0 := h.h0
      inj := h.inj
      ml := map_keep h.ml (blk _ (by rw [h.krl]; decide) (by rw [h.krl]; decide) (by rw [h.krl]; decide))
      hl := fun n x hx => let ⟨l, h1, h2⟩ := h.hl n x hx; ⟨l, h1, row h2⟩
      hn := h.hn
      q0 := row h.q0
      q1 := row h.q1
      tr := by
        show (w1.setCell ⟨g, 10, none⟩ v).ownsRow 0 52 4 v (c.T ++ [_]).length _
        rw [List.length_append]
        exact own_keep ho fun k hk => Below.heap_setCell w1 ⟨g, 10, none⟩ v k (fun e => by have e : k = g := e; have h5 := k5 k hk; rw [e, old2 g (by rw [h.kg]; decide), h.kg] at h5; omega)
      kt := k5
      th := fun x hx => by
        rcases List.mem_append.1 hx with hx | hx
        · exact row (h.th x hx)
        · rw [List.mem_singleton.1 hx]
          exact ⟨hr.keep fun q off e hq => Below.heap_setCell w1 ⟨g, 10, none⟩ v q (fun e2 => by have e2 : q = g := e2; have h1 : w.heap.size ≤ q := (hA _ e).1; have := h.lt; omega), hc, k6⟩
      tv := by
        show (c.T ++ [_]).map Tr.val = s.trace ++ [_]
        rw [List.map_append, h.tv]; rfl
      dom := fun k hk => by
        by_cases hlt : k < w.heap.size
        · exact Nat.lt_of_lt_of_le hlt (by simpa using gb.size)
        · rw [hK'] at hk
          dsimp only at hk
          rw [if_neg hlt] at hk
          by_cases e1 : A5.map (·.block) = some k
          · cases hA5 : A5 with
            | none => rw [hA5] at e1; cases e1
            | some a => rw [hA5] at e1; injection e1 with e1; have := (hA a hA5).2; rw [← e1]; simpa using this
          · rw [if_neg e1] at hk
            by_cases e2 : v.ownBlock = some k
            · have := (ho.lt k e2).2; simpa using this
            · rw [if_neg e2] at hk; omega
      num := h.num }
  · exact (Below.heap_setCell w1 ⟨g, 10, none⟩ v k (fun e => by have e : k = g := e; have := h.kg; rw [e] at h0; omega)).trans (gb.block k hk (fun e => by have := h.kt k e.symm; omega))
/-- the region: an append, then the field is stored -/
def NG (pre : List Value) (b : List UInt8) (w0 : World) (g : Nat) (ov : Value) (n : Nat) (X : List Value) (L : Nat → Bool) (w : World) (f : Nat → Value) : Prop :=
  ∃ w1, AppI 52 4 pre b 9 w0 0 ov n X L w1 f ∧ (L 15 = false → w = w1) ∧ (L 15 = true → w = w1.setCell ⟨g, 10, none⟩ (f 12))
theorem NG.go {pre : List Value} {b : List UInt8} {w0 w : World} {g : Nat} {ov : Value} {n : Nat} {X : List Value} {L : Nat → Bool} {f : Nat → Value} (h : NG pre b w0 g ov n X L w f) (l : L 15 = false) : AppI 52 4 pre b 9 w0 0 ov n X L w f := by
  obtain ⟨w1, h1, h2, _⟩ := h
  rw [h2 l]; exact h1
theorem NG.of {pre : List Value} {b : List UInt8} {w0 w : World} {g : Nat} {ov : Value} {n : Nat} {X : List Value} {L : Nat → Bool} {f : Nat → Value} {i : Nat} (h : AppI 52 4 pre b 9 w0 0 ov n X (fun j => j == i || L j) w f) (hi : 15 ≠ i) (l : L 15 = false) : NG pre b w0 g ov n X (fun j => j == i || L j) w f := by
  have e : (15 == i || L 15) = false := by simp [hi, l]
  exact ⟨w, h, fun _ => rfl, fun h2 => by have h2 : (15 == i || L 15) = true := h2; rw [e] at h2; cases h2⟩
/-- what the region yields -/
def VN (g : Nat) (ov : Value) (kind at_ slot : Int) (AB : Option Addr) (n cap : Nat) (i : Nat) (w : World) (v : Value) : Prop :=
  match i with
  | 0 => v = Value.pointer (some ⟨g, 0, none⟩)
  | 1 => v = Value.pointer (some ⟨g, 0, none⟩)
  | 2 => v = Value.pointer (some ⟨g, 0, none⟩)
  | 3 => v = Value.pointer (some ⟨g, 10, none⟩)
  | 4 => v = ov
  | 5 => v = Value.int .i64 kind
  | 6 => v = Value.int .i64 at_
  | 7 => v = Value.int .i64 slot
  | 8 => v = Value.slice AB n cap
  | 13 => v = Value.pointer (some ⟨g, 0, none⟩)
  | 14 => v = Value.pointer (some ⟨g, 10, none⟩)
  | _ => True
set_option maxRecDepth 100000 in
set_option maxHeartbeats 4000000 in
theorem note_calls (h : WdAt w g K c s) (kind at_ slot : Int) (AB : Option Addr) (n cap : Nat) (b : List UInt8) (hr : Rc w AB (bs b)) (hf : ∀ a, AB = some a → b ≠ [] → K a.block ≠ 5) (e : n = b.length) (hn : b.length ≤ 1099511627776) (ht : c.T.length ≤ 1000000) :
    Calls Try.prog 34 #[.pointer (some ⟨g, 0, none⟩), .int .i64 kind, .int .i64 at_,   .int .i64 slot, .slice AB n cap] w fun e w' => e = .returned (.tuple #[]) ∧ ∃ K' v x, WdAt w' g K' { c with vt := v, T := c.T ++ [x] } (noteP s kind at_ slot b) ∧ Stp K K' w w' ∧ ∀ k, K k ≠ 0 → K' k = K k := by
  have HW := Hd.mk h
  have HR := Hd.mk hr
  have HF := Hd.mk hf
  have HN := Hd.mk e
  have HNB := Hd.mk hn
  have HT := Hd.mk ht
  have HGV : Hd (some g ≠ c.vt.ownBlock) := ⟨fun e => by have := h.kt g e.symm; have := h.kg; omega⟩
  clear h hr hf e hn ht
  go_enter Try.func34, Try.ntmps34
  go_wp2_with (fail)
  refine region_stp (VN g c.vt kind at_ slot AB n cap) (NG [.int .i64 kind, .int .i64 at_, .int .i64 slot] b w g c.vt c.T.length (trs c.T)) NoR (by kernel_rfl) (by kernel_rfl) (by kernel_rfl) (by kernel_rfl) (fun f => ⟨_, AppI.start HW.out.tr f, fun _ => rfl, nofun⟩) ?stab ?steps ?fin
  case stab => intro i j w1 w2 v o ho hij hwt hR h; exact h
  case steps =>
    refine StepsG.cons ?_ (StepsG.cons ?_ (StepsG.cons ?_ (StepsG.cons ?_ (StepsG.cons ?_ (StepsG.cons ?_ (StepsG.cons ?_ (StepsG.cons ?_ (StepsG.cons ?_ (StepsG.cons ?_ (StepsG.cons ?_ (StepsG.cons ?_ (StepsG.cons ?_ (StepsG.cons ?_ (StepsG.cons ?_ (StepsG.cons ?_ StepsG.nil)))))))))))))))
    · intro L f A w6 Q hL hG hsz hlow hun hnl hp
      have e0 : A.tmps.getD 0 undef = Value.pointer (some ⟨g, 0, none⟩) := hlow 0 rfl
      have n15 := (hnl 15 0 hL rfl)
      have hA := hG.go n15
      clear hlow hun hnl hp
      refine wpOp_go rfl rfl ?_
      go_simp
      first | exact ⟨_, rfl, NG.of (hA.past 0 _ (by decide)) (by decide) n15, ⟨⟩, rfl⟩ | exact ⟨NG.of (hA.past 0 _ (by decide)) (by decide) n15, ⟨⟩, rfl⟩ | exact ⟨NG.of (hA.past 0 _ (by decide)) (by decide) n15, rfl⟩ | exact NG.of (hA.past 0 _ (by decide)) (by decide) n15 | exact ⟨NG.of (hA.past 0 _ (by decide)) (by decide) n15, ⟨⟩⟩ | exact ⟨_, rfl, NG.of (hA.past 0 _ (by decide)) (by decide) n15, ⟨⟩, trivial⟩ | exact ⟨_, rfl, ⟨⟩, rfl⟩ | exact ⟨⟨⟩, rfl⟩
    · intro L f A w6 Q hL hG hsz hlow hun hnl hp
      have e0 : A.tmps.getD 0 undef = Value.pointer (some ⟨g, 0, none⟩) := hlow 0 rfl
      have n15 := (hnl 15 1 hL rfl)
      have hA := hG.go n15
      clear hlow hun hnl hp
      refine wpOp_go rfl rfl ?_
      go_simp
      first | exact ⟨_, rfl, NG.of (hA.past 1 _ (by decide)) (by decide) n15, ⟨⟩, rfl⟩ | exact ⟨NG.of (hA.past 1 _ (by decide)) (by decide) n15, ⟨⟩, rfl⟩ | exact ⟨NG.of (hA.past 1 _ (by decide)) (by decide) n15, rfl⟩ | exact NG.of (hA.past 1 _ (by decide)) (by decide) n15 | exact ⟨NG.of (hA.past 1 _ (by decide)) (by decide) n15, ⟨⟩⟩ | exact ⟨_, rfl, NG.of (hA.past 1 _ (by decide)) (by decide) n15, ⟨⟩, trivial⟩ | exact ⟨_, rfl, ⟨⟩, rfl⟩ | exact ⟨⟨⟩, rfl⟩
    · intro L f A w6 Q hL hG hsz hlow hun hnl hp
      have f1 : f 1 = Value.pointer (some ⟨g, 0, none⟩) := (hp 1 rfl).2.1
      have e11 : A.tmps.getD 11 undef = Value.pointer (some ⟨g, 0, none⟩) := ((hp 1 rfl).2.2 11 rfl).trans f1
      have n15 := (hnl 15 2 hL rfl)
      have hA := hG.go n15
      clear hlow hun hnl hp
      refine wpOp_go rfl rfl ?_
      go_simp
      first | exact ⟨_, rfl, NG.of (hA.past 2 _ (by decide)) (by decide) n15, ⟨⟩, rfl⟩ | exact ⟨NG.of (hA.past 2 _ (by decide)) (by decide) n15, ⟨⟩, rfl⟩ | exact ⟨NG.of (hA.past 2 _ (by decide)) (by decide) n15, rfl⟩ | exact NG.of (hA.past 2 _ (by decide)) (by decide) n15 | exact ⟨NG.of (hA.past 2 _ (by decide)) (by decide) n15, ⟨⟩⟩ | exact ⟨_, rfl, NG.of (hA.past 2 _ (by decide)) (by decide) n15, ⟨⟩, trivial⟩ | exact ⟨_, rfl, ⟨⟩, rfl⟩ | exact ⟨⟨⟩, rfl⟩
    · intro L f A w6 Q hL hG hsz hlow hun hnl hp
      have f2 : f 2 = Value.pointer (some ⟨g, 0, none⟩) := (hp 2 rfl).2.1
      have e12 : A.tmps.getD 12 undef = Value.pointer (some ⟨g, 0, none⟩) := ((hp 2 rfl).2.2 12 rfl).trans f2
      have n15 := (hnl 15 3 hL rfl)
      have hA := hG.go n15
      clear hlow hun hnl hp
      refine wpOp_go rfl rfl ?_
      go_simp
      first | exact ⟨_, rfl, NG.of (hA.past 3 _ (by decide)) (by decide) n15, ⟨⟩, rfl⟩ | exact ⟨NG.of (hA.past 3 _ (by decide)) (by decide) n15, ⟨⟩, rfl⟩ | exact ⟨NG.of (hA.past 3 _ (by decide)) (by decide) n15, rfl⟩ | exact NG.of (hA.past 3 _ (by decide)) (by decide) n15 | exact ⟨NG.of (hA.past 3 _ (by decide)) (by decide) n15, ⟨⟩⟩ | exact ⟨_, rfl, NG.of (hA.past 3 _ (by decide)) (by decide) n15, ⟨⟩, trivial⟩ | exact ⟨_, rfl, ⟨⟩, rfl⟩ | exact ⟨⟨⟩, rfl⟩
    · intro L f A w6 Q hL hG hsz hlow hun hnl hp
      have f3 : f 3 = Value.pointer (some ⟨g, 10, none⟩) := (hp 3 rfl).2.1
      have e13 : A.tmps.getD 13 undef = Value.pointer (some ⟨g, 10, none⟩) := ((hp 3 rfl).2.2 13 rfl).trans f3
      have n15 := (hnl 15 4 hL rfl)
      have hA := hG.go n15
      have hob : Blk w6 g 73 (c.cells s) := (hA.gb.block g HW.out.lt HGV.out).trans HW.out.obj
      have hc10 := hob.cell (i := 10) (v := c.vt) rfl
      clear hlow hun hnl hp
      refine wpOp_go rfl rfl ?_
      go_simp
      first | exact ⟨_, rfl, NG.of (hA.past 4 _ (by decide)) (by decide) n15, ⟨⟩, rfl⟩ | exact ⟨NG.of (hA.past 4 _ (by decide)) (by decide) n15, ⟨⟩, rfl⟩ | exact ⟨NG.of (hA.past 4 _ (by decide)) (by decide) n15, rfl⟩ | exact NG.of (hA.past 4 _ (by decide)) (by decide) n15 | exact ⟨NG.of (hA.past 4 _ (by decide)) (by decide) n15, ⟨⟩⟩ | exact ⟨_, rfl, NG.of (hA.past 4 _ (by decide)) (by decide) n15, ⟨⟩, trivial⟩ | exact ⟨_, rfl, ⟨⟩, rfl⟩ | exact ⟨⟨⟩, rfl⟩
    · intro L f A w6 Q hL hG hsz hlow hun hnl hp
      have e1 : A.tmps.getD 1 undef = Value.int .i64 kind := hlow 1 rfl
      have n15 := (hnl 15 5 hL rfl)
      have hA := hG.go n15
      clear hlow hun hnl hp
      refine wpOp_go rfl rfl ?_
      go_simp
      first | exact ⟨_, rfl, NG.of (hA.past 5 _ (by decide)) (by decide) n15, ⟨⟩, rfl⟩ | exact ⟨NG.of (hA.past 5 _ (by decide)) (by decide) n15, ⟨⟩, rfl⟩ | exact ⟨NG.of (hA.past 5 _ (by decide)) (by decide) n15, rfl⟩ | exact NG.of (hA.past 5 _ (by decide)) (by decide) n15 | exact ⟨NG.of (hA.past 5 _ (by decide)) (by decide) n15, ⟨⟩⟩ | exact ⟨_, rfl, NG.of (hA.past 5 _ (by decide)) (by decide) n15, ⟨⟩, trivial⟩ | exact ⟨_, rfl, ⟨⟩, rfl⟩ | exact ⟨⟨⟩, rfl⟩
    · intro L f A w6 Q hL hG hsz hlow hun hnl hp
      have e2 : A.tmps.getD 2 undef = Value.int .i64 at_ := hlow 2 rfl
      have n15 := (hnl 15 6 hL rfl)
      have hA := hG.go n15
      clear hlow hun hnl hp
      refine wpOp_go rfl rfl ?_
      go_simp
      first | exact ⟨_, rfl, NG.of (hA.past 6 _ (by decide)) (by decide) n15, ⟨⟩, rfl⟩ | exact ⟨NG.of (hA.past 6 _ (by decide)) (by decide) n15, ⟨⟩, rfl⟩ | exact ⟨NG.of (hA.past 6 _ (by decide)) (by decide) n15, rfl⟩ | exact NG.of (hA.past 6 _ (by decide)) (by decide) n15 | exact ⟨NG.of (hA.past 6 _ (by decide)) (by decide) n15, ⟨⟩⟩ | exact ⟨_, rfl, NG.of (hA.past 6 _ (by decide)) (by decide) n15, ⟨⟩, trivial⟩ | exact ⟨_, rfl, ⟨⟩, rfl⟩ | exact ⟨⟨⟩, rfl⟩
    · intro L f A w6 Q hL hG hsz hlow hun hnl hp
      have e3 : A.tmps.getD 3 undef = Value.int .i64 slot := hlow 3 rfl
      have n15 := (hnl 15 7 hL rfl)
      have hA := hG.go n15
      clear hlow hun hnl hp
      refine wpOp_go rfl rfl ?_
      go_simp
      first | exact ⟨_, rfl, NG.of (hA.past 7 _ (by decide)) (by decide) n15, ⟨⟩, rfl⟩ | exact ⟨NG.of (hA.past 7 _ (by decide)) (by decide) n15, ⟨⟩, rfl⟩ | exact ⟨NG.of (hA.past 7 _ (by decide)) (by decide) n15, rfl⟩ | exact NG.of (hA.past 7 _ (by decide)) (by decide) n15 | exact ⟨NG.of (hA.past 7 _ (by decide)) (by decide) n15, ⟨⟩⟩ | exact ⟨_, rfl, NG.of (hA.past 7 _ (by decide)) (by decide) n15, ⟨⟩, trivial⟩ | exact ⟨_, rfl, ⟨⟩, rfl⟩ | exact ⟨⟨⟩, rfl⟩
    · intro L f A w6 Q hL hG hsz hlow hun hnl hp
      have e4 : A.tmps.getD 4 undef = Value.slice AB n cap := hlow 4 rfl
      have n15 := (hnl 15 8 hL rfl)
      have hA := hG.go n15
      clear hlow hun hnl hp
      refine wpOp_go rfl rfl ?_
      go_simp
      first | exact ⟨_, rfl, NG.of (hA.past 8 _ (by decide)) (by decide) n15, ⟨⟩, rfl⟩ | exact ⟨NG.of (hA.past 8 _ (by decide)) (by decide) n15, ⟨⟩, rfl⟩ | exact ⟨NG.of (hA.past 8 _ (by decide)) (by decide) n15, rfl⟩ | exact NG.of (hA.past 8 _ (by decide)) (by decide) n15 | exact ⟨NG.of (hA.past 8 _ (by decide)) (by decide) n15, ⟨⟩⟩ | exact ⟨_, rfl, NG.of (hA.past 8 _ (by decide)) (by decide) n15, ⟨⟩, trivial⟩ | exact ⟨_, rfl, ⟨⟩, rfl⟩ | exact ⟨⟨⟩, rfl⟩
    · intro L f A w6 Q hL hG hsz hlow hun hnl hp
      have f8 : f 8 = Value.slice AB n cap := (hp 8 rfl).2.1
      have e18 : A.tmps.getD 18 undef = Value.slice AB n cap := ((hp 8 rfl).2.2 18 rfl).trans f8
      have n15 := (hnl 15 9 hL rfl)
      have hA := hG.go n15
      have n10 := (hnl 10 9 hL rfl)
      have n11 := (hnl 11 10 (hnl 10 9 hL rfl) rfl)
      have n12 := (hnl 12 9 hL rfl)
      have hrx := HR.out.grownE hA.gb (fun a ha hb e => by have := HW.out.kt _ e.symm; have := HF.out a ha (bs_nil hb); omega)
      clear hlow hun hnl hp
      refine wpOp_go rfl rfl (wp_app w6.heap.size 22 5 (.int .u8 0) 1 1 (.const (.slice none 0 0)) (.tmp 18) rfl Try.underlying22 info_u8 rfl (by decide) (by decide) (.slice none 0 0) 0 [] (bs b) AB n cap rfl e18 (World.ownsRow_nil _ _ _ _) hrx (by rw [bs_len, HN.out]; omega) bs_one (Nat.le_refl _) (by have := HNB.out; have := HN.out; omega) b.length (bs b) (by rw [HN.out]; omega) (by simp) ?_)
      intro v1 w7 ho hg hat
      exact ⟨v1, rfl, NG.of (hA.clone n10 n11 n12 ho (below_nil hg)) (by decide) n15, ⟨⟩, trivial⟩
    · intro L f A w6 Q hL hG hsz hlow hun hnl hp
      have f5 : f 5 = Value.int .i64 kind := (hp 5 rfl).2.1
      have e15 : A.tmps.getD 15 undef = Value.int .i64 kind := ((hp 5 rfl).2.2 15 rfl).trans f5
      have f6 : f 6 = Value.int .i64 at_ := (hp 6 rfl).2.1
      have e16 : A.tmps.getD 16 undef = Value.int .i64 at_ := ((hp 6 rfl).2.2 16 rfl).trans f6
      have f7 : f 7 = Value.int .i64 slot := (hp 7 rfl).2.1
      have e17 : A.tmps.getD 17 undef = Value.int .i64 slot := ((hp 7 rfl).2.2 17 rfl).trans f7
      have e19 : A.tmps.getD 19 undef = f 9 := (hp 9 rfl).2.2 19 rfl
      have v9 := (hp 9 rfl).2.1
      have n15 := (hnl 15 10 hL rfl)
      have hA := hG.go n15
      have n11 := (hnl 11 10 hL rfl)
      have n12 := (hnl 12 11 (hnl 11 10 hL rfl) rfl)
      have hB := hA.agg n11 n12
      obtain ⟨A5, c5, h5, _⟩ := hA.cl (hp 9 rfl).1
      rw [h5] at e19 hB
      clear hlow hun hnl hp
      refine wpOp_go rfl rfl (wp_bld 52 #[(0, .tmp 15), (1, .tmp 16), (2, .tmp 17), (3, .tmp 19)] rfl #[(0, .int .i64 kind), (1, .int .i64 at_), (2, .int .i64 slot), (3, .slice A5 b.length c5)] (by simp only [List.map_toArray, List.map_cons, List.map_nil, Act.eval, e15, e16, e17, e19]) (.agg #[.int .i64 kind, .int .i64 at_, .int .i64 slot, .slice A5 b.length c5]) (run_build _ _ _ _ rfl) ?_)
      exact ⟨_, rfl, NG.of hB (by decide) n15, ⟨⟩, trivial⟩
    · intro L f A w6 Q hL hG hsz hlow hun hnl hp
      have e20 : A.tmps.getD 20 undef = f 10 := (hp 10 rfl).2.2 20 rfl
      have v10 := (hp 10 rfl).2.1
      have n15 := (hnl 15 11 hL rfl)
      have hA := hG.go n15
      have n12 := (hnl 12 11 hL rfl)
      have hB := hA.built n12
      have h6 := hA.b1 (hp 10 rfl).1
      have l9 : L 9 = true := by
        cases h : L 9 with
        | true => rfl
        | false => have := hnl 10 9 h rfl; rw [(hp 10 rfl).1] at this; cases this
      obtain ⟨A5, c5, h5, _⟩ := hA.cl l9
      rw [show f 10 = f (9 + 1) from rfl, h6, h5] at e20
      rw [h5] at hB
      clear hlow hun hnl hp
      refine wpOp_go rfl rfl (wp_bsl 48 1 #[(0, .tmp 20)] rfl #[(0, .agg #[.int .i64 kind, .int .i64 at_, .int .i64 slot, .slice A5 b.length c5])] (by simp only [List.map_toArray, List.map_cons, List.map_nil, Act.eval]; rw [e20]; rfl) (.slice (some ⟨w6.heap.size, 0, none⟩) 1 1) (w6.alloc (.cells #[.int .i64 kind, .int .i64 at_, .int .i64 slot, .slice A5 b.length c5] 52)) (by go_simp) ?_)
      exact ⟨_, rfl, NG.of hB (by decide) n15, ⟨⟩, trivial⟩
    · intro L f A w6 Q hL hG hsz hlow hun hnl hp
      have f4 : f 4 = c.vt := (hp 4 rfl).2.1
      have e14 : A.tmps.getD 14 undef = c.vt := ((hp 4 rfl).2.2 14 rfl).trans f4
      have e21 : A.tmps.getD 21 undef = f 11 := (hp 11 rfl).2.2 21 rfl
      have v11 := (hp 11 rfl).2.1
      have n15 := (hnl 15 12 hL rfl)
      have hA := hG.go n15
      obtain ⟨g7, h7, hg7, hb7⟩ := hA.row (hp 11 rfl).1 hL
      rw [show f 11 = f (9 + 2) from rfl, h7] at e21
      have h5 := (hp 9 rfl).1
      obtain ⟨A5, c5, h55, _⟩ := hA.cl h5
      clear hlow hun hnl hp
      refine wpOp_go rfl rfl (wp_app 0 48 52 (.agg #[.int .i64 0, .int .i64 0, .int .i64 0, .slice none 0 0]) 4 48 (.tmp 14) (.tmp 21) rfl Try.underlying48 trace_info3 rfl (by decide) (by decide) c.vt c.T.length (trs c.T) ([.int .i64 kind, .int .i64 at_, .int .i64 slot] ++ [f 9]) (some ⟨g7, 0, none⟩) 1 1 e14 e21 (hA.own hL) hb7.rc rfl (by rw [h55]; simp [Value.oneCell']) (Nat.zero_le _) (by have := HT.out; omega) (c.T.length + 1) (trs c.T ++ ([.int .i64 kind, .int .i64 at_, .int .i64 slot] ++ [f 9])) rfl rfl ?_)
      intro v1 w7 ho hg hat
      exact ⟨v1, rfl, NG.of (hA.done h5 hL hg hat ho) (by decide) n15, ⟨⟩, trivial⟩
    · intro L f A w6 Q hL hG hsz hlow hun hnl hp
      have f0 : f 0 = Value.pointer (some ⟨g, 0, none⟩) := (hp 0 rfl).2.1
      have e10 : A.tmps.getD 10 undef = Value.pointer (some ⟨g, 0, none⟩) := ((hp 0 rfl).2.2 10 rfl).trans f0
      have n15 := (hnl 15 14 (hnl 14 13 hL rfl) rfl)
      have hA := hG.go n15
      clear hlow hun hnl hp
      refine wpOp_go rfl rfl ?_
      go_simp
      first | exact ⟨_, rfl, NG.of (hA.past 13 _ (by decide)) (by decide) n15, ⟨⟩, rfl⟩ | exact ⟨NG.of (hA.past 13 _ (by decide)) (by decide) n15, ⟨⟩, rfl⟩ | exact ⟨NG.of (hA.past 13 _ (by decide)) (by decide) n15, rfl⟩ | exact NG.of (hA.past 13 _ (by decide)) (by decide) n15 | exact ⟨NG.of (hA.past 13 _ (by decide)) (by decide) n15, ⟨⟩⟩ | exact ⟨_, rfl, NG.of (hA.past 13 _ (by decide)) (by decide) n15, ⟨⟩, trivial⟩ | exact ⟨_, rfl, ⟨⟩, rfl⟩ | exact ⟨⟨⟩, rfl⟩
    · intro L f A w6 Q hL hG hsz hlow hun hnl hp
      have f13 : f 13 = Value.pointer (some ⟨g, 0, none⟩) := (hp 13 rfl).2.1
      have e23 : A.tmps.getD 23 undef = Value.pointer (some ⟨g, 0, none⟩) := ((hp 13 rfl).2.2 23 rfl).trans f13
      have n15 := (hnl 15 14 hL rfl)
      have hA := hG.go n15
      clear hlow hun hnl hp
      refine wpOp_go rfl rfl ?_
      go_simp
      first | exact ⟨_, rfl, NG.of (hA.past 14 _ (by decide)) (by decide) n15, ⟨⟩, rfl⟩ | exact ⟨NG.of (hA.past 14 _ (by decide)) (by decide) n15, ⟨⟩, rfl⟩ | exact ⟨NG.of (hA.past 14 _ (by decide)) (by decide) n15, rfl⟩ | exact NG.of (hA.past 14 _ (by decide)) (by decide) n15 | exact ⟨NG.of (hA.past 14 _ (by decide)) (by decide) n15, ⟨⟩⟩ | exact ⟨_, rfl, NG.of (hA.past 14 _ (by decide)) (by decide) n15, ⟨⟩, trivial⟩ | exact ⟨_, rfl, ⟨⟩, rfl⟩ | exact ⟨⟨⟩, rfl⟩
    · intro L f A w6 Q hL hG hsz hlow hun hnl hp
      have e22 : A.tmps.getD 22 undef = f 12 := (hp 12 rfl).2.2 22 rfl
      have v12 := (hp 12 rfl).2.1
      have f14 : f 14 = Value.pointer (some ⟨g, 10, none⟩) := (hp 14 rfl).2.1
      have e24 : A.tmps.getD 24 undef = Value.pointer (some ⟨g, 10, none⟩) := ((hp 14 rfl).2.2 24 rfl).trans f14
      obtain ⟨w1, hA, hq, _⟩ := hG
      obtain rfl := hq hL
      have hob : Blk w6 g 73 (c.cells s) := (hA.gb.block g HW.out.lt HGV.out).trans HW.out.obj
      have hcc := hob.cell (i := 10) (v := c.vt) rfl
      have hff := hob.frz 10
      have l12 := (hp 12 rfl).1
      obtain ⟨ho, _, _⟩ := hA.out l12
      obtain ⟨A9, c9, h9, _, _, _⟩ := own_rc ho
      rw [show f 12 = f (9 + 3) from rfl, h9] at e22
      clear hlow hun hnl hp
      refine wpOp_go rfl rfl ?_
      go_simp
      refine ⟨undef, ⟨w6, hA.past 15 _ (.inr (by decide)), fun h => by simp at h, fun _ => ?_⟩, ⟨⟩, trivial⟩
      rw [upd_ne _ _ _ _ (by decide), show f 12 = f (9 + 3) from rfl, h9]
  case fin =>
    intro L f w9 hLL hG hV
    obtain ⟨w1, hA, _, hq⟩ := hG
    have hw9 := hq (hLL 15 (by simp))
    obtain ⟨A5, c5, h5, hr5, hc5, hb5⟩ := hA.cl (hLL 9 (by simp))
    obtain ⟨ho, hob, hne⟩ := hA.out (hLL 12 (by simp))
    rw [h5] at ho
    have HH : Hd (∃ K' v x, WdAt w9 g K' { c with vt := v, T := c.T ++ [x] } (noteP s kind at_ slot b) ∧ Stp K K' w w9 ∧ ∀ k, K k ≠ 0 → K' k = K k) := ⟨by
      rw [hw9]
      obtain ⟨K', q1, q2, q3⟩ := note_end HW.out hA.gb (kind := kind) (at_ := at_) (slot := slot) hr5 hc5 hb5 (v := f 12) (by unfold trs; rw [rowK_app, rowK_single]; exact ho) hob (fun a ha => hne a b.length c5 (by rw [h5, ha]))
      exact ⟨K', _, _, q1, q2, q3⟩⟩
    clear hV hLL hA hq hw9 h5 hr5 hc5 hb5 ho hob hne
    simp only [fillD, Act.put, List.setIfInBounds_toArray, List.set_cons_zero, List.set_cons_succ]
    go_end0
    exact ⟨rfl, HH.out⟩
end
end Go.Proofs.Ytffhncpgknkkaaa
