/- BASE20: a drawn region that appends a struct whose last cell is a clone of bytes: clone (operation q), build (q + 1), row of one (q + 2), append (q + 3). No program in it. -/
import Derived.Test.YtffhncpgknkkaaaBase18
import Derived.Test.YtffhncpgknkkaaaBase19
namespace Go.Sac
open Go.RowKit
set_option linter.unusedVariables false
set_option linter.unusedSimpArgs false
theorem grown_more {w w1 w2 : World} {r : Option Nat} (h : w.grownBy w1 r) (k : w1.grownBy w2 r) : w.grownBy w2 r :=
  ⟨k.os.trans h.os, k.tape.trans h.tape, k.output.trans h.output, Nat.le_trans h.size k.size, fun j hj hne => (k.block j (Nat.lt_of_lt_of_le hj h.size) hne).trans (h.block j hj hne)⟩
theorem grown_below {w w1 : World} (h : Below w.heap.size w w1) (r : Option Nat) : w.grownBy w1 r := ⟨h.os, h.tape, h.output, h.size, fun j hj _ => h.block j hj⟩
structure AppI (E : TypeId) (sz : Nat) (pre : List Value) (b : List UInt8) (q : Nat) (w0 : World) (B : Nat) (ov : Value) (n : Nat) (X : List Value) (L : Nat → Bool) (w : World) (f : Nat → Value) : Prop where
  gb : w0.grownBy w ov.ownBlock
  own : L (q + 3) = false → w.ownsRow B E sz ov n X
  cl : L q = true → ∃ A c, f q = .slice A b.length c ∧ Rc w A (bs b) ∧ b.length ≤ c ∧ ∀ a, A = some a → w0.heap.size ≤ a.block ∧ a.block < w.heap.size
  b1 : L (q + 1) = true → f (q + 1) = .agg (pre ++ [f q]).toArray
  row : L (q + 2) = true → L (q + 3) = false → ∃ g, f (q + 2) = .slice (some ⟨g, 0, none⟩) 1 1 ∧ w0.heap.size ≤ g ∧ Blk w g E (pre ++ [f q])
  out : L (q + 3) = true → w.ownsRow B E sz (f (q + 3)) (n + 1) (X ++ (pre ++ [f q])) ∧ (∀ p, (f (q + 3)).ownBlock = some p → some p = ov.ownBlock ∨ w0.heap.size ≤ p) ∧ ∀ a m c, f q = .slice (some a) m c → some a.block ≠ (f (q + 3)).ownBlock
  lt : ∀ p, ov.ownBlock = some p → p < w0.heap.size
section
variable {E : TypeId} {sz : Nat} {pre : List Value} {b : List UInt8} {q : Nat} {w0 : World} {B : Nat} {ov : Value} {n : Nat} {X : List Value} {L : Nat → Bool} {w : World} {f : Nat → Value}
theorem AppI.start (h : w0.ownsRow B E sz ov n X) (f : Nat → Value) : AppI E sz pre b q w0 B ov n X (fun _ => false) w0.drew f :=
  ⟨grown_below ((Below.refl _ _).drew) _, fun _ => own_below h ((Below.refl _ _).drew), nofun, nofun, nofun, nofun, fun p hp => (own_lt h p hp).2⟩
theorem AppI.past (h : AppI E sz pre b q w0 B ov n X L w f) (i : Nat) (v : Value) (h1 : i < q ∨ q + 3 < i) : AppI E sz pre b q w0 B ov n X (fun j => j == i || L j) w (upd f i v) := by
  have n0 : q ≠ i := by omega
  have n1 : q + 1 ≠ i := by omega
  have n2 : q + 2 ≠ i := by omega
  have n3 : q + 3 ≠ i := by omega
  have e0 : (q == i || L q) = L q := by simp [n0]
  have e1 : (q + 1 == i || L (q + 1)) = L (q + 1) := by simp [n1]
  have e2 : (q + 2 == i || L (q + 2)) = L (q + 2) := by simp [n2]
  have e3 : (q + 3 == i || L (q + 3)) = L (q + 3) := by simp [n3]
  refine ⟨h.gb, fun a => h.own (e3 ▸ a), fun a => ?_, fun a => ?_, fun a c => ?_, fun a => ?_, h.lt⟩
  · rw [upd_ne _ _ _ _ n0]; exact h.cl (e0 ▸ a)
  · rw [upd_ne _ _ _ _ n0, upd_ne _ _ _ _ n1]; exact h.b1 (e1 ▸ a)
  · rw [upd_ne _ _ _ _ n0, upd_ne _ _ _ _ n2]; exact h.row (e2 ▸ a) (e3 ▸ c)
  · rw [upd_ne _ _ _ _ n0, upd_ne _ _ _ _ n3]; exact h.out (e3 ▸ a)
theorem AppI.clone (h : AppI E sz pre b q w0 B ov n X L w f) (l1 : L (q + 1) = false) (l2 : L (q + 2) = false) (l3 : L (q + 3) = false) {E1 : TypeId} {w' : World} {v : Value} (ho : w'.ownsRow w.heap.size E1 1 v b.length (bs b)) (hb : Below w.heap.size w w') : AppI E sz pre b q w0 B ov n X (fun j => j == q || L j) w' (upd f q v) := by
  obtain ⟨A, c, rfl, h1, h2, h3⟩ := own_rc ho
  have e1 : (q + 1 == q || L (q + 1)) = false := by simp [l1]
  have e2 : (q + 2 == q || L (q + 2)) = false := by simp [l2]
  have e3 : (q + 3 == q || L (q + 3)) = false := by simp [l3]
  refine ⟨grown_more h.gb (grown_below hb _), fun _ => own_below (h.own l3) hb, fun _ => ?_, fun a => ?_, fun a => ?_, fun a => ?_, h.lt⟩
  · rw [upd_same]; exact ⟨A, c, rfl, h2, h1, fun a ha => ⟨Nat.le_trans h.gb.size (h3 a ha).1, (h3 a ha).2⟩⟩
  · rw [e1] at a; cases a
  · rw [e2] at a; cases a
  · rw [e3] at a; cases a
theorem AppI.agg (h : AppI E sz pre b q w0 B ov n X L w f) (l2 : L (q + 2) = false) (l3 : L (q + 3) = false) : AppI E sz pre b q w0 B ov n X (fun j => j == q + 1 || L j) w (upd f (q + 1) (.agg (pre ++ [f q]).toArray)) := by
  have e0 : (q == q + 1 || L q) = L q := by simp
  have e2 : (q + 2 == q + 1 || L (q + 2)) = false := by simp [l2]
  have e3 : (q + 3 == q + 1 || L (q + 3)) = false := by simp [l3]
  refine ⟨h.gb, fun _ => h.own l3, fun a => ?_, fun _ => ?_, fun a => ?_, fun a => ?_, h.lt⟩
  · rw [upd_ne _ _ _ _ (by omega)]; exact h.cl (e0 ▸ a)
  · rw [upd_same, upd_ne _ _ _ _ (by omega)]
  · rw [e2] at a; cases a
  · rw [e3] at a; cases a
theorem AppI.built (h : AppI E sz pre b q w0 B ov n X L w f) (l3 : L (q + 3) = false) : AppI E sz pre b q w0 B ov n X (fun j => j == q + 2 || L j) (w.alloc (.cells (pre ++ [f q]).toArray E)) (upd f (q + 2) (.slice (some ⟨w.heap.size, 0, none⟩) 1 1)) := by
  have hb := (Below.refl w.heap.size w).alloc (Nat.le_refl _) (.cells (pre ++ [f q]).toArray E)
  have e0 : (q == q + 2 || L q) = L q := by simp
  have e1 : (q + 1 == q + 2 || L (q + 1)) = L (q + 1) := by simp
  have e3 : (q + 3 == q + 2 || L (q + 3)) = false := by simp [l3]
  refine ⟨grown_more h.gb (grown_below hb _), fun _ => own_below (h.own l3) hb, fun a => ?_, fun a => ?_, fun _ _ => ?_, fun a => ?_, h.lt⟩
  · rw [upd_ne _ _ _ _ (by omega)]
    obtain ⟨A, c, h1, h2, h3, h4⟩ := h.cl (e0 ▸ a)
    exact ⟨A, c, h1, h2.below hb, h3, fun a ha => ⟨(h4 a ha).1, Nat.lt_of_lt_of_le (h4 a ha).2 hb.size⟩⟩
  · rw [upd_ne _ _ _ _ (by omega), upd_ne _ _ _ _ (by omega)]; exact h.b1 (e1 ▸ a)
  · rw [upd_same, upd_ne _ _ _ _ (by omega)]
    exact ⟨_, rfl, h.gb.size, Blk.new w E (pre ++ [f q])⟩
  · rw [e3] at a; cases a
theorem AppI.done (h : AppI E sz pre b q w0 B ov n X L w f) (l0 : L q = true) (l3 : L (q + 3) = false) {w' : World} {v : Value} (hg : w.grownBy w' ov.ownBlock) (hat : v.ownBlock = ov.ownBlock ∨ v.ownBlock = some w.heap.size) (ho : w'.ownsRow B E sz v (n + 1) (X ++ (pre ++ [f q]))) : AppI E sz pre b q w0 B ov n X (fun j => j == q + 3 || L j) w' (upd f (q + 3) v) := by
  have e0 : (q == q + 3 || L q) = L q := by simp
  have e1 : (q + 1 == q + 3 || L (q + 1)) = L (q + 1) := by simp
  refine ⟨grown_more h.gb hg, fun a => by simp at a, fun a => ?_, fun a => ?_, fun _ a => by simp at a, fun _ => ?_, h.lt⟩
  · rw [upd_ne _ _ _ _ (by omega)]
    obtain ⟨A, c, h1, h2, h3, h4⟩ := h.cl (e0 ▸ a)
    exact ⟨A, c, h1, h2.grown hg (fun a ha e => by have := h.lt _ e.symm; have := (h4 a ha).1; omega), h3, fun a ha => ⟨(h4 a ha).1, Nat.lt_of_lt_of_le (h4 a ha).2 hg.size⟩⟩
  · rw [upd_ne _ _ _ _ (by omega), upd_ne _ _ _ _ (by omega)]; exact h.b1 (e1 ▸ a)
  · rw [upd_same, upd_ne _ _ _ _ (by omega)]
    refine ⟨ho, fun p hp => ?_, fun a m c he e2 => ?_⟩
    · rcases hat with e | e
      · rw [e] at hp; exact .inl hp.symm
      · rw [e] at hp; have := Option.some.inj hp; have := h.gb.size; exact .inr (by omega)
    · obtain ⟨A, c', h1, _, _, h4⟩ := h.cl l0
      rw [he] at h1
      injection h1 with h1
      have h6 := h4 a h1.symm
      rcases hat with e | e
      · rw [e] at e2; have := h.lt _ e2.symm; omega
      · rw [e] at e2; have := Option.some.inj e2; omega
end
end Go.Sac
