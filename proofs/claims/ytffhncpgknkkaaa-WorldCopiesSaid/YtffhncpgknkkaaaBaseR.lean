/- BASER: words for ranges over a function: what a round keeps. No program in it. -/
import Derived.RangeFuncNested
import Derived.RangeFuncBound
import Derived.RangeFuncCalls
import Derived.RangeFuncLeaves
import Derived.RangeFuncBox
import Derived.Shelf.Abstract
import Derived.Shelf.RegionOpen
import Derived.WalkKit
import Derived.OwnWalkIn
import Derived.TacticsInMore
import Derived.LoopNIn
import Derived.LoopIn
import Derived.Maps.AppendAt
import Derived.Scope
import Derived.WalkMore
import Derived.Test.YtffhncpgknkkaaaBase3
namespace Go.Sac
open Go.RowKit
set_option linter.unusedVariables false
set_option linter.unusedSimpArgs false

/-- What lay below n₀ lies as it lay, and so do the blocks from n₁ up to n₂ (the iterator's own boxes). -/
def KeepR (n₀ n₁ n₂ : Nat) (W W' : World) : Prop := Below n₀ W W' ∧ ∀ B, n₁ ≤ B → B < n₂ → W'.heap[B]? = W.heap[B]?
theorem KeepR.refl (n₀ n₁ n₂ : Nat) (W : World) : KeepR n₀ n₁ n₂ W W := ⟨Below.refl _ _, fun _ _ _ => rfl⟩
theorem keepR_t {n₀ n₁ n₂ : Nat} {A B C : World} (h : KeepR n₀ n₁ n₂ A B) (k : KeepR n₀ n₁ n₂ B C) : KeepR n₀ n₁ n₂ A C := ⟨h.1.trans k.1, fun b h1 h2 => (k.2 b h1 h2).trans (h.2 b h1 h2)⟩
theorem keepR_b {n₀ n₁ n₂ : Nat} {w : World} (hn : n₀ ≤ w.heap.size) (h2 : n₂ ≤ w.heap.size) (W : World) (l : Nat) (o o' : Obj) (hl : w.heap.size ≤ l) (h : W.heap[l]? = some o) (h3 : o.isCells = false) (h4 : o.isWalk = false) : KeepR n₀ n₁ n₂ W (W.putObj l o') :=
  ⟨belowK_b hn W l o o' hl h h3 h4, fun B _ hb => (grownBy_putObj' W l o').block B (by have := (Array.getElem?_eq_some_iff.1 h).1; omega) (fun e => by cases e; omega)⟩
theorem KeepR.below {n₀ n₁ n₂ : Nat} {W W' : World} (h : Below n₂ W W') (h0 : n₀ ≤ n₂) : KeepR n₀ n₁ n₂ W W' := ⟨h.mono h0, fun B _ hb => h.block B hb⟩
theorem KeepR.boxed {n₀ n₁ n₂ : Nat} {W W' : World} (h : KeepR n₀ n₁ n₂ W W') {B : Nat} {t : TypeId} {v : Value} (hB : Boxed W B t v) (h1 : n₁ ≤ B) (h2 : B < n₂) : Boxed W' B t v := (h.2 B h1 h2).trans hB
theorem boxed_below {n : Nat} {W W' : World} (h : Below n W W') {B : Nat} {t : TypeId} {v : Value} (hB : Boxed W B t v) (h1 : B < n) : Boxed W' B t v := (h.block B h1).trans hB
theorem app_in {F : Fence} {n0 : Nat} {P : Program} {ops : Array Oper} {rest : List Oper} {o : Oper} {a : Act} {Q : Exit → Act → World → Prop} {W : World} (base : Nat) (t e : TypeId) (z : Value) (size bytes : Nat) (s x : Operand) (hgd : o.guard = none)
    (ho : o.op = .call { callee := .builtin .append, args := #[s, x], argTypes := #[t, t] })
    (ht : P.underlying t = some (.slice e)) (hinfo : (P.info? e).map (fun i => (i.zero, i.size, i.bytes)) = some (some z, size, bytes)) (hzs : z.cells.size = size) (hsz : 0 < size) (hb0 : 0 < bytes)
    (v : Value) (n : Nat) (xs ys : List Value) (A : Option Addr) (m c : Nat) (hs : a.eval s = v) (hx : a.eval x = .slice A m c)
    (HO : W.ownsRow base e size v n xs) (HR : Rc W A ys) (hm : ys.length = m * size) (h1 : ∀ u ∈ ys, u.oneCell' = true) (hbase : base ≤ W.heap.size) (hl : (n + m) * bytes ≤ 140737488355328) (n' : Nat) (cs' : List Value) (en : n + m = n') (ec : xs ++ ys = cs')
    (h : ∀ v1 w1, w1.ownsRow base e size v1 n' cs' → W.grownBy w1 v.ownBlock → (v1.ownBlock = v.ownBlock ∨ v1.ownBlock = some W.heap.size) → wpListIn F n0 P ops Q rest (a.put o.dst v1) w1) :
    wpListIn F n0 P ops Q (o :: rest) a W := by
  subst en; subst ec
  obtain ⟨v1, w1, hr, hown, hg, hat⟩ := run_append_rc (P := P) W base t o.type e z size bytes ht hinfo hzs hsz hb0 v n xs ys A m c HO HR hm h1 hbase hl
  refine wpListIn_plain hgd fun K hK => ?_
  unfold Oper.wpIn
  refine ⟨?_, ?_⟩
  · simp [Oper.about, ho, resolve, Target.leads, Sem.run_pure]
  · rw [Oper.semAt_plain F _ _ (by rw [ho]; intro c hc'; cases hc')]
    simp [execOp, ho, resolve, invoke, builtin, hs, hx, hr, Result.andThen]
    exact hK _ _ (h v1 w1 hown hg hat)
theorem grown_at {W w1 : World} {tmp : Obj} {v u : Value} {R B : Nat} (hgrow : (W.alloc tmp).grownBy w1 v.ownBlock) (hB : B < W.heap.size) (hne : ∀ k, v.ownBlock = some k → k ≠ B) (hR : B ≠ R) : (w1.setCell ⟨R, 0, none⟩ u).heap[B]? = W.heap[B]? :=
  (Below.heap_setCell w1 ⟨R, 0, none⟩ u B hR).trans ((hgrow.block B (by simp; omega) (fun e => hne B e.symm rfl)).trans (Below.heap_alloc W tmp B hB))
theorem wpInW_scope {n : Nat} {P : Program} {c : Code} {Q : Exit → Act → World → Prop} {a : Act} {w : World} (h : c.wpIn Fence.wide n P (Exit.noGoto Q) a w) : (Code.scope c).wpIn Fence.wide n P Q a w :=
  wpIn_wide.2 (wp_scope_straight (wpIn_wide.1 h))
end Go.Sac
