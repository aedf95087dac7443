/- BASER3: a range over a function that keeps state of its own in cells, where the loop's variable lies in a box of its own. No program in it. -/
import Derived.Test.YtpahmlgbljfcjaaBaseR2
namespace Go.Sac
open Go.RowKit
set_option linter.unusedVariables false
set_option linter.unusedSimpArgs false

/-- The loop: one variable, which lies in a box of its own in each round; at the wide fence, at the outermost level. -/
theorem range_stateB {α : Type} {n : Nat} {P : Program} {g : Operand} {ps : Array Tmp} {assign body : Code} {Q : Exit → Act → World → Prop} {a : Act} {w : World} {gf : Nat} {lb : Array Value} {enc : α → Value} {Kp : World → World → Prop} {S Sp : List α → Prop} {N n₁ n₂ : Nat}
    (hg : a.eval g = .func (.func gf) #[] lb) (eg : ∀ args w, (callFunc gf args).run P w = .ok (.enter gf args) w) (hps : ps.size = 1) (hn : 1 ≤ n)
    (hit : IterS (n - 1) P gf lb enc Kp S Sp N n₁ n₂ w) (h2 : n₂ ≤ w.heap.size)
    (hKt : ∀ {A B C : World}, Kp A B → Kp B C → Kp A C) (hKb : ∀ (W : World) (l : Nat) (o o' : Obj), w.heap.size ≤ l → W.heap[l]? = some o → o.isCells = false → o.isWalk = false → Kp W (W.putObj l o'))
    (I : List α → World → Prop) (Ix : Code → List α → World → Prop) (hI : ∀ s, StabW n₁ n₂ w.heap.size (I s)) (hIx : ∀ c s, StabW n₁ n₂ w.heap.size (Ix c s)) (h0 : I [] w) (ob : α → Obj) (a₁ : α → Nat → Act) (hKa : ∀ (W : World) (o : Obj), w.heap.size ≤ W.heap.size → Kp W (W.alloc o))
    (hassign : ∀ (l : Nat) (x : α) (W : World) (K : Act → World → Prop), K (a₁ x W.heap.size) (W.alloc (ob x)) → assign.wpIn (Fence.wide.inRound l) (n - 1 - 1) P (Exit.then K fun _ _ _ => False) { tmps := (ps.zip #[enc x]).foldl (fun t (p, v) => t.setIfInBounds p v) a.tmps, defers := [] } W)
    (hbody : ∀ (l : Nat) (pre : List α) (x : α) (W : World) (b : Nat), I pre W → pre.length < N → w.heap.size + 2 ≤ b → W.heap[b]? = some (ob x) → body.wpIn (Fence.wide.inRound l) (n - 1 - 1) P (ownPostK Kp I Ix (pre ++ [x]) W) (a₁ x b) W)
    (hdone : ∀ (D : Nat) (xs : List α) (W : World), w.heap.size ≤ D → S xs → I xs W → W.heap[D]? = some (.deferred (some [])) → Q .normal { a with defers := { target := .collected D, args := #[] } :: a.defers } W)
    (hstop : ∀ (D : Nat) (c : Code) (pre : List α) (W : World), w.heap.size ≤ D → Sp pre → Ix c pre W → W.heap[D]? = some (.deferred (some [])) → c.wpIn Fence.wide n P Q { a with defers := { target := .collected D, args := #[] } :: a.defers } W) :
    (Code.rangeFunc g ps assign body).wpIn Fence.wide n P Q a w := by
  refine wpIn_rangeFunc fun fn hfn => ?_
  -- the record of the loop, by its state and what is pending
  let rc : LoopState → Option Code → Loop := fun st pe => { state := st, pending := pe, fn, tmps := a.tmps, params := ps, assign, body, defers := w.heap.size }
  have hW1 : ∃ W1, (w.alloc (.deferred (some []))).alloc (.loop (rc .ready none)) = W1 := ⟨_, rfl⟩
  obtain ⟨W1, hW1⟩ := hW1
  have rec1 : W1.heap[w.heap.size + 1]? = some (.loop (rc .ready none)) := by
    rw [← hW1]
    simpa using World.alloc_heap_new (w.alloc (.deferred (some []))) (.loop (rc .ready none))
  have def1 : W1.heap[w.heap.size]? = some (.deferred (some [])) := by
    rw [← hW1]
    exact (Below.heap_alloc _ _ _ (by simp)).trans (World.alloc_heap_new w _)
  have i1 : I [] W1 := by rw [← hW1]; exact (hI []).new _ ((hI []).new _ h0)
  have b1 : Below w.heap.size w W1 := by rw [← hW1]; exact ((Below.refl _ w).alloc (Nat.le_refl _) _).alloc (by simp) _
  -- two facts of the loop's own blocks stand through the iterator's steps
  have stay : ∀ {W W' : World} {row : Option Nat} {k : Nat} {o : Obj}, W.grownBy W' row → (∀ r, row = some r → n₁ ≤ r ∧ r < n₂) → w.heap.size ≤ k → W.heap[k]? = some o → W'.heap[k]? = some o := fun hgr hr hk ho =>
    (hgr.block _ (Array.getElem?_eq_some_iff.1 ho).1 (fun e => by have := hr _ e.symm; omega)).trans ho
  refine ⟨w.heap.size + 1, [{ target := .collected w.heap.size, args := #[] }], W1, { target := .fn (.func gf) lb, args := #[.func (.yield (w.heap.size + 1)) #[] #[]] }, W1, gf, #[.func (.yield (w.heap.size + 1)) #[] #[]] ++ lb, W1,
    by rw [← hW1]; exact run_enterLoop_outer _ _ _ _ _, by simp only [resolve, hg]; simp [go_sem], fun _ _ => trivial, by simp [invoke, go_sem, eg], fun _ => hn, ?_⟩
  refine (hit (w.heap.size + 1)
    (fun pre W => I pre W ∧ W.heap[w.heap.size + 1]? = some (.loop (rc .ready none)) ∧ W.heap[w.heap.size]? = some (.deferred (some [])))
    (fun pre W => ∃ c, Ix c pre W ∧ W.heap[w.heap.size + 1]? = some (.loop (rc .done (some c))) ∧ W.heap[w.heap.size]? = some (.deferred (some []))) W1 b1
    (fun s W W' row hs hgr hr => ⟨(hI s).toR W W' row hs.1 hgr hr, stay hgr hr (by omega) hs.2.1, stay hgr hr (Nat.le_refl _) hs.2.2⟩)
    (fun s W W' row hs hgr hr => let ⟨c, h1, h3, h4⟩ := hs; ⟨c, (hIx c s).toR W W' row h1 hgr hr, stay hgr hr (by omega) h3, stay hgr hr (Nat.le_refl _) h4⟩) ?_ ⟨i1, rec1, def1⟩).mono ?_
  · -- one round of the body
    rintro pre x W0 ⟨hi0, hr0, hd0⟩ hlen
    have hlt0 := (Array.getElem?_eq_some_iff.1 hr0).1
    obtain ⟨W, hW⟩ : ∃ W, W0.alloc (ob x) = W := ⟨_, rfl⟩
    have hr : W.heap[w.heap.size + 1]? = some (.loop (rc .ready none)) := by rw [← hW]; exact (Below.heap_alloc W0 (ob x) _ hlt0).trans hr0
    have hd : W.heap[w.heap.size]? = some (.deferred (some [])) := by rw [← hW]; exact (Below.heap_alloc W0 (ob x) _ (by omega)).trans hd0
    have hi : I pre W := by rw [← hW]; exact (hI pre).new _ hi0
    have hb : W.heap[W0.heap.size]? = some (ob x) := by rw [← hW]; exact World.alloc_heap_new W0 (ob x)
    have hk0 : Kp W0 W := by rw [← hW]; exact hKa W0 (ob x) (by omega)
    refine ⟨fn, _, assign, body, run_yield (P := P) (args := #[enc x]) hr0 (by simp [rc, hps]), roundIn_of_wpIn hfn (hassign _ x W0 _ ?_)⟩
    rw [hW]
    refine ⟨_, run_beginRound hr rfl, ?_⟩
    have hlt := (Array.getElem?_eq_some_iff.1 hr).1
    have hr2 : (W.putObj (w.heap.size + 1) (.loop (rc .busy none))).heap[w.heap.size + 1]? = some (.loop (rc .busy none)) := World.putObj_heap_same hlt
    have hd2 : (W.putObj (w.heap.size + 1) (.loop (rc .busy none))).heap[w.heap.size]? = some (.deferred (some [])) := (World.putObj_heap_other (by omega)).trans hd
    refine wpIn_mono (hbody _ pre x _ W0.heap.size ((hI pre).put _ hi (by omega) hr rfl) hlen (by omega) ((World.putObj_heap_other (by omega)).trans hb)) ?_
    have back : ∀ (jump : Option Code) (W3 : World), KeepsOthers (W.putObj (w.heap.size + 1) (.loop (rc .busy none))) W3 →
        (Instr.endRound (w.heap.size + 1) jump).run P W3 = .ok (.bool jump.isNone) (W3.putObj (w.heap.size + 1) (.loop (rc (if jump.isNone then .ready else .done) jump))) ∧
        W3.heap[w.heap.size + 1]? = some (.loop (rc .busy none)) ∧
        (W3.putObj (w.heap.size + 1) (.loop (rc (if jump.isNone then .ready else .done) jump))).heap[w.heap.size + 1]? = some (.loop (rc (if jump.isNone then .ready else .done) jump)) ∧
        (W3.putObj (w.heap.size + 1) (.loop (rc (if jump.isNone then .ready else .done) jump))).heap[w.heap.size]? = some (.deferred (some [])) := by
      intro jump W3 hk
      have e3 := hk.same _ _ hr2 rfl
      exact ⟨run_endRound (P := P) jump e3, e3, World.putObj_heap_same (Array.getElem?_eq_some_iff.1 e3).1, (World.putObj_heap_other (by omega)).trans (hk.same _ _ hd2 rfl)⟩
    have away : ∀ (c : Code) (W3 : World), KeepsOthers (W.putObj (w.heap.size + 1) (.loop (rc .busy none))) W3 → Ix c (pre ++ [x]) W3 →
        ∃ c', Ix c' (pre ++ [x]) (W3.putObj (w.heap.size + 1) (.loop (rc .done (some c)))) ∧ (W3.putObj (w.heap.size + 1) (.loop (rc .done (some c)))).heap[w.heap.size + 1]? = some (.loop (rc .done (some c'))) ∧ (W3.putObj (w.heap.size + 1) (.loop (rc .done (some c)))).heap[w.heap.size]? = some (.deferred (some [])) := by
      intro c W3 hk hx
      obtain ⟨_, e1, e2, e3⟩ := back (some c) W3 hk
      exact ⟨c, (hIx c _).put _ hx (by omega) e1 rfl, e2, e3⟩
    rintro e a3 W3 hp
    cases e with
    | normal =>
      obtain ⟨hk, hkp, hi3⟩ := hp
      obtain ⟨er, e1, e2, e3⟩ := back none W3 hk
      exact ⟨_, _, er, Or.inl ⟨rfl, ⟨(hI _).put _ hi3 (by omega) e1 rfl, e2, e3⟩, hKt hk0 (hKt (hKt (hKb _ _ _ _ (by omega) hr rfl rfl) hkp) (hKb _ _ _ _ (by omega) e1 rfl rfl))⟩⟩
    | ret => exact ⟨_, _, (back (some .ret) W3 hp.1).1, Or.inr ⟨rfl, away .ret W3 hp.1 hp.2⟩⟩
    | exit id => exact ⟨_, _, (back (some (.exit id)) W3 hp.1).1, Or.inr ⟨rfl, away (.exit id) W3 hp.1 hp.2⟩⟩
    | goto t => exact ⟨_, _, (back (some (.goto t)) W3 hp.1).1, Or.inr ⟨rfl, away (.goto t) W3 hp.1 hp.2⟩⟩
    | panic ch => exact hp.elim
    | outgrown => exact hp.elim
  · -- behind the iterator
    rintro e W2 ⟨⟨v, rfl⟩, ⟨xs, hS, hi, hr, hd⟩ | ⟨pre, hSp, c, hi, hr, hd⟩⟩
    · exact ⟨none, _, run_endLoop (P := P) hr (by simp [rc]), hdone _ xs _ (Nat.le_refl _) hS ((hI xs).put _ hi (by omega) hr rfl) ((World.putObj_heap_other (by omega)).trans hd)⟩
    · exact ⟨some c, _, run_endLoop (P := P) hr (by simp [rc]), hstop _ c pre _ (Nat.le_refl _) hSp ((hIx c pre).put _ hi (by omega) hr rfl) ((World.putObj_heap_other (by omega)).trans hd)⟩
end Go.Sac
