/- BASER2: a range over a function that keeps state of its own in cells (the blocks from n₁ up to n₂ are the iterator's). No program in it. -/
import Derived.Laws.Rows
import Derived.Test.YtffhncpgknkkaaaBaseR
namespace Go.Sac
open Go.RowKit
set_option linter.unusedVariables false
set_option linter.unusedSimpArgs false

/-- It stands whatever is laid anew, and whatever the blocks from n₁ up to n₂ become. -/
def StabR (n₁ n₂ : Nat) (J : World → Prop) : Prop := ∀ W W' row, J W → W.grownBy W' row → (∀ r, row = some r → n₁ ≤ r ∧ r < n₂) → J W'
/-- .. and whatever a block from B on, that is no cells, becomes. -/
def StabW (n₁ n₂ B : Nat) (J : World → Prop) : Prop := ∀ W W' row, J W → W.grownBy W' row → (∀ r, row = some r → (n₁ ≤ r ∧ r < n₂) ∨ (B ≤ r ∧ ∃ o : Obj, W.heap[r]? = some o ∧ o.isCells = false)) → J W'
theorem StabW.toR {n₁ n₂ B : Nat} {J : World → Prop} (h : StabW n₁ n₂ B J) : StabR n₁ n₂ J := fun W W' row hs hg hr => h W W' row hs hg fun r e => Or.inl (hr r e)
theorem StabW.and {n₁ n₂ B : Nat} {J K : World → Prop} (h : StabW n₁ n₂ B J) (k : StabW n₁ n₂ B K) : StabW n₁ n₂ B (fun W => J W ∧ K W) := fun W W' row hs hg hr => ⟨h W W' row hs.1 hg hr, k W W' row hs.2 hg hr⟩
theorem StabW.pure {n₁ n₂ B : Nat} {p : Prop} : StabW n₁ n₂ B (fun _ => p) := fun _ _ _ hs _ _ => hs
theorem StabW.put {n₁ n₂ B : Nat} {J : World → Prop} (h : StabW n₁ n₂ B J) {W : World} {l : Nat} {o : Obj} (o' : Obj) (hs : J W) (hB : B ≤ l) (hl : W.heap[l]? = some o) (ho : o.isCells = false) : J (W.putObj l o') :=
  h W _ (some l) hs (grownBy_putObj' W l o') fun r e => by cases e; exact Or.inr ⟨hB, o, hl, ho⟩
theorem StabW.new {n₁ n₂ B : Nat} {J : World → Prop} (h : StabW n₁ n₂ B J) {W : World} (o : Obj) (hs : J W) : J (W.alloc o) :=
  h W _ none hs (World.grownBy_alloc W o none) fun r e => by cases e
theorem StabW.below {n₁ n₂ B m : Nat} {w : World} (hm : m ≤ w.heap.size) (h1 : m ≤ n₁) (h2 : m ≤ B) : StabW n₁ n₂ B (fun W => Below m w W) := fun W W' row hs hg hr =>
  hs.grown hg (Nat.le_trans hm hs.size) fun k e => by rcases hr k e with h | h <;> omega
/-- a block of cells that is not the iterator's -/
theorem StabW.block {n₁ n₂ B g : Nat} {E : TypeId} {cs : List Value} (h : g < n₁ ∨ n₂ ≤ g) : StabW n₁ n₂ B (fun W => Blk W g E cs) := fun W W' row hs hg hr =>
  hs.grown hg fun e => by
    rcases hr g e.symm with h' | ⟨_, o, h1, h2⟩
    · omega
    · have := (show W.heap[g]? = some _ from hs); rw [h1] at this; injection this with this; subst this; simp [Obj.isCells] at h2
/-- a row of the call's own, laid behind the iterator's blocks -/
theorem StabW.row {n₁ n₂ B base : Nat} {e : TypeId} {size n : Nat} {v : Value} {xs : List Value} (hb : n₂ ≤ base ∨ v.ownBlock = none) : StabW n₁ n₂ B (fun W => W.ownsRow base e size v n xs) := fun W W' row hs hg hr => by
  refine hs.kept (row := row) hg ?_
  cases hv : v.ownBlock with
  | none => exact Or.inl rfl
  | some k =>
    right
    intro e2
    have hk := hs.lt k hv
    rcases hr k e2.symm with h' | ⟨_, o, h1, h2⟩
    · rcases hb with hb | hb
      · omega
      · rw [hb] at hv; cases hv
    · rcases hs.2 with ⟨h3, _⟩ | ⟨g, cap, cur, h3, _, h4, _⟩
      · rw [h3] at hv; cases hv
      · rw [h3] at hv
        simp [Value.ownBlock] at hv
        subst hv
        rw [h1] at h4; injection h4 with h4; subst h4; simp [Obj.isCells] at h2

/-- What an iterator with state of its own owes: it hands its values to whatever body keeps Kp; J: what the loop's body says. -/
def IterS {α : Type} (n : Nat) (P : Program) (g : Nat) (lb : Array Value) (enc : α → Value) (Kp : World → World → Prop) (S Sp : List α → Prop) (N n₁ n₂ : Nat) (w : World) : Prop :=
  ∀ (l : Nat) (J Jx : List α → World → Prop) (W : World), Below w.heap.size w W → (∀ s, StabR n₁ n₂ (J s)) → (∀ s, StabR n₁ n₂ (Jx s)) →
    (∀ pre x W1, J pre W1 → pre.length < N → YieldAt Fence.wide (n - 1) P l #[enc x] W1 fun e W' => (e = .returned (.bool true) ∧ J (pre ++ [x]) W' ∧ Kp W1 W') ∨ (e = .returned (.bool false) ∧ Jx (pre ++ [x]) W')) →
    J [] W → CallsIn Fence.wide n P g (#[.func (.yield l) #[] #[]] ++ lb) W fun e W' => (∃ v, e = .returned v) ∧ ((∃ xs, S xs ∧ J xs W') ∨ ∃ pre, Sp pre ∧ Jx pre W')

/-- The loop: one variable, at the wide fence, at the outermost level. -/
theorem range_state {α : Type} {n : Nat} {P : Program} {g : Operand} {ps : Array Tmp} {assign body : Code} {Q : Exit → Act → World → Prop} {a : Act} {w : World} {gf : Nat} {lb : Array Value} {enc : α → Value} {Kp : World → World → Prop} {S Sp : List α → Prop} {N n₁ n₂ : Nat}
    (hg : a.eval g = .func (.func gf) #[] lb) (eg : ∀ args w, (callFunc gf args).run P w = .ok (.enter gf args) w) (hps : ps.size = 1) (hn : 1 ≤ n)
    (hit : IterS (n - 1) P gf lb enc Kp S Sp N n₁ n₂ w) (h2 : n₂ ≤ w.heap.size)
    (hKt : ∀ {A B C : World}, Kp A B → Kp B C → Kp A C) (hKb : ∀ (W : World) (l : Nat) (o o' : Obj), w.heap.size ≤ l → W.heap[l]? = some o → o.isCells = false → o.isWalk = false → Kp W (W.putObj l o'))
    (I : List α → World → Prop) (Ix : Code → List α → World → Prop) (hI : ∀ s, StabW n₁ n₂ w.heap.size (I s)) (hIx : ∀ c s, StabW n₁ n₂ w.heap.size (Ix c s)) (h0 : I [] w) (a₁ : α → Act)
    (hassign : ∀ (l : Nat) (x : α) (W : World) (K : Act → World → Prop), K (a₁ x) W → assign.wpIn (Fence.wide.inRound l) (n - 1 - 1) P (Exit.then K fun _ _ _ => False) { tmps := (ps.zip #[enc x]).foldl (fun t (p, v) => t.setIfInBounds p v) a.tmps, defers := [] } W)
    (hbody : ∀ (l : Nat) (pre : List α) (x : α) (W : World), I pre W → pre.length < N → body.wpIn (Fence.wide.inRound l) (n - 1 - 1) P (ownPostK Kp I Ix (pre ++ [x]) W) (a₁ x) W)
    (hdone : ∀ (D : Nat) (xs : List α) (W : World), w.heap.size ≤ D → S xs → I xs W → W.heap[D]? = some (.deferred (some [])) → Q .normal { a with defers := { target := .collected D, args := #[] } :: a.defers } W)
    (hstop : ∀ (D : Nat) (c : Code) (pre : List α) (W : World), w.heap.size ≤ D → Sp pre → Ix c pre W → W.heap[D]? = some (.deferred (some [])) → c.wpIn Fence.wide n P Q { a with defers := { target := .collected D, args := #[] } :: a.defers } W) :
    (Code.rangeFunc g ps assign body).wpIn Fence.wide n P Q a w := by
  refine wpIn_rangeFunc fun fn hfn => ?_
  -- the record of the loop, by its state and what is pending
  let rc : LoopState → Option Code → Loop := fun st pe => { state := st, pending := pe, fn, tmps := a.tmps, params := ps, assign, body, defers := w.heap.size }
  have hW1 : ∃ W1, (w.alloc (.deferred (some []))).alloc (.loop (rc .ready none)) = W1 := ⟨_, rfl⟩
  obtain ⟨W1, hW1⟩ := hW1
  have rec1 : W1.heap[w.heap.size + 1]? = some (.loop (rc .ready none)) := by
    rw [← hW1]
    simpa using World.alloc_heap_new (w.alloc (.deferred (some []))) (.loop (rc .ready none))
  have def1 : W1.heap[w.heap.size]? = some (.deferred (some [])) := by
    rw [← hW1]
    exact (Below.heap_alloc _ _ _ (by simp)).trans (World.alloc_heap_new w _)
  have i1 : I [] W1 := by rw [← hW1]; exact (hI []).new _ ((hI []).new _ h0)
  have b1 : Below w.heap.size w W1 := by rw [← hW1]; exact ((Below.refl _ w).alloc (Nat.le_refl _) _).alloc (by simp) _
  -- two facts of the loop's own blocks stand through the iterator's steps
  have stay : ∀ {W W' : World} {row : Option Nat} {k : Nat} {o : Obj}, W.grownBy W' row → (∀ r, row = some r → n₁ ≤ r ∧ r < n₂) → w.heap.size ≤ k → W.heap[k]? = some o → W'.heap[k]? = some o := fun hgr hr hk ho =>
    (hgr.block _ (Array.getElem?_eq_some_iff.1 ho).1 (fun e => by have := hr _ e.symm; omega)).trans ho
  refine ⟨w.heap.size + 1, [{ target := .collected w.heap.size, args := #[] }], W1, { target := .fn (.func gf) lb, args := #[.func (.yield (w.heap.size + 1)) #[] #[]] }, W1, gf, #[.func (.yield (w.heap.size + 1)) #[] #[]] ++ lb, W1,
    by rw [← hW1]; exact run_enterLoop_outer _ _ _ _ _, by simp only [resolve, hg]; simp [go_sem], fun _ _ => trivial, by simp [invoke, go_sem, eg], fun _ => hn, ?_⟩
  refine (hit (w.heap.size + 1)
    (fun pre W => I pre W ∧ W.heap[w.heap.size + 1]? = some (.loop (rc .ready none)) ∧ W.heap[w.heap.size]? = some (.deferred (some [])))
    (fun pre W => ∃ c, Ix c pre W ∧ W.heap[w.heap.size + 1]? = some (.loop (rc .done (some c))) ∧ W.heap[w.heap.size]? = some (.deferred (some []))) W1 b1
    (fun s W W' row hs hgr hr => ⟨(hI s).toR W W' row hs.1 hgr hr, stay hgr hr (by omega) hs.2.1, stay hgr hr (Nat.le_refl _) hs.2.2⟩)
    (fun s W W' row hs hgr hr => let ⟨c, h1, h3, h4⟩ := hs; ⟨c, (hIx c s).toR W W' row h1 hgr hr, stay hgr hr (by omega) h3, stay hgr hr (Nat.le_refl _) h4⟩) ?_ ⟨i1, rec1, def1⟩).mono ?_
  · -- one round of the body
    rintro pre x W ⟨hi, hr, hd⟩ hlen
    refine ⟨fn, _, assign, body, run_yield (P := P) (args := #[enc x]) hr (by simp [rc, hps]), roundIn_of_wpIn hfn (hassign _ x W _ ⟨_, run_beginRound hr rfl, ?_⟩)⟩
    have hlt := (Array.getElem?_eq_some_iff.1 hr).1
    have hr2 : (W.putObj (w.heap.size + 1) (.loop (rc .busy none))).heap[w.heap.size + 1]? = some (.loop (rc .busy none)) := World.putObj_heap_same hlt
    have hd2 : (W.putObj (w.heap.size + 1) (.loop (rc .busy none))).heap[w.heap.size]? = some (.deferred (some [])) := (World.putObj_heap_other (by omega)).trans hd
    refine wpIn_mono (hbody _ pre x _ ((hI pre).put _ hi (by omega) hr rfl) hlen) ?_
    have back : ∀ (jump : Option Code) (W3 : World), KeepsOthers (W.putObj (w.heap.size + 1) (.loop (rc .busy none))) W3 →
        (Instr.endRound (w.heap.size + 1) jump).run P W3 = .ok (.bool jump.isNone) (W3.putObj (w.heap.size + 1) (.loop (rc (if jump.isNone then .ready else .done) jump))) ∧
        W3.heap[w.heap.size + 1]? = some (.loop (rc .busy none)) ∧
        (W3.putObj (w.heap.size + 1) (.loop (rc (if jump.isNone then .ready else .done) jump))).heap[w.heap.size + 1]? = some (.loop (rc (if jump.isNone then .ready else .done) jump)) ∧
        (W3.putObj (w.heap.size + 1) (.loop (rc (if jump.isNone then .ready else .done) jump))).heap[w.heap.size]? = some (.deferred (some [])) := by
      intro jump W3 hk
      have e3 := hk.same _ _ hr2 rfl
      exact ⟨run_endRound (P := P) jump e3, e3, World.putObj_heap_same (Array.getElem?_eq_some_iff.1 e3).1, (World.putObj_heap_other (by omega)).trans (hk.same _ _ hd2 rfl)⟩
    have away : ∀ (c : Code) (W3 : World), KeepsOthers (W.putObj (w.heap.size + 1) (.loop (rc .busy none))) W3 → Ix c (pre ++ [x]) W3 →
        ∃ c', Ix c' (pre ++ [x]) (W3.putObj (w.heap.size + 1) (.loop (rc .done (some c)))) ∧ (W3.putObj (w.heap.size + 1) (.loop (rc .done (some c)))).heap[w.heap.size + 1]? = some (.loop (rc .done (some c'))) ∧ (W3.putObj (w.heap.size + 1) (.loop (rc .done (some c)))).heap[w.heap.size]? = some (.deferred (some [])) := by
      intro c W3 hk hx
      obtain ⟨_, e1, e2, e3⟩ := back (some c) W3 hk
      exact ⟨c, (hIx c _).put _ hx (by omega) e1 rfl, e2, e3⟩
    rintro e a3 W3 hp
    cases e with
    | normal =>
      obtain ⟨hk, hkp, hi3⟩ := hp
      obtain ⟨er, e1, e2, e3⟩ := back none W3 hk
      exact ⟨_, _, er, Or.inl ⟨rfl, ⟨(hI _).put _ hi3 (by omega) e1 rfl, e2, e3⟩, hKt (hKt (hKb _ _ _ _ (by omega) hr rfl rfl) hkp) (hKb _ _ _ _ (by omega) e1 rfl rfl)⟩⟩
    | ret => exact ⟨_, _, (back (some .ret) W3 hp.1).1, Or.inr ⟨rfl, away .ret W3 hp.1 hp.2⟩⟩
    | exit id => exact ⟨_, _, (back (some (.exit id)) W3 hp.1).1, Or.inr ⟨rfl, away (.exit id) W3 hp.1 hp.2⟩⟩
    | goto t => exact ⟨_, _, (back (some (.goto t)) W3 hp.1).1, Or.inr ⟨rfl, away (.goto t) W3 hp.1 hp.2⟩⟩
    | panic ch => exact hp.elim
    | outgrown => exact hp.elim
  · -- behind the iterator
    rintro e W2 ⟨⟨v, rfl⟩, ⟨xs, hS, hi, hr, hd⟩ | ⟨pre, hSp, c, hi, hr, hd⟩⟩
    · exact ⟨none, _, run_endLoop (P := P) hr (by simp [rc]), hdone _ xs _ (Nat.le_refl _) hS ((hI xs).put _ hi (by omega) hr rfl) ((World.putObj_heap_other (by omega)).trans hd)⟩
    · exact ⟨some c, _, run_endLoop (P := P) hr (by simp [rc]), hstop _ c pre _ (Nat.le_refl _) hSp ((hIx c pre).put _ hi (by omega) hr rfl) ((World.putObj_heap_other (by omega)).trans hd)⟩
theorem KeepsOthers.of_below {W W' : World} (h : Below W.heap.size W W') : KeepsOthers W W' := ⟨h.size, fun k o hk _ => (h.block k (Array.getElem?_eq_some_iff.1 hk).1).trans hk⟩
/-- a field of a block of cells takes a row that was appended to -/
theorem blk_appended {W w1 : World} {base g j n₀ : Nat} {t e : TypeId} {size : Nat} {v v' : Value} {k m : Nat} {cs xs ys : List Value} {tmp : Obj}
    (hP : Blk W g t cs) (hgb : g < base) (h0 : n₀ ≤ g) (hz : base ≤ W.heap.size) (hrow : W.ownsRow base e size v k xs) (hown' : w1.ownsRow base e size v' m ys) (hgrow : (W.alloc tmp).grownBy w1 v.ownBlock) :
    Blk w1 g t cs ∧ Blk (w1.setCell ⟨g, j, none⟩ v') g t (cs.set j v') ∧ (w1.setCell ⟨g, j, none⟩ v').ownsRow base e size v' m ys ∧ KeepsOthers W (w1.setCell ⟨g, j, none⟩ v') ∧ Below n₀ W (w1.setCell ⟨g, j, none⟩ v') ∧
      (∀ g2 t2 cs2, g2 < base → g2 ≠ g → Blk W g2 t2 cs2 → Blk (w1.setCell ⟨g, j, none⟩ v') g2 t2 cs2) ∧ (∀ B, B < base → B ≠ g → (w1.setCell ⟨g, j, none⟩ v').heap[B]? = W.heap[B]?) ∧ W.heap.size ≤ (w1.setCell ⟨g, j, none⟩ v').heap.size := by
  have hne : ∀ b, b < base → some b ≠ v.ownBlock := fun b hb e => by have := hrow.lt b e.symm; omega
  have keep : ∀ b, b < base → w1.heap[b]? = W.heap[b]? := fun b hb => (hgrow.block b (by simp; omega) (hne b hb)).trans (Below.heap_alloc W tmp b (by omega))
  have hP1 : Blk w1 g t cs := (keep g hgb).trans hP
  have far : ∀ b, b < base → b ≠ g → (w1.setCell ⟨g, j, none⟩ v').heap[b]? = W.heap[b]? := fun b hb hn => (Below.heap_setCell w1 ⟨g, j, none⟩ v' b hn).trans (keep b hb)
  refine ⟨hP1, hP1.set j v', ?_, ?_, ?_, fun g2 t2 cs2 hb hn h => (far g2 hb hn).trans h, far, ?_⟩
  · refine hown'.kept (row := some g) ⟨rfl, rfl, rfl, by simp, fun k _ hk => Below.heap_setCell w1 ⟨g, j, none⟩ v' k (fun e => hk (by rw [e]))⟩ ?_
    cases hv : v'.ownBlock with
    | none => exact Or.inl rfl
    | some q => right; intro e; injection e with e; have := hown'.lt q hv; omega
  · refine ((KeepsOthers.alloc W tmp).trans (KeepsOthers.of_grownBy hgrow fun j o ej hj => ?_)).trans (KeepsOthers.setCell _ _ _)
    rcases (hrow.alloc tmp).2 with ⟨rfl, _⟩ | ⟨g', cap, cur, rfl, _, hgb, _⟩
    · simp [Value.ownBlock] at ej
    · obtain rfl : g' = j := by simpa [Value.ownBlock] using ej
      rw [hgb] at hj; cases hj; rfl
  · refine (((Below.refl n₀ W).alloc (by omega) tmp).grown hgrow (by simp; omega) fun q ej => ?_).setCell (p := ⟨g, j, none⟩) h0 v'
    have := hrow.lt q ej; omega
  · have := hgrow.size; simp at this ⊢; omega
theorem results_cells2 {P : Program} {fn : Func} {p q : Tmp} {ty ty2 : TypeId} (h : fn.results = #[.cell p ty, .cell q ty2]) (tmps : Array Value) (w : World) (g g2 : Nat) (v1 v2 : Value)
    (hp : tmps.getD p undef = .pointer (some ⟨g, 0, none⟩)) (hq : tmps.getD q undef = .pointer (some ⟨g2, 0, none⟩)) (h1 : (loadVar ty ⟨g, 0, none⟩).run P w = .ok v1 w) (h2 : (loadVar ty2 ⟨g2, 0, none⟩).run P w = .ok v2 w) :
    (results fn tmps).run P w = .ok (.tuple #[v1, v2]) w := by
  have hp' : tmps[p]?.getD undef = .pointer (some ⟨g, 0, none⟩) := by simpa using hp
  have hq' : tmps[q]?.getD undef = .pointer (some ⟨g2, 0, none⟩) := by simpa using hq
  simp only [results, h]
  simp [Sem.run_bind, Result.andThen, hp', hq', asAddr, h1, h2]
theorem results_cell_slot {P : Program} {fn : Func} {p q : Tmp} {ty : TypeId} (h : fn.results = #[.cell p ty, .tmp q]) (tmps : Array Value) (w : World) (g : Nat) (v1 v2 : Value)
    (hp : tmps.getD p undef = .pointer (some ⟨g, 0, none⟩)) (hq : tmps.getD q undef = v2) (h1 : (loadVar ty ⟨g, 0, none⟩).run P w = .ok v1 w) :
    (results fn tmps).run P w = .ok (.tuple #[v1, v2]) w := by
  have hp' : tmps[p]?.getD undef = .pointer (some ⟨g, 0, none⟩) := by simpa using hp
  have hq' : tmps[q]?.getD undef = v2 := by simpa using hq
  simp only [results, h]
  simp [Sem.run_bind, Result.andThen, hp', hq', asAddr, h1]
theorem load_row {P : Program} {w : World} {g : Nat} {t ty : TypeId} {cs : List Value} {d : TypeDesc} (hb : Blk w g t cs) (hu : P.underlying ty = some d) (hd : (match d with | .struct _ | .array _ _ => true | _ => false) = true) (hi : (P.info? ty).map (·.size) = some cs.length) :
    (loadVar ty ⟨g, 0, none⟩).run P w = .ok (.agg cs.toArray) w := run_loadVar_row w g t ty cs.toArray (0, 0) d hb hu hd (by simpa using hi)
theorem load_one {P : Program} {w : World} {g : Nat} {t ty : TypeId} {v : Value} (hb : Blk w g t [v]) (ha : ∀ w, (isAgg ty).run P w = .ok false w) : (loadVar ty ⟨g, 0, none⟩).run P w = .ok v w := by
  have hc := hb.cell (i := 0) rfl
  simp [loadVar, Sem.run_bind, ha w, Result.andThen, hc, go_sem]
end Go.Sac
