/- BASE15: region_famG where what is not yet come up stands as it stood. No program in it. -/
import Derived.Test.YtffhncpgknkkaaaBase14
namespace Go.Sac
open Go.RowKit
set_option linter.unusedVariables false
set_option linter.unusedSimpArgs false

theorem region_famH {P : Program} {id : Nat} {Q : Exit → Act → World → Prop} {a : Act} {w : World} {l : List Oper} (fill : (Nat → Value) → Array Value) (V : Nat → World → Value → Prop) (G : (Nat → Bool) → World → (Nat → Value) → Prop) (R : Nat → World → World → Prop)
    (hm : P.follows .mixedOrders = true) (hE : edgesLow .any l = true) (f0 : Nat → Value) (ha : a = ⟨fill f0, []⟩) (h0 : G (fun _ => false) w.drew f0)
    (stab : ∀ i j w w' v o, l[j]? = some o → i ≠ j → (∀ e ∈ o.after, Region.binds .any e = true → e.on ≠ i) → R i w w' → V j w v → V j w' v)
    (put : ∀ i o, l[i]? = some o → ∀ f v, Act.put ⟨fill f, []⟩ o.dst v = ⟨fill (upd f i v), []⟩)
    (step : ∀ L i o, l[i]? = some o → L i = false → ∀ f w, G L w f → (∀ j o', l[j]? = some o' → ∀ e ∈ o'.after, Region.binds .any e = true → e.on = i → f j = f0 j) → (∀ e ∈ o.after, Region.binds .any e = true → L e.on = true ∧ V e.on w (f e.on)) → wpOp P l.toArray Q i (fun a' w' => ∃ v, a' = Act.put ⟨fill f, []⟩ o.dst v ∧ G (fun j => j == i || L j) w' (upd f i v) ∧ R i w w' ∧ V i w' v) ⟨fill f, []⟩ w)
    (fin : ∀ L f w, (∀ i, i < l.length → L i = true) → G L w f → (∀ i, i < l.length → V i w (f i)) → Q .normal ⟨fill f, []⟩ w) : (Code.region id l.toArray true).wp P Q a w := by
  subst ha
  refine region_inv (fun L a w => ∃ f, a = ⟨fill f, []⟩ ∧ G L w f ∧ (∀ j, L j = false → f j = f0 j) ∧ ∀ i, L i = true → ∃ o, l[i]? = some o ∧ (∀ e ∈ o.after, Region.binds .any e = true → L e.on = true) ∧ V i w (f i)) hm hE ⟨f0, rfl, h0, fun _ _ => rfl, nofun⟩ ?_ ?_
  · rintro L a w i o ho hL hp ⟨f, rfl, hG, hF, hV⟩
    refine wpOp_mono ?_ (step L i o ho hL f w hG (fun j o' hj e he hb hei => hF j (by
      cases hLj : L j with
      | false => rfl
      | true =>
        obtain ⟨o2, h1, h2, _⟩ := hV j hLj
        obtain rfl : o' = o2 := Option.some.inj (hj.symm.trans h1)
        have := h2 e he hb
        rw [hei, hL] at this
        cases this)) fun e he hb => ⟨hp e he hb, by obtain ⟨_, _, _, h⟩ := hV _ (hp e he hb); exact h⟩)
    rintro a' w' ⟨v, rfl, hG', hR, hVi⟩
    refine ⟨upd f i v, put i o ho f v, hG', fun j hj => ?_, fun j hj => ?_⟩
    · simp only [Bool.or_eq_false_iff, beq_eq_false_iff_ne] at hj
      rw [upd_ne _ _ _ _ hj.1]
      exact hF j hj.2
    · by_cases hji : j = i
      · subst hji
        refine ⟨o, ho, fun e he hb => by have := hp e he hb; simp [this], ?_⟩
        rw [upd_same]
        exact hVi
      · have hLj : L j = true := by simpa [hji] using hj
        obtain ⟨oj, h1, h2, h3⟩ := hV j hLj
        refine ⟨oj, h1, fun e he hb => by have := h2 e he hb; simp [this], ?_⟩
        rw [upd_ne _ _ _ _ hji]
        refine stab i j w w' _ oj h1 (Ne.symm hji) (fun e he hb hei => ?_) hR h3
        have := h2 e he hb
        rw [hei, hL] at this
        cases this
  · rintro L a w hL ⟨f, rfl, hG, _, hV⟩
    exact fin L f w hL hG fun i hi => by obtain ⟨_, _, _, h⟩ := hV i (hL i hi); exact h
section
variable {P : Program} {o : Oper} {a : Act} {w : World} {K : Act → World → Prop} {Q : Exit → Act → World → Prop}
theorem wp_mvv (x : Operand) (ho : o.op = .move x) (h : K (a.put o.dst (a.eval x)) w) : o.wp P a w K Q := by
  unfold Oper.wp execOp
  simp only [ho, Sem.run_pure]
  exact h
theorem wp_asn (x : Operand) (ho : o.op = .assign x) (h : K (a.put o.dst (a.eval x)) w) : o.wp P a w K Q := by
  unfold Oper.wp execOp
  simp only [ho, Sem.run_pure]
  exact h
theorem wp_slc (t : TypeId) (x : Operand) (lo hi mx : Option Operand) (ho : o.op = .slice t x lo hi mx) (v : Value) (h : (Instr.sliceAt t (a.eval x) (lo.map a.eval) (hi.map a.eval) (mx.map a.eval)).run P w = .ok v w) (hk : K (a.put o.dst v) w) : o.wp P a w K Q := by
  unfold Oper.wp execOp
  simp only [ho, Sem.run_bind, h, Result.andThen_ok, Sem.run_pure]
  exact hk
theorem wp_cnv (s d : TypeId) (x : Operand) (ho : o.op = .convert s d x) (v : Value) (h : (convert s d (a.eval x)).run P w = .ok v w) (hk : K (a.put o.dst v) w) : o.wp P a w K Q := by
  unfold Oper.wp execOp
  simp only [ho, Sem.run_bind, h, Result.andThen_ok, Sem.run_pure]
  exact hk
end
/-- rows that one append ends: out's own row, as it stood, till operation ap; the row of one, laid by operation bl -/
structure AppG (w0 : World) (B : Nat) (E : TypeId) (sz k : Nat) (X : List Value) (ov : Value) (one : List Value) (bl ap : Nat) (L : Nat → Bool) (w : World) (f : Nat → Value) : Prop where
  bel : Below B w0 w
  siz : B ≤ w.heap.size
  own : L ap = false → w.ownsRow B E sz ov k X
  row : L bl = true → L ap = false → ∃ g, f bl = .slice (some ⟨g, 0, none⟩) 1 1 ∧ Blk w g E one
theorem AppG.past {w0 : World} {B : Nat} {E : TypeId} {sz k : Nat} {X : List Value} {ov : Value} {one : List Value} {bl ap : Nat} {L : Nat → Bool} {w : World} {f : Nat → Value} (h : AppG w0 B E sz k X ov one bl ap L w f) (q : Nat) (v : Value) (h1 : q ≠ bl) (h2 : q ≠ ap) : AppG w0 B E sz k X ov one bl ap (fun j => j == q || L j) w (upd f q v) := by
  have e1 : (bl == q || L bl) = L bl := by simp [Ne.symm h1]
  have e2 : (ap == q || L ap) = L ap := by simp [Ne.symm h2]
  refine ⟨h.bel, h.siz, fun a => h.own (e2 ▸ a), fun a b => ?_⟩
  rw [upd_ne _ _ _ _ (Ne.symm h1)]
  exact h.row (e1 ▸ a) (e2 ▸ b)
theorem AppG.call {w0 : World} {B : Nat} {E : TypeId} {sz k : Nat} {X : List Value} {ov : Value} {one : List Value} {bl ap : Nat} {L : Nat → Bool} {w w' : World} {f : Nat → Value} (h : AppG w0 B E sz k X ov one bl ap L w f) (q : Nat) (v : Value) (h1 : q ≠ bl) (h2 : q ≠ ap) (hb : Below w.heap.size w w') : AppG w0 B E sz k X ov one bl ap (fun j => j == q || L j) w' (upd f q v) := by
  obtain ⟨a, b, c, d⟩ := h.past q v h1 h2
  refine ⟨below_then a b hb, Nat.le_trans b hb.size, fun x => own_below (c x) hb, fun x y => ?_⟩
  obtain ⟨g, e1, e2⟩ := d x y
  exact ⟨g, e1, e2.below hb e2.lt⟩
theorem AppG.built {w0 : World} {B : Nat} {E : TypeId} {sz k : Nat} {X : List Value} {ov : Value} {one : List Value} {bl ap : Nat} {L : Nat → Bool} {w : World} {f : Nat → Value} (h : AppG w0 B E sz k X ov one bl ap L w f) (hne : bl ≠ ap) : AppG w0 B E sz k X ov one bl ap (fun j => j == bl || L j) (w.alloc (.cells one.toArray E)) (upd f bl (.slice (some ⟨w.heap.size, 0, none⟩) 1 1)) := by
  have e2 : (ap == bl || L ap) = L ap := by simp [Ne.symm hne]
  refine ⟨h.bel.alloc h.siz _, by rw [World.size_alloc]; have := h.siz; omega, fun a => own_alloc (h.own (e2 ▸ a)) _, fun _ _ => ⟨_, upd_same _ _ _, Blk.new w _ _⟩⟩
theorem AppG.done {w0 : World} {B : Nat} {E : TypeId} {sz k : Nat} {X : List Value} {ov : Value} {one : List Value} {bl ap : Nat} {L : Nat → Bool} {w w' : World} {f : Nat → Value} (h : AppG w0 B E sz k X ov one bl ap L w f) (hL : L ap = false) (v : Value) (hg : w.grownBy w' ov.ownBlock) : AppG w0 B E sz k X ov one bl ap (fun j => j == ap || L j) w' (upd f ap v) := by
  refine ⟨below_lift h.bel h.siz hg (fun p hp => (own_lt (h.own hL) p hp).1), Nat.le_trans h.siz hg.size, fun a => ?_, fun _ a => ?_⟩
  · simp at a
  · simp at a
end Go.Sac
