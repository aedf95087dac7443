/- BASE10: region_fam where an operation's law may speak of what the operations yielded that it waited for. No program in it. -/
import Derived.Test.YtffhncpgknkkaaaBase9
namespace Go.Sac
open Go.RowKit
set_option linter.unusedVariables false
set_option linter.unusedSimpArgs false

theorem region_fam2 {P : Program} {id : Nat} {Q : Exit → Act → World → Prop} {a : Act} {w : World} {l : List Oper} (fill : (Nat → Value) → Array Value) (V : Nat → World → (Nat → Value) → Prop) (G : World → Prop) (R : Nat → World → World → Prop)
    (hm : P.follows .mixedOrders = true) (hE : edgesLow .any l = true) (f0 : Nat → Value) (ha : a = ⟨fill f0, []⟩) (h0 : G w.drew)
    (stab : ∀ i j w w' f v o, l[j]? = some o → i ≠ j → (∀ e ∈ o.after, Region.binds .any e = true → e.on ≠ i) → R i w w' → V j w f → V j w' (upd f i v))
    (put : ∀ i o, l[i]? = some o → ∀ f v, Act.put ⟨fill f, []⟩ o.dst v = ⟨fill (upd f i v), []⟩)
    (step : ∀ i o, l[i]? = some o → ∀ f w, G w → (∀ e ∈ o.after, Region.binds .any e = true → V e.on w f) → wpOp P l.toArray Q i (fun a' w' => ∃ v, a' = Act.put ⟨fill f, []⟩ o.dst v ∧ G w' ∧ R i w w' ∧ V i w' (upd f i v)) ⟨fill f, []⟩ w)
    (fin : ∀ f w, G w → (∀ i, i < l.length → V i w f) → Q .normal ⟨fill f, []⟩ w) : (Code.region id l.toArray true).wp P Q a w := by
  subst ha
  refine region_inv (fun L a w => ∃ f, a = ⟨fill f, []⟩ ∧ G w ∧ ∀ i, L i = true → ∃ o, l[i]? = some o ∧ (∀ e ∈ o.after, Region.binds .any e = true → L e.on = true) ∧ V i w f) hm hE ⟨f0, rfl, h0, nofun⟩ ?_ ?_
  · rintro L a w i o ho hLi hp ⟨f, rfl, hG, hV⟩
    refine wpOp_mono ?_ (step i o ho f w hG fun e he hb => (by obtain ⟨_, _, _, h⟩ := hV _ (hp e he hb); exact h))
    rintro a' w' ⟨v, rfl, hG', hR, hVi⟩
    refine ⟨upd f i v, put i o ho f v, hG', fun j hj => ?_⟩
    by_cases hji : j = i
    · subst hji
      exact ⟨o, ho, fun e he hb => by have := hp e he hb; simp [this], hVi⟩
    · have hLj : L j = true := by simpa [hji] using hj
      obtain ⟨oj, h1, h2, h3⟩ := hV j hLj
      refine ⟨oj, h1, fun e he hb => by have := h2 e he hb; simp [this], stab i j w w' f v oj h1 (Ne.symm hji) (fun e he hb hei => ?_) hR h3⟩
      have := h2 e he hb
      rw [hei, hLi] at this
      cases this
  · rintro L a w hL ⟨f, rfl, hG, hV⟩
    exact fin f w hG fun i hi => by obtain ⟨_, _, _, h⟩ := hV i (hL i hi); exact h
end Go.Sac
