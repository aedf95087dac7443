/- BASE14: region_fam where the common law may speak of which operations have come up and of what they yielded. No program in it. -/
import Derived.Test.YtffhncpgknkkaaaBase13
namespace Go.Sac
open Go.RowKit
set_option linter.unusedVariables false
set_option linter.unusedSimpArgs false

theorem upd_same (f : Nat → Value) (i : Nat) (v : Value) : upd f i v i = v := if_pos rfl
theorem upd_ne (f : Nat → Value) (i j : Nat) (v : Value) (h : j ≠ i) : upd f i v j = f j := if_neg h
theorem region_famG {P : Program} {id : Nat} {Q : Exit → Act → World → Prop} {a : Act} {w : World} {l : List Oper} (fill : (Nat → Value) → Array Value) (V : Nat → World → Value → Prop) (G : (Nat → Bool) → World → (Nat → Value) → Prop) (R : Nat → World → World → Prop)
    (hm : P.follows .mixedOrders = true) (hE : edgesLow .any l = true) (f0 : Nat → Value) (ha : a = ⟨fill f0, []⟩) (h0 : G (fun _ => false) w.drew f0)
    (stab : ∀ i j w w' v o, l[j]? = some o → i ≠ j → (∀ e ∈ o.after, Region.binds .any e = true → e.on ≠ i) → R i w w' → V j w v → V j w' v)
    (put : ∀ i o, l[i]? = some o → ∀ f v, Act.put ⟨fill f, []⟩ o.dst v = ⟨fill (upd f i v), []⟩)
    (step : ∀ L i o, l[i]? = some o → L i = false → ∀ f w, G L w f → (∀ e ∈ o.after, Region.binds .any e = true → L e.on = true ∧ V e.on w (f e.on)) → wpOp P l.toArray Q i (fun a' w' => ∃ v, a' = Act.put ⟨fill f, []⟩ o.dst v ∧ G (fun j => j == i || L j) w' (upd f i v) ∧ R i w w' ∧ V i w' v) ⟨fill f, []⟩ w)
    (fin : ∀ L f w, (∀ i, i < l.length → L i = true) → G L w f → (∀ i, i < l.length → V i w (f i)) → Q .normal ⟨fill f, []⟩ w) : (Code.region id l.toArray true).wp P Q a w := by
  subst ha
  refine region_inv (fun L a w => ∃ f, a = ⟨fill f, []⟩ ∧ G L w f ∧ ∀ i, L i = true → ∃ o, l[i]? = some o ∧ (∀ e ∈ o.after, Region.binds .any e = true → L e.on = true) ∧ V i w (f i)) hm hE ⟨f0, rfl, h0, nofun⟩ ?_ ?_
  · rintro L a w i o ho hL hp ⟨f, rfl, hG, hV⟩
    refine wpOp_mono ?_ (step L i o ho hL f w hG fun e he hb => ⟨hp e he hb, by obtain ⟨_, _, _, h⟩ := hV _ (hp e he hb); exact h⟩)
    rintro a' w' ⟨v, rfl, hG', hR, hVi⟩
    refine ⟨upd f i v, put i o ho f v, hG', fun j hj => ?_⟩
    by_cases hji : j = i
    · subst hji
      refine ⟨o, ho, fun e he hb => by have := hp e he hb; simp [this], ?_⟩
      rw [upd_same]
      exact hVi
    · have hLj : L j = true := by simpa [hji] using hj
      obtain ⟨oj, h1, h2, h3⟩ := hV j hLj
      refine ⟨oj, h1, fun e he hb => by have := h2 e he hb; simp [this], ?_⟩
      rw [upd_ne _ _ _ _ hji]
      refine stab i j w w' _ oj h1 (Ne.symm hji) (fun e he hb hei => ?_) hR h3
      have := h2 e he hb
      rw [hei, hL] at this
      cases this
  · rintro L a w hL ⟨f, rfl, hG, hV⟩
    exact fin L f w hL hG fun i hi => by obtain ⟨_, _, _, h⟩ := hV i (hL i hi); exact h
/-- two operations' rows lie apart -/
structure Apart (i j : Nat) (L : Nat → Bool) (w : World) (f : Nat → Value) : Prop where
  l1 : L i = true → ∀ k, (f i).ownBlock = some k → k < w.heap.size
  l2 : L j = true → ∀ k, (f j).ownBlock = some k → k < w.heap.size
  ne : L i = true → L j = true → ∀ k, (f i).ownBlock = some k → (f j).ownBlock ≠ some k
theorem Apart.start (i j : Nat) (w : World) (f : Nat → Value) : Apart i j (fun _ => false) w f := ⟨nofun, nofun, nofun⟩
theorem Apart.past {i j q : Nat} {L : Nat → Bool} {w w' : World} {f : Nat → Value} (h : Apart i j L w f) (v : Value) (hs : w.heap.size ≤ w'.heap.size) (hi : q ≠ i) (hj : q ≠ j) : Apart i j (fun k => k == q || L k) w' (upd f q v) := by
  have e1 : (i == q || L i) = L i := by simp [Ne.symm hi]
  have e2 : (j == q || L j) = L j := by simp [Ne.symm hj]
  constructor
  · intro h1 k; rw [upd_ne _ _ _ _ (Ne.symm hi)]; intro h2; exact Nat.lt_of_lt_of_le (h.l1 (e1 ▸ h1) k h2) hs
  · intro h1 k; rw [upd_ne _ _ _ _ (Ne.symm hj)]; intro h2; exact Nat.lt_of_lt_of_le (h.l2 (e2 ▸ h1) k h2) hs
  · intro h1 h1' k; rw [upd_ne _ _ _ _ (Ne.symm hi), upd_ne _ _ _ _ (Ne.symm hj)]; exact h.ne (e1 ▸ h1) (e2 ▸ h1') k
theorem Apart.first {i j : Nat} {L : Nat → Bool} {w w' : World} {f : Nat → Value} (h : Apart i j L w f) (hij : i ≠ j) (v : Value) (hs : w.heap.size ≤ w'.heap.size) (hv : ∀ k, v.ownBlock = some k → w.heap.size ≤ k ∧ k < w'.heap.size) : Apart i j (fun k => k == i || L k) w' (upd f i v) := by
  have e2 : (j == i || L j) = L j := by simp [Ne.symm hij]
  constructor
  · intro _ k; rw [upd_same]; intro h2; exact (hv k h2).2
  · intro h1 k; rw [upd_ne _ _ _ _ (Ne.symm hij)]; intro h2; exact Nat.lt_of_lt_of_le (h.l2 (e2 ▸ h1) k h2) hs
  · intro _ h1 k; rw [upd_same, upd_ne _ _ _ _ (Ne.symm hij)]; intro h2 h3; have := h.l2 (e2 ▸ h1) k h3; have := (hv k h2).1; omega
theorem Apart.second {i j : Nat} {L : Nat → Bool} {w w' : World} {f : Nat → Value} (h : Apart i j L w f) (hij : i ≠ j) (v : Value) (hs : w.heap.size ≤ w'.heap.size) (hv : ∀ k, v.ownBlock = some k → w.heap.size ≤ k ∧ k < w'.heap.size) : Apart i j (fun k => k == j || L k) w' (upd f j v) := by
  have e1 : (i == j || L i) = L i := by simp [hij]
  constructor
  · intro h1 k; rw [upd_ne _ _ _ _ hij]; intro h2; exact Nat.lt_of_lt_of_le (h.l1 (e1 ▸ h1) k h2) hs
  · intro _ k; rw [upd_same]; intro h2; exact (hv k h2).2
  · intro h1 _ k; rw [upd_same, upd_ne _ _ _ _ hij]; intro h2 h3; have := h.l1 (e1 ▸ h1) k h2; have := (hv k h3).1; omega
end Go.Sac
