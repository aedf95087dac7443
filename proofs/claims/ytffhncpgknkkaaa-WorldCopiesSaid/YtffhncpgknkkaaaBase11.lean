/- BASE11: region_fam where the common law may speak of which operations have come up, and an operation's law need not outlast those it waited for. No program in it. -/
import Derived.Test.YtffhncpgknkkaaaBase10
namespace Go.Sac
open Go.RowKit
set_option linter.unusedVariables false
set_option linter.unusedSimpArgs false

theorem region_famL {P : Program} {id : Nat} {Q : Exit → Act → World → Prop} {a : Act} {w : World} {l : List Oper} (fill : (Nat → Value) → Array Value) (V : Nat → World → Value → Prop) (G : (Nat → Bool) → World → Prop) (R : Nat → World → World → Prop)
    (hm : P.follows .mixedOrders = true) (hE : edgesLow .any l = true) (f0 : Nat → Value) (ha : a = ⟨fill f0, []⟩) (h0 : G (fun _ => false) w.drew)
    (stab : ∀ i j w w' v o, l[j]? = some o → i ≠ j → (∀ e ∈ o.after, Region.binds .any e = true → e.on ≠ i) → R i w w' → V j w v → V j w' v)
    (put : ∀ i o, l[i]? = some o → ∀ f v, Act.put ⟨fill f, []⟩ o.dst v = ⟨fill (upd f i v), []⟩)
    (step : ∀ L i o, l[i]? = some o → L i = false → ∀ f w, G L w → (∀ j o', l[j]? = some o' → ∀ e ∈ o'.after, Region.binds .any e = true → e.on = i → f j = f0 j) → (∀ e ∈ o.after, Region.binds .any e = true → V e.on w (f e.on)) → wpOp P l.toArray Q i (fun a' w' => ∃ v, a' = Act.put ⟨fill f, []⟩ o.dst v ∧ G (fun j => j == i || L j) w' ∧ R i w w' ∧ V i w' v) ⟨fill f, []⟩ w)
    (fin : ∀ L f w, (∀ i, i < l.length → L i = true) → G L w → (∀ i, i < l.length → V i w (f i)) → Q .normal ⟨fill f, []⟩ w) : (Code.region id l.toArray true).wp P Q a w := by
  subst ha
  refine region_inv (fun L a w => ∃ f, a = ⟨fill f, []⟩ ∧ G L w ∧ (∀ j, L j = false → f j = f0 j) ∧ ∀ i, L i = true → ∃ o, l[i]? = some o ∧ (∀ e ∈ o.after, Region.binds .any e = true → L e.on = true) ∧ V i w (f i)) hm hE ⟨f0, rfl, h0, fun _ _ => rfl, nofun⟩ ?_ ?_
  · rintro L a w i o ho hLi hp ⟨f, rfl, hG, hF, hV⟩
    refine wpOp_mono ?_ (step L i o ho hLi f w hG (fun j o' hj e he hb hei => hF j (by
      cases hLj : L j with
      | false => rfl
      | true =>
        obtain ⟨o2, h1, h2, _⟩ := hV j hLj
        obtain rfl : o' = o2 := Option.some.inj (hj.symm.trans h1)
        have := h2 e he hb
        rw [hei, hLi] at this
        cases this)) fun e he hb => (by obtain ⟨_, _, _, h⟩ := hV _ (hp e he hb); exact h))
    rintro a' w' ⟨v, rfl, hG', hR, hVi⟩
    refine ⟨upd f i v, put i o ho f v, hG', fun j hj => ?_, fun j hj => ?_⟩
    · simp only [Bool.or_eq_false_iff, beq_eq_false_iff_ne] at hj
      unfold upd
      rw [if_neg hj.1]
      exact hF j hj.2
    by_cases hji : j = i
    · subst hji
      refine ⟨o, ho, fun e he hb => by have := hp e he hb; simp [this], ?_⟩
      unfold upd
      rw [if_pos rfl]
      exact hVi
    · have hLj : L j = true := by simpa [hji] using hj
      obtain ⟨oj, h1, h2, h3⟩ := hV j hLj
      refine ⟨oj, h1, fun e he hb => by have := h2 e he hb; simp [this], ?_⟩
      unfold upd
      rw [if_neg hji]
      refine stab i j w w' _ oj h1 (Ne.symm hji) (fun e he hb hei => ?_) hR h3
      have := h2 e he hb
      rw [hei, hLi] at this
      cases this
  · rintro L a w hL ⟨f, rfl, hG, _, hV⟩
    exact fin L f w hL hG fun i hi => by obtain ⟨_, _, _, h⟩ := hV i (hL i hi); exact h
theorem own_keep {w w' : World} {base n : Nat} {e : TypeId} {size : Nat} {v : Value} {xs : List Value} (h : w.ownsRow base e size v n xs) (hk : ∀ k, v.ownBlock = some k → w'.heap[k]? = w.heap[k]?) : w'.ownsRow base e size v n xs := by
  obtain ⟨h1, h2⟩ := h
  refine ⟨h1, ?_⟩
  rcases h2 with h | ⟨g, cap, cur, rfl, hb, hg, hr⟩
  · exact .inl h
  · exact .inr ⟨g, cap, cur, rfl, hb, (hk g rfl).trans hg, hr⟩
theorem KeepBut.own {w w' : World} {o : Option Nat} (h : KeepBut o w w') {base n : Nat} {e : TypeId} {size : Nat} {v : Value} {xs : List Value} (hv : w.ownsRow base e size v n xs) (ho : ∀ k, v.ownBlock = some k → some k ≠ o) : w'.ownsRow base e size v n xs :=
  own_keep hv fun k hk => h.2 k (own_lt hv k hk).2 (ho k hk)
theorem KeepBut.of_grown {w w' : World} {row : Option Nat} (h : w.grownBy w' row) : KeepBut row w w' := ⟨h.size, fun k hk hne => h.block k hk hne⟩
section
variable {P : Program} {o : Oper} {a : Act} {K : Act → World → Prop} {Q : Exit → Act → World → Prop}
theorem wp_app {W : World} (base : Nat) (t e : TypeId) (z : Value) (size bytes : Nat) (s x : Operand)
    (ho : o.op = .call { callee := .builtin .append, args := #[s, x], argTypes := #[t, t] })
    (ht : P.underlying t = some (.slice e)) (hinfo : (P.info? e).map (fun i => (i.zero, i.size, i.bytes)) = some (some z, size, bytes)) (hzs : z.cells.size = size) (hsz : 0 < size) (hb0 : 0 < bytes)
    (v : Value) (n : Nat) (xs ys : List Value) (A : Option Addr) (m c : Nat) (hs : a.eval s = v) (hx : a.eval x = .slice A m c)
    (HO : W.ownsRow base e size v n xs) (HR : Rc W A ys) (hm : ys.length = m * size) (h1 : ∀ u ∈ ys, u.oneCell' = true) (hbase : base ≤ W.heap.size) (hl : (n + m) * bytes ≤ 140737488355328) (n' : Nat) (cs' : List Value) (en : n + m = n') (ec : xs ++ ys = cs')
    (h : ∀ v1 w1, w1.ownsRow base e size v1 n' cs' → W.grownBy w1 v.ownBlock → (v1.ownBlock = v.ownBlock ∨ v1.ownBlock = some W.heap.size) → K (a.put o.dst v1) w1) : Oper.wp P o a W K Q := by
  subst en; subst ec
  obtain ⟨v1, w1, hr, hown, hg, hat⟩ := run_append_rc (P := P) W base t o.type e z size bytes ht hinfo hzs hsz hb0 v n xs ys A m c HO HR hm h1 hbase hl
  unfold Oper.wp execOp
  simp only [ho, resolve, invoke, builtin, Sem.run_bind, Sem.run_pure, Result.andThen_ok, List.map_toArray, List.map_cons, List.map_nil, hs, hx, hr]
  exact h v1 w1 hown hg hat
end
end Go.Sac
