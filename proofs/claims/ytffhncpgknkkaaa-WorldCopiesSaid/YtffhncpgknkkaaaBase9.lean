/- BASE9: a region that draws its order, each operation's value told by a law that lasts while the others come up. No program in it. -/
import Derived.Test.YtffhncpgknkkaaaBase7
namespace Go.Sac
open Go.RowKit
set_option linter.unusedVariables false
set_option linter.unusedSimpArgs false

def upd (f : Nat → Value) (i : Nat) (v : Value) : Nat → Value := fun j => if j = i then v else f j
theorem region_fam {P : Program} {id : Nat} {Q : Exit → Act → World → Prop} {a : Act} {w : World} {l : List Oper} (fill : (Nat → Value) → Array Value) (V : Nat → World → Value → Prop) (G : World → Prop) (R : Nat → World → World → Prop)
    (hm : P.follows .mixedOrders = true) (hE : edgesLow .any l = true) (f0 : Nat → Value) (ha : a = ⟨fill f0, []⟩) (h0 : G w.drew)
    (stab : ∀ i j w w' v, i ≠ j → R i w w' → V j w v → V j w' v)
    (put : ∀ i o, l[i]? = some o → ∀ f v, Act.put ⟨fill f, []⟩ o.dst v = ⟨fill (upd f i v), []⟩)
    (step : ∀ i o, l[i]? = some o → ∀ f w, G w → (∀ e ∈ o.after, Region.binds .any e = true → V e.on w (f e.on)) → wpOp P l.toArray Q i (fun a' w' => ∃ v, a' = Act.put ⟨fill f, []⟩ o.dst v ∧ G w' ∧ R i w w' ∧ V i w' v) ⟨fill f, []⟩ w)
    (fin : ∀ f w, G w → (∀ i, i < l.length → V i w (f i)) → Q .normal ⟨fill f, []⟩ w) : (Code.region id l.toArray true).wp P Q a w := by
  subst ha
  refine region_inv (fun L a w => ∃ f, a = ⟨fill f, []⟩ ∧ G w ∧ ∀ i, L i = true → V i w (f i)) hm hE ⟨f0, rfl, h0, nofun⟩ ?_ ?_
  · rintro L a w i o ho hL hp ⟨f, rfl, hG, hV⟩
    refine wpOp_mono ?_ (step i o ho f w hG fun e he hb => hV _ (hp e he hb))
    rintro a' w' ⟨v, rfl, hG', hR, hVi⟩
    refine ⟨upd f i v, put i o ho f v, hG', fun j hj => ?_⟩
    by_cases hji : j = i
    · subst hji
      unfold upd
      rw [if_pos rfl]
      exact hVi
    · unfold upd
      rw [if_neg hji]
      refine stab i j w w' _ (Ne.symm hji) hR (hV j ?_)
      simpa [hji] using hj
  · rintro L a w hL ⟨f, rfl, hG, hV⟩
    exact fin f w hG fun i hi => hV i (hL i hi)
/-- what lay lies as it lay, but for one block -/
def KeepBut (g : Option Nat) (w w' : World) : Prop := w.heap.size ≤ w'.heap.size ∧ ∀ k, k < w.heap.size → some k ≠ g → w'.heap[k]? = w.heap[k]?
theorem KeepBut.refl (g : Option Nat) (w : World) : KeepBut g w w := ⟨Nat.le_refl _, fun _ _ _ => rfl⟩
theorem KeepBut.of_below {w w' : World} (h : Below w.heap.size w w') (g : Option Nat) : KeepBut g w w' := ⟨h.size, fun k hk _ => h.block k hk⟩
theorem KeepBut.alloc (g : Option Nat) (w : World) (o : Obj) : KeepBut g w (w.alloc o) := .of_below ((Below.refl _ w).alloc (Nat.le_refl _) o) g
theorem KeepBut.row (w : World) (g : Nat) (c : Array Value) : KeepBut (some g) w (w.setRow g c) := ⟨by simp, fun k _ hk => setRow_other w g k c (fun e => hk (by rw [e]))⟩
theorem KeepBut.blk {w w' : World} {o : Option Nat} (h : KeepBut o w w') {g : Nat} {E : TypeId} {cs : List Value} (hb : Blk w g E cs) (hne : some g ≠ o) : Blk w' g E cs := (h.2 g hb.lt hne).trans hb
/-- a row of a new block (or of none) -/
def FreshR (p L : Nat) (cs : List Value) (w : World) (v : Value) : Prop := ∃ A c, v = .slice A L c ∧ L ≤ c ∧ Rc w A cs ∧ ∀ a, A = some a → p ≤ a.block
theorem KeepBut.fresh {w w' : World} {o : Option Nat} (h : KeepBut o w w') {p L : Nat} {cs : List Value} {v : Value} (hf : FreshR p L cs w v) (ho : ∀ g, o = some g → g < p) : FreshR p L cs w' v := by
  obtain ⟨A, c, rfl, h1, h2, h3⟩ := hf
  refine ⟨A, c, rfl, h1, h2.keep fun b off hA hb => h.2 b hb fun e => ?_, h3⟩
  have h4 := ho b e.symm
  have h5 : p ≤ b := h3 _ hA
  omega
theorem FreshR.of_own {w : World} {p n L : Nat} {E : TypeId} {v : Value} {cs : List Value} (h : w.ownsRow p E 1 v n cs) (e : n = L) : FreshR p L cs w v := by
  subst e
  obtain ⟨A, c, h1, h2, h3, h4⟩ := own_rc h
  exact ⟨A, c, h1, h2, h3, fun a ha => (h4 a ha).1⟩
theorem FreshR.mono {w : World} {p q L : Nat} {v : Value} {cs : List Value} (h : FreshR p L cs w v) (hq : q ≤ p) : FreshR q L cs w v := by
  obtain ⟨A, c, h1, h2, h3, h4⟩ := h
  exact ⟨A, c, h1, h2, h3, fun a ha => Nat.le_trans hq (h4 a ha)⟩
end Go.Sac
