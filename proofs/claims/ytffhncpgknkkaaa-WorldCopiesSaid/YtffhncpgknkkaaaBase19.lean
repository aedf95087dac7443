/- BASE19: a region that draws its order, one obligation an operation; each step sees an abstract act, no frame written out; what is yielded may differ from world to world. No program in it. -/
import Derived.Test.YtffhncpgknkkaaaBase16
namespace Go.Sac
open Go.RowKit
set_option linter.unusedVariables false
set_option linter.unusedSimpArgs false

/-- the frame when all has come up: operation (n + i) yields (f (n + i)) -/
def fillD : Nat → List Oper → (Nat → Value) → Act → Act
  | _, [], _, a => a
  | n, o :: t, f, a => fillD (n + 1) t f (a.put o.dst (f n))
def dsts (l : List Oper) : List Nat := l.filterMap (·.dst)
def waits (o : Oper) (j : Nat) : Bool := o.after.toList.any fun e => e.on == j && Region.binds .any e
theorem waits_spec {o : Oper} {j : Nat} (h : waits o j = true) : ∃ e ∈ o.after, e.on = j ∧ Region.binds .any e = true := by
  unfold waits at h
  obtain ⟨e, he, h2⟩ := List.any_eq_true.1 h
  simp only [Bool.and_eq_true, beq_iff_eq] at h2
  exact ⟨e, by simpa using he, h2⟩
/-- nothing is asked of what a step turns -/
structure NoR (i : Nat) (w w' : World) : Prop
/-- one operation's step -/
def StepG (P : Program) (V : Nat → World → Value → Prop) (G : (Nat → Bool) → World → (Nat → Value) → Prop) (R : Nat → World → World → Prop) (l : List Oper) (arr : Array Value) (i : Nat) (o : Oper) : Prop :=
  ∀ (L : Nat → Bool) (f : Nat → Value) (A : Act) (w : World) (Q : Exit → Act → World → Prop), L i = false → G L w f → A.tmps.size = arr.size →
    (∀ k, (dsts l).contains k = false → A.tmps.getD k undef = arr.getD k undef) →
    (∀ j k, (match (l[j]? : Option Oper) with | none => false | some (o' : Oper) => (o'.dst == some k) && (j == i || waits o' i)) = true → A.tmps.getD k undef = arr.getD k undef) →
    (∀ j k, L k = false → ((l[j]?).any fun o' => waits o' k) = true → L j = false) →
    (∀ j, (waits o j) = true → L j = true ∧ V j w (f j) ∧ ∀ k, (l[j]?.bind (·.dst)) = some k → A.tmps.getD k undef = f j) →
    wpOp P l.toArray Q i (fun a' w' => ∃ v, a' = A.put o.dst v ∧ G (fun j => j == i || L j) w' (upd f i v) ∧ R i w w' ∧ V i w' v) A w
def StepsG (P : Program) (V : Nat → World → Value → Prop) (G : (Nat → Bool) → World → (Nat → Value) → Prop) (R : Nat → World → World → Prop) (l : List Oper) (arr : Array Value) : Nat → List Oper → Prop
  | _, [] => True
  | i, o :: t => StepG P V G R l arr i o ∧ StepsG P V G R l arr (i + 1) t
section
variable {P : Program} {V : Nat → World → Value → Prop} {G : (Nat → Bool) → World → (Nat → Value) → Prop} {R : Nat → World → World → Prop} {l : List Oper} {arr : Array Value}
theorem StepsG.nil {i : Nat} : StepsG P V G R l arr i [] := trivial
theorem StepsG.cons {i : Nat} {o : Oper} {t : List Oper} (h : StepG P V G R l arr i o) (h' : StepsG P V G R l arr (i + 1) t) : StepsG P V G R l arr i (o :: t) := ⟨h, h'⟩
theorem StepsG.get : ∀ (t : List Oper) (n : Nat), StepsG P V G R l arr n t → ∀ i o, t[i]? = some o → StepG P V G R l arr (n + i) o := by
  intro t
  induction t with
  | nil => intro n _ i o h; simp at h
  | cons x t ih =>
    intro n h i o hi
    cases i with
    | zero => simp at hi; subst hi; exact h.1
    | succ i =>
      have := ih (n + 1) h.2 i o (by simpa using hi)
      rwa [show n + 1 + i = n + (i + 1) by omega] at this
theorem fillD_defers : ∀ (t : List Oper) (n : Nat) (f : Nat → Value) (a : Act), (fillD n t f a).defers = a.defers := by
  intro t
  induction t with
  | nil => intro n f a; rfl
  | cons o t ih =>
    intro n f a
    unfold fillD
    rw [ih]
    cases o.dst <;> rfl
theorem put_size (a : Act) (d : Option Tmp) (v : Value) : (a.put d v).tmps.size = a.tmps.size := by
  cases d <;> simp [Act.put]
theorem fillD_size : ∀ (t : List Oper) (n : Nat) (f : Nat → Value) (a : Act), (fillD n t f a).tmps.size = a.tmps.size := by
  intro t
  induction t with
  | nil => intro n f a; rfl
  | cons o t ih => intro n f a; unfold fillD; rw [ih, put_size]
theorem fillD_other : ∀ (t : List Oper) (n : Nat) (f : Nat → Value) (a : Act) (k : Nat), k ∉ dsts t → (fillD n t f a).tmps[k]? = a.tmps[k]? := by
  intro t
  induction t with
  | nil => intro n f a k _; rfl
  | cons o t ih =>
    intro n f a k hk
    unfold fillD
    have h2 : k ∉ dsts t := fun h => hk (by unfold dsts at *; rw [List.filterMap_cons]; cases o.dst <;> simp_all)
    rw [ih _ _ _ _ h2]
    cases hd : o.dst with
    | none => rfl
    | some d =>
      have : d ≠ k := fun e => hk (by unfold dsts; rw [List.filterMap_cons, hd]; simp [e])
      simp [Act.put, Array.getElem?_setIfInBounds, this]
theorem fillD_at : ∀ (t : List Oper) (n : Nat) (f : Nat → Value) (a : Act), (dsts t).Nodup → ∀ (i : Nat) (o : Oper) (k : Nat), t[i]? = some o → o.dst = some k → k < a.tmps.size → (fillD n t f a).tmps[k]? = some (f (n + i)) := by
  intro t
  induction t with
  | nil => intro n f a _ i o k h; simp at h
  | cons x t ih =>
    intro n f a hn i o k hi hd hk
    unfold fillD
    cases i with
    | zero =>
      simp at hi
      subst hi
      have hk2 : k ∉ dsts t := by
        unfold dsts at hn ⊢
        rw [List.filterMap_cons, hd] at hn
        simp only [List.nodup_cons] at hn
        exact hn.1
      rw [fillD_other _ _ _ _ _ hk2, hd]
      simp [Act.put, hk]
    | succ i =>
      have hn2 : (dsts t).Nodup := by
        unfold dsts at hn ⊢
        rw [List.filterMap_cons] at hn
        cases hx : x.dst with
        | none => rw [hx] at hn; exact hn
        | some d => rw [hx] at hn; simp only [List.nodup_cons] at hn; exact hn.2
      have := ih (n + 1) f (a.put x.dst (f n)) hn2 i o k (by simpa using hi) hd (by rw [put_size]; exact hk)
      rwa [show n + 1 + i = n + (i + 1) by omega] at this
theorem mem_dsts {t : List Oper} {k : Nat} : k ∈ dsts t ↔ ∃ (i : Nat) (o : Oper), t[i]? = some o ∧ o.dst = some k := by
  unfold dsts
  rw [List.mem_filterMap]
  constructor
  · rintro ⟨o, ho, hd⟩
    obtain ⟨i, hi⟩ := List.mem_iff_getElem?.1 ho
    exact ⟨i, o, hi, hd⟩
  · rintro ⟨i, o, hi, hd⟩
    exact ⟨o, List.mem_of_getElem? hi, hd⟩
theorem region_stp {id : Nat} {Q : Exit → Act → World → Prop} {w : World} (V : Nat → World → Value → Prop) (G : (Nat → Bool) → World → (Nat → Value) → Prop) (R : Nat → World → World → Prop)
    (hm : P.follows .mixedOrders = true) (hE : edgesLow .any l = true) (hn : decide (dsts l).Nodup = true) (hs : (dsts l).all (fun k => Nat.blt k arr.size) = true)
    (h0 : ∀ f, G (fun _ => false) w.drew f)
    (stab : ∀ i j w w' v (o : Oper), l[j]? = some o → i ≠ j → (waits o i) = false → R i w w' → V j w v → V j w' v)
    (steps : StepsG P V G R l arr 0 l)
    (fin : ∀ L f w, (∀ i, i < l.length → L i = true) → G L w f → (∀ i, i < l.length → V i w (f i)) → Q .normal (fillD 0 l f ⟨arr, []⟩) w) : (Code.region id l.toArray true).wp P Q ⟨arr, []⟩ w := by
  have hn' : (dsts l).Nodup := of_decide_eq_true hn
  have hs' : ∀ k ∈ dsts l, k < arr.size := fun k hk => Nat.le_of_ble_eq_true (List.all_eq_true.1 hs k hk)
  have uniq : ∀ (i j : Nat) (o o' : Oper) (k : Nat), l[i]? = some o → l[j]? = some o' → o.dst = some k → o'.dst = some k → i = j := by
    intro i j o o' k hi hj hdi hdj
    have h1 := fillD_at l 0 (fun n => .int .i64 (n : Nat)) ⟨arr, []⟩ hn' i o k hi hdi (hs' k (mem_dsts.2 ⟨i, o, hi, hdi⟩))
    have h2 := fillD_at l 0 (fun n => .int .i64 (n : Nat)) ⟨arr, []⟩ hn' j o' k hj hdj (hs' k (mem_dsts.2 ⟨i, o, hi, hdi⟩))
    rw [h1] at h2
    simp at h2
    omega
  refine region_inv (fun L a w => ∃ f, a.defers = [] ∧ a.tmps.size = arr.size ∧ G L w f ∧ (∀ k, k ∉ dsts l → a.tmps[k]? = arr[k]?) ∧ (∀ (j : Nat) (o : Oper) (k : Nat), l[j]? = some o → o.dst = some k → a.tmps[k]? = if L j = true then some (f j) else arr[k]?) ∧ ∀ i, L i = true → ∃ (o : Oper), l[i]? = some o ∧ (∀ e ∈ o.after, Region.binds .any e = true → L e.on = true) ∧ V i w (f i)) hm hE ⟨fun _ => undef, rfl, rfl, h0 _, fun _ _ => rfl, fun j o k _ _ => by simp, nofun⟩ ?_ ?_
  · rintro L a w i o ho hL hp ⟨f, hdf, hsz, hG, hlow, hat, hV⟩
    have st := StepsG.get l 0 steps i o ho
    rw [Nat.zero_add] at st
    refine wpOp_mono ?_ (st L f a w Q hL hG hsz (fun k hk => ?_) (fun j k hj => ?_) (fun j q hq hj => ?_) (fun j hj => ?_))
    · rintro a' w' ⟨v, rfl, hG', hR, hVi⟩
      refine ⟨upd f i v, ?_, ?_, hG', fun k hk => ?_, fun j oj k hoj hdj => ?_, fun j hj => ?_⟩
      · rw [← hdf]; cases o.dst <;> rfl
      · rw [put_size, hsz]
      · rw [← hlow k hk]
        cases hd : o.dst with
        | none => rfl
        | some d =>
          have : d ≠ k := fun e => hk (mem_dsts.2 ⟨i, o, ho, by rw [hd, e]⟩)
          simp [Act.put, Array.getElem?_setIfInBounds, this]
      · by_cases hji : j = i
        · subst hji
          obtain rfl : o = oj := Option.some.inj (ho.symm.trans hoj)
          have hks := hs' k (mem_dsts.2 ⟨j, o, ho, hdj⟩)
          simp [hdj, Act.put, hsz, hks, upd]
        · have h1 := hat j oj k hoj hdj
          have h2 : (a.put o.dst v).tmps[k]? = a.tmps[k]? := by
            cases hd : o.dst with
            | none => rfl
            | some d =>
              have : d ≠ k := fun e => hji (uniq j i oj o k hoj ho hdj (by rw [hd, e]))
              simp [Act.put, Array.getElem?_setIfInBounds, this]
          have h3 : (j == i || L j) = L j := by simp [hji]
          show _ = if (j == i || L j) = true then some (upd f i v j) else arr[k]?
          rw [h2, h1, h3, upd_ne _ _ _ _ hji]
      · by_cases hji : j = i
        · subst hji
          refine ⟨o, ho, fun e he hb => by have := hp e he hb; simp [this], ?_⟩
          rw [upd_same]
          exact hVi
        · have hLj : L j = true := by simpa [hji] using hj
          obtain ⟨oj, h1, h2, h3⟩ := hV j hLj
          refine ⟨oj, h1, fun e he hb => by have := h2 e he hb; simp [this], ?_⟩
          rw [upd_ne _ _ _ _ hji]
          refine stab i j w w' _ oj h1 (Ne.symm hji) ?_ hR h3
          rw [Bool.eq_false_iff]
          intro hany
          obtain ⟨e, hem, he⟩ := waits_spec hany
          have := h2 _ hem he.2
          rw [he.1, hL] at this
          cases this
    · rw [Array.getD_eq_getD_getElem?, Array.getD_eq_getD_getElem?, hlow k (by simpa using hk)]
    · cases hoj : l[j]? with
      | none => rw [hoj] at hj; cases hj
      | some o' =>
        rw [hoj] at hj
        simp only [Bool.and_eq_true, beq_iff_eq] at hj
        have hLj : L j = false := by
          rcases Bool.or_eq_true _ _ ▸ hj.2 with h | h
          · rw [beq_iff_eq.1 h]; exact hL
          · cases hLj : L j with
            | false => rfl
            | true =>
              obtain ⟨oj, h1, h2, _⟩ := hV j hLj
              obtain rfl : o' = oj := Option.some.inj (hoj.symm.trans h1)
              obtain ⟨e, hem, he⟩ := waits_spec h
              have := h2 _ hem he.2
              rw [he.1, hL] at this
              cases this
        have := hat j o' k hoj hj.1
        rw [hLj] at this
        rw [Array.getD_eq_getD_getElem?, Array.getD_eq_getD_getElem?, this]
        rfl
    · cases hoj : l[j]? with
      | none => rw [hoj] at hj; cases hj
      | some o' =>
        rw [hoj] at hj
        cases hLj : L j with
        | false => rfl
        | true =>
          obtain ⟨oj, h1, h2, _⟩ := hV j hLj
          obtain rfl : o' = oj := Option.some.inj (hoj.symm.trans h1)
          obtain ⟨e, hem, he⟩ := waits_spec (by simpa using hj)
          have := h2 _ hem he.2
          rw [he.1, hq] at this
          cases this
    · obtain ⟨e, hem, he⟩ := waits_spec hj
      have hLj := hp _ hem he.2
      rw [he.1] at hLj
      obtain ⟨oj, h1, _, h3⟩ := hV j hLj
      refine ⟨hLj, h3, fun k hk => ?_⟩
      rw [h1] at hk
      have := hat j oj k h1 hk
      rw [hLj, if_pos rfl] at this
      rw [Array.getD_eq_getD_getElem?, this]
      rfl
  · rintro L a w hL ⟨f, hdf, hsz, hG, hlow, hat, hV⟩
    have ha : a = fillD 0 l f ⟨arr, []⟩ := by
      obtain ⟨t, d⟩ := a
      have h1 : (fillD 0 l f ⟨arr, []⟩).defers = d := by rw [fillD_defers]; exact hdf.symm
      have h2 : t = (fillD 0 l f ⟨arr, []⟩).tmps := by
        apply Array.ext_getElem?
        intro k
        by_cases hk : k ∈ dsts l
        · obtain ⟨i, o, ho, hd⟩ := mem_dsts.1 hk
          have h3 := hat i o k ho hd
          rw [hL i (List.getElem?_eq_some_iff.1 ho).1, if_pos rfl] at h3
          rw [fillD_at l 0 f ⟨arr, []⟩ hn' i o k ho hd (hs' k hk), Nat.zero_add]
          exact h3
        · rw [fillD_other l 0 f _ k hk]
          exact hlow k hk
      cases hx : fillD 0 l f ⟨arr, []⟩ with
      | mk t2 d2 => rw [hx] at h1 h2; simp only at h1 h2; rw [h1, h2]
    subst ha
    exact fin L f w hL hG fun i hi => by obtain ⟨_, _, _, h⟩ := hV i (hL i hi); exact h
theorem wanted_of {o : Oper} {a : Act} {j k : Nat} {want b : Bool} (hg : o.guard = some (j, want)) (hd : l[j]?.bind (·.dst) = some k) (he : a.tmps.getD k undef = .bool b) : Region.wanted o (yielded l.toArray a.tmps) = (b == want) := by
  unfold Region.wanted
  rw [hg]
  have h1 : (l.toArray[j]?).bind (·.dst) = some k := by simpa using hd
  have h2 : a.tmps[k]? = some (.bool b) := by
    rw [Array.getD_eq_getD_getElem?] at he
    cases hk : a.tmps[k]? with
    | none => rw [hk] at he; simp [undef] at he
    | some v => rw [hk] at he; exact congrArg some he
  simp only [yielded, h1, Option.bind_some, h2]
  first | rfl | (cases b <;> cases want <;> rfl)
end
end Go.Sac
