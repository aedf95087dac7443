/- BASE16: a region that draws its order, whose operations write one window of the frame: each step sees an act, no frame written out. No program in it. -/
import Derived.Test.YtffhncpgknkkaaaBase15
namespace Go.Sac
open Go.RowKit
set_option linter.unusedVariables false
set_option linter.unusedSimpArgs false

/-- does the operation come up, where operation q yields (val q)? -/
def goOf (val : Nat → Value) (o : Oper) : Option Bool :=
  match o.guard with
  | none => some true
  | some (j, want) => match val j with
    | .bool b => some (b == want)
    | _ => none
def guardIn (o : Oper) : Bool :=
  match o.guard with
  | none => true
  | some (j, _) => o.after.any fun e => e.on == j && Region.binds .any e
/-- one operation's step: it is passed by, or it yields (val i) -/
def StepAt (P : Program) (val : Nat → Value) (G : World → Prop) (low : List (Nat × Value)) (s i : Nat) (o : Oper) : Prop :=
  (goOf val o = some false ∧ val i = undef) ∨ (goOf val o = some true ∧ ∀ (Q : Exit → Act → World → Prop) (a : Act) (w : World), G w → (∀ p ∈ low, a.tmps.getD p.1 undef = p.2) → (∀ e ∈ o.after, Region.binds .any e = true → a.tmps.getD (s + e.on) undef = val e.on) → o.wp P a w (fun a' w' => ∃ v, a' = a.put o.dst v ∧ G w' ∧ v = val i) Q)
def StepsAt (P : Program) (val : Nat → Value) (G : World → Prop) (low : List (Nat × Value)) (s : Nat) : Nat → List Oper → Prop
  | _, [] => True
  | i, o :: t => StepAt P val G low s i o ∧ StepsAt P val G low s (i + 1) t
theorem StepsAt.nil {P : Program} {val : Nat → Value} {G : World → Prop} {low : List (Nat × Value)} {s i : Nat} : StepsAt P val G low s i [] := trivial
theorem StepsAt.cons {P : Program} {val : Nat → Value} {G : World → Prop} {low : List (Nat × Value)} {s i : Nat} {o : Oper} {t : List Oper} (h : StepAt P val G low s i o) (h' : StepsAt P val G low s (i + 1) t) : StepsAt P val G low s i (o :: t) := ⟨h, h'⟩
theorem StepAt.past {P : Program} {val : Nat → Value} {G : World → Prop} {low : List (Nat × Value)} {s i : Nat} {o : Oper} (h : goOf val o = some false) (h' : val i = undef) : StepAt P val G low s i o := .inl ⟨h, h'⟩
theorem StepAt.go {P : Program} {val : Nat → Value} {G : World → Prop} {low : List (Nat × Value)} {s i : Nat} {o : Oper} (h : goOf val o = some true) (h' : ∀ (Q : Exit → Act → World → Prop) (a : Act) (w : World), G w → (∀ p ∈ low, a.tmps.getD p.1 undef = p.2) → (∀ e ∈ o.after, Region.binds .any e = true → a.tmps.getD (s + e.on) undef = val e.on) → o.wp P a w (fun a' w' => ∃ v, a' = a.put o.dst v ∧ G w' ∧ v = val i) Q) : StepAt P val G low s i o := .inr ⟨h, h'⟩
theorem StepsAt.get {P : Program} {val : Nat → Value} {G : World → Prop} {low : List (Nat × Value)} {s : Nat} : ∀ (l : List Oper) (n : Nat), StepsAt P val G low s n l → ∀ i o, l[i]? = some o → StepAt P val G low s (n + i) o := by
  intro l
  induction l with
  | nil => intro n _ i o h; simp at h
  | cons x t ih =>
    intro n h i o hi
    cases i with
    | zero => simp at hi; subst hi; exact h.1
    | succ i =>
      have := ih (n + 1) h.2 i o (by simpa using hi)
      rwa [show n + 1 + i = n + (i + 1) by omega] at this
theorem getD_of {a : Array Value} {k : Nat} {v : Value} (h : a[k]? = some v) : a.getD k undef = v := by
  rw [Array.getD_eq_getD_getElem?, h]; rfl
theorem region_win {P : Program} {id : Nat} {Q : Exit → Act → World → Prop} {w : World} {l : List Oper} {arr : Array Value} (res : Array Value) (s : Nat) (val : Nat → Value) (G : World → Prop) (low : List (Nat × Value))
    (hm : P.follows .mixedOrders = true) (hE : edgesLow .any l = true) (hd : l.map (·.dst) = (List.range l.length).map fun i => some (s + i)) (hgi : l.all guardIn = true)
    (hs : Nat.ble (s + l.length) arr.size = true) (hlo : low.all (fun p => Nat.blt p.1 s) = true) (hlv : low.map (fun p => arr.getD p.1 undef) = low.map (·.2))
    (hres : res.toList = arr.toList.take s ++ ((List.range l.length).map val ++ arr.toList.drop (s + l.length)))
    (h0 : G w.drew) (steps : StepsAt P val G low s 0 l)
    (fin : ∀ w, G w → Q .normal ⟨res, []⟩ w) : (Code.region id l.toArray true).wp P Q ⟨arr, []⟩ w := by
  have hs' : s + l.length ≤ arr.size := Nat.le_of_ble_eq_true hs
  have hdst : ∀ i o, l[i]? = some o → o.dst = some (s + i) := fun i o ho => by
    have h1 : (l.map (·.dst))[i]? = some o.dst := by rw [List.getElem?_map, ho]; rfl
    rw [hd, List.getElem?_map, List.getElem?_range (List.getElem?_eq_some_iff.1 ho).1] at h1
    exact (Option.some.inj h1).symm
  refine region_inv (fun L a w => a.defers = [] ∧ a.tmps.size = arr.size ∧ (∀ k, k < s ∨ s + l.length ≤ k → a.tmps[k]? = arr[k]?) ∧ G w ∧ ∀ i, L i = true → i < l.length ∧ a.tmps[s + i]? = some (val i)) hm hE ⟨rfl, rfl, fun _ _ => rfl, h0, nofun⟩ ?_ ?_
  · rintro L a w i o ho hL hp ⟨hf, hz, hk, hG, hV⟩
    have hi : i < l.length := (List.getElem?_eq_some_iff.1 ho).1
    have next : ∀ v w', G w' → v = val i → (a.put o.dst v).defers = [] ∧ (a.put o.dst v).tmps.size = arr.size ∧ (∀ k, k < s ∨ s + l.length ≤ k → (a.put o.dst v).tmps[k]? = arr[k]?) ∧ G w' ∧ ∀ j, (j == i || L j) = true → j < l.length ∧ (a.put o.dst v).tmps[s + j]? = some (val j) := by
      rintro v w' hG' rfl
      rw [hdst i o ho]
      refine ⟨hf, ?_, fun k hkk => ?_, hG', fun j hj => ?_⟩
      · simp only [Act.put, Array.size_setIfInBounds]; exact hz
      · simp only [Act.put, Array.getElem?_setIfInBounds]
        rw [if_neg (by omega)]
        exact hk k hkk
      · simp only [Act.put, Array.getElem?_setIfInBounds]
        by_cases hji : j = i
        · subst hji
          refine ⟨hi, ?_⟩
          rw [if_pos rfl, if_pos (by omega)]
        · rw [if_neg (by omega)]
          exact hV j (by simpa [hji] using hj)
    have st := StepsAt.get l 0 steps i o ho
    rw [Nat.zero_add] at st
    have hw : ∀ b, goOf val o = some b → Region.wanted o (yielded l.toArray a.tmps) = b := by
      intro b hb
      have hgo := List.all_eq_true.1 hgi o (List.mem_of_getElem? ho)
      unfold goOf at hb
      unfold guardIn at hgo
      unfold Region.wanted
      cases hg : o.guard with
      | none => rw [hg] at hb; simpa using hb
      | some p =>
        obtain ⟨j, want⟩ := p
        rw [hg] at hb hgo
        simp only at hb hgo ⊢
        obtain ⟨n, hn, hej⟩ : ∃ (i : Nat), ∃ h, (o.after[i]'h).on = j ∧ Region.binds Region.Mode.any o.after[i] = true := by simpa using hgo
        have he : o.after[n] ∈ o.after := Array.getElem_mem hn
        generalize o.after[n] = e at he hej
        obtain ⟨hjl, hjv⟩ := hV _ (hp e he hej.2)
        rw [hej.1] at hjl hjv
        unfold yielded
        obtain ⟨oj, hoj⟩ : ∃ oj, l[j]? = some oj := ⟨_, List.getElem?_eq_getElem hjl⟩
        have hoj' : l.toArray[j]? = some oj := by simpa using hoj
        simp only [hoj', Option.bind_some, hdst j oj hoj, hjv]
        cases hvj : val j <;> rw [hvj] at hb <;> simp at hb ⊢
        subst hb
        first | rfl | (rename_i b; cases b <;> cases want <;> rfl)
    rcases st with ⟨h1, h2⟩ | ⟨h1, h2⟩
    · exact wpOp_past (by simpa using ho) (hw _ h1) (next undef w hG h2.symm)
    · refine wpOp_go (by simpa using ho) (hw _ h1) (Oper.wp_mono ?_ (h2 Q a w hG (fun p hpl => ?_) fun e he hb => getD_of (hV _ (hp e he hb)).2))
      · rintro a' w' ⟨v, rfl, hG', hv⟩
        exact next v w' hG' hv
      · have hps : p.1 < s := by have := List.all_eq_true.1 hlo p hpl; exact Nat.le_of_ble_eq_true this
        rw [Array.getD_eq_getD_getElem?, hk p.1 (.inl hps), ← Array.getD_eq_getD_getElem?]
        exact List.map_inj_left.1 hlv p hpl
  · rintro L a w hL ⟨hf, hz, hk, hG, hV⟩
    have ha : a = ⟨res, []⟩ := by
      obtain ⟨t, d⟩ := a
      simp only at hf hz hk hV
      subst hf
      congr 1
      apply Array.toList_inj.1
      rw [hres]
      apply List.ext_getElem?
      intro k
      rw [Array.getElem?_toList]
      by_cases h1 : k < s
      · rw [hk k (.inl h1), List.getElem?_append_left (by simp; omega), List.getElem?_take_of_lt h1, Array.getElem?_toList]
      · have hlen : (arr.toList.take s).length = s := by simp; omega
        rw [List.getElem?_append_right (by omega), hlen]
        by_cases h2 : k < s + l.length
        · have := (hV (k - s) (hL _ (by omega))).2
          rw [show s + (k - s) = k by omega] at this
          rw [this, List.getElem?_append_left (by simp; omega), List.getElem?_map, List.getElem?_range (by omega)]
          rfl
        · rw [hk k (.inr (by omega)), List.getElem?_append_right (by simp; omega), List.getElem?_drop, Array.getElem?_toList]
          simp only [List.length_map, List.length_range]
          congr 1
          omega
    subst ha
    exact fin w hG
end Go.Sac
