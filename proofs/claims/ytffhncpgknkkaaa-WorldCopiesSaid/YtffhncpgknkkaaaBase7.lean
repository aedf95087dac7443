/- BASE7: a region that draws its order, by an invariant: what holds when so many of its operations have come up. No program in it. -/
import Derived.Orders
import Derived.Test.YtffhncpgknkkaaaBase6
namespace Go.Sac
open Go.RowKit
set_option linter.unusedVariables false
set_option linter.unusedSimpArgs false

def liP (listed : Array Bool) (n i : Nat) : Bool := decide (i < n) && listed.getD i false
theorem wpAny_inv {P : Program} {ops : Array Oper} {Q : Exit → Act → World → Prop} {md : Region.Mode} (I : (Nat → Bool) → Act → World → Prop)
    (hE : ∀ i o, ops[i]? = some o → ∀ e ∈ o.after, Region.binds md e = true → e.on < i)
    (step : ∀ L a w i o, ops[i]? = some o → L i = false → (∀ e ∈ o.after, Region.binds md e = true → L e.on = true) → I L a w → wpOp P ops Q i (I (fun j => j == i || L j)) a w)
    (fin : ∀ L a w, (∀ i, i < ops.size → L i = true) → I L a w → Q .normal a w) :
    ∀ (fuel : Nat) (listed : Array Bool) (a : Act) (w : World), listed.size = ops.size → ((List.range ops.size).filter fun i => !listed.getD i true).length ≤ fuel → I (fun j => listed.getD j false) a w → wpAny P md ops Q fuel listed a w := by
  have hall : ∀ (listed : Array Bool), listed.size = ops.size → Region.ready md ops listed = [] → ∀ i, i < ops.size → listed.getD i false = true := by
    intro listed hs hr
    have key : ∀ n i, i < n → i < ops.size → listed.getD i false = true := by
      intro n
      induction n with
      | zero => intro i h; omega
      | succ n ih =>
        intro i hi hlt
        cases hb : listed.getD i false with
        | true => rfl
        | false =>
          exfalso
          have hm : i ∈ Region.ready md ops listed := by
            refine mem_ready.2 ⟨?_, ops[i], Array.getElem?_eq_getElem hlt, ?_⟩
            · rw [Array.getD_eq_getD_getElem?, Array.getElem?_eq_getElem (by omega)] at hb ⊢
              simpa using hb
            · intro e he hbd
              have := hE i _ (Array.getElem?_eq_getElem hlt) e he hbd
              exact ih e.on (by omega) (by omega)
          rw [hr] at hm
          cases hm
    exact fun i hi => key (i + 1) i (by omega) hi
  intro fuel
  induction fuel with
  | zero =>
    intro listed a w hs hc hI
    have hr : Region.ready md ops listed = [] := by
      have h0 : ((List.range ops.size).filter fun i => !listed.getD i true) = [] := List.eq_nil_of_length_eq_zero (by omega)
      apply List.eq_nil_iff_forall_not_mem.2
      intro i hi
      have h1 := (mem_ready.1 hi)
      obtain ⟨h1, o, h2, _⟩ := h1
      have : i ∈ ((List.range ops.size).filter fun i => !listed.getD i true) := by
        rw [List.mem_filter]
        exact ⟨List.mem_range.2 (Array.getElem?_eq_some_iff.1 h2).1, by rw [h1]; rfl⟩
      rw [h0] at this
      cases this
    exact ⟨hr, fin _ a w (hall listed hs hr) hI⟩
  | succ fuel ih =>
    intro listed a w hs hc hI
    refine ⟨fun hr => fin _ a w (hall listed hs hr) hI, fun i hi => ?_⟩
    obtain ⟨h1, o, h2, h3⟩ := mem_ready.1 hi
    have hlt : i < ops.size := (Array.getElem?_eq_some_iff.1 h2).1
    have hLi : listed.getD i false = false := by
      rw [Array.getD_eq_getD_getElem?, Array.getElem?_eq_getElem (by omega)] at h1 ⊢
      simpa using h1
    refine wpOp_mono (fun a' w' h => ?_) (step (fun j => listed.getD j false) a w i o h2 hLi h3 hI)
    refine ih (listed.setIfInBounds i true) a' w' (by simpa using hs) ?_ ?_
    · have hle : ((List.range ops.size).filter fun j => !(listed.setIfInBounds i true).getD j true).length < ((List.range ops.size).filter fun j => !listed.getD j true).length := by
        have e : ((List.range ops.size).filter fun j => !(listed.setIfInBounds i true).getD j true) = (((List.range ops.size).filter fun j => !listed.getD j true)).filter (fun j => !(j == i)) := by
          rw [List.filter_filter]
          apply List.filter_congr
          intro j hj
          by_cases hji : j = i
          · subst hji
            simp [Array.getD_eq_getD_getElem?, Array.getElem?_setIfInBounds, hs, hlt]
          · have : (j == i) = false := by simpa using hji
            simp [Array.getD_eq_getD_getElem?, Array.getElem?_setIfInBounds, Ne.symm hji, this]
        rw [e]
        refine List.length_filter_lt_length_iff_exists.2 ⟨i, ?_, by simp⟩
        rw [List.mem_filter]
        exact ⟨List.mem_range.2 hlt, by rw [h1]; rfl⟩
      omega
    · have e : (fun j => (listed.setIfInBounds i true).getD j false) = (fun j => j == i || listed.getD j false) := by
        funext j
        by_cases hji : j = i
        · subst hji
          simp [Array.getD_eq_getD_getElem?, Array.getElem?_setIfInBounds, hs, hlt]
        · have : (j == i) = false := by simpa using hji
          simp [Array.getD_eq_getD_getElem?, Array.getElem?_setIfInBounds, Ne.symm hji, this]
      rw [e]
      exact h
def edgesLow (md : Region.Mode) (l : List Oper) : Bool := (List.range l.length).all fun i => match l[i]? with
  | none => true
  | some o => o.after.all fun e => !Region.binds md e || decide (e.on < i)
theorem edgesLow_spec {md : Region.Mode} {l : List Oper} (h : edgesLow md l = true) : ∀ i o, l.toArray[i]? = some o → ∀ e ∈ o.after, Region.binds md e = true → e.on < i := by
  intro i o ho e he hb
  have ho' : l[i]? = some o := by simpa using ho
  have hi : i < l.length := (List.getElem?_eq_some_iff.1 ho').1
  have h1 := List.all_eq_true.1 h i (List.mem_range.2 hi)
  simp only [ho'] at h1
  have h2 := Array.all_eq_true_iff_forall_mem.1 h1 e he
  rw [hb] at h2
  simpa using h2
/-- The region by its invariant. -/
theorem region_inv {P : Program} {id : Nat} {Q : Exit → Act → World → Prop} {a : Act} {w : World} {l : List Oper} (I : (Nat → Bool) → Act → World → Prop) (hm : P.follows .mixedOrders = true) (hE : edgesLow .any l = true)
    (h0 : I (fun _ => false) a w.drew)
    (step : ∀ L a w i o, l[i]? = some o → L i = false → (∀ e ∈ o.after, Region.binds .any e = true → L e.on = true) → I L a w → wpOp P l.toArray Q i (I (fun j => j == i || L j)) a w)
    (fin : ∀ L a w, (∀ i, i < l.length → L i = true) → I L a w → Q .normal a w) : (Code.region id l.toArray true).wp P Q a w := by
  refine wp_region_any hm (wpAny_inv I (edgesLow_spec hE) (fun L a w i o ho hL hp hI => step L a w i o (by simpa using ho) hL hp hI) (fun L a w hL hI => fin L a w (by simpa using hL) hI) _ (Array.replicate l.toArray.size false) a w.drew (by simp) ?_ ?_)
  · exact Nat.le_trans (List.length_filter_le _ _) (by simp)
  · have e : (fun j => (Array.replicate l.toArray.size false).getD j false) = fun _ => false := by
      funext j
      simp only [Array.getD_eq_getD_getElem?, Array.getElem?_replicate]
      split <;> rfl
    rw [e]
    exact h0
/-- One operation that comes up, wanted. -/
theorem wpOp_go {P : Program} {ops : Array Oper} {Q : Exit → Act → World → Prop} {i : Nat} {K : Act → World → Prop} {a : Act} {w : World} {o : Oper} (ho : ops[i]? = some o) (hw : Region.wanted o (yielded ops a.tmps) = true) (h : o.wp P a w K Q) : wpOp P ops Q i K a w := by
  unfold wpOp
  simp only [ho, hw, if_true]
  exact .inl h
theorem wpOp_past {P : Program} {ops : Array Oper} {Q : Exit → Act → World → Prop} {i : Nat} {K : Act → World → Prop} {a : Act} {w : World} {o : Oper} (ho : ops[i]? = some o) (hw : Region.wanted o (yielded ops a.tmps) = false) (h : K (a.put o.dst undef) w) : wpOp P ops Q i K a w := by
  unfold wpOp
  simp only [ho, hw, Bool.false_eq_true, if_false]
  exact h
end Go.Sac
