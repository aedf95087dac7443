/- Plain: texts cut at slashes. No program in it. -/
import Derived.Lib.IndexLaws
import Derived.Test.YtncagcbdgimpfaaDoorENamed
namespace Go.Proofs.YtncagcbdgimpfaaDoor
open Go.RowKit Go.Sac
set_option linter.unusedVariables false
set_option linter.unusedSimpArgs false

/-- cut at each slash -/
def splitL : List UInt8 → List (List UInt8)
  | [] => [[]]
  | c :: l => if c = 47 then [] :: splitL l else match splitL l with
    | [] => [[c]]
    | p :: r => (c :: p) :: r
theorem split_ne (l : List UInt8) : splitL l ≠ [] := by
  cases l with
  | nil => simp [splitL]
  | cons c l =>
    rw [splitL]
    split
    · simp
    · split <;> simp
theorem split_none (l : List UInt8) (h : ∀ c ∈ l, c ≠ 47) : splitL l = [l] := by
  induction l with
  | nil => rfl
  | cons c l ih =>
    rw [splitL, if_neg (h c (by simp)), ih (fun c hc => h c (by simp [hc]))]
theorem split_app (p q : List UInt8) (h : ∀ c ∈ p, c ≠ 47) : splitL (p ++ 47 :: q) = p :: splitL q := by
  induction p with
  | nil => simp [splitL]
  | cons c p ih =>
    rw [List.cons_append, splitL, if_neg (h c (by simp)), ih (fun c hc => h c (by simp [hc]))]
theorem split_idx_none (l : List UInt8) (h : Lib.indexByte l 47 = -1) : splitL l = [l] := by
  refine split_none l fun c hc e => ?_
  subst e
  obtain ⟨i, hi⟩ := List.mem_iff_getElem?.1 hc
  exact Lib.indexByte_none h i hi
theorem split_idx (l : List UInt8) (i : Nat) (h : Lib.indexByte l 47 = i) : i < l.length ∧ splitL l = l.take i :: splitL (l.drop (i + 1)) := by
  obtain ⟨h1, h2⟩ := Lib.indexByte_some h
  have hi : i < l.length := (List.getElem?_eq_some_iff.1 h1).1
  have e : l = l.take i ++ 47 :: l.drop (i + 1) := by
    have := List.take_append_drop i l
    rw [List.drop_eq_getElem_cons hi, (List.getElem?_eq_some_iff.1 h1).2] at this
    exact this.symm
  refine ⟨hi, ?_⟩
  conv => lhs; rw [e]
  refine split_app _ _ fun c hc e2 => ?_
  subst e2
  obtain ⟨k, hk⟩ := List.mem_iff_getElem?.1 hc
  rw [List.getElem?_take] at hk
  split at hk
  · exact h2 k (by assumption) hk
  · cases hk
theorem split_len : ∀ (l : List UInt8), (splitL l).length ≤ l.length + 1
  | [] => by simp [splitL]
  | c :: l => by
    have ih := split_len l
    rw [splitL]
    split
    · simp; omega
    · split
      · simp
      · rename_i p r e; rw [e] at ih; simp at ih ⊢; omega
end Go.Proofs.YtncagcbdgimpfaaDoor
