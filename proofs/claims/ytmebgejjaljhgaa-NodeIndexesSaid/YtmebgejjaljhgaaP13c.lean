/- Plain: pointers that are indexed are read as they were. -/
import Derived.Test.YtmebgejjaljhgaaN13LawDecodes
namespace Go.Proofs.Ytmebgejjaljhgaa
open Go.RowKit Go.Sac
set_option linter.unusedVariables false
set_option linter.unusedSimpArgs false

theorem pflat_len4 (l : List Int) (k : Nat) (h : k ≤ l.length) : (pflat l k).length = 4 * k := by
  unfold pflat
  have key : ∀ m : List Int, ((m.map fun n => putB n.toNat 4).flatten).length = 4 * m.length := by
    intro m
    induction m with
    | nil => rfl
    | cons x r ih => rw [List.map_cons, List.flatten_cons, List.length_append, putB_len, ih, List.length_cons]; omega
  rw [key, List.length_take]
  omega
theorem pflat_fld (l : List Int) (n : Nat) (hn : n ≤ l.length) : ∀ k, (hk : k < n) → ∀ r, ((pflat l n ++ r).drop (4 * k)).take 4 = putB (l[k]'(by omega)).toNat 4 := by
  induction n with
  | zero => intro k h; omega
  | succ n ih =>
    intro k hk r
    rw [pflat_step l n (by omega), List.append_assoc]
    rcases (show k < n ∨ k = n by omega) with h | rfl
    · exact ih (by omega) k h _
    · rw [List.drop_left' (pflat_len4 l k (by omega)), List.take_left' (putB_len _ _)]
theorem num_zeros (k : Nat) : num (List.replicate k 0) = 0 := by
  induction k with
  | zero => rfl
  | succ k ih => rw [List.replicate_succ, num_cons, ih]; simp
theorem idxB_yes {l : List Int} (h : idxP l = true) : idxB l = pflat l l.length ++ List.replicate (256 - 4 * l.length) 0 ∧ l.length ≤ 64 := by
  have h64 : l.length ≤ 64 := by
    unfold idxP at h
    rw [Bool.and_eq_true] at h
    exact of_decide_eq_true h.1
  refine ⟨?_, h64⟩
  rw [(idx_yes h).1]
  unfold padB
  rw [pflat_len4 l l.length (Nat.le_refl _)]
  rfl
theorem idx_in {l : List Int} (h : idxP l = true) (k : Nat) (hk : k < l.length) : ptrP l[k] := by
  unfold idxP at h
  rw [Bool.and_eq_true, List.all_eq_true] at h
  exact of_decide_eq_true (h.2 _ (List.getElem_mem hk))
theorem fldP_idx {l : List Int} (h : idxP l = true) (k : Nat) (hk : k < 64) : (fldP (idxB l) k : Int) = (l ++ List.replicate (64 - l.length) 0).getD k 0 := by
  obtain ⟨e, h64⟩ := idxB_yes h
  unfold fldP
  have h4 : (((idxB l).drop (4 * k)).take 4).length ≤ 4 := by rw [List.length_take]; omega
  rw [getB_small _ (by omega), e]
  by_cases hlt : k < l.length
  · have hin := idx_in h k hlt
    unfold ptrP at hin
    rw [pflat_fld l l.length (Nat.le_refl _) k hlt, num_putB, Nat.mod_eq_of_lt (by omega), List.getD_eq_getElem?_getD, List.getElem?_append_left hlt, List.getElem?_eq_getElem hlt]
    show ((l[k].toNat : Nat) : Int) = l[k]
    omega
  · have e2 : ((pflat l l.length ++ List.replicate (256 - 4 * l.length) (0 : UInt8)).drop (4 * k)).take 4 = List.replicate 4 0 := by
      rw [List.drop_append, List.drop_of_length_le (by rw [pflat_len4 l l.length (Nat.le_refl _)]; omega), List.nil_append, pflat_len4 l l.length (Nat.le_refl _), List.drop_replicate, List.take_replicate]
      congr 1
      omega
    rw [e2, num_zeros, List.getD_eq_getElem?_getD, List.getElem?_append_right (by omega), List.getElem?_replicate]
    split <;> rfl
theorem pts_idx {l : List Int} (h : idxP l = true) : ptsL (idxB l) = l ++ List.replicate (64 - l.length) 0 ∧ ptsE (idxB l) = 0 := by
  obtain ⟨e, h64⟩ := idxB_yes h
  have hlen : (idxB l).length = 256 := by rw [e, List.length_append, pflat_len4 l l.length (Nat.le_refl _), List.length_replicate]; omega
  have hp : ptsP (idxB l) = true := pts_good hlen fun j hj => by
    rw [fldP_idx h j hj]
    by_cases hlt : j < l.length
    · rw [List.getD_eq_getElem?_getD, List.getElem?_append_left hlt, List.getElem?_eq_getElem hlt]
      exact idx_in h j hlt
    · rw [List.getD_eq_getElem?_getD, List.getElem?_append_right (by omega), List.getElem?_replicate]
      split <;> exact ⟨by decide, by decide⟩
  refine ⟨?_, (pts_yes hp).2⟩
  rw [(pts_yes hp).1]
  apply List.ext_getElem
  · rw [ptrL_len, List.length_append, List.length_replicate]; omega
  · intro i h1 h2
    rw [ptrL_len] at h1
    have e1 := ptrL_at (idxB l) 64 i h1
    have e2 := fldP_idx h i h1
    rw [e2, List.getElem?_eq_getElem (by rw [ptrL_len]; exact h1), List.getD_eq_getElem?_getD, List.getElem?_eq_getElem h2] at e1
    exact Option.some.inj e1
end Go.Proofs.Ytmebgejjaljhgaa
