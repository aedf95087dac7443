/- Plain: paths printed and read again. -/
import Derived.Test.YtncagcbdgimpfaaDoorT15Known
namespace Go.Proofs.YtncagcbdgimpfaaDoor
open Go.RowKit Go.Sac
set_option linter.unusedVariables false
set_option linter.unusedSimpArgs false

theorem splitL_app (a b : List UInt8) : splitL (a ++ 47 :: b) = splitL a ++ splitL b := by
  induction a with
  | nil => simp [splitL]
  | cons c a ih =>
    rw [List.cons_append, splitL, splitL]
    split
    · rw [ih]; rfl
    · rw [ih]
      rcases hs : splitL a with _ | ⟨p, r⟩
      · exact absurd hs (split_ne a)
      · rfl
theorem parts_app (a b : List UInt8) : partsL (a ++ 47 :: b) = partsL a ++ partsL b := by
  unfold partsL; rw [splitL_app, List.filter_append]
theorem split_free (l : List UInt8) : ∀ p ∈ splitL l, ∀ c ∈ p, c ≠ 47 := by
  induction l with
  | nil => intro p hp; simp [splitL] at hp; subst hp; simp
  | cons c l ih =>
    rw [splitL]
    split
    · intro p hp
      rcases List.mem_cons.1 hp with rfl | hp
      · simp
      · exact ih p hp
    · rename_i hc
      rcases hs : splitL l with _ | ⟨q, r⟩
      · exact absurd hs (split_ne l)
      · rw [hs] at ih
        intro p hp
        rcases List.mem_cons.1 hp with rfl | hp
        · intro x hx
          rcases List.mem_cons.1 hx with rfl | hx
          · exact hc
          · exact ih q (by simp) x hx
        · exact ih p (by simp [hp])
theorem parts_free {l p : List UInt8} (h : p ∈ partsL l) : (∀ c ∈ p, c ≠ 47) ∧ keepP p = true := by
  unfold partsL at h
  rw [List.mem_filter] at h
  exact ⟨split_free l p h.1, h.2⟩
theorem parts_one {p : List UInt8} (h : ∀ c ∈ p, c ≠ 47) (hk : keepP p = true) : partsL p = [p] := by
  unfold partsL; rw [split_none p h, List.filter_cons, if_pos hk]; rfl
theorem join_two (p q : List UInt8) (r : List (List UInt8)) : Lib.join (p :: q :: r) [47] = p ++ 47 :: Lib.join (q :: r) [47] := by
  rw [Lib.join_cons, Lib.join_cons]; simp [Lib.joinTail]
/-- what was cut and put together is cut as before -/
theorem parts_join : ∀ (ps : List (List UInt8)), (∀ p ∈ ps, (∀ c ∈ p, c ≠ 47) ∧ keepP p = true) → partsL (Lib.join ps [47]) = ps
  | [], _ => by rw [Lib.join_nil]; decide
  | [p], h => by rw [Lib.join_one]; exact parts_one (h p (by simp)).1 (h p (by simp)).2
  | p :: q :: r, h => by
    rw [join_two, parts_app, parts_one (h p (by simp)).1 (h p (by simp)).2, parts_join (q :: r) (fun x hx => h x (by simp at hx ⊢; exact Or.inr hx))]; rfl
theorem join_first (ps : List (List UInt8)) (h : ∀ p ∈ ps, (∀ c ∈ p, c ≠ 47) ∧ keepP p = true) (hn : ps ≠ []) : ∃ c r, Lib.join ps [47] = c :: r ∧ c ≠ 47 := by
  rcases ps with _ | ⟨p, r⟩
  · exact absurd rfl hn
  · obtain ⟨h1, h2⟩ := h p (by simp)
    rcases p with _ | ⟨c, p⟩
    · simp [keepP] at h2
    · exact ⟨c, p ++ Lib.joinTail [47] r, by rw [Lib.join_cons]; rfl, h1 c (by simp)⟩
theorem names_data {l : List UInt8} (h : okL l = true) : (namesL l).map (·.data.toList) = partsL l := by
  unfold namesL
  rw [if_pos h, List.map_map, show (fun (x : ByteArray) => x.data.toList) ∘ mkS = id from by funext m; simp [mkS], List.map_id]
theorem ok_good {l : List UInt8} (h : okL l = true) : (partsL l).all goodP = true ∧ l.length ≤ 200 ∧ l ≠ [] := by
  unfold okL at h
  simp only [Bool.and_eq_true, decide_eq_true_eq] at h
  exact ⟨h.2.2, h.2.1, by rintro rfl; simp at h⟩
theorem ok_of {l : List UInt8} (h1 : (partsL l).all goodP = true) (h2 : l.length ≤ 200) (h3 : l ≠ []) : okL l = true := by
  unfold okL
  rw [h1]
  simp [h2, h3]
/-- what Parse says of a text, in one law: the same parts, the same beginning -/
theorem read_same {l m : List UInt8} (h : okL l = true) (hm : okL m = true) (hp : partsL m = partsL l) (ha : absL m = absL l) : absR m = absR l ∧ errR m = 0 ∧ namesL m = namesL l := by
  refine ⟨by unfold absR; rw [h, hm, ha], by unfold errR; rw [if_pos hm], by unfold namesL; rw [if_pos hm, if_pos h, hp]⟩
theorem print_back {l : List UInt8} (h : okL l = true) (hl : l.length ≤ 190) : absR (printL (absR l) (namesL l)) = absR l ∧ errR (printL (absR l) (namesL l)) = 0 ∧ namesL (printL (absR l) (namesL l)) = namesL l := by
  obtain ⟨g1, g2, g3⟩ := ok_good h
  have hfree : ∀ p ∈ partsL l, (∀ c ∈ p, c ≠ 47) ∧ keepP p = true := fun p hp => parts_free hp
  have hj : joinL (namesL l) = Lib.join (partsL l) [47] := by unfold joinL; rw [names_data h]
  have hlen : (Lib.join (partsL l) [47]).length ≤ l.length + 1 := by
    have h1 := tot_join (namesL l)
    rw [names_data h, hj] at h1
    have h2 := tot_filter keepP (splitL l)
    rw [tot_split] at h2
    unfold partsL at h1 ⊢
    omega
  have ha : absR l = absL l := by unfold absR; rw [h, Bool.true_and]
  have key : partsL (printL (absR l) (namesL l)) = partsL l ∧ absL (printL (absR l) (namesL l)) = absL l ∧ (printL (absR l) (namesL l)).length ≤ 200 ∧ printL (absR l) (namesL l) ≠ [] := by
    unfold printL
    rw [hj, ha]
    cases hb : absL l
    · rw [if_neg (by simp)]
      by_cases he : partsL l = []
      · rw [he, Lib.join_nil, if_pos rfl]
        refine ⟨by decide, by decide, by simp, by simp⟩
      · obtain ⟨c, r, e, hc⟩ := join_first _ hfree he
        rw [if_neg (by rw [e]; simp)]
        refine ⟨parts_join _ hfree, ?_, by omega, by rw [e]; simp⟩
        rw [e]
        exact beq_eq_false_iff_ne.2 hc
    · rw [if_pos rfl]
      refine ⟨?_, rfl, by rw [List.length_cons]; omega, by simp⟩
      have := parts_app [] (Lib.join (partsL l) [47])
      rw [List.nil_append] at this
      rw [this, parts_join _ hfree, show partsL [] = [] by decide, List.nil_append]
  obtain ⟨k1, k2, k3, k4⟩ := key
  exact read_same h (ok_of (by rw [k1]; exact g1) k3 k4) k1 k2
theorem dots_back {l : List UInt8} (h : okL l = true) (hl : l.length ≤ 190) : absR (l ++ [47, 47, 46, 47]) = absR l ∧ errR (l ++ [47, 47, 46, 47]) = 0 ∧ namesL (l ++ [47, 47, 46, 47]) = namesL l := by
  obtain ⟨g1, g2, g3⟩ := ok_good h
  have hp : partsL (l ++ [47, 47, 46, 47]) = partsL l := by
    rw [parts_app, show partsL [47, 46, 47] = [] by decide, List.append_nil]
  refine read_same h (ok_of (by rw [hp]; exact g1) (by simp; omega) (by simp)) hp ?_
  rcases l with _ | ⟨c, l⟩
  · exact absurd rfl g3
  · rfl
theorem slash_join {l m : List UInt8} (h : okL l = true) (k : okL m = true) (hl : l.length + m.length ≤ 199) : absR (l ++ 47 :: m) = absR l ∧ errR (l ++ 47 :: m) = 0 ∧ namesL (l ++ 47 :: m) = namesL l ++ namesL m := by
  obtain ⟨g1, g2, g3⟩ := ok_good h
  obtain ⟨q1, q2, q3⟩ := ok_good k
  have hp := parts_app l m
  have hok : okL (l ++ 47 :: m) = true := ok_of (by rw [hp, List.all_append, g1, q1]; rfl) (by simp; omega) (by simp)
  refine ⟨?_, by unfold errR; rw [if_pos hok], by unfold namesL; rw [if_pos hok, if_pos h, if_pos k, hp, List.map_append]⟩
  unfold absR
  rw [hok, h]
  rcases l with _ | ⟨c, l⟩
  · exact absurd rfl g3
  · rfl
end Go.Proofs.YtncagcbdgimpfaaDoor
