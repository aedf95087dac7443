/- Plain: rows of entries whose names rise. -/
import Derived.Test.YtiloeaenpanjcaaE14RefPut
namespace Go.Proofs.Ytiloeaenpanjcaa
open Go.RowKit Go.Sac
set_option linter.unusedVariables false
set_option linter.unusedSimpArgs false

theorem cmpN_neg (a b : ByteArray) : cmpN a b = - cmpN b a := cb_neg _ _
theorem gt_irrefl (a : ByteArray) : gtN a a = false := by rw [gtN_cmp, (cmpN_eq a a).2 rfl]; rfl
theorem gt_iff (a b : ByteArray) : gtN a b = true ↔ cmpN b a < 0 := by
  rw [gtN_cmp, decide_eq_true_eq, cmpN_neg b a]; omega
theorem gt_trans {a b c : ByteArray} (h1 : gtN b a = true) (h2 : gtN c b = true) : gtN c a = true := by
  rw [gt_iff] at *
  refine cb_le_lt _ _ _ ?_ h2
  have := cmpN_neg b a
  unfold cmpN at *
  omega
theorem gt_total {a b : ByteArray} (hne : a ≠ b) (h : gtN a b = false) : gtN b a = true := by
  rw [gt_iff]
  rw [gtN_cmp, decide_eq_false_iff_not] at h
  have : cmpN a b ≠ 0 := fun e => hne ((cmpN_eq a b).1 e)
  omega
theorem gt_ne {a b : ByteArray} (h : gtN a b = true) : a ≠ b := by rintro rfl; rw [gt_irrefl] at h; cases h
theorem gt_asymm {a b : ByteArray} (h : gtN a b = true) : gtN b a = false := by
  cases h2 : gtN b a with
  | false => rfl
  | true => have := gt_trans h h2; rw [gt_irrefl] at this; cases this
def ltE (a b : Ent) : Prop := gtN b.1 a.1 = true
def Rises (l : List Ent) : Prop := l.Pairwise ltE
theorem rises_nil : Rises [] := List.Pairwise.nil
theorem at_none_iff (l : List Ent) (t : ByteArray) : atE l t = -1 ↔ ∀ y ∈ l, y.1 ≠ t := by
  constructor
  · intro h y hy e
    unfold atE at h
    cases hf : l.findIdx? (fun x => decide (x.1 = t)) with
    | none =>
      have := List.findIdx?_eq_none_iff.1 hf y hy
      simp [e] at this
    | some k => rw [hf] at h; dsimp only at h; omega
  · intro h
    exact atE_none fun j hj => h _ (List.getElem_mem hj)
theorem at_some {l : List Ent} {t : ByteArray} {k : Nat} (h : atE l t = (k : Int)) : ∃ hk : k < l.length, l[k].1 = t := by
  unfold atE at h
  cases hf : l.findIdx? (fun x => decide (x.1 = t)) with
  | none => rw [hf] at h; dsimp only at h; omega
  | some j =>
    rw [hf] at h
    dsimp only at h
    obtain rfl : j = k := by omega
    obtain ⟨h1, h2, _⟩ := List.findIdx?_eq_some_iff_getElem.1 hf
    exact ⟨h1, of_decide_eq_true h2⟩
theorem ins_perm (l : List Ent) (x : Ent) : (insE l x).Perm (x :: l) := by
  unfold insE
  refine List.perm_middle.trans ?_
  rw [List.take_append_drop]
theorem ins_rises {l : List Ent} {x : Ent} (h : Rises l) (ha : atE l x.1 = -1) : Rises (insE l x) := by
  have hna := (at_none_iff _ _).1 ha
  unfold insE
  have hsplit : Rises (l.take (posE l x) ++ l.drop (posE l x)) := by rw [List.take_append_drop]; exact h
  obtain ⟨h1, h2, h3⟩ := List.pairwise_append.1 hsplit
  have hgt : ∀ y ∈ l.drop (posE l x), ltE x y := by
    intro y hy
    obtain ⟨j, hj, rfl⟩ := List.mem_iff_getElem.1 hy
    rw [List.length_drop] at hj
    have hp : posE l x < l.length := by omega
    have hg : gtN l[posE l x].1 x.1 = true := pos_at hp rfl
    rw [List.getElem_drop]
    rcases Nat.eq_zero_or_pos j with rfl | hj0
    · exact hg
    · have := List.pairwise_iff_getElem.1 h (posE l x) (posE l x + j) hp (by omega) (by omega)
      exact gt_trans hg this
  refine List.pairwise_append.2 ⟨h1, List.pairwise_cons.2 ⟨hgt, h2⟩, fun a hA b hb => ?_⟩
  rcases List.mem_cons.1 hb with rfl | hb
  · obtain ⟨i, hi, rfl⟩ := List.mem_iff_getElem.1 hA
    rw [List.length_take] at hi
    rw [List.getElem_take]
    exact gt_total (hna _ (List.getElem_mem (by omega))) (pos_low (by omega) (by omega))
  · exact h3 a hA b hb
theorem drop_rises {l : List Ent} (t : ByteArray) (h : Rises l) : Rises (dropL l t) := by
  unfold dropL
  split
  · exact h.sublist (List.eraseIdx_sublist _ _)
  · exact h
theorem find_ins {l : List Ent} {x : Ent} (ha : atE l x.1 = -1) : findB (insE l x) x.1 = true ∧ findN (insE l x) x.1 = x.2 := by
  have hna := (at_none_iff _ _).1 ha
  rcases atE_ways (insE l x) x.1 with h | ⟨k, h, hk⟩
  · exact absurd rfl ((at_none_iff _ _).1 h x ((ins_perm l x).mem_iff.2 (List.mem_cons_self ..)))
  · obtain ⟨hk, he⟩ := at_some h
    constructor
    · unfold findB; rw [h]; exact decide_eq_true (by omega)
    · unfold findN
      rw [h, if_pos (by omega), Int.toNat_natCast, List.getElem?_eq_getElem hk]
      show (insE l x)[k].2 = x.2
      rcases List.mem_cons.1 ((ins_perm l x).mem_iff.1 (List.getElem_mem hk)) with e | e
      · rw [e]
      · exact absurd he (hna _ e)
theorem rises_inj {l : List Ent} (h : Rises l) {i j : Nat} (hi : i < l.length) (hj : j < l.length) (e : l[i].1 = l[j].1) : i = j := by
  rcases Nat.lt_trichotomy i j with hlt | rfl | hlt
  · exact absurd e.symm (gt_ne (List.pairwise_iff_getElem.1 h i j hi hj hlt))
  · rfl
  · exact absurd e (gt_ne (List.pairwise_iff_getElem.1 h j i hj hi hlt))
theorem drop_gone {l : List Ent} (t : ByteArray) (h : Rises l) : atE (dropL l t) t = -1 := by
  rcases atE_ways l t with ha | ⟨k, ha, hk⟩
  · have : dropL l t = l := by unfold dropL; rw [ha]; rfl
    rw [this]; exact ha
  · have : dropL l t = l.eraseIdx k := by unfold dropL; rw [ha, if_pos (by omega), Int.toNat_natCast]
    rw [this, at_none_iff]
    intro y hy e
    obtain ⟨j, hj, hjk, rfl⟩ := List.mem_eraseIdx_iff_getElem.1 hy
    obtain ⟨hk2, he⟩ := at_some ha
    exact hjk (rises_inj h hj hk2 (e.trans he.symm))
theorem rises_perm {a b : List Ent} (ha : Rises a) (hb : Rises b) (hp : a.Perm b) : a = b :=
  hp.eq_of_pairwise (fun x y _ _ h1 h2 => absurd h2 (by unfold ltE; rw [gt_asymm h1]; simp)) ha hb
theorem drop_perm {l : List Ent} {t : ByteArray} {k : Nat} (h : atE l t = (k : Int)) : ∃ hk : k < l.length, (l[k] :: dropL l t).Perm l := by
  obtain ⟨hk, _⟩ := at_some h
  refine ⟨hk, ?_⟩
  have : dropL l t = l.eraseIdx k := by unfold dropL; rw [h, if_pos (by omega), Int.toNat_natCast]
  rw [this]
  rw [List.eraseIdx_eq_take_drop_succ]
  refine List.perm_middle.symm.trans ?_
  rw [← List.drop_eq_getElem_cons hk, List.take_append_drop]
/-- dropped, and put again -/
theorem drop_put {l : List Ent} {t : ByteArray} {k : Nat} (h : Rises l) (ha : atE l t = (k : Int)) (hk : k < l.length) : insE (dropL l t) l[k] = l := by
  obtain ⟨hk2, hp⟩ := drop_perm ha
  have he := (at_some ha).2
  refine rises_perm (ins_rises (drop_rises t h) ?_) h ((ins_perm _ _).trans hp)
  rw [he]; exact drop_gone t h
end Go.Proofs.Ytiloeaenpanjcaa
