/- Plain: what the loops of the law EntryOrders keep. -/
import Derived.Test.YtiloeaenpanjcaaE14LawKeeps
namespace Go.Proofs.Ytiloeaenpanjcaa
open Go.RowKit Go.Sac
set_option linter.unusedVariables false
set_option linter.unusedSimpArgs false

def names (l : List Ent) : List ByteArray := l.map (·.1)
theorem rises_nodup {l : List Ent} (h : Rises l) : (names l).Nodup := by
  unfold names List.Nodup
  rw [List.pairwise_map]
  exact List.Pairwise.imp (fun {a b} (h : ltE a b) (e : a.1 = b.1) => gt_ne h e.symm) h
theorem nodup_at {l : List Ent} (h : (names l).Nodup) {i j : Nat} (hi : i < l.length) (hj : j < l.length) (e : l[i].1 = l[j].1) : i = j := by
  have h1 : i < (names l).length := by simpa [names] using hi
  have h2 : j < (names l).length := by simpa [names] using hj
  refine (List.getElem_inj h).1 (?_ : (names l)[i] = (names l)[j])
  simpa [names] using e
theorem nodup_eq {l : List Ent} (h : (names l).Nodup) {x y : Ent} (hx : x ∈ l) (hy : y ∈ l) (e : x.1 = y.1) : x = y := by
  obtain ⟨i, hi, rfl⟩ := List.mem_iff_getElem.1 hx
  obtain ⟨j, hj, rfl⟩ := List.mem_iff_getElem.1 hy
  have := nodup_at h hi hj e
  subst this
  rfl
/-- what the first loop has gathered -/
structure Gath (l aL mL : List Ent) (i : Nat) : Prop where
  rise : Rises aL
  perm : aL.Perm mL
  nam : ∀ y ∈ mL, namedL y.1.data.toList = true ∧ y ∈ l
  len : mL.length ≤ i
theorem Gath.put {l aL mL : List Ent} {i : Nat} (h : Gath l aL mL i) {x : Ent} (hx : x ∈ l) (hn : namedL x.1.data.toList = true) (ha : atE aL x.1 = -1) : Gath l (insE aL x) (mL ++ [x]) (i + 1) := by
  refine ⟨ins_rises h.rise ha, (ins_perm aL x).trans ?_, fun y hy => ?_, by have := h.len; simp; omega⟩
  · exact (List.Perm.cons x h.perm).trans (List.perm_append_comm (l₁ := [x]))
  · rcases List.mem_append.1 hy with h1 | h1
    · exact h.nam y h1
    · obtain rfl := List.mem_singleton.1 h1
      exact ⟨hn, hx⟩
theorem Gath.past {l aL mL : List Ent} {i : Nat} (h : Gath l aL mL i) : Gath l aL mL (i + 1) := ⟨h.rise, h.perm, h.nam, by have := h.len; omega⟩
theorem Gath.alen {l aL mL : List Ent} {i : Nat} (h : Gath l aL mL i) : aL.length = mL.length := h.perm.length_eq
theorem Gath.nodup {l aL mL : List Ent} {i : Nat} (h : Gath l aL mL i) : (names mL).Nodup := (show (names aL).Perm (names mL) from h.perm.map _).nodup_iff.1 (rises_nodup h.rise)
theorem put_zero {l : List Ent} {x : Ent} (h : putE l x = 0) : namedL x.1.data.toList = true ∧ atE l x.1 = -1 ∧ putL l x = insE l x := by
  unfold putE at h
  unfold putL
  cases hn : namedL x.1.data.toList
  · rw [hn] at h; simp at h
  · rw [hn] at h
    simp only [if_true] at h ⊢
    rcases atE_ways l x.1 with ha | ⟨k, ha, hk⟩
    · exact ⟨trivial, ha, by rw [ha]; rfl⟩
    · rw [ha, if_pos (by omega)] at h; simp at h
theorem put_ok {l : List Ent} {x : Ent} (hn : namedL x.1.data.toList = true) (ha : atE l x.1 = -1) : putE l x = 0 ∧ putL l x = insE l x := by
  unfold putE putL
  rw [hn, ha]
  exact ⟨rfl, rfl⟩
/-- the second loop: those behind i, put -/
theorem back_none {l aL mL bL : List Ent} {n : Nat} (h : Gath l aL mL n) {i : Nat} (hi : i < mL.length) (hb : bL.Perm (mL.drop (i + 1))) : atE bL mL[i].1 = -1 := by
  rw [at_none_iff]
  intro y hy e
  have h1 := hb.mem_iff.1 hy
  obtain ⟨j, hj, rfl⟩ := List.mem_iff_getElem.1 h1
  rw [List.getElem_drop] at e
  rw [List.length_drop] at hj
  have := nodup_at h.nodup (by omega) hi e
  omega
theorem back_perm {mL bL : List Ent} {i : Nat} (hi : i < mL.length) (hb : bL.Perm (mL.drop (i + 1))) : (insE bL mL[i]).Perm (mL.drop i) := by
  refine (ins_perm _ _).trans ?_
  rw [List.drop_eq_getElem_cons hi]
  exact List.Perm.cons _ hb
/-- the third loop: those up to i, dropped -/
theorem drop_found {l aL mL cL : List Ent} {n : Nat} (h : Gath l aL mL n) {i : Nat} (hi : i < mL.length) (hc : cL.Perm (mL.drop i)) : findB cL mL[i].1 = true ∧ (dropL cL mL[i].1).Perm (mL.drop (i + 1)) := by
  have hmem : mL[i] ∈ cL := hc.mem_iff.2 (by rw [List.drop_eq_getElem_cons hi]; exact List.mem_cons_self ..)
  rcases atE_ways cL mL[i].1 with ha | ⟨k, ha, hk⟩
  · exact absurd rfl ((at_none_iff _ _).1 ha _ hmem)
  · refine ⟨by unfold findB; rw [ha]; exact decide_eq_true (by omega), ?_⟩
    obtain ⟨hk, hp⟩ := drop_perm ha
    have he := (at_some ha).2
    have hin : cL[k] ∈ mL := List.mem_of_mem_drop (hc.mem_iff.1 (List.getElem_mem hk))
    have := nodup_eq h.nodup hin (List.getElem_mem hi) he
    rw [this] at hp
    have h2 := hp.trans hc
    rw [List.drop_eq_getElem_cons hi] at h2
    exact List.Perm.cons_inv h2
/-- a row that lies apart from one of the call's own -/
def Off (w : World) (A : Option Addr) (v : Value) : Prop := ∀ ad, A = some ad → ad.block < w.heap.size ∧ some ad.block ≠ v.ownBlock
theorem Off.below {w w' : World} {A : Option Addr} {v : Value} (h : Off w A v) (hb : Below w.heap.size w w') : Off w' A v := fun ad e => ⟨Nat.lt_of_lt_of_le (h ad e).1 hb.size, (h ad e).2⟩
theorem Off.grown {w w' : World} {A : Option Addr} {v v' : Value} (h : Off w A v) (hs : w.heap.size ≤ w'.heap.size) (hat : v'.ownBlock = v.ownBlock ∨ v'.ownBlock = some w.heap.size) : Off w' A v' := fun ad e => by
  obtain ⟨h1, h2⟩ := h ad e
  refine ⟨Nat.lt_of_lt_of_le h1 hs, ?_⟩
  rcases hat with h3 | h3
  · rw [h3]; exact h2
  · rw [h3]; intro e2; injection e2 with e2; omega
theorem off_new {w' : World} {A : Option Addr} {v : Value} {base : Nat} (hA : ∀ a, A = some a → base ≤ a.block ∧ a.block < w'.heap.size) (hv : ∀ k, v.ownBlock = some k → k < base) : Off w' A v := fun ad e => by
  obtain ⟨h1, h2⟩ := hA ad e
  exact ⟨h2, fun e2 => by have := hv _ e2.symm; omega⟩
end Go.Proofs.Ytiloeaenpanjcaa
