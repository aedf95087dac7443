/- BASE17: a map of one's own whose keys are values of a struct type. No program in it. -/
import Derived.MapKept
import Derived.Test.YtffhncpgknkkaaaBase16
namespace Go.Sac
open Go.RowKit Go.MapKept
set_option linter.unusedVariables false
set_option linter.unusedSimpArgs false

/-- keys k, laid as (kenc k) -/
structure KeyOk {K : Type} [DecidableEq K] (P : Program) (kt : TypeId) (kenc : K → Value) : Prop where
  find : ∀ (k : K) (w : World) (l : List MapEntry), (∀ x ∈ l, ∃ k, x.key = kenc k) →
    ((Instr.findKey kt (kenc k) l).run P w = .ok none w ∧ ∀ x ∈ l, x.key ≠ kenc k) ∨ ∃ j e, (Instr.findKey kt (kenc k) l).run P w = .ok (some (j, e.val)) w ∧ l[j]? = some e ∧ e.key = kenc k
  check : ∀ b k w, (Instr.checkKey b 10000 kt (kenc k)).run P w = .ok () w
  same : ∀ k, Instr.sameBits 10000 (kenc k) (kenc k) = true
  inj : ∀ x y, kenc x = kenc y → x = y
/-- block r is a map of what f tells -/
structure MapOf {K : Type} (kenc : K → Value) (es : Array MapEntry) (clock : Nat) (f : K → Option Value) : Prop where
  st : Stamped es clock
  key : ∀ x ∈ es.toList, ∃ k, x.key = kenc k
  val : ∀ x ∈ es.toList, ∀ k, x.key = kenc k → f k = some x.val
  all : ∀ k, f k ≠ none → ∃ x ∈ es.toList, x.key = kenc k
def MapAt {K : Type} (kenc : K → Value) (w : World) (r : Nat) (f : K → Option Value) : Prop := ∃ es clock, w.heap[r]? = some (.map es clock) ∧ MapOf kenc es clock f
section
variable {K : Type} [DecidableEq K] {P : Program} {kt et mt : TypeId} {kenc : K → Value}
theorem asking_spec (heq : ∀ x y w, (Op.equal kt (kenc x) (kenc y)).run P w = .ok (decide (x = y)) w) (hinj : ∀ x y, kenc x = kenc y → x = y) (k : K) (w : World) : ∀ (l : List MapEntry) (i : Nat), (∀ x ∈ l, ∃ k, x.key = kenc k) →
    ((Instr.findAsking kt (kenc k) l i).run P w = .ok none w ∧ ∀ x ∈ l, x.key ≠ kenc k) ∨ ∃ j e, (Instr.findAsking kt (kenc k) l i).run P w = .ok (some (i + j, e.val)) w ∧ l[j]? = some e ∧ e.key = kenc k := by
  intro l
  induction l with
  | nil => intro i _; exact .inl ⟨by simp [Instr.findAsking], by simp⟩
  | cons e t ih =>
    intro i h
    obtain ⟨k', hk'⟩ := h e (by simp)
    by_cases hkk : k = k'
    · refine .inr ⟨0, e, ?_, rfl, by rw [hk', hkk]⟩
      simp [Instr.findAsking, hk', heq, hkk, Result.andThen]
    · rcases ih (i + 1) (fun x hx => h x (by simp [hx])) with ⟨h1, h2⟩ | ⟨j, e', h1, h2, h3⟩
      · refine .inl ⟨by simp [Instr.findAsking, hk', heq, hkk, Result.andThen, h1], fun x hx => ?_⟩
        rcases List.mem_cons.1 hx with rfl | hx
        · rw [hk']; exact fun e => hkk (hinj _ _ e).symm
        · exact h2 x hx
      · refine .inr ⟨j + 1, e', ?_, by simpa using h2, h3⟩
        simp [Instr.findAsking, hk', heq, hkk, Result.andThen, h1]
        omega
/-- keys that are told apart by asking (structs) -/
theorem keyOk_ask (desc : ∃ D, P.underlying kt = some D ∧ ∀ x y, Instr.sameNow D (kenc x) (kenc y) = none) (check : ∀ b k w, (Instr.checkKey b 10000 kt (kenc k)).run P w = .ok () w)
    (heq : ∀ x y w, (Op.equal kt (kenc x) (kenc y)).run P w = .ok (decide (x = y)) w) (same : ∀ k, Instr.sameBits 10000 (kenc k) (kenc k) = true) (hinj : ∀ x y, kenc x = kenc y → x = y) : KeyOk P kt kenc := by
  refine ⟨fun k w l h => ?_, check, same, hinj⟩
  obtain ⟨D, hD, hN⟩ := desc
  have h1 : (Instr.findKey kt (kenc k) l).run P w = (Instr.findAsking kt (kenc k) l 0).run P w := by
    cases l with
    | nil => simp [Instr.findKey, run_underlying hD, Result.andThen, Instr.findNow, Instr.findAsking]
    | cons e t =>
      obtain ⟨k', hk'⟩ := h e (by simp)
      simp [Instr.findKey, run_underlying hD, Result.andThen, Instr.findNow, hk', hN]
  rw [h1]
  rcases asking_spec heq hinj k w l 0 h with h | ⟨j, e, h2, h3⟩
  · exact .inl h
  · exact .inr ⟨j, e, by rw [h2, Nat.zero_add], h3⟩
theorem now_spec {D : TypeDesc} (hN : ∀ x y, Instr.sameNow D (kenc x) (kenc y) = some (decide (x = y))) (hinj : ∀ x y, kenc x = kenc y → x = y) (k : K) : ∀ (l : List MapEntry) (i : Nat), (∀ x ∈ l, ∃ k, x.key = kenc k) →
    (Instr.findNow D (kenc k) l i = some none ∧ ∀ x ∈ l, x.key ≠ kenc k) ∨ ∃ j e, Instr.findNow D (kenc k) l i = some (some (i + j, e.val)) ∧ l[j]? = some e ∧ e.key = kenc k := by
  intro l
  induction l with
  | nil => intro i _; exact .inl ⟨by simp [Instr.findNow], by simp⟩
  | cons e t ih =>
    intro i h
    obtain ⟨k', hk'⟩ := h e (by simp)
    by_cases hkk : k = k'
    · refine .inr ⟨0, e, ?_, rfl, by rw [hk', hkk]⟩
      simp [Instr.findNow, hk', hN, hkk]
    · rcases ih (i + 1) (fun x hx => h x (by simp [hx])) with ⟨h1, h2⟩ | ⟨j, e', h1, h2, h3⟩
      · refine .inl ⟨by simp [Instr.findNow, hk', hN, hkk, h1], fun x hx => ?_⟩
        rcases List.mem_cons.1 hx with rfl | hx
        · rw [hk']; exact fun e => hkk (hinj _ _ e).symm
        · exact h2 x hx
      · refine .inr ⟨j + 1, e', ?_, by simpa using h2, h3⟩
        simp [Instr.findNow, hk', hN, hkk, h1]
        omega
/-- keys that are told apart at once (numbers, texts) -/
theorem keyOk_now (desc : ∃ D, P.underlying kt = some D ∧ ∀ x y, Instr.sameNow D (kenc x) (kenc y) = some (decide (x = y))) (check : ∀ b k w, (Instr.checkKey b 10000 kt (kenc k)).run P w = .ok () w)
    (same : ∀ k, Instr.sameBits 10000 (kenc k) (kenc k) = true) (hinj : ∀ x y, kenc x = kenc y → x = y) : KeyOk P kt kenc := by
  refine ⟨fun k w l h => ?_, check, same, hinj⟩
  obtain ⟨D, hD, hN⟩ := desc
  rcases now_spec hN hinj k l 0 h with ⟨h1, h2⟩ | ⟨j, e, h1, h2⟩
  · exact .inl ⟨by simp [Instr.findKey, run_underlying hD, Result.andThen, h1], h2⟩
  · exact .inr ⟨j, e, by simp [Instr.findKey, run_underlying hD, Result.andThen, h1], h2⟩
theorem run_lookup_k (hk : KeyOk P kt kenc) (hm : P.underlying mt = some (.map kt et)) {w : World} {r : Nat} {f : K → Option Value} (h : MapAt kenc w r f) (k : K) {z : Value} (hz : (zeroValue et).run P w = .ok z w) :
    (Instr.lookup mt (.map (some r)) (kenc k) false).run P w = .ok ((f k).getD z) w := by
  obtain ⟨es, clock, hb, ho⟩ := h
  rcases hk.find k w es.toList ho.key with ⟨h1, h2⟩ | ⟨j, e, h1, h2, h3⟩
  · have hf : f k = none := by
      cases hfk : f k with
      | none => rfl
      | some v => obtain ⟨x, hx, he⟩ := ho.all k (by simp [hfk]); exact absurd he (h2 x hx)
    simp [Instr.lookup, run_underlying hm, Go.MapKept.run_getObj_map hb, hk.check, h1, hz, hf, Result.andThen]
  · have hf := ho.val e (List.mem_of_getElem? h2) k h3
    simp [Instr.lookup, run_underlying hm, Go.MapKept.run_getObj_map hb, hk.check, h1, hf, Result.andThen]
theorem run_lookup2_k (hk : KeyOk P kt kenc) (hm : P.underlying mt = some (.map kt et)) {w : World} {r : Nat} {f : K → Option Value} (h : MapAt kenc w r f) (k : K) {z : Value} (hz : (zeroValue et).run P w = .ok z w) :
    (Instr.lookup mt (.map (some r)) (kenc k) true).run P w = .ok (.tuple #[(f k).getD z, .bool (f k).isSome]) w := by
  obtain ⟨es, clock, hb, ho⟩ := h
  rcases hk.find k w es.toList ho.key with ⟨h1, h2⟩ | ⟨j, e, h1, h2, h3⟩
  · have hf : f k = none := by
      cases hfk : f k with
      | none => rfl
      | some v => obtain ⟨x, hx, he⟩ := ho.all k (by simp [hfk]); exact absurd he (h2 x hx)
    simp [Instr.lookup, run_underlying hm, Go.MapKept.run_getObj_map hb, hk.check, h1, hz, hf, Result.andThen]
  · have hf := ho.val e (List.mem_of_getElem? h2) k h3
    simp [Instr.lookup, run_underlying hm, Go.MapKept.run_getObj_map hb, hk.check, h1, hf, Result.andThen]
theorem MapOf.push (hk : KeyOk P kt kenc) {es : Array MapEntry} {clock : Nat} {f : K → Option Value} (h : MapOf kenc es clock f) (k : K) (v : Value) (h2 : ∀ x ∈ es.toList, x.key ≠ kenc k) : MapOf kenc (es.push ⟨kenc k, v, clock⟩) (clock + 1) (fun q => if q = k then some v else f q) := by
  refine ⟨stamped_push h.st h2, fun x hx => ?_, fun x hx q hq => ?_, fun q hq => ?_⟩
  · simp only [Array.toList_push, List.mem_append, List.mem_singleton] at hx
    rcases hx with hx | rfl
    · exact h.key x hx
    · exact ⟨k, rfl⟩
  · simp only [Array.toList_push, List.mem_append, List.mem_singleton] at hx
    rcases hx with hx | rfl
    · have : q ≠ k := fun e => h2 x hx (by rw [hq, e])
      simp only [if_neg this]
      exact h.val x hx q hq
    · have := hk.inj _ _ hq
      simp [this]
  · by_cases hqk : q = k
    · exact ⟨⟨kenc k, v, clock⟩, by simp, by rw [hqk]⟩
    · simp only [if_neg hqk] at hq
      obtain ⟨x, hx, he⟩ := h.all q hq
      exact ⟨x, by simp at hx ⊢; exact .inl hx, he⟩
theorem MapOf.modify (hk : KeyOk P kt kenc) {es : Array MapEntry} {clock : Nat} {f : K → Option Value} (h : MapOf kenc es clock f) (k : K) (v : Value) {j : Nat} {e : MapEntry} (hj : es[j]? = some e) (he : e.key = kenc k) (g : MapEntry → MapEntry) (hb : ∀ x, (g x).born = x.born) (hgk : (g e).key = kenc k) (hgv : (g e).val = v) : MapOf kenc (es.modify j g) clock (fun q => if q = k then some v else f q) := by
  have hu : ∀ i x, es[i]? = some x → x.key = kenc k → i = j := fun i x hi hx => by
    have hn := h.st.2.2
    have h1 : (es.toList.map (·.key))[i]? = some (kenc k) := by rw [List.getElem?_map, Array.getElem?_toList, hi]; simp [hx]
    have h2 : (es.toList.map (·.key))[j]? = some (kenc k) := by rw [List.getElem?_map, Array.getElem?_toList, hj]; simp [he]
    have hi' := (List.getElem?_eq_some_iff.1 h1).1
    exact (List.getElem?_inj hi' hn).1 (h1.trans h2.symm)
  have hmem : ∀ x ∈ (es.modify j g).toList, ∃ i y, es[i]? = some y ∧ x = if j = i then g y else y := fun x hx => by
    obtain ⟨i, hi⟩ := List.mem_iff_getElem?.1 hx
    rw [Array.getElem?_toList, Array.getElem?_modify] at hi
    split at hi
    · rename_i hji
      cases hy : es[i]? with
      | none => rw [hy] at hi; simp at hi
      | some y => rw [hy] at hi; simp at hi; exact ⟨i, y, hy, by rw [if_pos hji]; exact hi.symm⟩
    · rename_i hji
      exact ⟨i, x, hi, by rw [if_neg hji]⟩
  refine ⟨stamped_modify h.st _ _ (fun x _ => hb x) (fun x _ hx => ?_), fun x hx => ?_, fun x hx q hq => ?_, fun q hq => ?_⟩
  · rw [hj] at hx; cases hx; rw [hgk, he]
  · obtain ⟨i, y, hi, rfl⟩ := hmem x hx
    split
    · rename_i hji; subst hji; rw [hj] at hi; cases hi; exact ⟨k, hgk⟩
    · exact h.key y (List.mem_of_getElem? (by rw [Array.getElem?_toList]; exact hi))
  · obtain ⟨i, y, hi, rfl⟩ := hmem x hx
    split at hq
    · rename_i hji
      subst hji
      rw [hj] at hi
      cases hi
      rw [hgk] at hq
      have := hk.inj _ _ hq
      simp [this, hgv]
    · rename_i hji
      have : q ≠ k := fun e2 => hji (hu i y hi (by rw [hq, e2])).symm
      simp only [if_neg this, if_neg hji]
      exact h.val y (List.mem_of_getElem? (by rw [Array.getElem?_toList]; exact hi)) q hq
  · have hat : ∀ i y, es[i]? = some y → (if j = i then g y else y) ∈ (es.modify j g).toList := fun i y hi => by
      refine List.mem_iff_getElem?.2 ⟨i, ?_⟩
      rw [Array.getElem?_toList, Array.getElem?_modify]
      split <;> simp [hi]
    by_cases hqk : q = k
    · exact ⟨g e, by have := hat j e hj; simpa using this, by rw [hgk, hqk]⟩
    · simp only [if_neg hqk] at hq
      obtain ⟨x, hx, hex⟩ := h.all q hq
      obtain ⟨i, hi⟩ := List.mem_iff_getElem?.1 hx
      rw [Array.getElem?_toList] at hi
      refine ⟨_, hat i x hi, ?_⟩
      split
      · rename_i hji
        subst hji
        rw [hj] at hi
        cases hi
        exact absurd (hk.inj _ _ (hex.symm.trans he)) hqk
      · exact hex
/-- the world with another map in block r -/
def setMap (w : World) (r : Nat) (es : Array MapEntry) (clock : Nat) : World := { w with heap := w.heap.setIfInBounds r (.map es clock) }
theorem setMap_get {w : World} {r : Nat} {o : Obj} (h : w.heap[r]? = some o) (es : Array MapEntry) (clock : Nat) : (setMap w r es clock).heap[r]? = some (.map es clock) := (heap_set h).1
/-- block r alone is written -/
structure Turn (r : Nat) (w w' : World) : Prop where
  os : w'.os = w.os
  tape : w'.tape = w.tape
  output : w'.output = w.output
  size : w'.heap.size = w.heap.size
  other : ∀ k, k ≠ r → w'.heap[k]? = w.heap[k]?
theorem Turn.keep {r : Nat} {w w' : World} (h : Turn r w w') : KeepBut (some r) w w' := ⟨Nat.le_of_eq h.size.symm, fun k _ hk => h.other k fun e => hk (by rw [e])⟩
theorem Turn.below {r B : Nat} {w w' : World} (h : Turn r w w') (hB : B ≤ r) : Below B w w' := ⟨h.os, h.tape, h.output, Nat.le_of_eq h.size.symm, fun k hk => h.other k (by omega)⟩
theorem Turn.setMap (w : World) (r : Nat) (es : Array MapEntry) (clock : Nat) : Turn r w (Go.Sac.setMap w r es clock) :=
  ⟨rfl, rfl, rfl, by simp [Go.Sac.setMap], fun k hk => by simp only [Go.Sac.setMap, Array.getElem?_setIfInBounds]; rw [if_neg (fun e => hk e.symm)]⟩
theorem KeepBut.setMap (w : World) (r : Nat) (es : Array MapEntry) (clock : Nat) : KeepBut (some r) w (setMap w r es clock) :=
  ⟨by simp [Go.Sac.setMap], fun k _ hk => by simp only [Go.Sac.setMap, Array.getElem?_setIfInBounds]; rw [if_neg (fun e => hk (by rw [e]))]⟩
theorem stays_k (hk : KeyOk P kt kenc) (k : K) (w : World) : (Instr.keyThatStays (kenc k) (kenc k)).run P w = .ok (kenc k) w := by
  simp [Instr.keyThatStays, hk.same]
theorem run_update_k (hk : KeyOk P kt kenc) (hm : P.underlying mt = some (.map kt et)) {w : World} {r : Nat} {f : K → Option Value} (h : MapAt kenc w r f) (k : K) (v : Value) :
    ∃ w', (Instr.mapUpdate mt (.map (some r)) (kenc k) v).run P w = .ok () w' ∧ Turn r w w' ∧ MapAt kenc w' r (fun q => if q = k then some v else f q) := by
  obtain ⟨es, clock, hb, ho⟩ := h
  rcases hk.find k w es.toList ho.key with ⟨h1, h2⟩ | ⟨j, e, h1, h2, h3⟩
  · refine ⟨setMap w r (es.push ⟨kenc k, v, clock⟩) (clock + 1), ?_, Turn.setMap _ _ _ _, _, _, setMap_get hb _ _, ho.push hk k v h2⟩
    simp [Instr.mapUpdate, run_underlying hm, Go.MapKept.run_getObj_map hb, hk.check, h1, run_setObj_map _ hb, Result.andThen, setMap]
  · have hj : es[j]? = some e := by simpa using h2
    refine ⟨setMap w r (es.modify j fun e => { e with key := kenc k, val := v }) clock, ?_, Turn.setMap _ _ _ _, _, _, setMap_get hb _ _, ho.modify hk k v hj h3 _ (fun _ => rfl) rfl rfl⟩
    simp [Instr.mapUpdate, run_underlying hm, Go.MapKept.run_getObj_map hb, hk.check, h1, hj, h3, stays_k hk, run_setObj_map _ hb, Result.andThen, setMap]
/-- block r is a map of what f tells, and stamp b is the entry of k -/
def StampAt (kenc : K → Value) (w : World) (r : Nat) (f : K → Option Value) (k : K) (b : Nat) : Prop := ∃ es clock, w.heap[r]? = some (.map es clock) ∧ MapOf kenc es clock f ∧ ∃ (j : Nat) (e : MapEntry), es[j]? = some e ∧ e.key = kenc k ∧ e.born = b
theorem run_entry_k (hk : KeyOk P kt kenc) (hm : P.underlying mt = some (.map kt et)) {w : World} {r : Nat} {f : K → Option Value} (h : MapAt kenc w r f) (k : K) {z : Value} (hz : (zeroValue et).run P w = .ok z w) :
    ∃ b w', (Instr.mapEntry mt (.map (some r)) (kenc k)).run P w = .ok (.tuple #[(f k).getD z, goInt (b : Nat)]) w' ∧ Turn r w w' ∧ StampAt kenc w' r (fun q => if q = k then some ((f k).getD z) else f q) k b := by
  obtain ⟨es, clock, hb, ho⟩ := h
  rcases hk.find k w es.toList ho.key with ⟨h1, h2⟩ | ⟨j, e, h1, h2, h3⟩
  · have hf : f k = none := by
      cases hfk : f k with
      | none => rfl
      | some v => obtain ⟨x, hx, he⟩ := ho.all k (by simp [hfk]); exact absurd he (h2 x hx)
    refine ⟨clock, setMap w r (es.push ⟨kenc k, z, clock⟩) (clock + 1), ?_, Turn.setMap _ _ _ _, _, _, setMap_get hb _ _, ?_, es.size, ⟨kenc k, z, clock⟩, by simp, rfl, rfl⟩
    · simp [Instr.mapEntry, run_underlying hm, Go.MapKept.run_getObj_map hb, hk.check, h1, hz, hf, run_setObj_map _ hb, Result.andThen, setMap]
    · rw [hf]; exact ho.push hk k z h2
  · have hj : es[j]? = some e := by simpa using h2
    have hf := ho.val e (List.mem_of_getElem? h2) k h3
    refine ⟨e.born, setMap w r (es.modify j fun e => { e with key := kenc k }) clock, ?_, Turn.setMap _ _ _ _, _, _, setMap_get hb _ _, ?_, j, { e with key := kenc k }, by simp [Array.getElem?_modify, hj], rfl, rfl⟩
    · simp [Instr.mapEntry, run_underlying hm, Go.MapKept.run_getObj_map hb, hk.check, h1, hj, h3, hf, stays_k hk, run_setObj_map _ hb, Result.andThen, setMap]
    · rw [hf]; exact ho.modify hk k e.val hj h3 _ (fun _ => rfl) rfl rfl
theorem findIdx_born (l : List MapEntry) (hn : (l.map (·.born)).Nodup) (j : Nat) (e : MapEntry) (h : l[j]? = some e) : l.findIdx? (fun x => (x.born : Int) == (e.born : Int)) = some j := by
  rw [List.findIdx?_eq_some_iff_getElem]
  have hjl := (List.getElem?_eq_some_iff.1 h).1
  have hje := (List.getElem?_eq_some_iff.1 h).2
  refine ⟨hjl, by simp [hje], fun i hi => ?_⟩
  simp only [beq_iff_eq, Bool.not_eq_true, beq_eq_false_iff_ne, ne_eq]
  intro e2
  have e3 : l[i].born = e.born := by omega
  have h1 : (l.map (·.born))[i]? = some e.born := by rw [List.getElem?_map, List.getElem?_eq_getElem (by omega)]; simp [e3]
  have h2 : (l.map (·.born))[j]? = some e.born := by rw [List.getElem?_map, h]; rfl
  have := (List.getElem?_inj (by simp; omega) hn).1 (h1.trans h2.symm)
  omega
theorem run_store_k (hk : KeyOk P kt kenc) {w : World} {r : Nat} {f : K → Option Value} {k : K} {b : Nat} (h : StampAt kenc w r f k b) (v : Value) :
    ∃ w', (Instr.entryStore mt (.map (some r)) (goInt (b : Nat)) v).run P w = .ok () w' ∧ Turn r w w' ∧ MapAt kenc w' r (fun q => if q = k then some v else f q) := by
  obtain ⟨es, clock, hb, ho, j, e, hj, h3, rfl⟩ := h
  have hi : es.findIdx? (fun x => (x.born : Int) == (e.born : Int)) = some j := by
    have := findIdx_born es.toList ho.st.2.1 j e (by rw [Array.getElem?_toList]; exact hj)
    cases es; simpa using this
  refine ⟨setMap w r (es.modify j fun e => { e with val := v }) clock, ?_, Turn.setMap _ _ _ _, _, _, setMap_get hb _ _, ho.modify hk k v hj h3 _ (fun _ => rfl) h3 rfl⟩
  simp [Instr.entryStore, Go.MapKept.run_getObj_map hb, goInt, asInt, asIntOf, hi, run_setObj_map _ hb, Result.andThen, setMap]
end
theorem StampAt.map {K : Type} {kenc : K → Value} {w : World} {r : Nat} {f : K → Option Value} {k : K} {b : Nat} (h : StampAt kenc w r f k b) : MapAt kenc w r f := by
  obtain ⟨es, clock, h1, h2, _⟩ := h
  exact ⟨es, clock, h1, h2⟩
theorem MapAt.new {K : Type} {kenc : K → Value} (w : World) : MapAt kenc (w.alloc (.map #[] 0)) w.heap.size (fun _ => none) :=
  ⟨#[], 0, (heap_alloc w _).1, stamped_empty 0, by simp, by simp, by simp⟩
theorem MapAt.below {K : Type} {kenc : K → Value} {w w' : World} {r : Nat} {f : K → Option Value} (h : MapAt kenc w r f) (hb : Below w.heap.size w w') : MapAt kenc w' r f := by
  obtain ⟨es, clock, h1, h2⟩ := h
  exact ⟨es, clock, (hb.block r (Array.getElem?_eq_some_iff.1 h1).1).trans h1, h2⟩
end Go.Sac
