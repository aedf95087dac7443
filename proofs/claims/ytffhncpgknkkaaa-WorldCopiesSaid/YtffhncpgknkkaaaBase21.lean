/- BASE21: a range over a map of one's own, whose round writes; delete; clone; how many entries. No program in it. -/
import Derived.Maps.Range
import Derived.Test.YtffhncpgknkkaaaBase18
namespace Go.Sac
open Go.RowKit Go.MapKept
set_option linter.unusedSectionVars false
set_option linter.unusedVariables false
set_option linter.unusedSimpArgs false
/-- block b is a map of what f tells, block r goes over it; left k: the entry of k is still to come -/
def RgAt {K : Type} (kenc : K → Value) (w : World) (b r : Nat) (f : K → Option Value) (left : K → Bool) (cnt : Nat) : Prop :=
  ∃ es clock since seen c0, w.heap[b]? = some (.map es clock) ∧ MapOf kenc es clock f ∧ w.heap[r]? = some (.mapIter (some b) since seen c0) ∧ (∀ x ∈ es.toList, x.born < since) ∧ since ≤ c0 ∧ since ≤ clock ∧
    (∀ x ∈ es.toList, ∀ k, x.key = kenc k → left k = !seen.contains x.born) ∧ (∀ k, left k = true → f k ≠ none) ∧ (leftOf es seen).size = cnt
theorem Turn.trans {r : Nat} {w w' w'' : World} (h : Turn r w w') (k : Turn r w' w'') : Turn r w w'' := ⟨k.os.trans h.os, k.tape.trans h.tape, k.output.trans h.output, k.size.trans h.size, fun i hi => (k.other i hi).trans (h.other i hi)⟩
theorem Turn.drew (r : Nat) (w : World) : Turn r w w.drew := ⟨rfl, rfl, rfl, rfl, fun _ _ => rfl⟩
theorem Turn.setBlock (w : World) (b : Nat) (o : Obj) : Turn b w (Go.ChangeMaps.setBlock w b o) :=
  ⟨rfl, rfl, rfl, by simp [Go.ChangeMaps.setBlock], fun k hk => by simp only [Go.ChangeMaps.setBlock, Array.getElem?_setIfInBounds]; rw [if_neg (fun e => hk e.symm)]⟩
section
variable {K : Type} [DecidableEq K] {P : Program} {kt et mt : TypeId} {kenc : K → Value} {w : World} {b r : Nat} {f : K → Option Value} {left : K → Bool} {cnt : Nat}
omit [DecidableEq K] in
theorem RgAt.map (h : RgAt kenc w b r f left cnt) : MapAt kenc w b f := by
  obtain ⟨es, clock, _, _, _, h1, h2, _⟩ := h
  exact ⟨es, clock, h1, h2⟩
omit [DecidableEq K] in
theorem RgAt.ne (h : RgAt kenc w b r f left cnt) : r ≠ b := by
  obtain ⟨es, clock, since, seen, c0, h1, _, h3, _⟩ := h
  intro e
  rw [e, h1] at h3
  cases h3
omit [DecidableEq K] in
theorem RgAt.keep {w' : World} (h : RgAt kenc w b r f left cnt) (hb : w'.heap[b]? = w.heap[b]?) (hr : w'.heap[r]? = w.heap[r]?) : RgAt kenc w' b r f left cnt := by
  obtain ⟨es, clock, since, seen, c0, h1, h2, h3, rest⟩ := h
  exact ⟨es, clock, since, seen, c0, hb.trans h1, h2, hr.trans h3, rest⟩
omit [DecidableEq K] in
theorem RgAt.lt (h : RgAt kenc w b r f left cnt) : b < w.heap.size ∧ r < w.heap.size := by
  obtain ⟨es, clock, since, seen, c0, h1, h2, h3, rest⟩ := h
  exact ⟨(Array.getElem?_eq_some_iff.1 h1).1, (Array.getElem?_eq_some_iff.1 h3).1⟩
theorem rg_start (hm : P.underlying mt = some (.map kt et)) (h : MapAt kenc w b f) :
    ∃ cnt, (Instr.range mt (.map (some b))).run P w = .ok (.pointer (some ⟨w.heap.size, 0, none⟩)) (w.alloc (.mapIter (some b) (match w.heap[b]? with | some (.map _ c) => c | _ => 0) #[] (match w.heap[b]? with | some (.map _ c) => c | _ => 0))) ∧ RgAt kenc (w.alloc (.mapIter (some b) (match w.heap[b]? with | some (.map _ c) => c | _ => 0) #[] (match w.heap[b]? with | some (.map _ c) => c | _ => 0))) b w.heap.size f (fun k => (f k).isSome) cnt := by
  obtain ⟨es, clock, h1, h2⟩ := h
  have hlt : b < w.heap.size := (Array.getElem?_eq_some_iff.1 h1).1
  simp only [h1]
  refine ⟨_, run_range_map w mt kt et b es clock hm h1, es, clock, clock, #[], clock, ((MapKept.heap_alloc w _).2 b hlt).trans h1, h2, (MapKept.heap_alloc w _).1, h2.st.1, Nat.le_refl _, Nat.le_refl _, fun x hx k hk => ?_, fun k hk => ?_, rfl⟩
  · show (f k).isSome = _
    rw [h2.val x hx k hk]; simp
  · intro e
    have hk2 : (f k).isSome = true := hk
    rw [e] at hk2; cases hk2
/-- the step -/
theorem rg_next (h : RgAt kenc w b r f left cnt) (hk : KeyOk P kt kenc) (ty : TypeId) :
    (cnt = 0 ∧ (∀ k, left k = false) ∧ (Instr.next (.pointer (some ⟨r, 0, none⟩)) false ty).run P w = .ok (.tuple #[.bool false]) w) ∨
    ∃ k v w' cnt', left k = true ∧ f k = some v ∧ (Instr.next (.pointer (some ⟨r, 0, none⟩)) false ty).run P w = .ok (.tuple #[.bool true, kenc k, v]) w' ∧ RgAt kenc w' b r f (fun q => left q && !decide (q = k)) cnt' ∧ cnt' < cnt ∧ Turn r w w' ∧
      (Instr.entry (.pointer (some ⟨r, 0, none⟩))).run P w' = .ok (.tuple #[kenc k, v]) w' := by
  have hne := h.ne
  obtain ⟨es, clock, since, seen, c0, hb, hM, hr, hold, hsc, hsk, hl1, hl2, rfl⟩ := h
  rcases run_next_at (P := P) w ty r b since c0 seen es clock hr hb hold hsc with ⟨h0, hrun⟩ | ⟨e, he, w1, hal, hrun⟩
  · refine .inl ⟨h0, fun k => ?_, hrun⟩
    cases hlk : left k with
    | false => rfl
    | true =>
      obtain ⟨x, hx, hxk⟩ := hM.all k (hl2 k hlk)
      rw [hl1 x hx k hxk, all_seen es seen h0 x hx] at hlk
      cases hlk
  · obtain ⟨hem, hes⟩ := mem_left he
    obtain ⟨k, hkk⟩ := hM.key e hem
    have hst := (stamped_iff es clock).1 hM.st
    have hr1 : w1.heap[r]? = some (.mapIter (some b) since seen c0) := by rcases hal with rfl | rfl <;> exact hr
    have hb1 : w1.heap[b]? = some (.map es clock) := by rcases hal with rfl | rfl <;> exact hb
    have hset := heap_set (o' := .mapIter (some b) since (seen.push e.born) clock) hr1
    have hb' : (Go.ChangeMaps.setBlock w1 r (.mapIter (some b) since (seen.push e.born) clock)).heap[b]? = some (.map es clock) := (hset.2 b (fun e1 => hne e1.symm)).trans hb1
    refine .inr ⟨k, e.val, _, _, by rw [hl1 e hem k hkk, hes]; rfl, hM.val e hem k hkk, by rw [hrun, hkk], ⟨es, clock, since, seen.push e.born, clock, hb', hM, hset.1, hold, hsk, hsk, fun x hx q hq => ?_, fun q hq => ?_, rfl⟩, left_shrinks es seen e he, ?_, ?_⟩
    · show (left q && !decide (q = k)) = _
      rw [hl1 x hx q hq, contains_push]
      by_cases hxe : x.born = e.born
      · obtain rfl := born_inj hst.2.1 hx hem hxe
        have := hk.inj _ _ (hq.symm.trans hkk)
        simp [this]
      · have hqk : q ≠ k := fun e2 => hxe (congrArg MapEntry.born (entry_eq_of_key hst.2.2 hx hem (by rw [hq, hkk, e2])))
        have : (x.born == e.born) = false := by simp [hxe]
        rw [this]
        simp [hqk]
    · simp only [Bool.and_eq_true] at hq
      exact hl2 q hq.1
    · rcases hal with rfl | rfl
      · exact Turn.setBlock _ _ _
      · exact (Turn.drew r _).trans (Turn.setBlock _ _ _)
    · rw [← hkk]
      exact run_entry_at _ r b since seen es clock e hset.1 hb' hem hst.2.1
/-- a store at a key that is there -/
theorem rg_store (h : RgAt kenc w b r f left cnt) (hk : KeyOk P kt kenc) (hm : P.underlying mt = some (.map kt et)) (k : K) (v : Value) (hf : f k ≠ none) :
    ∃ w', (Instr.mapUpdate mt (.map (some b)) (kenc k) v).run P w = .ok () w' ∧ Turn b w w' ∧ RgAt kenc w' b r (fun q => if q = k then some v else f q) left cnt := by
  have hne := h.ne
  obtain ⟨es, clock, since, seen, c0, hb, hM, hr, hold, hsc, hsk, hl1, hl2, rfl⟩ := h
  rcases hk.find k w es.toList hM.key with ⟨h1, h2⟩ | ⟨j, e, h1, h2, h3⟩
  · obtain ⟨x, hx, he⟩ := hM.all k hf
    exact absurd he (h2 x hx)
  · have hj : es[j]? = some e := by simpa using h2
    have hT := Turn.setMap w b (es.modify j fun e => { e with key := kenc k, val := v }) clock
    have hmem : ∀ x ∈ (es.modify j fun e => { e with key := kenc k, val := v }).toList, ∃ y ∈ es.toList, x.born = y.born ∧ x.key = y.key := fun x hx => by
      obtain ⟨i, hi⟩ := List.mem_iff_getElem?.1 hx
      rw [Array.getElem?_toList, Array.getElem?_modify] at hi
      split at hi
      · rename_i hji
        subst hji
        rw [hj] at hi
        simp at hi
        subst hi
        exact ⟨e, List.mem_of_getElem? h2, rfl, h3.symm⟩
      · exact ⟨x, List.mem_of_getElem? (by rw [Array.getElem?_toList]; exact hi), rfl, rfl⟩
    refine ⟨setMap w b (es.modify j fun e => { e with key := kenc k, val := v }) clock, ?_, hT, _, clock, since, seen, c0, setMap_get hb _ _, hM.modify hk k v hj h3 _ (fun _ => rfl) rfl rfl, (hT.other r hne).trans hr, fun x hx => ?_, hsc, hsk, fun x hx q hq => ?_, fun q hq => ?_, ?_⟩
    · simp [Instr.mapUpdate, run_underlying hm, Go.MapKept.run_getObj_map hb, hk.check, h1, hj, h3, stays_k hk, run_setObj_map _ hb, Result.andThen, setMap]
    · obtain ⟨y, hy, e1, _⟩ := hmem x hx
      rw [e1]; exact hold y hy
    · obtain ⟨y, hy, e1, e2⟩ := hmem x hx
      rw [e1]; exact hl1 y hy q (e2.symm.trans hq)
    · show (if q = k then some v else f q) ≠ none
      split
      · simp
      · exact hl2 q hq
    · have e1 : ∀ a : Array MapEntry, (leftOf a seen).size = ((a.toList.map (·.born)).filter fun z => !seen.contains z).length := fun a => by
        unfold leftOf
        rw [← Array.length_toList, Array.toList_filter, List.filter_map, List.length_map]
        rfl
      rw [e1, e1]
      have : (es.modify j fun e => { e with key := kenc k, val := v }).toList.map (·.born) = es.toList.map (·.born) := by
        apply List.ext_getElem?
        intro i
        simp only [List.getElem?_map, Array.getElem?_toList, Array.getElem?_modify]
        by_cases hij : j = i
        · subst hij; rw [hj]; simp
        · simp [hij]
      rw [this]
theorem erase_list (es : Array MapEntry) (j : Nat) (hj : j < es.size) : (es.eraseIdxIfInBounds j).toList = es.toList.eraseIdx j := by
  unfold Array.eraseIdxIfInBounds
  rw [dif_pos hj]
  simp
omit [DecidableEq K] in
theorem key_idx {es : Array MapEntry} {clock : Nat} (hM : MapOf kenc es clock f) {i j : Nat} {x e : MapEntry} (hi : es.toList[i]? = some x) (hj : es.toList[j]? = some e) (hx : x.key = e.key) : i = j := by
  have hn := hM.st.2.2
  have h1 : (es.toList.map (·.key))[i]? = some e.key := by rw [List.getElem?_map, hi]; simp [hx]
  have h2 : (es.toList.map (·.key))[j]? = some e.key := by rw [List.getElem?_map, hj]; rfl
  exact (List.getElem?_inj (List.getElem?_eq_some_iff.1 h1).1 hn).1 (h1.trans h2.symm)
theorem MapOf.erase (hk : KeyOk P kt kenc) {es : Array MapEntry} {clock : Nat} (hM : MapOf kenc es clock f) (k : K) {j : Nat} {e : MapEntry} (hj : es.toList[j]? = some e) (he : e.key = kenc k) : MapOf kenc (es.eraseIdxIfInBounds j) clock (fun q => if q = k then none else f q) := by
  have hjs : j < es.size := by have := (List.getElem?_eq_some_iff.1 hj).1; simpa using this
  have hl := erase_list es j hjs
  have hmem : ∀ x ∈ (es.eraseIdxIfInBounds j).toList, x ∈ es.toList ∧ x.key ≠ kenc k := fun x hx => by
    rw [hl, List.mem_eraseIdx_iff_getElem?] at hx
    obtain ⟨i, hne, hi⟩ := hx
    exact ⟨List.mem_of_getElem? hi, fun e2 => hne (key_idx hM hi hj (by rw [e2, he]))⟩
  refine ⟨stamped_erase hM.st j, fun x hx => hM.key x (hmem x hx).1, fun x hx q hq => ?_, fun q hq => ?_⟩
  · have h1 := hmem x hx
    have : q ≠ k := fun e2 => h1.2 (by rw [hq, e2])
    show (if q = k then none else f q) = _
    rw [if_neg this]
    exact hM.val x h1.1 q hq
  · have hq2 : (if q = k then none else f q) ≠ none := hq
    by_cases hqk : q = k
    · rw [if_pos hqk] at hq2; exact absurd rfl hq2
    · rw [if_neg hqk] at hq2
      obtain ⟨x, hx, hxe⟩ := hM.all q hq2
      refine ⟨x, ?_, hxe⟩
      rw [hl, List.mem_eraseIdx_iff_getElem?]
      obtain ⟨i, hi⟩ := List.getElem?_of_mem hx
      refine ⟨i, fun e1 => hqk ?_, hi⟩
      subst e1
      rw [hj] at hi
      cases hi
      exact hk.inj _ _ (hxe.symm.trans he)
theorem run_delete_k (hk : KeyOk P kt kenc) (hm : P.underlying mt = some (.map kt et)) (h : MapAt kenc w r f) (k : K) (ty : TypeId) :
    ∃ w', (Builtin.delete_ #[mt, kt] ty #[.map (some r), kenc k]).run P w = .ok (.tuple #[]) w' ∧ Turn r w w' ∧ MapAt kenc w' r (fun q => if q = k then none else f q) := by
  obtain ⟨es, clock, hb, hM⟩ := h
  rcases hk.find k w es.toList hM.key with ⟨h1, h2⟩ | ⟨j, e, h1, h2, h3⟩
  · refine ⟨Go.ChangeMaps.setBlock w r (.map es clock), ?_, Turn.setBlock _ _ _, es, clock, (heap_set hb).1, ?_⟩
    · simp [Builtin.delete_, run_underlying hm, MapKept.run_getObj_map hb, hk.check, h1, MapKept.run_setObj_map _ hb, Result.andThen, Go.ChangeMaps.setBlock]
    · have hf : f k = none := by
        cases hfk : f k with
        | none => rfl
        | some v => obtain ⟨x, hx, he⟩ := hM.all k (by simp [hfk]); exact absurd he (h2 x hx)
      have : (fun q => if q = k then none else f q) = f := by
        funext q
        by_cases hq : q = k
        · rw [if_pos hq, hq, hf]
        · rw [if_neg hq]
      rw [this]; exact hM
  · refine ⟨Go.ChangeMaps.setBlock w r (.map (es.eraseIdxIfInBounds j) clock), ?_, Turn.setBlock _ _ _, _, clock, (heap_set hb).1, hM.erase hk k h2 h3⟩
    simp [Builtin.delete_, run_underlying hm, MapKept.run_getObj_map hb, hk.check, h1, MapKept.run_setObj_map _ hb, Result.andThen, Go.ChangeMaps.setBlock]
/-- delete, in the round -/
theorem rg_delete (h : RgAt kenc w b r f left cnt) (hk : KeyOk P kt kenc) (hm : P.underlying mt = some (.map kt et)) (k : K) (ty : TypeId) (hf : f k ≠ none) (hlk : left k = false) :
    ∃ w' cnt', (Builtin.delete_ #[mt, kt] ty #[.map (some b), kenc k]).run P w = .ok (.tuple #[]) w' ∧ Turn b w w' ∧ RgAt kenc w' b r (fun q => if q = k then none else f q) left cnt' ∧ cnt' ≤ cnt := by
  have hne := h.ne
  obtain ⟨es, clock, since, seen, c0, hb, hM, hr, hold, hsc, hsk, hl1, hl2, rfl⟩ := h
  rcases hk.find k w es.toList hM.key with ⟨h1, h2⟩ | ⟨j, e, h1, h2, h3⟩
  · obtain ⟨x, hx, he⟩ := hM.all k hf
    exact absurd he (h2 x hx)
  · have hjs : j < es.size := by have := (List.getElem?_eq_some_iff.1 h2).1; simpa using this
    have hl := erase_list es j hjs
    have hsub : ∀ x ∈ (es.eraseIdxIfInBounds j).toList, x ∈ es.toList := fun x hx => by rw [hl] at hx; exact (List.eraseIdx_sublist _ _).subset hx
    have hT := Turn.setBlock w b (.map (es.eraseIdxIfInBounds j) clock)
    refine ⟨Go.ChangeMaps.setBlock w b (.map (es.eraseIdxIfInBounds j) clock), _, ?_, hT, ⟨_, clock, since, seen, c0, (heap_set hb).1, hM.erase hk k h2 h3, (hT.other r hne).trans hr, fun x hx => hold x (hsub x hx), hsc, hsk, fun x hx q hq => hl1 x (hsub x hx) q hq, fun q hq => ?_, rfl⟩, ?_⟩
    · simp [Builtin.delete_, run_underlying hm, MapKept.run_getObj_map hb, hk.check, h1, MapKept.run_setObj_map _ hb, Result.andThen, Go.ChangeMaps.setBlock]
    · show (if q = k then none else f q) ≠ none
      have : q ≠ k := fun e2 => by rw [e2, hlk] at hq; cases hq
      rw [if_neg this]
      exact hl2 q hq
    · have e1 : ∀ a : Array MapEntry, (leftOf a seen).size = (a.toList.filter fun e => !seen.contains e.born).length := fun a => by
        unfold leftOf
        rw [← Array.toList_filter, Array.length_toList]
      rw [e1, e1, hl]
      exact ((List.eraseIdx_sublist _ _).filter _).length_le
/-- how many entries there are -/
theorem MapOf.count (hk : KeyOk P kt kenc) {es : Array MapEntry} {clock : Nat} (hM : MapOf kenc es clock f) (l : List K) (hn : l.Nodup) (hl : ∀ k, k ∈ l ↔ f k ≠ none) : es.size = l.length := by
  have hp : (es.toList.map (·.key)).Perm (l.map kenc) := by
    refine (List.perm_ext_iff_of_nodup hM.st.2.2 ?_).2 fun v => ?_
    · rw [List.Nodup, List.pairwise_map]
      exact hn.imp fun hne e => hne (hk.inj _ _ e)
    · rw [List.mem_map, List.mem_map]
      constructor
      · rintro ⟨x, hx, rfl⟩
        obtain ⟨k, hkk⟩ := hM.key x hx
        exact ⟨k, (hl k).2 (by rw [hM.val x hx k hkk]; simp), hkk.symm⟩
      · rintro ⟨k, hkl, rfl⟩
        obtain ⟨x, hx, he⟩ := hM.all k ((hl k).1 hkl)
        exact ⟨x, hx, he⟩
  have := hp.length_eq
  simpa using this
theorem run_len_k (hk : KeyOk P kt kenc) (hm : P.underlying mt = some (.map kt et)) (h : MapAt kenc w r f) (l : List K) (hn : l.Nodup) (hl : ∀ k, k ∈ l ↔ f k ≠ none) (ty : TypeId) :
    (Builtin.len_ #[mt] ty #[.map (some r)]).run P w = .ok (.int .i64 (l.length : Nat)) w := by
  obtain ⟨es, clock, hb, hM⟩ := h
  have := hM.count hk l hn hl
  simp [Builtin.len_, run_underlying hm, MapKept.run_getObj_map hb, Result.andThen, this, goInt]
omit [DecidableEq K] in
theorem RgAt.left_eq (h : RgAt kenc w b r f left cnt) : w.rangeLeft b r = cnt := by
  obtain ⟨es, clock, since, seen, c0, h1, h2, h3, _, _, _, _, _, hc⟩ := h
  simp only [World.rangeLeft, h1, h3]
  exact hc
theorem wpList_rg_range {ops : Array Oper} {rest : List Oper} {o : Oper} {a : Act} {Q : Exit → Act → World → Prop} (hg : o.guard = none) (m : Operand) (hop : o.op = Op.range mt m) (hm : P.underlying mt = some (.map kt et)) (he : a.eval m = .map (some b)) (h : MapAt kenc w b f)
    (hK : ∀ w' cnt, RgAt kenc w' b w.heap.size f (fun k => (f k).isSome) cnt → Below w.heap.size w w' → w'.heap.size = w.heap.size + 1 → wpList P ops Q rest (a.put o.dst (.pointer (some ⟨w.heap.size, 0, none⟩))) w') : wpList P ops Q (o :: rest) a w := by
  refine wpList_plain hg fun K' hK' => ?_
  obtain ⟨cnt, hrun, hr⟩ := rg_start (P := P) (mt := mt) (et := et) hm h
  unfold Oper.wp
  simp [execOp, hop, he, hrun, Result.andThen]
  exact hK' _ _ (hK _ cnt hr ((Below.refl _ _).alloc (Nat.le_refl _) _) (by simp))
theorem wpList_rg_next {ops : Array Oper} {rest : List Oper} {o : Oper} {a : Act} {Q : Exit → Act → World → Prop} (hg : o.guard = none) (it : Operand) (hop : o.op = Op.next it false) (hit : a.eval it = .pointer (some ⟨r, 0, none⟩)) (h : RgAt kenc w b r f left cnt) (hk : KeyOk P kt kenc)
    (hDone : (∀ k, left k = false) → wpList P ops Q rest (a.put o.dst (.tuple #[.bool false])) w)
    (hMore : ∀ k v w' cnt', left k = true → f k = some v → RgAt kenc w' b r f (fun q => left q && !decide (q = k)) cnt' → cnt' < cnt → Turn r w w' → (Instr.entry (.pointer (some ⟨r, 0, none⟩))).run P w' = .ok (.tuple #[kenc k, v]) w' →
      wpList P ops Q rest (a.put o.dst (.tuple #[.bool true, kenc k, v])) w') : wpList P ops Q (o :: rest) a w := by
  refine wpList_plain hg fun K' hK' => ?_
  unfold Oper.wp
  rcases rg_next h hk o.type with ⟨_, h0, hrun⟩ | ⟨k, v, w', cnt', hlk, hf, hrun, hrg, hlt, hT, hen⟩
  · simp [execOp, hop, hit, hrun, Result.andThen]
    exact hK' _ _ (hDone h0)
  · simp [execOp, hop, hit, hrun, Result.andThen]
    exact hK' _ _ (hMore k v w' cnt' hlk hf hrg hlt hT hen)
/-- a clone -/
theorem MapAt.alloc_same (h : MapAt kenc w r f) : ∃ o, w.heap[r]? = some o ∧ (∃ es clock, o = .map es clock) ∧ MapAt kenc (w.alloc o) w.heap.size f := by
  obtain ⟨es, clock, hb, hM⟩ := h
  exact ⟨_, hb, ⟨_, _, rfl⟩, es, clock, (heap_alloc w _).1, hM⟩
end
end Go.Sac
