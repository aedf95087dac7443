/- Walks: paths held one against the other; a path's text. -/
import Derived.Test.YtncagcbdgimpfaaDoorT15RefParse
namespace Go.Proofs.YtncagcbdgimpfaaDoor
open Go.RowKit Go.Sac Go.Shelf
set_option linter.unusedVariables false
set_option linter.unusedSimpArgs false

set_option maxHeartbeats 2000000 in
theorem rparse_no (s : ByteArray) (w : World) (h : decide ((s.size : Int) < 1) = true ∨ (decide ((s.size : Int) < 1) = false ∧ decide ((s.size : Int) > 200) = true)) : Calls Tryd.prog 12 #[.string s] w fun e w' => RetPE false [] 11 w e w' := by
  rcases h with f0 | ⟨f0, f1⟩
  all_goals
    go_enter Tryd.func12, Tryd.ntmps12
    go_wp2_with (fail)
    refine bodyPost_ret (results_cell_slot rfl _ _ w.heap.size _ _ rfl rfl (load_row (Blk.new w 25 [.bool false, .slice none 0 0]) Tryd.underlying25 rfl info_path)) rfl ?_
    exact ⟨none, 0, rfl, Nat.le_refl _, Rc.nil _ _, (Below.refl _ w).alloc (Nat.le_refl _) _⟩
theorem rparse_calls (s : ByteArray) (w : World) (hs : s.size ≤ 140737488351232) :
    Calls Tryd.prog 12 #[.string s] w fun e w' => RetPE (absR s.data.toList) (namesL s.data.toList) (errR s.data.toList) w e w' := by
  by_cases h1 : 0 < s.size
  · by_cases h2 : s.size ≤ 200
    · exact rparse_core s w h1 h2
    · rw [errR, namesL, absR, (ok_long s (by omega)).1]
      exact rparse_no s w (Or.inr ⟨by simp; omega, by simp; omega⟩)
  · rw [errR, namesL, absR, (ok_empty s (by omega)).1]
    exact rparse_no s w (Or.inl (by simp; omega))

theorem sv_at {xs : List ByteArray} {i : Nat} (h : i < xs.length) : (svs xs)[i]? = some (.string xs[i]) := by simp [svs, List.getElem?_map, List.getElem?_eq_getElem h]
theorem svs_len (xs : List ByteArray) : (svs xs).length = xs.length := by simp [svs]
theorem str_beq (a b : ByteArray) : (a.toList == b.toList) = decide (a = b) := by
  rw [str_list, str_list]
  by_cases h : a = b
  · subst h; simp
  · have : a.data.toList ≠ b.data.toList := fun e => h (ByteArray.ext (Array.toList_inj.1 e))
    rw [beq_eq_false_iff_ne.2 this]; simp [h]
/-- are two paths the same? -/
def eqP (b1 b2 : Bool) (xs ys : List ByteArray) : Bool := decide (b1 = b2 ∧ xs = ys)
theorem eqP_no {b1 b2 : Bool} {xs ys : List ByteArray} (h : ¬ (b1 = b2 ∧ xs = ys)) : eqP b1 b2 xs ys = false := decide_eq_false h
theorem eqP_yes {b1 b2 : Bool} {xs ys : List ByteArray} (h : b1 = b2 ∧ xs = ys) : eqP b1 b2 xs ys = true := decide_eq_true h
theorem take_ne {xs ys : List ByteArray} {k : Nat} (h1 : k < xs.length) (h2 : k < ys.length) (h : xs[k] ≠ ys[k]) : xs ≠ ys := by rintro rfl; exact h rfl
theorem take_all {xs ys : List ByteArray} (h : xs.length = ys.length) (ht : xs.take xs.length = ys.take xs.length) : xs = ys := by
  rwa [List.take_length, h, List.take_length] at ht
set_option maxHeartbeats 4000000 in
theorem rsame_calls (b1 b2 : Bool) (A1 A2 : Option Addr) (n1 c1 n2 c2 : Nat) (xs ys : List ByteArray) (w : World) (hx : Rc w A1 (svs xs)) (hy : Rc w A2 (svs ys)) (e1 : n1 = xs.length) (e2 : n2 = ys.length) (hn : xs.length ≤ 140737488351232) (hm : ys.length ≤ 140737488351232) :
    Calls Tryd.prog 13 #[.agg #[.bool b1, .slice A1 n1 c1], .agg #[.bool b2, .slice A2 n2 c2]] w fun e w' => e = .returned (.bool (eqP b1 b2 xs ys)) ∧ Below w.heap.size w w' := by
  subst e1; subst e2
  have HX := Hd.mk hx
  have HY := Hd.mk hy
  clear hx hy
  by_cases hb : b1 = b2
  · subst hb
    have hbb : (b1 != b1) = false := by simp
    by_cases hl : xs.length = ys.length
    · have hll : ((xs.length : Int) != (ys.length : Int)) = false := by simp [hl]
      have BB0 := Hd.mk ((Blk.new w 25 [.bool b1, .slice A1 xs.length c1]).alloc (.cells #[.bool b1, .slice A2 ys.length c2] 25))
      have BB1 := Hd.mk (Blk.new (w.alloc (.cells #[.bool b1, .slice A1 xs.length c1] 25)) 25 [.bool b1, .slice A2 ys.length c2])
      rw [World.size_alloc] at BB1
      have HB : Hd (Below w.heap.size w ((w.alloc (.cells #[.bool b1, .slice A1 xs.length c1] 25)).alloc (.cells #[.bool b1, .slice A2 ys.length c2] 25))) := ⟨((Below.refl _ w).alloc (Nat.le_refl _) _).alloc (by simp) _⟩
      have HL := Hd.mk hl
      clear hl
      go_enter Tryd.func13, Tryd.ntmps13
      go_wp2_with (fail)
      go_loopw [4, 5] (fun r i wr => r = .bool false ∧ ∃ k : Nat, k ≤ xs.length ∧ i = .int .i64 k ∧ Hd (xs.take k = ys.take k) ∧ Hd (Blk wr w.heap.size 25 [.bool b1, .slice A1 xs.length c1]) ∧ Hd (Blk wr (w.heap.size + 1) 25 [.bool b1, .slice A2 ys.length c2]) ∧ Hd (Below w.heap.size w wr)) (fun _ i _ => xs.length - (intOf i).toNat)
      case atStart => exact ⟨rfl, 0, by omega, rfl, ⟨rfl⟩, BB0, BB1, HB⟩
      case round =>
        clear BB0 BB1 HB
        obtain ⟨rfl, k, hk, rfl, HT, BB0, BB1, HB⟩ := hrel
        by_cases hlt : k < xs.length
        · have hlt2 : k < ys.length := by have := HL.out; omega
          obtain ⟨b, off, rfl, hcx⟩ := (HX.out.below HB.out) k _ (sv_at hlt)
          obtain ⟨b', off', rfl, hcy⟩ := (HY.out.below HB.out) k _ (sv_at hlt2)
          have q0 : ∀ n, (wr.drewN n).cell? ⟨w.heap.size, 1, none⟩ = some (.slice (some ⟨b, off, none⟩) xs.length c1) := fun n => BB0.out.cell (i := 1) rfl
          have q1 : ∀ n, (wr.drewN n).cell? ⟨w.heap.size + 1, 1, none⟩ = some (.slice (some ⟨b', off', none⟩) ys.length c2) := fun n => BB1.out.cell (i := 1) rfl
          have p0 : wr.cell? ⟨w.heap.size, 1, none⟩ = some (.slice (some ⟨b, off, none⟩) xs.length c1) := BB0.out.cell (i := 1) rfl
          have i1 : (0 : Int) ≤ (k : Int) := by omega
          have i2 : (k : Int) < (xs.length : Int) := by omega
          have i3 : (k : Int) < (ys.length : Int) := by omega
          obtain ⟨x, hxk⟩ : ∃ x, x = xs[k] := ⟨_, rfl⟩
          obtain ⟨y, hyk⟩ : ∃ y, y = ys[k] := ⟨_, rfl⟩
          rw [← hxk] at hcx
          rw [← hyk] at hcy
          have r0 : ∀ n, (wr.drewN n).cell? ⟨b, off + k, none⟩ = some (.string x) := fun n => hcx
          have r1 : ∀ n, (wr.drewN n).cell? ⟨b', off' + k, none⟩ = some (.string y) := fun n => hcy
          have HXK := Hd.mk hxk
          have HYK := Hd.mk hyk
          clear hxk hyk hcx hcy
          by_cases hxy : x = y
          · have hne : (x.toList == y.toList) = true := by rw [str_beq]; simp [hxy]
            have HXY := Hd.mk hxy
            clear hxy
            go_wp2_with (fail)
            go_quiet (fail)
            go_wp2_with (fail)
            go_roundw
            case rel => exact ⟨rfl, k + 1, by omega, by go_num, ⟨by rw [List.take_succ_eq_append_getElem hlt, List.take_succ_eq_append_getElem hlt2, HT.out, ← HXK.out, ← HYK.out, HXY.out]⟩, BB0, BB1, ⟨below_drewN HB.out _⟩⟩
            case measure => simp [intOf]; omega
          · have hne : (x.toList == y.toList) = false := by rw [str_beq]; simp [hxy]
            have HNE : Hd (xs ≠ ys) := ⟨take_ne hlt hlt2 (by rw [← HXK.out, ← HYK.out]; exact hxy)⟩
            clear hxy
            go_wp2_with (fail)
            go_quiet (fail)
            go_wp2_with (fail)
            go_ret
            exact ⟨by rw [eqP_no (fun h => HNE.out h.2)]; rfl, below_drewN HB.out _⟩
        · obtain rfl : k = xs.length := by omega
          have p0 : wr.cell? ⟨w.heap.size, 1, none⟩ = some (.slice A1 xs.length c1) := BB0.out.cell (i := 1) rfl
          go_wp2_with (fail)
          go_ret
          exact ⟨by rw [eqP_yes ⟨rfl, take_all HL.out HT.out⟩]; rfl, HB.out⟩
    · have hll : ((xs.length : Int) != (ys.length : Int)) = true := by rw [bne_iff_ne]; omega
      have HNE : Hd (xs ≠ ys) := ⟨fun e => hl (by rw [e])⟩
      clear hl
      go_enter Tryd.func13, Tryd.ntmps13
      go_wp2_with (fail)
      go_ret
      exact ⟨by rw [eqP_no (fun h => HNE.out h.2)]; rfl, ((Below.refl _ w).alloc (Nat.le_refl _) _).alloc (by simp) _⟩
  · have hbb : (b1 != b2) = true := by simpa using hb
    have hbb2 : (b1 == b2) = false := by simpa using hb
    have HNE := Hd.mk hb
    clear hb
    go_enter Tryd.func13, Tryd.ntmps13
    go_wp2_with (fail)
    go_ret
    exact ⟨by rw [eqP_no (fun h => HNE.out h.1)]; rfl, ((Below.refl _ w).alloc (Nat.le_refl _) _).alloc (by simp) _⟩
/-- two rows of texts, by the library -/
theorem equal_any (A1 A2 : Option Addr) (n1 c1 n2 c2 : Nat) (xs ys : List ByteArray) (w : World) (hx : Rc w A1 (svs xs)) (hy : Rc w A2 (svs ys)) (e1 : n1 = xs.length) (e2 : n2 = ys.length) (hn : xs.length ≤ 140737488351232) (hm : ys.length ≤ 140737488351232) :
    Calls Tryd.prog 25 #[.slice A1 n1 c1, .slice A2 n2 c2] w fun e w' => e = .returned (.bool (decide (xs = ys))) ∧ Below w.heap.size w w' := by
  subst e1; subst e2
  by_cases hl : xs.length = ys.length
  · rcases Nat.eq_zero_or_pos xs.length with h0 | h0
    · have e1 : xs = [] := List.eq_nil_of_length_eq_zero h0
      have e2 : ys = [] := List.eq_nil_of_length_eq_zero (by omega)
      subst e1; subst e2
      exact (slices_Equal_string_empty A1 A2 c1 0 c2 w (by omega)).mono fun e w' h => by obtain ⟨h1, rfl⟩ := h; exact ⟨by rw [h1]; rfl, Below.refl _ _⟩
    · obtain ⟨b, off, rfl, _, hc1⟩ := hx.form (by rw [svs_len]; exact h0)
      obtain ⟨b', off', rfl, _, hc2⟩ := hy.form (by rw [svs_len]; omega)
      refine (slices_Equal_string b off xs.length c1 b' off' ys.length c2 xs ys w (Nat.le_refl _) (Nat.le_refl _) (by omega) (by omega) (fun j hj => ?_) (fun j hj => ?_)).mono fun e w' h => ?_
      · rw [hc1 j _ (sv_at hj), List.getD_eq_getElem?_getD, List.getElem?_eq_getElem hj]; rfl
      · rw [hc2 j _ (sv_at hj), List.getD_eq_getElem?_getD, List.getElem?_eq_getElem hj]; rfl
      · obtain ⟨h1, q, rfl⟩ := h
        rw [List.take_length, List.take_length] at h1
        exact ⟨h1, below_drewN (Below.refl _ _) q⟩
  · exact (slices_Equal_string_lens A1 A2 xs.length c1 ys.length c2 w hl).mono fun e w' h => by obtain ⟨h1, rfl⟩ := h; exact ⟨by rw [h1, decide_eq_false (fun e => hl (by rw [e]))], Below.refl _ _⟩
set_option maxHeartbeats 2000000 in
theorem same_calls (b1 b2 : Bool) (A1 A2 : Option Addr) (n1 c1 n2 c2 : Nat) (xs ys : List ByteArray) (w : World) (hx : Rc w A1 (svs xs)) (hy : Rc w A2 (svs ys)) (e1 : n1 = xs.length) (e2 : n2 = ys.length) (hn : xs.length ≤ 140737488351232) (hm : ys.length ≤ 140737488351232) :
    Calls Tryd.prog 15 #[.agg #[.bool b1, .slice A1 n1 c1], .agg #[.bool b2, .slice A2 n2 c2]] w fun e w' => e = .returned (.bool (eqP b1 b2 xs ys)) ∧ Below w.heap.size w w' := by
  have HX := Hd.mk hx
  have HY := Hd.mk hy
  have E1 := Hd.mk e1
  have E2 := Hd.mk e2
  clear hx hy e1 e2
  have HB : Hd (Below w.heap.size w ((w.alloc (.cells #[.bool b1, .slice A1 n1 c1] 25)).alloc (.cells #[.bool b2, .slice A2 n2 c2] 25))) := ⟨((Below.refl _ w).alloc (Nat.le_refl _) _).alloc (by simp) _⟩
  by_cases hb : b1 = b2
  · have hbb : (b1 == b2) = true := by simpa using hb
    have HBB := Hd.mk hb
    clear hb
    go_enter Tryd.func15, Tryd.ntmps15
    go_wp2_with (go_at_call 25; refine (equal_any _ _ _ _ _ _ xs ys _ (HX.out.below HB.out) (HY.out.below HB.out) E1.out E2.out hn hm).mono ?_; rintro e w2 ⟨rfl, hb2⟩)
    go_ret
    refine ⟨?_, below_then HB.out HB.out.size hb2⟩
    show Ending.returned (Value.bool (decide (xs = ys))) = _
    congr 2
    rw [HBB.out]; unfold eqP; simp
  · have hbb : (b1 == b2) = false := by simpa using hb
    have HBB := Hd.mk hb
    clear hb
    go_enter Tryd.func15, Tryd.ntmps15
    go_wp2_with (fail)
    go_ret
    exact ⟨by rw [eqP_no (fun h => HBB.out h.1)]; rfl, HB.out⟩
end Go.Proofs.YtncagcbdgimpfaaDoor
