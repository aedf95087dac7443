/- Walks: an entry put into a row, one dropped, by the document's answer; how many bytes there are. -/
import Derived.Test.YtiloeaenpanjcaaE14RefPut
namespace Go.Proofs.Ytiloeaenpanjcaa
open Go.RowKit Go.Sac
set_option linter.unusedVariables false
set_option linter.unusedSimpArgs false

set_option maxHeartbeats 1000000 in
theorem rput_calls (A : Option Addr) (n c : Nat) (l : List Ent) (x : Ent) (w : World) (hl : Rc w A (ens l)) (e1 : n = l.length) (hn : l.length ≤ 5864062014634) (hs : x.1.size ≤ 140737488351232) :
    Calls Try.prog 19 #[.slice A n c, ev x] w (RetLE (putL l x) (putE l x) w) := by
  cases hN : namedL x.1.data.toList
  · have e2 : putL l x = [] := by unfold putL; rw [hN]; rfl
    have e3 : putE l x = 11 := by unfold putE; rw [hN]; rfl
    rw [e2, e3]
    clear e2 e3
    obtain ⟨xn, xk⟩ := x
    have HNM := Hd.mk hN
    have HB : Hd (Below w.heap.size w (w.alloc (.cells #[.string xn, .int .i64 xk] 31))) := ⟨(Below.refl _ w).alloc (Nat.le_refl _) _⟩
    clear hl e1 hN hn
    dsimp only at hs
    unfold ev
    go_enter Try.func19, Try.ntmps19
    go_wp2_with (go_at_call 21; refine (rnamed_calls _ _ hs).mono ?_; rintro e w1 ⟨rfl, rfl⟩; rw [HNM.out])
    go_ret2
    exact retle_nil _ _ _ HB.out
  · rcases atE_ways l x.1 with hA | ⟨k, hA, hk⟩
    · have e2 : putL l x = insE l x := by unfold putL; rw [hN, hA]; rfl
      have e3 : putE l x = 0 := by unfold putE; rw [hN, hA]; rfl
      rw [e2, e3]
      exact rput_fresh A n c l x w hl e1 hn hs hN hA
    · have e2 : putL l x = [] := by unfold putL; rw [hN, hA, if_pos rfl, if_pos (by omega)]
      have e3 : putE l x = 13 := by unfold putE; rw [hN, hA, if_pos rfl, if_pos (by omega)]
      rw [e2, e3]
      clear e2 e3
      obtain ⟨xn, xk⟩ := x
      have HL := Hd.mk hl
      have HE := Hd.mk e1
      have HNM := Hd.mk hN
      have HAT := Hd.mk hA
      have HN := Hd.mk hn
      have HB : Hd (Below w.heap.size w (w.alloc (.cells #[.string xn, .int .i64 xk] 31))) := ⟨(Below.refl _ w).alloc (Nat.le_refl _) _⟩
      clear hl e1 hN hA hn hk
      dsimp only at hs
      unfold ev
      go_enter Try.func19, Try.ntmps19
      go_wp2_with (first
        | (go_at_call 21; refine (rnamed_calls _ _ hs).mono ?_; rintro e w1 ⟨rfl, rfl⟩; rw [HNM.out])
        | (go_at_call 35; refine (rat_calls A n c l _ _ (HL.out.below HB.out) HE.out (by have := HN.out; omega)).mono ?_; rintro e w2 ⟨rfl, rfl⟩; rw [HAT.out]))
      go_ret2
      exact retle_nil _ _ _ HB.out
/-- the row behind i rounds, without the entry at z -/
def rowDrop (l : List Ent) (z : Int) (i : Nat) : List Ent := if z < 0 then l.take i else (l.take i).eraseIdx z.toNat
theorem rowDrop_len (l : List Ent) (z : Int) (i : Nat) : (rowDrop l z i).length ≤ i := by
  unfold rowDrop
  split
  · rw [List.length_take]; omega
  · have := List.length_eraseIdx_le (l.take i) z.toNat; rw [List.length_take] at this; omega
theorem drop_on {l : List Ent} {z : Int} {i : Nat} (hi : i < l.length) (h : (i : Int) ≠ z) : rowDrop l z (i + 1) = rowDrop l z i ++ [l[i]] := by
  have hl : (l.take i).length = i := by rw [List.length_take]; omega
  unfold rowDrop
  split
  · rw [List.take_succ_eq_append_getElem hi]
  · rw [List.take_succ_eq_append_getElem hi]
    by_cases hz : z.toNat < i
    · rw [List.eraseIdx_append_of_lt_length (by rw [hl]; exact hz)]
    · rw [List.eraseIdx_of_length_le (by simp; omega), List.eraseIdx_of_length_le (by rw [hl]; omega)]
theorem drop_off {l : List Ent} {z : Int} {i : Nat} (hi : i < l.length) (h : (i : Int) = z) : rowDrop l z (i + 1) = rowDrop l z i := by
  have hl : (l.take i).length = i := by rw [List.length_take]; omega
  unfold rowDrop
  rw [if_neg (by omega), if_neg (by omega), List.take_succ_eq_append_getElem hi, show z.toNat = i by omega, List.eraseIdx_append_of_length_le (l := l.take i) (by rw [hl]; exact Nat.le_refl _), List.eraseIdx_of_length_le (l := l.take i) (by rw [hl]; exact Nat.le_refl _), hl, Nat.sub_self]
  simp
theorem drop_end (l : List Ent) (t : ByteArray) : rowDrop l (atE l t) l.length = dropL l t := by
  unfold rowDrop dropL
  rw [List.take_of_length_le (Nat.le_refl _)]
  split
  · rw [if_neg (by omega)]
  · rw [if_pos (by omega)]
set_option maxHeartbeats 4000000 in
theorem rdrop_calls (A : Option Addr) (n c : Nat) (l : List Ent) (t : ByteArray) (w : World) (hl : Rc w A (ens l)) (e1 : n = l.length) (hn : l.length ≤ 5864062014634) :
    Calls Try.prog 20 #[.slice A n c, .string t] w (RetD (dropL l t) (findB l t) w) := by
  obtain ⟨z, hz⟩ : ∃ z, atE l t = z := ⟨_, rfl⟩
  have HL := Hd.mk hl
  have HE := Hd.mk e1
  have HZ := Hd.mk hz
  have hzb : findB l t = decide (0 ≤ z) := by unfold findB; rw [hz]
  rw [hzb]
  have HD : Hd (rowDrop l z n = dropL l t) := ⟨by rw [← hz, e1]; exact drop_end l t⟩
  rw [← e1] at hn
  clear hl e1 hz hzb
  go_enter Try.func20, Try.ntmps20
  go_wp2_with (go_at_call 35; refine (rat_calls A n c l _ _ HL.out HE.out (by have := HE.out; omega)).mono ?_; rintro e w2 ⟨rfl, hw⟩; obtain rfl : w = w2 := hw.symm; rw [HZ.out])
  go_loopw [7, 8] (fun ov iv wr => ∃ (i m : Nat), iv = .int .i64 (i : Int) ∧ i ≤ n ∧ m ≤ i ∧ Hd ((rowDrop l z i).length = m) ∧ Hd (wr.ownsRow w.heap.size 31 2 ov m (ens (rowDrop l z i))) ∧ Hd (Below w.heap.size w wr)) (fun _ iv _ => n - (intOf iv).toNat)
  case atStart => exact ⟨0, 0, rfl, Nat.zero_le _, Nat.le_refl _, ⟨by unfold rowDrop; split <;> simp⟩, ⟨by rw [show rowDrop l z 0 = [] by unfold rowDrop; split <;> simp]; exact World.ownsRow_nil _ _ _ _⟩, ⟨Below.refl _ _⟩⟩
  case round =>
    obtain ⟨i, m, rfl, hi, hm, HM, HO, HB⟩ := hrel
    by_cases hlt : i < n
    · have hil : i < l.length := by rw [← HE.out]; exact hlt
      have hil2 : (i : Int) < (n : Int) := by omega
      obtain ⟨b, off, rfl, hb, hr⟩ := rcK_form ecs_len (by decide) HL.out (by omega)
      obtain ⟨⟨yn, yk⟩, hy0⟩ : ∃ y, l[i] = y := ⟨_, rfl⟩
      have hx := hr i hil
      rw [hy0] at hx
      have HX := Hd.mk hx
      clear hr hx hb
      by_cases hiz : (i : Int) = z
      · have HS : Hd (rowDrop l z (i + 1) = rowDrop l z i) := ⟨drop_off hil hiz⟩
        have c1 : ((i : Int) != z) = false := by simp [hiz]
        clear hy0 hil hiz
        go_wp2
        go_roundw
        case rel => exact ⟨i + 1, m, by go_num, by omega, by omega, ⟨by rw [HS.out]; exact HM.out⟩, ⟨by rw [HS.out]; exact HO.out⟩, HB⟩
        case measure => simp [intOf]; omega
      · have HS : Hd (rowDrop l z (i + 1) = rowDrop l z i ++ [(yn, yk)]) := ⟨by rw [drop_on hil hiz, hy0]⟩
        have c1 : ((i : Int) != z) = true := by simp [hiz]
        clear hy0 hil hiz
        go_wp2_with (first
          | (refine wpList_ldmid rfl 31 (.tmp 24) rfl b (off + i * 2) rfl [.string yn, .int .i64 yk] _ (HX.out _ HB.out) Try.underlying31 rfl (ent_info.trans rfl) ?_)
          | (at_builtin; refine app_rc w.heap.size 25 31 _ 2 24 _ _ rfl rfl Try.underlying25 info_ent rfl (by decide) (by decide) _ m (ens (rowDrop l z i)) (ecs (yn, yk)) _ 1 1 rfl rfl (own_alloc HO.out _) (Blk.new wr 31 (ecs (yn, yk))).rc rfl (ecs_one _) (by rw [World.size_alloc]; have := HB.out.size; omega) (by omega) (m + 1) (ens (rowDrop l z i ++ [(yn, yk)])) rfl (by rw [ens_app, ens_single]) ?_
             intro v1 w1 ho hg hat
             have HB := Hd.mk (below_lift (HB.out.alloc HB.out.size _) (by rw [World.size_alloc]; have := HB.out.size; omega) hg (fun k hk => (own_lt HO.out k hk).1)); have HO := Hd.mk ho; clear ho hg hat))
        go_roundw
        case rel => exact ⟨i + 1, m + 1, by go_num, by omega, by omega, ⟨by rw [HS.out, List.length_append, HM.out]; rfl⟩, ⟨by rw [HS.out]; exact HO.out⟩, HB⟩
        case measure => simp [intOf]; omega
    · obtain rfl : i = n := by omega
      go_wp2
      go_ret2
      refine ⟨_, rfl, ?_, HB.out⟩
      rw [← HD.out, HM.out]
      exact HO.out
/-- how many bytes, as the sum wraps -/
def longZ (l : List Ent) : Int := l.foldl (fun s y => wrap64 (wrap64 (s + 1) + (y.1.size : Int))) 0
theorem longZ_step (l : List Ent) (i : Nat) (h : i < l.length) : longZ (l.take (i + 1)) = wrap64 (wrap64 (longZ (l.take i) + 1) + (l[i].1.size : Int)) := by
  unfold longZ
  rw [List.take_succ_eq_append_getElem h, List.foldl_append]
  rfl
set_option maxHeartbeats 4000000 in
theorem long_calls (A : Option Addr) (n c : Nat) (l : List Ent) (w : World) (hl : Rc w A (ens l)) (e1 : n = l.length) (hn : l.length ≤ 5864062014634) :
    Calls Try.prog 13 #[.slice A n c] w fun e w' => e = .returned (.int .i64 (longZ l)) ∧ w' = w := by
  have HL := Hd.mk hl
  have HE := Hd.mk e1
  rw [← e1] at hn
  clear hl e1
  go_enter Try.func13, Try.ntmps13
  go_wp2
  go_loop [3, 4] (fun sv iv => ∃ (i : Nat) (z : Int), iv = .int .i64 (i : Int) ∧ i ≤ n ∧ sv = .int .i64 z ∧ Hd (longZ (l.take i) = z)) (fun _ iv => n - (intOf iv).toNat)
  case atStart => exact ⟨0, 0, rfl, Nat.zero_le _, rfl, ⟨rfl⟩⟩
  case round =>
    obtain ⟨i, z, rfl, hi, rfl, HZ⟩ := hrel
    by_cases hlt : i < n
    · have hil : i < l.length := by rw [← HE.out]; exact hlt
      have hil2 : (i : Int) < (n : Int) := by omega
      obtain ⟨b, off, rfl, hc⟩ := node_cell HL.out i hil
      obtain ⟨hc1, hc2⟩ := hc w (Below.refl _ _)
      have hst := longZ_step l i hil
      obtain ⟨y, hy⟩ : ∃ y, l[i].1 = y := ⟨_, rfl⟩
      rw [hy] at hc1
      rw [hy, HZ.out] at hst
      have HST := Hd.mk hst
      clear hc hc2 hy hil hst
      go_wp2
      go_round
      case rel => exact ⟨i + 1, _, by go_num, by omega, rfl, HST⟩
      case measure => simp [intOf]; omega
    · obtain rfl : i = n := by omega
      have HA : Hd (longZ l = z) := ⟨by rw [← HZ.out, HE.out, List.take_of_length_le (Nat.le_refl _)]⟩
      go_wp2
      go_ret
      exact ⟨by rw [HA.out]; rfl, rfl⟩
end Go.Proofs.Ytiloeaenpanjcaa
