/- Walks: an entry put into a row, one dropped, one found. -/
import Derived.Test.YtiloeaenpanjcaaE14Put
namespace Go.Proofs.Ytiloeaenpanjcaa
open Go.RowKit Go.Sac
set_option linter.unusedVariables false
set_option linter.unusedSimpArgs false

theorem retle_nil (er : Int) (w w' : World) (hb : Below w.heap.size w w') : RetLE [] er w (.returned (.tuple #[.slice none 0 0, .int .i64 er])) w' := ⟨_, rfl, World.ownsRow_nil _ _ _ _, hb⟩
set_option maxHeartbeats 1000000 in
theorem eput_calls (A : Option Addr) (n c : Nat) (l : List Ent) (x : Ent) (w : World) (hl : Rc w A (ens l)) (e1 : n = l.length) (hn : l.length ≤ 5864062014634) (hs : x.1.size ≤ 140737488351232) :
    Calls Try.prog 14 #[.slice A n c, ev x] w (RetLE (putL l x) (putE l x) w) := by
  cases hN : namedL x.1.data.toList
  · have e2 : putL l x = [] := by unfold putL; rw [hN]; rfl
    have e3 : putE l x = 11 := by unfold putE; rw [hN]; rfl
    rw [e2, e3]
    clear e2 e3
    obtain ⟨xn, xk⟩ := x
    have HNM := Hd.mk hN
    have HB : Hd (Below w.heap.size w (w.alloc (.cells #[.string xn, .int .i64 xk] 31))) := ⟨(Below.refl _ w).alloc (Nat.le_refl _) _⟩
    clear hl e1 hN hn
    dsimp only at hs
    unfold ev
    go_enter Try.func14, Try.ntmps14
    go_wp2_with (go_at_call 12; refine (named_calls _ _ hs).mono ?_; rintro e w1 ⟨rfl, hb⟩; rw [HNM.out]; have HB := Hd.mk (below_then HB.out HB.out.size hb); clear hb)
    go_ret2
    exact retle_nil _ _ _ HB.out
  · rcases atE_ways l x.1 with hA | ⟨k, hA, hk⟩
    · have e2 : putL l x = insE l x := by unfold putL; rw [hN, hA]; rfl
      have e3 : putE l x = 0 := by unfold putE; rw [hN, hA]; rfl
      rw [e2, e3]
      exact put_fresh A n c l x w hl e1 hn hs hN hA
    · have e2 : putL l x = [] := by unfold putL; rw [hN, hA, if_pos rfl, if_pos (by omega)]
      have e3 : putE l x = 13 := by unfold putE; rw [hN, hA, if_pos rfl, if_pos (by omega)]
      rw [e2, e3]
      clear e2 e3
      obtain ⟨xn, xk⟩ := x
      have HL := Hd.mk hl
      have HE := Hd.mk e1
      have HNM := Hd.mk hN
      have HAT := Hd.mk hA
      have HN := Hd.mk hn
      have K0 : Hd (Blk (w.alloc (.cells #[.string xn, .int .i64 xk] 31)) w.heap.size 31 (ecs (xn, xk))) := ⟨Blk.new w _ _⟩
      have HB : Hd (Below w.heap.size w (w.alloc (.cells #[.string xn, .int .i64 xk] 31))) := ⟨(Below.refl _ w).alloc (Nat.le_refl _) _⟩
      clear hl e1 hN hA hn hk
      dsimp only at hs
      unfold ev
      go_enter Try.func14, Try.ntmps14
      go_wp2_with (first
        | (go_at_call 12; refine (named_calls _ _ hs).mono ?_; rintro e w1 ⟨rfl, hb⟩; rw [HNM.out]; have hc : w1.cell? ⟨w.heap.size, 0, none⟩ = some (.string xn) := (K0.out.below hb K0.out.lt).cell rfl; have HB := Hd.mk (below_then HB.out HB.out.size hb); clear hb)
        | (go_at_call 29; refine (at_calls A n c l _ _ (HL.out.below HB.out) HE.out (by have := HN.out; omega)).mono ?_; rintro e w2 ⟨rfl, hb⟩; rw [HAT.out]; have HB := Hd.mk (below_then HB.out HB.out.size hb); clear hb))
      go_ret2
      exact retle_nil _ _ _ HB.out
def findN (l : List Ent) (t : ByteArray) : Int := if 0 ≤ atE l t then (l[(atE l t).toNat]?.getD (⟨#[]⟩, 0)).2 else 0
def findB (l : List Ent) (t : ByteArray) : Bool := decide (0 ≤ atE l t)
def RetF (l : List Ent) (t : ByteArray) (w : World) (e : Ending) (w' : World) : Prop := e = .returned (.tuple #[.int .i64 (findN l t), .bool (findB l t)]) ∧ Below w.heap.size w w'
theorem node_cell {A : Option Addr} {l : List Ent} {w : World} (h : Rc w A (ens l)) (k : Nat) (hk : k < l.length) : ∃ b off, A = some ⟨b, off, none⟩ ∧ ∀ W, Below w.heap.size w W → W.cell? ⟨b, off + k * 2, none⟩ = some (.string l[k].1) ∧ W.cell? ⟨b, off + k * 2 + 1, none⟩ = some (.int .i64 l[k].2) := by
  obtain ⟨b, off, hA, hb, hr⟩ := rcK_form ecs_len (by decide) h (by omega)
  exact ⟨b, off, hA, fun W hW => ⟨hr k hk W hW 0 _ rfl, hr k hk W hW 1 _ rfl⟩⟩
set_option maxHeartbeats 1000000 in
theorem find_calls (A : Option Addr) (n c : Nat) (l : List Ent) (t : ByteArray) (w : World) (hl : Rc w A (ens l)) (e1 : n = l.length) (hn : l.length ≤ 5864062014634) :
    Calls Try.prog 17 #[.slice A n c, .string t] w (RetF l t w) := by
  have HL := Hd.mk hl
  have HE := Hd.mk e1
  have HN := Hd.mk hn
  rcases atE_ways l t with hA | ⟨k, hA, hk⟩
  · have HAT := Hd.mk hA
    have E1 : Hd (findN l t = 0) := ⟨by unfold findN; rw [hA]; rfl⟩
    have E2 : Hd (findB l t = false) := ⟨by unfold findB; rw [hA]; rfl⟩
    clear hl e1 hn hA
    go_enter Try.func17, Try.ntmps17
    go_wp2_with (go_at_call 29; refine (at_calls A n c l _ _ HL.out HE.out (by have := HN.out; omega)).mono ?_; rintro e w2 ⟨rfl, hb⟩; rw [HAT.out]; have HB := Hd.mk hb; clear hb)
    go_ret2
    refine ⟨?_, HB.out⟩
    rw [E1.out, E2.out]; rfl
  · have HAT := Hd.mk hA
    obtain ⟨b, off, rfl, hc⟩ := node_cell hl k hk
    have HC := Hd.mk hc
    have E1 : Hd (findN l t = l[k].2) := ⟨by unfold findN; rw [hA, if_pos (by omega), Int.toNat_natCast, List.getElem?_eq_getElem hk]; rfl⟩
    have E2 : Hd (findB l t = true) := ⟨by unfold findB; rw [hA]; exact decide_eq_true (by omega)⟩
    have hkn : k < n := by omega
    have hkn2 : (k : Int) < (n : Int) := by omega
    obtain ⟨y, hy⟩ : ∃ y, l[k] = y := ⟨_, rfl⟩
    rw [hy] at HC E1
    clear hl e1 hn hA hc hk hy
    go_enter Try.func17, Try.ntmps17
    go_wp2_with (go_at_call 29; refine (at_calls _ n c l _ _ HL.out HE.out (by have := HN.out; omega)).mono ?_; rintro e w2 ⟨rfl, hb⟩; rw [HAT.out]; have HB := Hd.mk hb; have hcc := (HC.out _ hb).2; clear hb)
    go_ret2
    refine ⟨?_, HB.out⟩
    rw [E1.out, E2.out]; rfl
set_option maxHeartbeats 1000000 in
theorem rfind_calls (A : Option Addr) (n c : Nat) (l : List Ent) (t : ByteArray) (w : World) (hl : Rc w A (ens l)) (e1 : n = l.length) (hn : l.length ≤ 5864062014634) :
    Calls Try.prog 18 #[.slice A n c, .string t] w (RetF l t w) := by
  have HL := Hd.mk hl
  have HE := Hd.mk e1
  have HN := Hd.mk hn
  rcases atE_ways l t with hA | ⟨k, hA, hk⟩
  · have HAT := Hd.mk hA
    have E1 : Hd (findN l t = 0) := ⟨by unfold findN; rw [hA]; rfl⟩
    have E2 : Hd (findB l t = false) := ⟨by unfold findB; rw [hA]; rfl⟩
    clear hl e1 hn hA
    go_enter Try.func18, Try.ntmps18
    go_wp2_with (go_at_call 35; refine (rat_calls A n c l _ _ HL.out HE.out (by have := HN.out; omega)).mono ?_; rintro e w2 ⟨rfl, rfl⟩; rw [HAT.out])
    go_ret2
    refine ⟨?_, Below.refl _ _⟩
    rw [E1.out, E2.out]; rfl
  · have HAT := Hd.mk hA
    obtain ⟨b, off, rfl, hc⟩ := node_cell hl k hk
    have hcc := (hc w (Below.refl _ _)).2
    have E1 : Hd (findN l t = l[k].2) := ⟨by unfold findN; rw [hA, if_pos (by omega), Int.toNat_natCast, List.getElem?_eq_getElem hk]; rfl⟩
    have E2 : Hd (findB l t = true) := ⟨by unfold findB; rw [hA]; exact decide_eq_true (by omega)⟩
    have hkn : k < n := by omega
    have hkn2 : (k : Int) < (n : Int) := by omega
    obtain ⟨y, hy⟩ : ∃ y, l[k] = y := ⟨_, rfl⟩
    rw [hy] at hcc E1
    clear hl e1 hn hA hc hk hy
    go_enter Try.func18, Try.ntmps18
    go_wp2_with (go_at_call 35; refine (rat_calls _ n c l _ _ HL.out HE.out (by have := HN.out; omega)).mono ?_; rintro e w2 ⟨rfl, rfl⟩; rw [HAT.out])
    go_ret2
    refine ⟨?_, Below.refl _ _⟩
    rw [E1.out, E2.out]; rfl
def dropL (l : List Ent) (t : ByteArray) : List Ent := if 0 ≤ atE l t then l.eraseIdx (atE l t).toNat else l
def RetD (l : List Ent) (b : Bool) (w : World) (e : Ending) (w' : World) : Prop := ∃ v, e = .returned (.tuple #[v, .bool b]) ∧ w'.ownsRow w.heap.size 31 2 v l.length (ens l) ∧ Below w.heap.size w w'
theorem erase_ens (l : List Ent) (k : Nat) (hk : k < l.length) : ens (l.eraseIdx k) = delB (ens l) k := by
  unfold delB
  rw [List.eraseIdx_eq_take_drop_succ, ens_app, ens_take _ _ (by omega), ens_drop _ _ (by omega)]
set_option maxHeartbeats 1000000 in
theorem drop_calls (A : Option Addr) (n c : Nat) (l : List Ent) (t : ByteArray) (w : World) (hl : Rc w A (ens l)) (e1 : n = l.length) (hn : l.length ≤ 5864062014634) :
    Calls Try.prog 16 #[.slice A n c, .string t] w (RetD (dropL l t) (findB l t) w) := by
  have HL := Hd.mk hl
  have HE := Hd.mk e1
  have HN := Hd.mk hn
  rcases atE_ways l t with hA | ⟨k, hA, hk⟩
  · have HAT := Hd.mk hA
    have E1 : dropL l t = l := by unfold dropL; rw [hA]; rfl
    have E2 : findB l t = false := by unfold findB; rw [hA]; rfl
    rw [E1, E2]
    clear hl e1 hn hA E1 E2
    go_enter Try.func16, Try.ntmps16
    go_wp2_with (first
      | (go_at_call 33; refine (clone_calls A n c l _ HL.out HE.out (by have := HN.out; omega)).mono ?_; rintro e w1 ⟨v, rfl, ho, hb⟩; have HO := Hd.mk ho; have HB := Hd.mk hb; clear ho hb)
      | (go_at_call 29; refine (at_calls A n c l _ _ (HL.out.below HB.out) HE.out (by have := HN.out; omega)).mono ?_; rintro e w2 ⟨rfl, hb⟩; rw [HAT.out]; have HO := Hd.mk (own_below HO.out hb); have HB := Hd.mk (below_then HB.out HB.out.size hb); clear hb))
    go_ret2
    exact ⟨v, rfl, HO.out, HB.out⟩
  · have HAT := Hd.mk hA
    have E1 : dropL l t = l.eraseIdx k := by unfold dropL; rw [hA, if_pos (by omega), Int.toNat_natCast]
    have E2 : findB l t = true := by unfold findB; rw [hA]; exact decide_eq_true (by omega)
    have E3 : Hd (ens (l.eraseIdx k) = delB (ens l) k) := ⟨erase_ens l k hk⟩
    have E4 : Hd ((l.eraseIdx k).length = l.length - 1) := ⟨List.length_eraseIdx_of_lt hk⟩
    rw [E1, E2]
    have hkl := Hd.mk hk
    have ew : IntKind.i64.wrap ((k : Int) + 1) = (k : Int) + 1 := by rw [IntKind.wrap_i64]; omega
    clear hl e1 hn hA E1 E2 hk
    go_enter Try.func16, Try.ntmps16
    go_wp2_with (first
      | (go_at_call 33; refine (clone_calls A n c l _ HL.out HE.out (by have := HN.out; omega)).mono ?_; rintro e w1 ⟨v, rfl, ho, hb⟩; have HB := Hd.mk hb; obtain ⟨g, cap, rfl, hg1, hg2⟩ := own_form ho (by have := hkl.out; omega); have HO := Hd.mk ho; clear ho hb hg1 hg2)
      | (go_at_call 29; refine (at_calls A n c l _ _ (HL.out.below HB.out) HE.out (by have := HN.out; omega)).mono ?_; rintro e w2 ⟨rfl, hb⟩; rw [HAT.out]; have HO := Hd.mk (own_below HO.out hb); have HB := Hd.mk (below_then HB.out HB.out.size hb); clear hb)
      | (go_at_call 34; refine (delete_calls g cap l.length k w.heap.size (ens l) _ HO ⟨ens_one l⟩ hkl.out (by have := HN.out; omega)).mono ?_; rintro e w3 ⟨v3, rfl, ho, hb⟩; have HO3 := Hd.mk ho; have HB := Hd.mk (HB.out.trans hb); clear ho hb))
    go_ret2
    exact ⟨v3, rfl, by rw [E3.out, E4.out]; exact HO3.out, HB.out⟩
end Go.Proofs.Ytiloeaenpanjcaa
