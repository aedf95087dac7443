/- A10Known: audit.Same; what the chapter's example fixes. -/
import Derived.Test.YtpahmlgbljfcjaaA10Minus
import Derived.Test.YtpahmlgbljfcjaaA10Straight
import Derived.Test.YtpahmlgbljfcjaaA10Epochs
namespace Go.Proofs.Ytpahmlgbljfcjaa
open Go.RowKit Go.Sac
set_option linter.unusedVariables false
set_option linter.unusedSimpArgs false
set_option maxHeartbeats 2000000 in
theorem same_calls (A B : Option Addr) (n m ca cb : Nat) (a b : List It) (r : Bool) (w : World) (ha : Rc w A (its a)) (hb : Rc w B (its b)) (hA : Held w a) (hB : Held w b) (e1 : n = a.length) (e2 : m = b.length) (hn : n ≤ 1000) (hm : m ≤ 1000) (hl : ∀ x ∈ a, x.b.length ≤ 1099511627776)
    (hr : (decide (a.length = b.length) && decide ((minusL (a.map It.key) (b.map It.key)).length = 0)) = r) :
    Calls Try.prog 9 #[.slice A n ca, .slice B m cb] w fun e w' => e = .returned (.bool r) ∧ Below w.heap.size w w' := by
  have HC : Hd (∀ W, Below w.heap.size w W → Calls Try.prog 6 #[.slice A n ca, .slice B m cb] W (RetI (minusL (a.map It.key) (b.map It.key)) W)) := ⟨fun W hW => minus_calls A B n m ca cb a b W (ha.below hW) (hb.below hW) (hA.below hW) (hB.below hW) e1 e2 hn hm hl⟩
  obtain ⟨K, hK⟩ : ∃ K, minusL (a.map It.key) (b.map It.key) = K := ⟨_, rfl⟩
  rw [hK] at hr HC
  rw [← e1, ← e2] at hr
  clear ha hb hA hB e1 e2 hl hK
  by_cases hnm : n = m
  · have h1 : ((n : Int) == (m : Int)) = true := by rw [beq_iff_eq]; omega
    have HR : Hd (decide (K.length = 0) = r) := ⟨by rw [decide_eq_true hnm, Bool.true_and] at hr; exact hr⟩
    clear hr hnm
    go_enter Try.func9, Try.ntmps9
    go_wp2_with (go_at_call 6; refine (HC.out _ (Below.refl _ _)).mono ?_; rintro e w1 ⟨v, l, rfl, ho, hh, hk, hb⟩; obtain ⟨A1, c1, rfl, _, _, _⟩ := own_rc ho; have HB := Hd.mk hb; have HLK : Hd (((l.length : Int) == 0) = r) := ⟨by rw [← HR.out, ← hk, List.length_map, Bool.eq_iff_iff, beq_iff_eq, decide_eq_true_eq]; omega⟩; have hlk := HLK.out; clear ho hh hk hb)
    go_ret
    refine ⟨?_, HB.out⟩
    rw [← HLK.out]
    rfl
  · have h1 : ((n : Int) == (m : Int)) = false := by rw [beq_eq_false_iff_ne]; omega
    have HR : Hd (false = r) := ⟨by rw [decide_eq_false hnm, Bool.false_and] at hr; exact hr⟩
    clear hr hnm
    go_enter Try.func9, Try.ntmps9
    go_wp2
    go_ret
    exact ⟨by rw [← HR.out]; rfl, Below.refl _ _⟩
def x1 : It := ⟨1, none, [], 0⟩
def x2 : It := ⟨2, none, [], 0⟩
theorem held_k (w : World) (l : List It) (h : ∀ x ∈ l, x = x1 ∨ x = x2) : Held w l := fun x hx => by
  rcases h x hx with rfl | rfl <;> exact ⟨Rc.nil _ _, Nat.le_refl _⟩
theorem small_k (l : List It) (h : ∀ x ∈ l, x = x1 ∨ x = x2) : ∀ x ∈ l, x.b.length ≤ 1099511627776 := fun x hx => by
  rcases h x hx with rfl | rfl <;> decide
theorem keys_ne : x1.key ≠ x2.key := by intro h; have := congrArg Prod.fst h; exact absurd this (by decide)
theorem min_k : minusL ([x1, x2, x1].map It.key) ([x1].map It.key) = [x2.key, x1.key] := by
  simp [minusL, minusG, keys_ne, Ne.symm keys_ne]
theorem min_k2 : minusL [x2.key, x1.key] ([x1, x2].map It.key) = [] := by
  simp [minusL, minusG, keys_ne, Ne.symm keys_ne]
set_option maxHeartbeats 4000000 in
theorem known_calls (w : World) : Calls Try.prog 5 #[] w fun e w' => e = .returned (.bool true) ∧ Below w.heap.size w w' := by
  have T1 : Hd True := ⟨trivial⟩
  go_enter Try.func5, Try.ntmps5
  go_wp2_with (fail)
  have KA : Blk ((((w.alloc (.cells #[.int .i64 1, .slice none 0 0] 26)).alloc (.cells #[.int .i64 2, .slice none 0 0] 26)).alloc (.cells #[.int .i64 1, .slice none 0 0, .int .i64 2, .slice none 0 0, .int .i64 1, .slice none 0 0] 26)).alloc (.cells #[.int .i64 1, .slice none 0 0] 26)) w.heap.size 26 (x1.cells) := (((Blk.new w 26 x1.cells).alloc _).alloc _).alloc _
  have KB : Blk ((((w.alloc (.cells #[.int .i64 1, .slice none 0 0] 26)).alloc (.cells #[.int .i64 2, .slice none 0 0] 26)).alloc (.cells #[.int .i64 1, .slice none 0 0, .int .i64 2, .slice none 0 0, .int .i64 1, .slice none 0 0] 26)).alloc (.cells #[.int .i64 1, .slice none 0 0] 26)) (w.heap.size + 1) 26 (x2.cells) := by
    have h := ((Blk.new (w.alloc (.cells #[.int .i64 1, .slice none 0 0] 26)) 26 x2.cells).alloc (.cells #[.int .i64 1, .slice none 0 0, .int .i64 2, .slice none 0 0, .int .i64 1, .slice none 0 0] 26)).alloc (.cells #[.int .i64 1, .slice none 0 0] 26)
    rw [World.size_alloc] at h; exact h
  have KC : Blk ((((w.alloc (.cells #[.int .i64 1, .slice none 0 0] 26)).alloc (.cells #[.int .i64 2, .slice none 0 0] 26)).alloc (.cells #[.int .i64 1, .slice none 0 0, .int .i64 2, .slice none 0 0, .int .i64 1, .slice none 0 0] 26)).alloc (.cells #[.int .i64 1, .slice none 0 0] 26)) (w.heap.size + 1 + 1) 26 (its [x1, x2, x1]) := by
    have h := (Blk.new ((w.alloc (.cells #[.int .i64 1, .slice none 0 0] 26)).alloc (.cells #[.int .i64 2, .slice none 0 0] 26)) 26 (its [x1, x2, x1])).alloc (.cells #[.int .i64 1, .slice none 0 0] 26)
    rw [World.size_alloc, World.size_alloc] at h; exact h
  have KD : Blk ((((w.alloc (.cells #[.int .i64 1, .slice none 0 0] 26)).alloc (.cells #[.int .i64 2, .slice none 0 0] 26)).alloc (.cells #[.int .i64 1, .slice none 0 0, .int .i64 2, .slice none 0 0, .int .i64 1, .slice none 0 0] 26)).alloc (.cells #[.int .i64 1, .slice none 0 0] 26)) (w.heap.size + 1 + 1 + 1) 26 (its [x1]) := by
    have h := Blk.new (((w.alloc (.cells #[.int .i64 1, .slice none 0 0] 26)).alloc (.cells #[.int .i64 2, .slice none 0 0] 26)).alloc (.cells #[.int .i64 1, .slice none 0 0, .int .i64 2, .slice none 0 0, .int .i64 1, .slice none 0 0] 26)) 26 (its [x1])
    rw [World.size_alloc, World.size_alloc, World.size_alloc] at h; exact h
  have HB4 : Below w.heap.size w ((((w.alloc (.cells #[.int .i64 1, .slice none 0 0] 26)).alloc (.cells #[.int .i64 2, .slice none 0 0] 26)).alloc (.cells #[.int .i64 1, .slice none 0 0, .int .i64 2, .slice none 0 0, .int .i64 1, .slice none 0 0] 26)).alloc (.cells #[.int .i64 1, .slice none 0 0] 26)) := (((((Below.refl _ w).alloc (Nat.le_refl _) _).alloc (by simp) _).alloc (by simp; omega) _).alloc (by simp; omega) _)
  generalize ((((w.alloc (.cells #[.int .i64 1, .slice none 0 0] 26)).alloc (.cells #[.int .i64 2, .slice none 0 0] 26)).alloc (.cells #[.int .i64 1, .slice none 0 0, .int .i64 2, .slice none 0 0, .int .i64 1, .slice none 0 0] 26)).alloc (.cells #[.int .i64 1, .slice none 0 0] 26)) = w4 at *
  refine (minus_calls _ _ 3 1 3 1 [x1, x2, x1] [x1] w4 KC.rc KD.rc (held_k _ _ (by simp)) (held_k _ _ (by simp)) rfl rfl (by decide) (by decide) (small_k _ (by simp))).mono ?_
  rw [min_k]
  rintro e w5 ⟨v, l, rfl, ho, hh, hk, hb⟩
  obtain ⟨y1, y2, rfl⟩ : ∃ y1 y2, l = [y1, y2] := by
    have := congrArg List.length hk
    match l, this with
    | [a, b], _ => exact ⟨a, b, rfl⟩
  have hk1 : y1.key = x2.key := Option.some.inj (congrArg (fun l : List IK => l[0]?) hk)
  have hk2 : y2.key = x1.key := Option.some.inj (congrArg (fun l : List IK => l[1]?) hk)
  have ha1 : y1.at_ = 2 := congrArg Prod.fst hk1
  have ha2 : y2.at_ = 1 := congrArg Prod.fst hk2
  have hb1 : y1.b = [] := by have := congrArg Prod.snd hk1; injection this with h; exact Array.toList_inj.2 h
  have hb2 : y2.b = [] := by have := congrArg Prod.snd hk2; injection this with h; exact Array.toList_inj.2 h
  obtain ⟨A5, c5, rfl, hc5, hr5, _⟩ := own_rc ho
  have HR5 := Hd.mk hr5
  have HH5 := Hd.mk hh
  obtain ⟨b5, off5, rfl, _, hcc⟩ := hr5.form (show 0 < 4 by omega)
  have hc0 : ∀ W, Below w5.heap.size w5 W → W.cell? ⟨b5, off5, none⟩ = some (.int .i64 2) ∧ W.cell? ⟨b5, off5 + 2, none⟩ = some (.int .i64 1) := fun W hW => by
    have h := HR5.out.below hW
    obtain ⟨b', off', e, _, hc'⟩ := h.form (show 0 < 4 by omega)
    injection e with e; injection e with e1 e2; subst e1; subst e2
    exact ⟨by have := hc' 0 (.int .i64 y1.at_) rfl; rw [ha1] at this; exact this, by have := hc' 2 (.int .i64 y2.at_) rfl; rw [ha2] at this; exact this⟩
  obtain ⟨hd0, hd2⟩ := hc0 w5 (Below.refl _ _)
  have KA5 := KA.below hb KA.lt
  have KB5 := KB.below hb KB.lt
  have hea := KA5.cell (i := 0) rfl
  have hea1 := KA5.cell (i := 1) rfl
  have heb := KB5.cell (i := 0) rfl
  have heb1 := KB5.cell (i := 1) rfl
  have HKK : Hd (y1.key = x2.key ∧ y2.key = x1.key ∧ y1.b = [] ∧ y2.b = []) := ⟨hk1, hk2, hb1, hb2⟩
  have HB5 := Hd.mk (below_then HB4 HB4.size hb)
  clear hk hk1 hk2 ha1 ha2 hb1 hb2 ho hh hr5 hcc hc0 KA KB KC KD HB4 hb KA5 KB5 hc5
  have e22 : (([y1, y2] : List It).length : Int) = 2 := rfl
  go_wp2_with (first
    | (go_at_call 9; refine (same_calls _ _ 2 2 c5 2 [y1, y2] [x1, x2] true _ (HR5.out.alloc _) (Blk.new w5 26 (its [x1, x2])).rc (HH5.out.below ((Below.refl _ _).alloc (Nat.le_refl _) _)) (held_k _ _ (by simp)) rfl rfl (by decide) (by decide) (by intro x hx; simp only [List.mem_cons, List.not_mem_nil, or_false] at hx; rcases hx with rfl | rfl; rw [HKK.out.2.2.1]; decide; rw [HKK.out.2.2.2]; decide) (by
         have h1 := HKK.out.1
         have h2 := HKK.out.2.1
         simp only [List.map_cons, List.map_nil, h1, h2]
         rw [show minusL [x2.key, x1.key] [x1.key, x2.key] = [] from min_k2]
         rfl)).mono ?_; rintro e w6 ⟨rfl, hb⟩; have HB6 := Hd.mk (below_then (HB5.out.alloc HB5.out.size _) (HB5.out.alloc HB5.out.size _).size hb); clear hb)
    | (go_at_call 8; refine (straight_calls none 0 0 [] _ (Rc.nil _ _) (by intro x hx; cases hx) rfl (by decide) (by intro x hx; cases hx)).mono ?_; rintro e w7 ⟨rfl, hb⟩; rw [show strG (fun _ => nought) 0 (([] : List Tr).map Tr.val) = -1 from rfl]; have HB7 := Hd.mk (below_then HB6.out HB6.out.size hb); clear hb)
    | (go_at_call 10; refine (epochs_nil _).mono ?_; rintro e w8 ⟨v8, xs8, rfl, ho, hb⟩; obtain ⟨A8, c8, rfl, _, _, _⟩ := own_rc ho; have HB8 := Hd.mk (below_then HB7.out HB7.out.size hb); clear hb ho))
  go_ret
  exact ⟨rfl, HB8.out⟩
end Go.Proofs.Ytpahmlgbljfcjaa
