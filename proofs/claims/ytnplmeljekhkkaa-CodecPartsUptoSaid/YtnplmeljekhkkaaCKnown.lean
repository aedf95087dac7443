/- Walks of the functions that the law reaches. -/
import Derived.Test.YtnplmeljekhkkaaCCut2
import Derived.Test.YtnplmeljekhkkaaCEqual
import Derived.Test.YtnplmeljekhkkaaCPad
import Derived.Test.YtnplmeljekhkkaaCJoin
import Derived.Test.YtnplmeljekhkkaaCRef
import Derived.Test.YtnplmeljekhkkaaCLists
namespace Go.Proofs.Ytnplmeljekhkkaa
open Go.RowKit Go.Sac
set_option linter.unusedVariables false
set_option linter.unusedSimpArgs false

theorem equal_any (A B : Option Addr) (n k c d : Nat) (l m : List UInt8) (w : World) (hl : Rc w A (bs l)) (hm : Rc w B (bs m)) (hn : l.length ≤ 1099511627776) (e1 : n = l.length) (e2 : k = m.length) :
    Calls Try.prog 12 #[.slice A n c, .slice B k d] w fun e w' => e = .returned (.bool (l == m)) ∧ Below w.heap.size w w' := by
  subst e1; subst e2
  by_cases h : l.length = m.length
  · exact (equal_long A B c d l m w hl hm h.symm (by omega)).mono fun e w' ⟨h1, h2⟩ => ⟨h1, by rw [h2]; exact (Below.refl _ _).alloc (Nat.le_refl _) _⟩
  · refine (equal_short A B c d l m w h).mono fun e w' ⟨h1, h2⟩ => ⟨?_, by rw [h2]; exact Below.refl _ _⟩
    have : (l == m) = false := by rw [beq_eq_false_iff_ne]; rintro rfl; exact h rfl
    rw [this]; exact h1

theorem cut_any (A B : Option Addr) (n k c d : Nat) (b : List UInt8) (ws : List Int) (w : World) (hl : Rc w A (bs b)) (hc : b.length ≤ c) (hw : Rc w B (ns ws)) (hn : b.length ≤ 1099511627776) (hm : ws.length ≤ 1099511627776) (e1 : n = b.length) (e2 : k = ws.length) :
    Calls Try.prog 15 #[.slice A n c, .slice B k d] w fun e w' => RetCut (cutL b ws) (cutE b ws) w e w' := by
  subst e1; subst e2; exact cut_calls A B c d b ws w hl hc hw hn hm
theorem Rc.new (w : World) (E : TypeId) (cs : List Value) : Rc (w.alloc (.cells cs.toArray E)) (some ⟨w.heap.size, 0, none⟩) cs := (Blk.new w E cs).rc

set_option maxHeartbeats 1000000 in
theorem known_calls (w : World) : Calls Try.prog 10 #[] w fun e w' => e = .returned (.bool true) ∧ Below w.heap.size w w' := by
  go_enter Try.func10, Try.ntmps10
  go_wp2_with fail
  refine (put_calls 258 3 _ (by decide)).mono ?_
  rintro e w1 ⟨v, rfl, ho, hb1⟩
  rw [show putB 258 (putW 3) = [0, 1, 2] by decide] at ho
  obtain ⟨A1, c1, rfl, hc1, hr1, hn1⟩ := own_rc ho
  have HR1 := Hd.mk hr1
  have HB1 := Hd.mk hb1
  have HC1 := Hd.mk hc1
  clear ho hr1 hb1 hn1 hc1
  go_wp2_with fail
  have b1 := (Below.refl w1.heap.size w1).alloc (Nat.le_refl _) (.cells #[.int .i64 1, .int .i64 2] 3)
  refine (cut_any A1 _ _ _ _ _ [0, 1, 2] [1, 2] _ (HR1.out.below b1) HC1.out (Rc.new w1 3 (ns [1, 2])) (by decide) (by decide) rfl rfl).mono ?_
  rw [show cutL [0, 1, 2] [1, 2] = [[0], [1, 2]] by decide, show cutE [0, 1, 2] [1, 2] = 0 by decide]
  rintro e w2 ⟨A2, c2, rfl, hr2, hc2, hb2⟩
  have HB2 := Hd.mk (below_then (b1.mono (Nat.le_refl _)) (by simp) hb2)
  clear b1 hr2 hc2 hb2
  go_wp2_with fail
  have b1 := (Below.refl w2.heap.size w2).alloc (Nat.le_refl _) (.cells #[.int .i64 1, .int .i64 1] 3)
  refine (cut_any A1 _ _ _ _ _ [0, 1, 2] [1, 1] _ ((HR1.out.below HB2.out).below b1) HC1.out (Rc.new w2 3 (ns [1, 1])) (by decide) (by decide) rfl rfl).mono ?_
  rw [show cutL [0, 1, 2] [1, 1] = [] by decide, show cutE [0, 1, 2] [1, 1] = 4 by decide]
  rintro e w3 ⟨A3, c3, rfl, hr3, hc3, hb3⟩
  have HB3 := Hd.mk (below_then (b1.mono (Nat.le_refl _)) (by simp) hb3)
  clear b1 hr3 hc3 hb3
  obtain ⟨bb, off, rfl, hlt, hcc⟩ := ((HR1.out.below HB2.out).below HB3.out).form (by decide)
  have h1 := hcc 1 (.int .u8 1) rfl
  have h2 := hcc 2 (.int .u8 2) rfl
  clear hcc
  go_wp2_with fail
  refine (equal_any none none _ _ _ _ [] [] _ (Rc.nil _ _) (Rc.nil _ _) (by decide) rfl rfl).mono ?_
  rintro e w4 ⟨rfl, hb4⟩
  have HB4 := Hd.mk hb4
  clear hb4
  go_wp2
  go_ret
  exact ⟨rfl, below_then (below_then (below_then HB1.out HB1.out.size HB2.out) (Nat.le_trans HB1.out.size HB2.out.size) HB3.out) (Nat.le_trans (Nat.le_trans HB1.out.size HB2.out.size) HB3.out.size) HB4.out⟩
end Go.Proofs.Ytnplmeljekhkkaa
