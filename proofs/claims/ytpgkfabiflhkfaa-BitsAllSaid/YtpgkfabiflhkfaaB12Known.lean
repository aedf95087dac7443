/- Walks: what the chapter's example fixes; and the words for the laws. -/
import Derived.Test.YtpgkfabiflhkfaaB12Some
import Derived.Test.YtpgkfabiflhkfaaR00Same
import Derived.Test.YtpgkfabiflhkfaaR00Ints
namespace Go.Proofs.Ytpgkfabiflhkfaa
open Go.RowKit Go.Sac
set_option linter.unusedVariables false
set_option linter.unusedSimpArgs false

theorem bcount_any (A : Option Addr) (n c : Nat) (b : List UInt8) (f t : Int) (w : World) (hb : Rc w A (bs b)) (hn : b.length ≤ 1099511627776) (e1 : n = b.length) :
    Calls Try.prog 20 #[.slice A n c, .int .i64 f, .int .i64 t] w fun e w' => e = .returned (.int .i64 (cnT b f.toNat (hiT b t))) ∧ w' = w := by subst e1; exact bcount_calls A c b f t w hb hn
theorem seven (w : World) (E : TypeId) : Rc (w.alloc (.cells #[.int .u8 7] E)) (some ⟨w.heap.size, 0, none⟩) (bs [7]) := Rc.one w E (.int .u8 7)
set_option maxHeartbeats 2000000 in
theorem known_calls (w : World) : Calls Try.prog 9 #[] w (RetT w) := by
  have e1 : soE [7] 6 0 8 = 12 := by decide
  have e2 : fiT [7] 0 8 = 3 := by decide
  have e3 : cnT [7] (0 : Int).toNat (hiT [7] 8) = 3 := by decide
  have e4 : wideT 9 = 2 := by decide
  have E1 := Hd.mk e1; have E2 := Hd.mk e2; have E3 := Hd.mk e3; have E4 := Hd.mk e4
  clear e1 e2 e3 e4
  go_enter Try.func9, Try.ntmps9
  go_wp2_with (first
    | (go_at_call 10; refine (some_any _ _ _ [7] _ _ _ _ (seven _ _) (by simp) rfl).mono ?_; rintro e w1 ⟨A1, c1, rfl, _, _, hB⟩; have HB1 := Hd.mk (below_then ((Below.refl w.heap.size w).alloc (Nat.le_refl _) _) (by simp) hB); clear hB; rw [E1.out]; obtain ⟨q, hq⟩ : ∃ q, q = (soL [7] 6 0 8).length := ⟨_, rfl⟩; rw [← hq]; clear hq)
    | (go_at_call 17; refine (first_any _ _ _ [7] _ _ _ (seven _ _) (by simp) rfl).mono ?_; rintro e w2 ⟨rfl, hB⟩; have HB2 := Hd.mk (below_then (HB1.out.alloc HB1.out.size _) (Nat.le_trans HB1.out.size (by simp)) hB); clear hB; rw [E2.out])
    | (go_at_call 20; refine (bcount_any _ _ _ [7] _ _ _ (seven _ _) (by simp) rfl).mono ?_; rintro e w3 ⟨rfl, rfl⟩; rw [E3.out]; have HB3 := Hd.mk (HB2.out.alloc HB2.out.size (.cells #[.int .u8 7] 5)))
    | (go_at_call 22; refine (wide_any _ _ (by decide)).mono ?_; rintro e w4 ⟨rfl, rfl⟩; rw [E4.out]))
  go_ret
  exact ⟨rfl, HB3.out⟩
end Go.Proofs.Ytpgkfabiflhkfaa
