/- The reference's comparison of bytes. -/
import Derived.Test.YtffhncpgknkkaaaProg
import Derived.Test.YtffhncpgknkkaaaBase3
namespace Go.Proofs.Ytffhncpgknkkaaa
open Go.RowKit Go.Sac
set_option linter.unusedVariables false
set_option linter.unusedSimpArgs false

set_option maxHeartbeats 400000 in
theorem same_calls (A B : Option Addr) (c d : Nat) (l m : List UInt8) (w : World) (hl : Rc w A (bs l)) (hm : Rc w B (bs m)) :
    Calls Try.prog 15 #[.slice A l.length c, .slice B m.length d] w fun e w' => e = .returned (.bool (l == m)) ∧ w' = w := by
  have h1 := run_str (P := Try.prog) w 22 5 9 Try.underlying22 Try.underlying5 Try.underlying9 A c l hl
  have h2 := run_str (P := Try.prog) w 22 5 9 Try.underlying22 Try.underlying5 Try.underlying9 B d m hm
  have HL := Hd.mk (str_eq l m)
  clear hl hm
  go_enter Try.func15, Try.ntmps15
  go_wp2
  go_ret
  exact ⟨by first | rfl | (rw [← HL.out]; rfl) | (simp), rfl⟩
theorem same_any (A B : Option Addr) (n k c d : Nat) (l m : List UInt8) (w : World) (hl : Rc w A (bs l)) (hm : Rc w B (bs m)) (e1 : n = l.length) (e2 : k = m.length) :
    Calls Try.prog 15 #[.slice A n c, .slice B k d] w fun e w' => e = .returned (.bool (l == m)) ∧ w' = w := by subst e1; subst e2; exact same_calls A B c d l m w hl hm
end Go.Proofs.Ytffhncpgknkkaaa
