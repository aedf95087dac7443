/- A10Of: audit.of. -/
import Derived.Lib.Walk
import Derived.Laws.Rows
import Derived.Test.YtpahmlgbljfcjaaA10Key
namespace Go.Proofs.Ytpahmlgbljfcjaa
open Go.RowKit Go.Sac
set_option linter.unusedVariables false
set_option linter.unusedSimpArgs false
set_option maxHeartbeats 1000000 in
theorem of_calls (at_ : Int) (A : Option Addr) (c : Nat) (b : List UInt8) (w : World) (hr : Rc w A (bs b)) :
    Calls Try.prog 11 #[.agg #[.int .i64 at_, .slice A b.length c]] w fun e w' => e = .returned (ikey (at_, ⟨b.toArray⟩)) ∧ Below w.heap.size w w' := by
  have hcv : ∀ X Y, (convert 24 9 (.slice A b.length c)).run Try.prog ((w.alloc X).alloc Y) = .ok (.string ⟨b.toArray⟩) ((w.alloc X).alloc Y) := fun X Y =>
    run_str (P := Try.prog) _ 24 5 9 Try.underlying24 Try.underlying5 Try.underlying9 A c b ((hr.alloc X).alloc Y)
  clear hr
  go_enter Try.func11, Try.ntmps11
  go_wp2
  refine bodyPost_ret (results_cell_row rfl _ _ (w.heap.size + 1) 36 #[.int .i64 at_, .string ⟨b.toArray⟩] _ _ rfl (heap_alloc2_new w _ _) rfl rfl rfl) rfl ?_
  exact ⟨rfl, ((Below.refl _ w).alloc (Nat.le_refl _) _).alloc (by rw [World.size_alloc]; omega) _⟩
end Go.Proofs.Ytpahmlgbljfcjaa
