/- W06Atom: atomic.Int64. -/
import Derived.Laws.LoneSync
import Derived.Test.YtffhncpgknkkaaaW06World
namespace Go.Proofs.Ytffhncpgknkkaaa
open Go.RowKit Go.Sac
set_option linter.unusedVariables false
set_option linter.unusedSimpArgs false
theorem run_add (w : World) (g o : Nat) (x y : Int) (hc : w.cell? ⟨g, o, none⟩ = some (.int .i64 x)) (hf : w.frozen? ⟨g, o, none⟩ = false) (hs : IntKind.i64.wrap (x + y) = x + y) :
    (callFunc 58 #[.pointer (some ⟨g, o, none⟩), .int .i64 y]).run Try.prog w = .ok (.value (.int .i64 (x + y))) (w.setCell ⟨g, o, none⟩ (.int .i64 (x + y))) :=
  run_call_add Try.func58 (by kernel_rfl) (by kernel_rfl) (by kernel_rfl) .i64 (by kernel_rfl) hc hf (by simp [Op.intArith, hs])
theorem add_calls (w : World) (g o : Nat) (x y : Int) (hc : w.cell? ⟨g, o, none⟩ = some (.int .i64 x)) (hf : w.frozen? ⟨g, o, none⟩ = false) (hs : IntKind.i64.wrap (x + y) = x + y) :
    Calls Try.prog 48 #[.pointer (some ⟨g, o, none⟩), .int .i64 y] w fun e w' => e = .returned (.int .i64 (x + y)) ∧ w' = w.setCell ⟨g, o, none⟩ (.int .i64 (x + y)) := by
  have hcall := run_add w g o x y hc hf hs
  go_enter Try.func48, Try.ntmps48
  go_wp2
  go_ret
  exact ⟨rfl, rfl⟩
end Go.Proofs.Ytffhncpgknkkaaa
