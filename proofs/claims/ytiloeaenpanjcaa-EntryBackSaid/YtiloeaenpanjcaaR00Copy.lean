/- The reference's copy of bytes. -/
import Derived.Test.YtiloeaenpanjcaaProg
import Derived.Test.YtiloeaenpanjcaaBase3
namespace Go.Proofs.Ytiloeaenpanjcaa
open Go.RowKit Go.Sac
set_option linter.unusedVariables false
set_option linter.unusedSimpArgs false

theorem info_u8 : (Try.prog.info? 5).map (fun i => (i.zero, i.size, i.bytes)) = some (some (.int .u8 0), 1, 1) := by kernel_rfl
set_option maxHeartbeats 400000 in
theorem copy_any (A : Option Addr) (n c : Nat) (l : List UInt8) (w : World) (hl : Rc w A (bs l)) (hn : l.length ≤ 1099511627776) (e1 : n = l.length) :
    Calls Try.prog 28 #[.slice A n c] w fun e w' => RetB 5 l w e w' := by
  subst e1
  have HL := Hd.mk hl
  clear hl
  go_enter Try.func28, Try.ntmps28
  go_wp2_with (at_builtin; refine app_rc w.heap.size 42 5 (.int .u8 0) 1 1 (.tmp 4) (.tmp 5) rfl rfl Try.underlying42 info_u8 rfl (by decide) (by decide) (.slice none 0 0) 0 [] (bs l) A l.length c rfl rfl (World.ownsRow_nil _ _ _ _) HL.out (by simp) bs_one (Nat.le_refl _) (by omega) l.length (bs l) (by omega) (by simp) ?_; intro v1 w1 ho hg hat; have HO := Hd.mk ho; have HG := Hd.mk hg; clear ho hg hat)
  go_ret
  exact ⟨_, rfl, HO.out, below_lift (Below.refl _ _) (Nat.le_refl _) HG.out (by simp [Value.ownBlock])⟩
end Go.Proofs.Ytiloeaenpanjcaa
