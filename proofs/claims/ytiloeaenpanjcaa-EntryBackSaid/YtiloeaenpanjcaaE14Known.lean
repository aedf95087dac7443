/- Walks: what the chapter's example fixes. -/
import Derived.Test.YtiloeaenpanjcaaE14RefPut
namespace Go.Proofs.Ytiloeaenpanjcaa
open Go.RowKit Go.Sac
set_option linter.unusedVariables false
set_option linter.unusedSimpArgs false

def tA : ByteArray := ⟨#[97]⟩
def tB : ByteArray := ⟨#[98]⟩
def tC : ByteArray := ⟨#[99]⟩
theorem known1 : putL [(tA, 1), (tC, 2)] (tB, 3) = [(tA, 1), (tB, 3), (tC, 2)] := by decide +kernel
theorem known2 : putE [(tA, 1), (tC, 2)] (tB, 3) = 0 := by decide +kernel
theorem known3 : putE [(tA, 1), (tC, 2)] (tA, 3) = 13 := by decide +kernel
theorem known4 : namedL [46, 46] = false := by decide +kernel
theorem known5 : namedL [46, 46, 46] = true := by decide +kernel
set_option maxHeartbeats 2000000 in
theorem known_calls (w : World) : Calls Try.prog 11 #[] w (RetT w) := by
  have K0 : Hd (Blk (w.alloc (.cells #[.string tA, .int .i64 1, .string tC, .int .i64 2] 31)) w.heap.size 31 (ens [(tA, 1), (tC, 2)])) := ⟨Blk.new w _ _⟩
  have HB : Hd (Below w.heap.size w (w.alloc (.cells #[.string tA, .int .i64 1, .string tC, .int .i64 2] 31))) := ⟨(Below.refl _ w).alloc (Nat.le_refl _) _⟩
  have T1 : Hd True := ⟨trivial⟩
  have T2 : Hd True := ⟨trivial⟩
  have T3 : Hd True := ⟨trivial⟩
  have T4 : Hd True := ⟨trivial⟩
  go_enter Try.func11, Try.ntmps11
  go_wp2_with (first
    | (clear T1; go_at_call 14; refine (eput_calls _ 2 2 [(tA, 1), (tC, 2)] (tB, 3) _ K0.out.rc rfl (by decide) (by decide)).mono ?_; rw [known1, known2]; rintro e w1 ⟨v1, rfl, ho, hb⟩; obtain ⟨g, cap, rfl, hg1, hg2⟩ := own_form ho (by decide); have HO := Hd.mk ho; have K0 := Hd.mk (K0.out.below hb K0.out.lt); have HB := Hd.mk (below_then HB.out HB.out.size hb); clear ho hb hg1 hg2)
    | (clear T2; go_at_call 14; refine (eput_calls _ 2 2 [(tA, 1), (tC, 2)] (tA, 3) _ K0.out.rc rfl (by decide) (by decide)).mono ?_; rw [known3]; rintro e w2 ⟨v2, rfl, ho, hb⟩; have HO := Hd.mk (own_below HO.out hb); have hc2 : w2.cell? ⟨g, 2, none⟩ = some (.string ⟨#[98]⟩) := (HO.out.cells (g := g) rfl 2 (.string tB) rfl); have HB := Hd.mk (below_then HB.out HB.out.size hb); clear ho hb)
    | (clear T3; go_at_call 12; refine (named_calls _ _ (by decide)).mono ?_; rintro e w3 ⟨rfl, hb⟩; have HB := Hd.mk (below_then HB.out HB.out.size hb); clear hb; rw [show namedL ([46, 46] : List UInt8) = false from known4])
    | (clear T4; go_at_call 12; refine (named_calls _ _ (by decide)).mono ?_; rintro e w4 ⟨rfl, hb⟩; have HB := Hd.mk (below_then HB.out HB.out.size hb); clear hb; rw [show namedL ([46, 46, 46] : List UInt8) = true from known5]))
  go_ret
  exact ⟨rfl, HB.out⟩
end Go.Proofs.Ytiloeaenpanjcaa
