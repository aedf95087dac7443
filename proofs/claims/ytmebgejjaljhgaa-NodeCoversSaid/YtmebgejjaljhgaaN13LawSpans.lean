/- Walks: the law NodeSpans. -/
import Derived.Test.YtmebgejjaljhgaaN13Known
namespace Go.Proofs.Ytmebgejjaljhgaa
open Go.RowKit Go.Sac
set_option linter.unusedVariables false
set_option linter.unusedSimpArgs false

theorem spansOf_len (a n : Int) : (spansOf a n).length ≤ 1000000 := by
  unfold spansOf
  split
  · exact Nat.zero_le _
  · unfold spL; rw [spT_len]; unfold nbS; omega
set_option maxHeartbeats 4000000 in
theorem law_spans (a n : Int) (w : World) (ha : -9223372036854775808 ≤ a ∧ a ≤ 9223372036854775807) (hn : -9223372036854775808 ≤ n ∧ n ≤ 9223372036854775807) : Calls Try.prog 4 #[.int .i64 a, .int .i64 n] w (RetT w) := by
  have HL := Hd.mk (spansOf_len a n)
  clear ha hn
  go_enter Try.func4, Try.ntmps4
  go_wp2_with (first
    | (go_at_call 16; refine (spans_calls a n _).mono ?_; rintro e w1 ⟨v1, rfl, ho, hb⟩; obtain ⟨A1, c1, rfl, _, hr1, _⟩ := own_rc ho; have HR1 := Hd.mk hr1; have HB := Hd.mk hb; clear ho hb hr1)
    | (go_at_call 17; refine (rspans_calls a n _).mono ?_; rintro e w2 ⟨v2, rfl, ho, hb⟩; obtain ⟨A2, c2, rfl, _, hr2, _⟩ := own_rc ho; have HR2 := Hd.mk hr2; have HR1 := Hd.mk (HR1.out.below hb); have HB := Hd.mk (below_then HB.out HB.out.size hb); clear ho hb hr2)
    | (go_at_call 15; refine (spans_same_any A1 A2 _ _ c1 c2 (spansOf a n) (spansOf a n) _ HR1.out HR2.out rfl rfl HL.out true (by simp)).mono ?_; rintro e w3 ⟨rfl, hb⟩; have HB := Hd.mk (below_then HB.out HB.out.size hb); clear hb)
    | (go_at_call 18; refine (blocks_calls a _).mono ?_; rintro e w4 ⟨rfl, rfl⟩)
    | (go_at_call 19; refine (rblocks_calls a _).mono ?_; rintro e w5 ⟨rfl, rfl⟩)
    | (go_at_call 13; refine (known_calls _).mono ?_; rintro e w6 ⟨rfl, hb⟩; have HB := Hd.mk (below_then HB.out HB.out.size hb); clear hb))
  go_ret
  exact ⟨rfl, HB.out⟩
end Go.Proofs.Ytmebgejjaljhgaa
