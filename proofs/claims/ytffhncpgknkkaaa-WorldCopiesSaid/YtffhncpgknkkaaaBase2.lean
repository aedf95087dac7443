/- BASE2: more words for the walks of all seats. No program in it. -/
import Derived.Test.YtffhncpgknkkaaaBase
namespace Go.Sac
open Go.RowKit
set_option linter.unusedVariables false
set_option linter.unusedSimpArgs false

theorem rcc_two {w : World} (E : TypeId) {a b : Option Addr} {c d n k : Nat} {l m : List UInt8} (hl : Rc w a (bs l)) (hm : Rc w b (bs m)) (hc : l.length ≤ c) (hd : m.length ≤ d) (e1 : n = l.length) (e2 : k = m.length) :
    Rcc (w.alloc (.cells #[.slice a n c, .slice b k d] E)) (some ⟨w.heap.size, 0, none⟩) [l, m] := by
  subst e1; subst e2
  have hb := (Below.refl w.heap.size w).alloc (Nat.le_refl _) (.cells #[.slice a l.length c, .slice b m.length d] E)
  refine ⟨[.slice a l.length c, .slice b m.length d], (Blk.new w E _).rc, rfl, ?_⟩
  intro i x hx
  match i, hx with
  | 0, hx => simp at hx; subst hx; exact ⟨a, c, rfl, hc, hl.below hb⟩
  | 1, hx => simp at hx; subst hx; exact ⟨b, d, rfl, hd, hm.below hb⟩
  | i + 2, hx => simp at hx
theorem zero_rc (w : World) (E : TypeId) (m : Nat) : Rc (w.alloc (.cells (zeroRow m) E)) (some ⟨w.heap.size, 0, none⟩) (bs (List.replicate m 0)) := (Blk.new w E (bs (List.replicate m 0))).rc
end Go.Sac
