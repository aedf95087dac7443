/- W06Pair: two worlds beside each other. -/
import Derived.Test.YtffhncpgknkkaaaW06Calm
import Derived.Test.YtffhncpgknkkaaaR00Same
namespace Go.Proofs.Ytffhncpgknkkaaa
open Go.RowKit Go.Sac
set_option linter.unusedVariables false
set_option linter.unusedSimpArgs false
section
variable {w w0 w1 : World} {g h : Nat} {K K1 J : Nat → Nat} {D : DD} {L : LL} {r n : Nat} {N : Int}
def Apart (K J : Nat → Nat) : Prop := ∀ k, K k = 0 ∨ J k = 0
theorem Apart.symm (h : Apart K J) : Apart J K := fun k => (h k).symm
theorem wq_other (hv : Wq w0 w h J D L r n N) (hs : Stp K K1 w w1) (hb : Below w0.heap.size w0 w1) (hd : Apart K J) : Wq w0 w1 h J D L r n N ∧ Apart K1 J := by
  obtain ⟨s, ⟨⟨c, hc⟩, _, ho⟩, h2⟩ := hv
  have h0 : ∀ k, J k ≠ 0 → K k = 0 := fun k hk => (hd k).resolve_right hk
  refine ⟨⟨s, ⟨⟨c, hc.keep hs.size (fun k hk => hs.block k (hc.dom k hk) (h0 k hk))⟩, hb, ho⟩, h2⟩, fun k => ?_⟩
  by_cases e : J k = 0
  · exact .inr e
  · exact .inl (hs.free k (hc.dom k e) (h0 k e))
theorem Wq.dom (hv : Wq w0 w g K D L r n N) {k : Nat} (hk : w.heap.size ≤ k) : K k = 0 := by
  obtain ⟨s, ⟨⟨c, hc⟩, _, ho⟩, h2⟩ := hv
  by_cases e : K k = 0
  · exact e
  · have := hc.dom k e; omega
theorem Wq.dl (hv : Wq w0 w g K D L r n N) (q : Int × Int) : (D q).length = 272 := by
  obtain ⟨s, h1, h2⟩ := hv
  exact h2.dl q
theorem wq_new2 (hb : Below w0.heap.size w0 w) {N : Int} (hN : 0 ≤ N ∧ N ≤ 4096) : Calls Try.prog 11 #[.int .i64 N] w fun e w' => ∃ g K, e = .returned (.pointer (some ⟨g, 0, none⟩)) ∧ Wq w0 w' g K (fun _ => nought) (fun _ => none) 0 0 N ∧ Below w.heap.size w w' ∧ ∀ k, K k ≠ 0 → w.heap.size ≤ k := by
  refine (new_calls w N).mono ?_
  rintro e w' ⟨g, K, c, rfl, h1, h2, h3⟩
  exact ⟨g, K, rfl, ⟨_, ⟨⟨c, h1⟩, below_then hb hb.size h2, fun k hk => Nat.le_trans hb.size (h3 k hk)⟩, Calm.new hN.1 hN.2⟩, h2, h3⟩
theorem wq_read2 (hq : Wq w0 w g K D L r n N) (hr : r ≤ 1000000) (hn : n ≤ 1000000) {a b : Int} (h0 : 0 ≤ a) (h1 : a < N) (hb : b = 0 ∨ b = 1) (bb : List UInt8) (e : (L r).getD (D (a, b)) = bb) (m : Nat) (hm : m = bb.length) :
    Calls Try.prog 13 #[.pointer (some ⟨g, 0, none⟩), .int .i64 a, .int .i64 b] w fun e w' => ∃ A cap K', e = .returned (.slice A m cap) ∧ Rc w' A (bs bb) ∧ (∀ a, A = some a → w.heap.size ≤ a.block) ∧ Wq w0 w' g K' D L (r + 1) (n + 1) N ∧ Stp K K' w w' := by
  obtain ⟨s, h2, h3⟩ := hq
  obtain ⟨c, hc⟩ := h2.ex
  refine (read_calls hc (h3.few hr hn) a b).mono ?_
  rintro e w' ⟨v, K', c', rfl, ho, h4, h5, h6, _⟩
  obtain ⟨c1, c2⟩ := h3.read h0 h1 hb
  obtain ⟨A, cap, rfl, h7, h8, h9⟩ := own_rc ho
  rw [c2, e] at h8 ⊢
  rw [← hm]
  exact ⟨A, cap, K', rfl, h8, fun a e => (h9 a e).1, ⟨_, h2.step h5 h6, c1⟩, h6⟩
theorem fr_two2 (h : Wq w0 w g K D L r n N) (x y : UInt8) (fr : Nat × Nat) : Fr (w.alloc (.cells #[.int .u8 (x.toNat : Int), .int .u8 (y.toNat : Int)] 5 fr)) K (some ⟨w.heap.size, 0, none⟩) [x, y] := by
  obtain ⟨s, h2, h3⟩ := h
  exact fr_two h2 x y fr
end
end Go.Proofs.Ytffhncpgknkkaaa
