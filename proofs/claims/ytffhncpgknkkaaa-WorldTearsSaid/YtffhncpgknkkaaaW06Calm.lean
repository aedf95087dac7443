/- W06Calm: a world whose power is not measured: what is written is read. -/
import Derived.Test.YtffhncpgknkkaaaW06Known
namespace Go.Proofs.Ytffhncpgknkkaaa
open Go.RowKit Go.Sac
set_option linter.unusedVariables false
set_option linter.unusedSimpArgs false
abbrev DD := Int × Int → List UInt8
abbrev LL := Int → Option (List UInt8)
structure Calm (s : Wd) (D : DD) (L : LL) (r n : Nat) (N : Int) : Prop where
  dead : s.dead = false
  armed : s.armed = false
  blocks : s.blocks = N
  slots : s.slots = D
  lies : s.lies = L
  reads : s.reads = (r : Int)
  s0 : s.s0 = []
  s1 : s.s1 = []
  trace : s.trace.length = n
  cnt : s.counter ≤ 1000000 + (n : Int)
  ll : ∀ k l, L k = some l → l.length ≤ 1099511627776
  dl : ∀ q, (D q).length = 272
theorem Calm.new {N : Int} (h0 : 0 ≤ N) (h1 : N ≤ 4096) : Calm (newP N) (fun _ => nought) (fun _ => none) 0 0 N :=
  ⟨rfl, rfl, by show max 0 (min N 4096) = N; omega, rfl, rfl, rfl, rfl, rfl, rfl, (by show (0 : Int) ≤ _; decide), (fun _ _ h => nomatch h), fun _ => by kernel_rfl⟩
def updD (D : DD) (p : Int × Int) (b : List UInt8) : DD := fun q => if q = p then b else D q
def updL (L : LL) (m : Int) (b : List UInt8) : LL := fun k => if k = m then some b else L k
section
variable {s : Wd} {D : DD} {L : LL} {r n : Nat} {N : Int}
theorem Calm.few (h : Calm s D L r n N) (hr : r ≤ 1000000) (hn : n ≤ 1000000) : Few s :=
  ⟨by rw [h.reads]; omega, by rw [h.trace]; exact hn, fun k l e => h.ll k l (h.lies ▸ e), by rw [h.s0]; exact Nat.zero_le _, by rw [h.s1]; exact Nat.zero_le _⟩
theorem Calm.there (h : Calm s D L r n N) {a b : Int} (h0 : 0 ≤ a) (h1 : a < N) (hb : b = 0 ∨ b = 1) : thereP s a b = true := by
  unfold thereP
  rw [h.dead, h.blocks]
  rcases hb with rfl | rfl <;> simp [h0, h1]
theorem Calm.lie (h : Calm s D L r n N) (m : Int) (b : List UInt8) (hb : b.length ≤ 1099511627776) : Calm (lieP s m b) D (updL L m b) r n N := by
  refine ⟨h.dead, h.armed, h.blocks, h.slots, ?_, h.reads, h.s0, h.s1, h.trace, h.cnt, ?_, h.dl⟩
  · show (fun k => if k = m then some b else s.lies k) = _
    rw [h.lies]; rfl
  · intro k l e
    unfold updL at e
    by_cases hk : k = m
    · rw [if_pos hk] at e; cases e; exact hb
    · rw [if_neg hk] at e; exact h.ll k l e
theorem over_all (x y : List UInt8) (h1 : x.length = 272) (h2 : y.length = 272) : overB x (y.take 272) = y := by
  unfold overB
  rw [List.take_of_length_le (by omega), List.drop_of_length_le (by omega), List.append_nil]
theorem Calm.write (h : Calm s D L r n N) {a b : Int} (h0 : 0 ≤ a) (h1 : a < N) (hb : b = 0 ∨ b = 1) (bb : List UInt8) : Calm (writeP s a b bb) (updD D (a, b) (wideW bb)) L r (n + 1) N ∧ writeR s a b bb = true := by
  have ht := h.there h0 h1 hb
  have e1 : writeS s a b bb = noteP s 2 a b bb := by
    unfold writeS takesP
    rw [if_neg (by show ¬ s.armed = true; rw [h.armed]; decide)]
  have e2 : takesK s 272 = 272 := by unfold takesK; rw [if_neg (by rw [h.armed]; decide)]
  unfold writeP writeR
  rw [ht, if_pos rfl, e1, e2]
  refine ⟨⟨h.dead, h.armed, h.blocks, ?_, h.lies, h.reads, h.s0, h.s1, ?_, ?_, h.ll, ?_⟩, ?_⟩
  · show (fun q => if q = (a, b) then overB (s.slots q) ((wideW bb).take 272) else s.slots q) = _
    funext q
    unfold updD
    rw [h.slots]
    by_cases hq : q = (a, b)
    · rw [if_pos hq, if_pos hq, over_all _ _ (h.dl q) (wideW_len bb)]
    · rw [if_neg hq, if_neg hq]
  · show (s.trace ++ [_]).length = n + 1
    rw [List.length_append, h.trace]; rfl
  · show s.counter ≤ _
    have := h.cnt; push_cast; omega
  · intro q
    unfold updD
    by_cases hq : q = (a, b)
    · rw [if_pos hq]; exact wideW_len bb
    · rw [if_neg hq]; exact h.dl q
  · show (true && !s.dead) = true
    rw [h.dead]; rfl
theorem Calm.read (h : Calm s D L r n N) {a b : Int} (h0 : 0 ≤ a) (h1 : a < N) (hb : b = 0 ∨ b = 1) : Calm (readP s a b) D L (r + 1) (n + 1) N ∧ readB s a b = (L r).getD (D (a, b)) := by
  have ht := h.there h0 h1 hb
  unfold readP readB
  rw [ht, if_pos rfl, if_pos rfl]
  refine ⟨⟨h.dead, h.armed, h.blocks, h.slots, h.lies, ?_, h.s0, h.s1, ?_, ?_, h.ll, h.dl⟩, ?_⟩
  · show s.reads + 1 = _
    rw [h.reads]; push_cast; rfl
  · show (s.trace ++ [_]).length = n + 1
    rw [List.length_append, h.trace]; rfl
  · show s.counter ≤ _
    have := h.cnt; push_cast; omega
  · unfold toldB
    rw [h.lies, h.slots, h.reads]
theorem wide_at (b : List UInt8) (k : Nat) (h : k < (wideW b).length) : (wideW b)[k] = b.getD k 0 := by
  have h2 : k < 272 := by rw [wideW_len] at h; exact h
  have e : (wideW b)[k]? = some (b.getD k 0) := by
    unfold wideW padB
    rw [List.getElem?_take, if_pos h2]
    by_cases hk : k < b.length
    · rw [List.getElem?_append_left hk, List.getD_eq_getElem?_getD, List.getElem?_eq_getElem hk]; rfl
    · rw [List.getElem?_append_right (by omega), List.getElem?_replicate, if_pos (by simp; omega), List.getD_eq_getElem?_getD, List.getElem?_eq_none (by omega)]; rfl
  rw [List.getElem?_eq_getElem h] at e
  exact Option.some.inj e
theorem wide_take (b : List UInt8) (k : Nat) (h : k = min b.length 272) : (wideW b).take k = b.take k := by
  unfold wideW padB
  rw [List.take_take, List.take_append_of_le_length (by omega), Nat.min_eq_left (by omega)]
end
section
variable {w w0 : World} {g : Nat} {K : Nat → Nat}
/-- the law's own calm world -/
def Wq (w0 w : World) (g : Nat) (K : Nat → Nat) (D : DD) (L : LL) (r n : Nat) (N : Int) : Prop := ∃ s, Wo w0 w g K s ∧ Calm s D L r n N
variable {D : DD} {L : LL} {r n : Nat} {N : Int}
theorem Wq.below {w' : World} (h : Wq w0 w g K D L r n N) (hb : Below w.heap.size w w') : Wq w0 w' g K D L r n N := by
  obtain ⟨s, h1, h2⟩ := h
  exact ⟨s, h1.below hb, h2⟩
theorem wq_new (w : World) {N : Int} (hN : 0 ≤ N ∧ N ≤ 4096) : Calls Try.prog 11 #[.int .i64 N] w fun e w' => ∃ g K, e = .returned (.pointer (some ⟨g, 0, none⟩)) ∧ Wq w w' g K (fun _ => nought) (fun _ => none) 0 0 N ∧ Below w.heap.size w w' := by
  refine (wo_new (Below.refl _ _) N).mono ?_
  rintro e w' ⟨g, K, rfl, h1, h2⟩
  exact ⟨g, K, rfl, ⟨_, h1, Calm.new hN.1 hN.2⟩, h2⟩
theorem wq_write (h : Wq w0 w g K D L r n N) (hr : r ≤ 1000000) (hn : n ≤ 1000000) {a b : Int} (h0 : 0 ≤ a) (h1 : a < N) (hb : b = 0 ∨ b = 1) (AB : Option Addr) (m cap : Nat) (bb : List UInt8) (hf : Fr w K AB bb) (e : m = bb.length) (hm : bb.length ≤ 1099511627776) :
    Calls Try.prog 12 #[.pointer (some ⟨g, 0, none⟩), .int .i64 a, .int .i64 b, .slice AB m cap] w fun e w' => e = .returned (.bool true) ∧ ∃ K', Wq w0 w' g K' (updD D (a, b) (wideW bb)) L r (n + 1) N ∧ Stp K K' w w' := by
  obtain ⟨s, h2, h3⟩ := h
  refine (wo_write h2 (h3.few hr hn) a b AB m cap bb hf e hm).mono ?_
  rintro e w' ⟨rfl, K', h4, h5⟩
  obtain ⟨c1, c2⟩ := h3.write h0 h1 hb bb
  rw [c2]
  exact ⟨rfl, K', ⟨_, h4, c1⟩, h5⟩
theorem wq_lie (h : Wq w0 w g K D L r n N) (k : Int) (AB : Option Addr) (m cap : Nat) (bb : List UInt8) (hf : Rc w AB (bs bb)) (e : m = bb.length) (hm : bb.length ≤ 1099511627776) :
    Calls Try.prog 14 #[.pointer (some ⟨g, 0, none⟩), .int .i64 k, .slice AB m cap] w fun e w' => e = .returned (.tuple #[]) ∧ ∃ K', Wq w0 w' g K' D (updL L k bb) r n N ∧ Stp K K' w w' := by
  obtain ⟨s, h2, h3⟩ := h
  refine (wo_lie h2 k AB m cap bb hf e hm).mono ?_
  rintro e w' ⟨rfl, K', h4, h5⟩
  exact ⟨rfl, K', ⟨_, h4, h3.lie k bb hm⟩, h5⟩
theorem wq_read (h : Wq w0 w g K D L r n N) (hr : r ≤ 1000000) (hn : n ≤ 1000000) {a b : Int} (h0 : 0 ≤ a) (h1 : a < N) (hb : b = 0 ∨ b = 1) (bb : List UInt8) (e : (L r).getD (D (a, b)) = bb) (m : Nat) (hm : m = bb.length) :
    Calls Try.prog 13 #[.pointer (some ⟨g, 0, none⟩), .int .i64 a, .int .i64 b] w fun e w' => ∃ A cap K', e = .returned (.slice A m cap) ∧ m ≤ cap ∧ Fr w' K' A bb ∧ Wq w0 w' g K' D L (r + 1) (n + 1) N ∧ Stp K K' w w' := by
  obtain ⟨s, h2, h3⟩ := h
  refine (wo_read h2 (h3.few hr hn) a b).mono ?_
  rintro e w' ⟨A, cap, K', rfl, h4, h5, h6, h7⟩
  obtain ⟨c1, c2⟩ := h3.read h0 h1 hb
  rw [c2, e] at h4 h5 ⊢
  rw [← hm] at h4 ⊢
  exact ⟨A, cap, K', rfl, h4, h5, ⟨_, h6, c1⟩, h7⟩
theorem Wq.bel (h : Wq w0 w g K D L r n N) : Below w0.heap.size w0 w := by
  obtain ⟨s, h2, h3⟩ := h
  exact h2.bel
/-- what the law was handed is nobody's of the world -/
theorem Wq.arg (h : Wq w0 w g K D L r n N) {A : Option Addr} {b : List UInt8} (hr : Rc w0 A (bs b)) : Fr w K A b := by
  obtain ⟨s, h2, h3⟩ := h
  exact h2.arg hr
end
end Go.Proofs.Ytffhncpgknkkaaa
