/- W06Tear: a world whose power is measured. -/
import Derived.Test.YtffhncpgknkkaaaW06Pair
import Derived.Test.YtffhncpgknkkaaaW06Bump
namespace Go.Proofs.Ytffhncpgknkkaaa
open Go.RowKit Go.Sac
set_option linter.unusedVariables false
set_option linter.unusedSimpArgs false
structure Arm (s : Wd) (D : DD) (L : LL) (r n : Nat) (N : Int) (p : Int) (d : Bool) : Prop where
  dead : s.dead = d
  armed : s.armed = true
  power : s.power = p
  blocks : s.blocks = N
  slots : s.slots = D
  lies : s.lies = L
  reads : s.reads = (r : Int)
  s0 : s.s0 = []
  s1 : s.s1 = []
  trace : s.trace.length = n
  cnt : s.counter ≤ 1000000 + (n : Int)
  ll : ∀ k l, L k = some l → l.length ≤ 1099511627776
  dl : ∀ q, (D q).length = 272
section
variable {s : Wd} {D : DD} {L : LL} {r n : Nat} {N p : Int} {d : Bool}
theorem Calm.arm (h : Calm s D L r n N) {k : Int} (h0 : 0 ≤ k) (h1 : k ≤ 1000000) : Arm (armP s k) D L r n N k false := by
  unfold armP
  rw [if_neg (by rw [h.dead]; decide)]
  exact ⟨h.dead, rfl, by show max 0 (min k 1000000) = k; omega, h.blocks, h.slots, h.lies, h.reads, h.s0, h.s1, h.trace, h.cnt, h.ll, h.dl⟩
theorem Arm.restart (h : Arm s D L r n N p d) : Calm (restartP s) D L r n N :=
  ⟨rfl, rfl, h.blocks, h.slots, h.lies, h.reads, h.s0, h.s1, h.trace, h.cnt, h.ll, h.dl⟩
theorem Arm.few (h : Arm s D L r n N p d) (hr : r ≤ 1000000) (hn : n ≤ 1000000) : Few s :=
  ⟨by rw [h.reads]; omega, by rw [h.trace]; exact hn, fun k l e => h.ll k l (h.lies ▸ e), by rw [h.s0]; exact Nat.zero_le _, by rw [h.s1]; exact Nat.zero_le _⟩
theorem Arm.there (h : Arm s D L r n N p false) {a b : Int} (h0 : 0 ≤ a) (h1 : a < N) (hb : b = 0 ∨ b = 1) : thereP s a b = true := by
  unfold thereP
  rw [h.dead, h.blocks]
  rcases hb with rfl | rfl <;> simp [h0, h1]
theorem Arm.gone (h : Arm s D L r n N p true) (a b : Int) : thereP s a b = false := by
  unfold thereP
  rw [h.dead]; rfl
theorem over_len (x y : List UInt8) (h1 : x.length = 272) (m : Nat) (h2 : m ≤ 272) (h3 : y.length = 272) : (overB x (y.take m)).length = 272 := by
  unfold overB
  rw [List.length_append, List.length_drop, List.length_take]; omega
theorem over_at (x y : List UInt8) (h1 : x.length = 272) (m : Nat) (h2 : m ≤ 272) (h3 : y.length = 272) (i : Nat) (hi : i < 272) : (overB x (y.take m))[i]? = if i < m then y[i]? else x[i]? := by
  unfold overB
  have hl : (y.take m).length = m := by rw [List.length_take]; omega
  by_cases hm : i < m
  · rw [if_pos hm, List.getElem?_append_left (by omega), List.getElem?_take, if_pos hm]
  · rw [if_neg hm, List.getElem?_append_right (by omega), List.getElem?_drop, hl]
    congr 1; omega
theorem Arm.write (h : Arm s D L r n N p false) {a b : Int} (h0 : 0 ≤ a) (h1 : a < N) (hb : b = 0 ∨ b = 1) (bb : List UInt8) (hp : 0 ≤ p) :
    Arm (writeP s a b bb) (updD D (a, b) (overB (D (a, b)) ((wideW bb).take (min 272 p).toNat))) L r (n + 1) N (p - min 272 p) (decide (min 272 p < 272)) ∧ writeR s a b bb = !decide (min 272 p < 272) := by
  have ht := h.there h0 h1 hb
  have e2 : takesK s 272 = min 272 p := by unfold takesK; rw [if_pos h.armed, h.power]
  have e3 : takesK (noteP s 2 a b bb) 272 = min 272 p := e2
  have e1 : writeS s a b bb = { noteP s 2 a b bb with power := p - min 272 p, dead := decide (min 272 p < 272) } := by
    unfold writeS takesP
    rw [if_pos (show (noteP s 2 a b bb).armed = true from h.armed), e3, show (noteP s 2 a b bb).power = p from h.power]
  unfold writeP writeR
  rw [ht, if_pos rfl, e1, e2]
  refine ⟨⟨rfl, h.armed, rfl, h.blocks, ?_, h.lies, h.reads, h.s0, h.s1, ?_, ?_, h.ll, ?_⟩, rfl⟩
  · show (fun q => if q = (a, b) then overB (s.slots q) ((wideW bb).take (min 272 p).toNat) else s.slots q) = _
    funext q
    unfold updD
    rw [h.slots]
    by_cases hq : q = (a, b)
    · rw [if_pos hq, if_pos hq, hq]
    · rw [if_neg hq, if_neg hq]
  · show (s.trace ++ [_]).length = n + 1
    rw [List.length_append, h.trace]; rfl
  · show s.counter ≤ _
    have := h.cnt; push_cast; omega
  · intro q
    unfold updD
    by_cases hq : q = (a, b)
    · rw [if_pos hq]; exact over_len _ _ (h.dl _) _ (by omega) (wideW_len bb)
    · rw [if_neg hq]; exact h.dl q
theorem Arm.lost (h : Arm s D L r n N p true) (a b : Int) (bb : List UInt8) : writeP s a b bb = s ∧ writeR s a b bb = false ∧ readP s a b = s ∧ readB s a b = [] ∧ bumpP s = s ∧ bumpR s = false ∧ counterP s = 0 := by
  unfold writeP writeR readP readB bumpP bumpR counterP
  rw [h.gone a b, h.dead]
  exact ⟨rfl, rfl, rfl, rfl, rfl, rfl, rfl⟩
theorem Arm.bump (h : Arm s D L r n N p false) (hn : n ≤ 1000000) (hp : 1 ≤ p) : Arm (bumpP s) D L r (n + 1) N (p - 1) false ∧ bumpR s = true := by
  have e2 : takesK s 1 = 1 := by unfold takesK; rw [if_pos h.armed, h.power]; omega
  have hc := h.cnt
  have e0 : ¬ s.counter = 18446744073709551615 := by omega
  have e1 : takesP s 1 = { s with power := p - 1, dead := false } := by
    unfold takesP
    rw [if_pos h.armed, e2, h.power]; rfl
  unfold bumpP bumpR
  rw [if_neg (by rw [h.dead]; decide), if_neg e0, e2, if_neg (by decide), h.dead]
  refine ⟨?_, by simp [e0]⟩
  unfold upP
  rw [e1]
  refine ⟨rfl, h.armed, rfl, h.blocks, h.slots, h.lies, h.reads, h.s0, h.s1, ?_, ?_, h.ll, h.dl⟩
  · show (s.trace ++ [_]).length = n + 1
    rw [List.length_append, h.trace]; rfl
  · show s.counter + 1 ≤ _
    push_cast; omega
theorem Arm.bump0 (h : Arm s D L r n N 0 false) (hn : n ≤ 1000000) : Arm (bumpP s) D L r n N 0 true ∧ bumpR s = false := by
  have e2 : takesK s 1 = 0 := by unfold takesK; rw [if_pos h.armed, h.power]; rfl
  have hc := h.cnt
  have e0 : ¬ s.counter = 18446744073709551615 := by omega
  unfold bumpP bumpR
  rw [if_neg (by rw [h.dead]; decide), if_neg e0, e2, if_pos rfl, h.dead]
  refine ⟨?_, by simp⟩
  unfold takesP
  rw [if_pos h.armed, e2, h.power]
  exact ⟨rfl, h.armed, rfl, h.blocks, h.slots, h.lies, h.reads, h.s0, h.s1, h.trace, h.cnt, h.ll, h.dl⟩
end
def Wa (w0 w : World) (g : Nat) (K : Nat → Nat) (D : DD) (L : LL) (r n : Nat) (N p : Int) (d : Bool) : Prop := ∃ s, Wo w0 w g K s ∧ Arm s D L r n N p d
section
variable {w w0 : World} {g : Nat} {K : Nat → Nat} {D : DD} {L : LL} {r n : Nat} {N p : Int} {d : Bool}
theorem Wa.bel (h : Wa w0 w g K D L r n N p d) : Below w0.heap.size w0 w := by
  obtain ⟨s, h2, h3⟩ := h
  exact h2.bel
theorem Wa.arg (h : Wa w0 w g K D L r n N p d) {A : Option Addr} {b : List UInt8} (hr : Rc w0 A (bs b)) : Fr w K A b := by
  obtain ⟨s, h2, h3⟩ := h
  exact h2.arg hr
theorem wq_dead (h : Wq w0 w g K D L r n N) : Calls Try.prog 17 #[.pointer (some ⟨g, 0, none⟩)] w fun e w' => e = .returned (.bool false) ∧ w' = w := by
  obtain ⟨s, h2, h3⟩ := h
  have := wo_dead h2
  rw [h3.dead] at this
  exact this
theorem wa_dead (h : Wa w0 w g K D L r n N p d) : Calls Try.prog 17 #[.pointer (some ⟨g, 0, none⟩)] w fun e w' => e = .returned (.bool d) ∧ w' = w := by
  obtain ⟨s, h2, h3⟩ := h
  have := wo_dead h2
  rw [h3.dead] at this
  exact this
theorem wa_counter (h : Wa w0 w g K D L r n N p true) : Calls Try.prog 19 #[.pointer (some ⟨g, 0, none⟩)] w fun e w' => e = .returned (.int .u64 0) ∧ w' = w := by
  obtain ⟨s, h2, h3⟩ := h
  have := wo_counter h2
  rw [(h3.lost 0 0 []).2.2.2.2.2.2] at this
  exact this
theorem wq_arm (h : Wq w0 w g K D L r n N) {k : Int} (h0 : 0 ≤ k) (h1 : k ≤ 1000000) : Calls Try.prog 16 #[.pointer (some ⟨g, 0, none⟩), .int .i64 k] w fun e w' => e = .returned (.tuple #[]) ∧ ∃ K', Wa w0 w' g K' D L r n N k false ∧ Stp K K' w w' := by
  obtain ⟨s, h2, h3⟩ := h
  refine (wo_arm h2 k).mono ?_
  rintro e w' ⟨rfl, K', h4, h5⟩
  exact ⟨rfl, K', ⟨_, h4, h3.arm h0 h1⟩, h5⟩
theorem wa_restart (h : Wa w0 w g K D L r n N p d) : Calls Try.prog 20 #[.pointer (some ⟨g, 0, none⟩)] w fun e w' => e = .returned (.tuple #[]) ∧ ∃ K', Wq w0 w' g K' D L r n N ∧ Stp K K' w w' := by
  obtain ⟨s, h2, h3⟩ := h
  refine (wo_restart h2).mono ?_
  rintro e w' ⟨rfl, K', h4, h5⟩
  exact ⟨rfl, K', ⟨_, h4, h3.restart⟩, h5⟩
theorem wa_write (h : Wa w0 w g K D L r n N p false) (hr : r ≤ 1000000) (hn : n ≤ 1000000) {a b : Int} (h0 : 0 ≤ a) (h1 : a < N) (hb : b = 0 ∨ b = 1) (hp : 0 ≤ p) (AB : Option Addr) (m cap : Nat) (bb : List UInt8) (hf : Fr w K AB bb) (e : m = bb.length) (hm : bb.length ≤ 1099511627776)
    (q : Nat) (hq : (min 272 p).toNat = q) (pp : Int) (hpp : p - min 272 p = pp) (d : Bool) (hd : decide (min 272 p < 272) = d) (D' : DD) (hD : updD D (a, b) (overB (D (a, b)) ((wideW bb).take q)) = D') :
    Calls Try.prog 12 #[.pointer (some ⟨g, 0, none⟩), .int .i64 a, .int .i64 b, .slice AB m cap] w fun e w' => e = .returned (.bool (!d)) ∧ ∃ K', Wa w0 w' g K' D' L r (n + 1) N pp d ∧ Stp K K' w w' := by
  obtain ⟨s, h2, h3⟩ := h
  refine (wo_write h2 (h3.few hr hn) a b AB m cap bb hf e hm).mono ?_
  rintro e w' ⟨rfl, K', h4, h5⟩
  obtain ⟨c1, c2⟩ := h3.write h0 h1 hb bb hp
  rw [hq, hD, hpp, hd] at c1
  rw [c2, hd]
  exact ⟨rfl, K', ⟨_, h4, c1⟩, h5⟩
theorem wa_write_lost (h : Wa w0 w g K D L r n N p true) (hr : r ≤ 1000000) (hn : n ≤ 1000000) (a b : Int) (AB : Option Addr) (m cap : Nat) (bb : List UInt8) (hf : Fr w K AB bb) (e : m = bb.length) (hm : bb.length ≤ 1099511627776) :
    Calls Try.prog 12 #[.pointer (some ⟨g, 0, none⟩), .int .i64 a, .int .i64 b, .slice AB m cap] w fun e w' => e = .returned (.bool false) ∧ ∃ K', Wa w0 w' g K' D L r n N p true ∧ Stp K K' w w' := by
  obtain ⟨s, h2, h3⟩ := h
  have := wo_write h2 (h3.few hr hn) a b AB m cap bb hf e hm
  rw [(h3.lost a b bb).1, (h3.lost a b bb).2.1] at this
  refine this.mono ?_
  rintro e w' ⟨rfl, K', h4, h5⟩
  exact ⟨rfl, K', ⟨_, h4, h3⟩, h5⟩
theorem wa_read_lost (h : Wa w0 w g K D L r n N p true) (hr : r ≤ 1000000) (hn : n ≤ 1000000) (a b : Int) :
    Calls Try.prog 13 #[.pointer (some ⟨g, 0, none⟩), .int .i64 a, .int .i64 b] w fun e w' => ∃ A cap K', e = .returned (.slice A 0 cap) ∧ Wa w0 w' g K' D L r n N p true ∧ Stp K K' w w' := by
  obtain ⟨s, h2, h3⟩ := h
  have := wo_read h2 (h3.few hr hn) a b
  rw [(h3.lost a b []).2.2.1, (h3.lost a b []).2.2.2.1] at this
  refine this.mono ?_
  rintro e w' ⟨A, cap, K', rfl, _, _, h4, h5⟩
  exact ⟨A, cap, K', rfl, ⟨_, h4, h3⟩, h5⟩
theorem wa_bump_lost (h : Wa w0 w g K D L r n N p true) (hn : n ≤ 1000000) :
    Calls Try.prog 18 #[.pointer (some ⟨g, 0, none⟩)] w fun e w' => e = .returned (.bool false) ∧ ∃ K', Wa w0 w' g K' D L r n N p true ∧ Stp K K' w w' := by
  obtain ⟨s, h2, h3⟩ := h
  have := wo_bump h2 (by rw [h3.trace]; exact hn)
  rw [(h3.lost 0 0 []).2.2.2.2.1, (h3.lost 0 0 []).2.2.2.2.2.1] at this
  refine this.mono ?_
  rintro e w' ⟨rfl, K', h4, h5⟩
  exact ⟨rfl, K', ⟨_, h4, h3⟩, h5⟩
theorem wa_bump0 (h : Wa w0 w g K D L r n N 0 false) (hn : n ≤ 1000000) :
    Calls Try.prog 18 #[.pointer (some ⟨g, 0, none⟩)] w fun e w' => e = .returned (.bool false) ∧ ∃ K', Wa w0 w' g K' D L r n N 0 true ∧ Stp K K' w w' := by
  obtain ⟨s, h2, h3⟩ := h
  refine (wo_bump h2 (by rw [h3.trace]; exact hn)).mono ?_
  rintro e w' ⟨rfl, K', h4, h5⟩
  obtain ⟨c1, c2⟩ := h3.bump0 hn
  rw [c2]
  exact ⟨rfl, K', ⟨_, h4, c1⟩, h5⟩
theorem wa_bump (h : Wa w0 w g K D L r n N p false) (hn : n ≤ 1000000) (hp : 1 ≤ p) :
    Calls Try.prog 18 #[.pointer (some ⟨g, 0, none⟩)] w fun e w' => e = .returned (.bool true) ∧ ∃ K', Wa w0 w' g K' D L r (n + 1) N (p - 1) false ∧ Stp K K' w w' := by
  obtain ⟨s, h2, h3⟩ := h
  refine (wo_bump h2 (by rw [h3.trace]; exact hn)).mono ?_
  rintro e w' ⟨rfl, K', h4, h5⟩
  obtain ⟨c1, c2⟩ := h3.bump hn hp
  rw [c2]
  exact ⟨rfl, K', ⟨_, h4, c1⟩, h5⟩
end
end Go.Proofs.Ytffhncpgknkkaaa
