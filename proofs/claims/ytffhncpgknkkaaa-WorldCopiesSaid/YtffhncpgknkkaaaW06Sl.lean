/- W06Sl: what a world's two seals hold. -/
import Derived.Test.YtffhncpgknkkaaaW06Seal
import Derived.Test.YtffhncpgknkkaaaW06Known
import Derived.Test.YtffhncpgknkkaaaR00Same
namespace Go.Proofs.Ytffhncpgknkkaaa
open Go.RowKit Go.Sac
set_option linter.unusedVariables false
set_option linter.unusedSimpArgs false
structure Sl (s : Wd) (i : Int) (x y : List UInt8) (r n : Nat) (ar : Bool) (p : Int) (d : Bool) : Prop where
  hi : i = 0 ∨ i = 1
  dead : s.dead = d
  armed : s.armed = ar
  power : ar = true → s.power = p
  lies : s.lies = fun _ => none
  reads : s.reads = (r : Int)
  trace : s.trace.length = n
  at1 : sealOf s i = x
  at2 : sealOf s (1 - i) = y
  l1 : x.length ≤ 1099511627776
  l2 : y.length ≤ 1099511627776
section
variable {s : Wd} {i : Int} {x y : List UInt8} {r n : Nat} {ar d : Bool} {p : Int}
theorem Sl.new {i : Int} (hi : i = 0 ∨ i = 1) : Sl (newP 1) i [] [] 0 0 false 0 false :=
  ⟨hi, rfl, rfl, (fun h => nomatch h), rfl, rfl, rfl, by unfold sealOf; split <;> rfl, by unfold sealOf; split <;> rfl, Nat.zero_le _, Nat.zero_le _⟩
theorem Sl.swap (h : Sl s i x y r n ar p d) : Sl s (1 - i) y x r n ar p d :=
  ⟨by have := h.hi; omega, h.dead, h.armed, h.power, h.lies, h.reads, h.trace, h.at2, by rw [show 1 - (1 - i) = i by omega]; exact h.at1, h.l2, h.l1⟩
theorem Sl.few (h : Sl s i x y r n ar p d) (hr : r ≤ 1000000) (hn : n ≤ 1000000) : Few s := by
  have h1 : s.s0.length ≤ 1099511627776 ∧ s.s1.length ≤ 1099511627776 := by
    have e1 := h.at1
    have e2 := h.at2
    have l1 := h.l1
    have l2 := h.l2
    unfold sealOf at e1 e2
    rcases h.hi with rfl | rfl
    · rw [if_pos rfl] at e1; rw [if_neg (by decide)] at e2
      rw [e1, e2]; exact ⟨l1, l2⟩
    · rw [if_neg (by decide)] at e1; rw [if_pos (by decide)] at e2
      rw [e1, e2]; exact ⟨l2, l1⟩
  exact ⟨by rw [h.reads]; omega, by rw [h.trace]; exact hn, fun k l e => (by rw [h.lies] at e; cases e), h1.1, h1.2⟩
theorem Sl.open (h : Sl s i x y r n ar p false) : sealedP s i = true := by
  unfold sealedP
  rw [h.dead]
  rcases h.hi with rfl | rfl <;> rfl
theorem seal_one (s : Wd) (b : List UInt8) {i : Int} (hi : i = 0 ∨ i = 1) : sealOf (sealS s i b) i = b ∧ sealOf (sealS s i b) (1 - i) = sealOf s (1 - i) := by
  rcases hi with rfl | rfl <;> exact ⟨rfl, rfl⟩
theorem seal_rest (s : Wd) (b : List UInt8) (i : Int) : (sealS s i b).dead = s.dead ∧ (sealS s i b).armed = s.armed ∧ (sealS s i b).power = s.power ∧ (sealS s i b).lies = s.lies ∧ (sealS s i b).reads = s.reads ∧ (sealS s i b).trace = s.trace := by
  unfold sealS; split <;> exact ⟨rfl, rfl, rfl, rfl, rfl, rfl⟩
theorem torn_len (x b : List UInt8) (q : Nat) (h1 : x.length ≤ 1099511627776) (h2 : b.length ≤ 1099511627776) (hq : q ≤ b.length) : (tornB x b q).length ≤ 1099511627776 := by
  unfold tornB
  rw [List.length_append, List.length_take]
  split
  · rw [List.length_drop]; omega
  · simp; omega
theorem torn_all (x b : List UInt8) : tornB x b b.length = b := by
  unfold tornB
  rw [if_neg (by omega), List.take_length, List.append_nil]
theorem Sl.sealU (h : Sl s i x y r n false p false) (b : List UInt8) (hb : b.length ≤ 1099511627776) : Sl (sealP s i b) i b y r (n + 1) false p false ∧ sealR s i b = true := by
  have hk : takesK s b.length = (b.length : Int) := by unfold takesK; rw [if_neg (by rw [h.armed]; decide)]
  have hp : takesP (noteP s 4 i 0 b) b.length = noteP s 4 i 0 b := by unfold takesP; rw [if_neg (by show ¬ s.armed = true; rw [h.armed]; decide)]
  unfold sealP sealR
  rw [h.open, if_pos rfl, hk, hp, Int.toNat_natCast, torn_all]
  obtain ⟨r1, r2, r3, r4, r5, r6⟩ := seal_rest (noteP s 4 i 0 b) b i
  obtain ⟨o1, o2⟩ := seal_one (noteP s 4 i 0 b) b h.hi
  refine ⟨⟨h.hi, r1.trans h.dead, r2.trans h.armed, (fun h => nomatch h), r4.trans h.lies, r5.trans h.reads, ?_, o1, o2.trans h.at2, hb, h.l2⟩, ?_⟩
  · rw [r6]; show (s.trace ++ [_]).length = n + 1; rw [List.length_append, h.trace]; rfl
  · show (true && !s.dead) = true; rw [h.dead]; rfl
theorem Sl.sealA (h : Sl s i x y r n true p false) (b : List UInt8) (hb : b.length ≤ 1099511627776) (q : Nat) (hq : (min (b.length : Int) p).toNat = q) (hp : 0 ≤ p) (d : Bool) (hd : decide (min (b.length : Int) p < (b.length : Int)) = d) :
    Sl (sealP s i b) i (tornB x b q) y r (n + 1) true (p - min (b.length : Int) p) d ∧ sealR s i b = !d := by
  have hk : takesK s b.length = min (b.length : Int) p := by unfold takesK; rw [if_pos h.armed, h.power rfl]
  have hkn : takesK (noteP s 4 i 0 b) b.length = min (b.length : Int) p := hk
  have hpp : takesP (noteP s 4 i 0 b) b.length = { noteP s 4 i 0 b with power := p - min (b.length : Int) p, dead := d } := by
    unfold takesP
    rw [if_pos (show (noteP s 4 i 0 b).armed = true from h.armed), hkn, show (noteP s 4 i 0 b).power = p from h.power rfl, hd]
  unfold sealP sealR
  rw [h.open, if_pos rfl, hk, hpp, hq, h.at1]
  obtain ⟨r1, r2, r3, r4, r5, r6⟩ := seal_rest { noteP s 4 i 0 b with power := p - min (b.length : Int) p, dead := d } (tornB x b q) i
  obtain ⟨o1, o2⟩ := seal_one { noteP s 4 i 0 b with power := p - min (b.length : Int) p, dead := d } (tornB x b q) h.hi
  refine ⟨⟨h.hi, r1, r2.trans h.armed, fun _ => r3, r4.trans h.lies, r5.trans h.reads, ?_, o1, o2.trans h.at2, torn_len _ _ _ h.l1 hb (by omega), h.l2⟩, rfl⟩
  rw [r6]; show (s.trace ++ [_]).length = n + 1; rw [List.length_append, h.trace]; rfl
theorem Sl.look (h : Sl s i x y r n ar p false) : Sl (lookP s i) i x y (r + 1) (n + 1) ar p false ∧ lookB s i = x := by
  unfold lookP lookB
  rw [h.open, if_pos rfl, if_pos rfl]
  refine ⟨⟨h.hi, h.dead, h.armed, h.power, h.lies, ?_, ?_, h.at1, h.at2, h.l1, h.l2⟩, ?_⟩
  · show s.reads + 1 = _; rw [h.reads]; push_cast; rfl
  · show (s.trace ++ [_]).length = n + 1; rw [List.length_append, h.trace]; rfl
  · unfold toldB; rw [h.lies, h.at1]; rfl
theorem Sl.arm (h : Sl s i x y r n false p false) {k : Int} (h0 : 0 ≤ k) (h1 : k ≤ 1000000) : Sl (armP s k) i x y r n true k false := by
  unfold armP
  rw [if_neg (by rw [h.dead]; decide)]
  exact ⟨h.hi, h.dead, rfl, fun _ => by show max 0 (min k 1000000) = k; omega, h.lies, h.reads, h.trace, h.at1, h.at2, h.l1, h.l2⟩
theorem Sl.restart (h : Sl s i x y r n ar p d) : Sl (restartP s) i x y r n false 0 false :=
  ⟨h.hi, rfl, rfl, (fun h => nomatch h), h.lies, h.reads, h.trace, h.at1, h.at2, h.l1, h.l2⟩
end
def Ws (w0 w : World) (g : Nat) (K : Nat → Nat) (i : Int) (x y : List UInt8) (r n : Nat) (ar : Bool) (p : Int) (d : Bool) : Prop := ∃ s, Wo w0 w g K s ∧ Sl s i x y r n ar p d
section
variable {w w0 w' : World} {g : Nat} {K : Nat → Nat} {i : Int} {x y : List UInt8} {r n : Nat} {ar d : Bool} {p : Int}
theorem Ws.bel (h : Ws w0 w g K i x y r n ar p d) : Below w0.heap.size w0 w := let ⟨_, h2, _⟩ := h; h2.bel
theorem Ws.arg (h : Ws w0 w g K i x y r n ar p d) {A : Option Addr} {b : List UInt8} (hr : Rc w0 A (bs b)) : Fr w K A b := let ⟨_, h2, _⟩ := h; h2.arg hr
theorem Ws.below (h : Ws w0 w g K i x y r n ar p d) (hb : Below w.heap.size w w') : Ws w0 w' g K i x y r n ar p d := let ⟨s, h2, h3⟩ := h; ⟨s, h2.below hb, h3⟩
theorem Ws.swap (h : Ws w0 w g K i x y r n ar p d) : Ws w0 w g K (1 - i) y x r n ar p d := let ⟨s, h2, h3⟩ := h; ⟨s, h2, h3.swap⟩
theorem Ws.fresh (h : Ws w0 w g K i x y r n ar p d) {k : Nat} (hk : w.heap.size ≤ k) : K k = 0 := by
  obtain ⟨s, h2, h3⟩ := h
  obtain ⟨c, hc⟩ := h2.ex
  by_cases e : K k = 0
  · exact e
  · have := hc.dom k e; omega
theorem ws_new (w : World) {i : Int} (hi : i = 0 ∨ i = 1) : Calls Try.prog 11 #[.int .i64 1] w fun e w' => ∃ g K, e = .returned (.pointer (some ⟨g, 0, none⟩)) ∧ Ws w w' g K i [] [] 0 0 false 0 false := by
  refine (wo_new (Below.refl _ _) 1).mono ?_
  rintro e w' ⟨g, K, rfl, h1, h2⟩
  exact ⟨g, K, rfl, _, h1, Sl.new hi⟩
theorem ws_seal (h : Ws w0 w g K i x y r n false p false) (hr : r ≤ 1000000) (hn : n ≤ 1000000) (AB : Option Addr) (m cap : Nat) (bb : List UInt8) (hf : Fr w K AB bb) (e : m = bb.length) (hc : m ≤ cap) (hm : bb.length ≤ 1099511627776) :
    Calls Try.prog 21 #[.pointer (some ⟨g, 0, none⟩), .int .i64 i, .slice AB m cap] w fun e w' => e = .returned (.bool true) ∧ ∃ K', Ws w0 w' g K' i bb y r (n + 1) false p false ∧ Stp K K' w w' := by
  obtain ⟨s, h2, h3⟩ := h
  refine (wo_seal h2 (h3.few hr hn) i AB m cap bb hf e hc hm).mono ?_
  rintro e w' ⟨rfl, K', h4, h5⟩
  obtain ⟨c1, c2⟩ := h3.sealU bb hm
  rw [c2]
  exact ⟨rfl, K', ⟨_, h4, c1⟩, h5⟩
theorem ws_torn (h : Ws w0 w g K i x y r n true p false) (hr : r ≤ 1000000) (hn : n ≤ 1000000) (AB : Option Addr) (m cap : Nat) (bb : List UInt8) (hf : Fr w K AB bb) (e : m = bb.length) (hc : m ≤ cap) (hm : bb.length ≤ 1099511627776)
    (q : Nat) (hq : (min (m : Int) p).toNat = q) (hp : 0 ≤ p) (d : Bool) (hd : decide (min (m : Int) p < (m : Int)) = d) :
    Calls Try.prog 21 #[.pointer (some ⟨g, 0, none⟩), .int .i64 i, .slice AB m cap] w fun e w' => e = .returned (.bool (!d)) ∧ ∃ K' pp, Ws w0 w' g K' i (tornB x bb q) y r (n + 1) true pp d ∧ Stp K K' w w' := by
  obtain ⟨s, h2, h3⟩ := h
  refine (wo_seal h2 (h3.few hr hn) i AB m cap bb hf e hc hm).mono ?_
  rintro e' w' ⟨rfl, K', h4, h5⟩
  rw [e] at hq hd
  obtain ⟨c1, c2⟩ := h3.sealA bb hm q hq hp d hd
  rw [c2]
  exact ⟨rfl, K', _, ⟨_, h4, c1⟩, h5⟩
theorem ws_look (h : Ws w0 w g K i x y r n ar p false) (hr : r ≤ 1000000) (hn : n ≤ 1000000) (m : Nat) (hm : m = x.length) :
    Calls Try.prog 22 #[.pointer (some ⟨g, 0, none⟩), .int .i64 i] w fun e w' => ∃ A cap K', e = .returned (.slice A m cap) ∧ m ≤ cap ∧ Fr w' K' A x ∧ Ws w0 w' g K' i x y (r + 1) (n + 1) ar p false ∧ Stp K K' w w' := by
  obtain ⟨s, h2, h3⟩ := h
  refine (wo_look h2 (h3.few hr hn) i).mono ?_
  rintro e w' ⟨A, cap, K', rfl, h4, h5, h6, h7⟩
  obtain ⟨c1, c2⟩ := h3.look
  rw [c2] at h4 h5 ⊢
  rw [← hm] at h4 ⊢
  exact ⟨A, cap, K', rfl, h4, h5, ⟨_, h6, c1⟩, h7⟩
theorem ws_arm (h : Ws w0 w g K i x y r n false p false) {k : Int} (h0 : 0 ≤ k) (h1 : k ≤ 1000000) : Calls Try.prog 16 #[.pointer (some ⟨g, 0, none⟩), .int .i64 k] w fun e w' => e = .returned (.tuple #[]) ∧ ∃ K', Ws w0 w' g K' i x y r n true k false ∧ Stp K K' w w' := by
  obtain ⟨s, h2, h3⟩ := h
  refine (wo_arm h2 k).mono ?_
  rintro e w' ⟨rfl, K', h4, h5⟩
  exact ⟨rfl, K', ⟨_, h4, h3.arm h0 h1⟩, h5⟩
theorem ws_restart (h : Ws w0 w g K i x y r n ar p d) : Calls Try.prog 20 #[.pointer (some ⟨g, 0, none⟩)] w fun e w' => e = .returned (.tuple #[]) ∧ ∃ K', Ws w0 w' g K' i x y r n false 0 false ∧ Stp K K' w w' := by
  obtain ⟨s, h2, h3⟩ := h
  refine (wo_restart h2).mono ?_
  rintro e w' ⟨rfl, K', h4, h5⟩
  exact ⟨rfl, K', ⟨_, h4, h3.restart⟩, h5⟩
end
end Go.Proofs.Ytffhncpgknkkaaa
