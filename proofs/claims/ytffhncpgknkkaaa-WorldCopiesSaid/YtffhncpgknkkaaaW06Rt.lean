/- W06Rt: W06Cp, W06Rt, W06Ru, W06Rv, W06Rw, W06Rx. -/
import Derived.Test.YtffhncpgknkkaaaBase21
import Derived.Test.YtffhncpgknkkaaaW06Trace
import Derived.Test.YtffhncpgknkkaaaW06Seal
import Derived.Test.YtffhncpgknkkaaaW06Lie
import Derived.Test.YtffhncpgknkkaaaW06Do
import Derived.Test.YtffhncpgknkkaaaW06Write
import Derived.BigQuiet
import Derived.Test.YtffhncpgknkkaaaBaseR2
/-! from W06Cp -/
namespace Go.Proofs.Ytffhncpgknkkaaa
open Go.RowKit Go.Sac
set_option linter.unusedVariables false
set_option linter.unusedSimpArgs false
/-- how much of a world a copy has: its slots but those that are still to come; its lies; its seals -/
def cp1 (s : Wd) (left : Int × Int → Bool) : Wd := { blocks := s.blocks, slots := fun p => if left p = true then nought else s.slots p, s0 := [], s1 := [], counter := s.counter, lies := fun _ => none, reads := s.reads, armed := s.armed, power := s.power, dead := s.dead, trace := s.trace }
def cp2 (s : Wd) (left : Int → Bool) : Wd := { s with s0 := [], s1 := [], lies := fun n => if left n = true then none else s.lies n }
def cp3 (s : Wd) (k : Int) : Wd := { s with s0 := if 1 ≤ k then s.s0 else [], s1 := if 2 ≤ k then s.s1 else [] }
def cpR (s : Wd) : Wd := { cp1 s (fun _ => true) with reads := 0 }
theorem cp1_step (s : Wd) (left : Int × Int → Bool) (k : Int × Int) : ({ cp1 s left with slots := fun z => if z = k then s.slots k else (cp1 s left).slots z } : Wd) = cp1 s (fun q => left q && !decide (q = k)) := by
  simp only [cp1, Wd.mk.injEq, true_and, and_true]
  funext z
  by_cases h : z = k
  · simp [h]
  · simp [h]
theorem cp2_step (s : Wd) (left : Int → Bool) (k : Int) (l : List UInt8) (hk : s.lies k = some l) : lieP (cp2 s left) k l = cp2 s (fun q => left q && !decide (q = k)) := by
  simp only [lieP, cp2, Wd.mk.injEq, true_and, and_true]
  funext z
  by_cases h : z = k
  · simp [h, hk]
  · simp [h]
theorem cp1_all (s : Wd) (left : Int × Int → Bool) (h : ∀ p, left p = false) (L : Int → Bool) (hL : ∀ n, L n = false → s.lies n = none) : cp1 s left = cp2 s (fun n => true) := by
  simp only [cp1, cp2, Wd.mk.injEq, true_and, and_true]
  exact ⟨by funext p; rw [h]; rfl, by funext n; simp⟩
theorem cp2_start (s : Wd) (L : Int → Bool) (hL : ∀ n, L n = false → s.lies n = none) : cp2 s (fun _ => true) = cp2 s L := by
  simp only [cp2, Wd.mk.injEq, true_and, and_true]
  funext n
  cases h : L n with
  | true => rfl
  | false => simp [hL n h]
theorem cp1_start (s : Wd) (L : Int × Int → Bool) (hL : ∀ p, L p = false → s.slots p = nought) : cp1 s (fun _ => true) = cp1 s L := by
  simp only [cp1, Wd.mk.injEq, true_and, and_true]
  funext p
  cases h : L p with
  | true => rfl
  | false => simp [hL p h]
theorem cp2_all (s : Wd) (left : Int → Bool) (h : ∀ p, left p = false) : cp2 s left = cp3 s 0 := by
  simp only [cp2, cp3, Wd.mk.injEq, true_and, and_true]
  exact ⟨by simp, by simp, by funext p; rw [h]; rfl⟩
theorem cp3_step0 (s : Wd) : sealS (cp3 s 0) 0 s.s0 = cp3 s 1 := by
  unfold sealS cp3; simp
theorem cp3_step1 (s : Wd) : sealS (cp3 s 1) 1 s.s1 = cp3 s 2 := by
  unfold sealS cp3; simp
theorem cp3_skip0 (s : Wd) (h : s.s0 = []) : cp3 s 0 = cp3 s 1 := by
  unfold cp3; simp [h]
theorem cp3_skip1 (s : Wd) (h : s.s1 = []) : cp3 s 1 = cp3 s 2 := by
  unfold cp3; simp [h]
theorem cp3_all (s : Wd) : cp3 s 2 = s := by
  unfold cp3; simp
section
variable {w : World} {g : Nat} {K : Nat → Nat} {c : Wc} {s : Wd}
/-- a slot of one's own is laid -/
theorem put_slot (h : WdAt w g K c s) (p : Int × Int) (hp : c.F p = none) {n : Nat} {l : List UInt8} (hq : Blk w n 96 (bs l)) (hl : l.length = 272) (hK0 : K n = 0) :
    ∃ w', (Instr.mapUpdate 64 (.map (some c.rs)) (pkey p) (.pointer (some ⟨n, 0, none⟩))).run Try.prog w = .ok () w' ∧ Turn c.rs w w' ∧
      ∃ K', WdAt w' g K' { c with F := fun q => if q = p then some n else c.F q } { s with slots := fun q => if q = p then l else s.slots q } ∧ ∀ k, K' k = if k = n then 4 else K k := by
  obtain ⟨w', hu1, hu2, hu3⟩ := run_update_k pkey_ok smap_und h.ms p (.pointer (some ⟨n, 0, none⟩))
  refine ⟨w', hu1, hu2, ?_⟩
  obtain ⟨K', hK'⟩ : ∃ K' : Nat → Nat, K' = fun k => if k = n then 4 else K k := ⟨_, rfl⟩
  have old : ∀ k, k ≠ n → K' k = K k := fun k hk => by rw [hK']; exact if_neg hk
  have old2 : ∀ k, K k ≠ 0 → K' k = K k := fun k hk => old k (fun e => hk (by rw [e]; exact hK0))
  have blk : ∀ k, K k ≠ 2 → w'.heap[k]? = w.heap[k]? := fun k h2 => hu2.other k (fun e => h2 (by rw [e]; exact h.krs))
  have row : ∀ {A : Option Addr} {l : List UInt8} {n : Nat}, Row6 w K A l n → Row6 w' K' A l n := fun r =>
    ⟨(r.keep fun k _ h6 => blk k (by omega)).rc, r.cap, fun a ha => by rw [old2 _ (by rw [r.kd a ha]; decide)]; exact r.kd a ha⟩
  refine ⟨K', ?_, fun k => by rw [hK']⟩
  exact {
    obj := (blk g (by rw [h.kg]; decide)).trans h.obj
    kg := by rw [old2 g (by rw [h.kg]; decide)]; exact h.kg
    krs := by rw [old2 _ (by rw [h.krs]; decide)]; exact h.krs
    krl := by rw [old2 _ (by rw [h.krl]; decide)]; exact h.krl
    ms := by
      have e : (fun q => if q = p then some (Value.pointer (some ⟨n, 0, none⟩)) else (c.F q).map fun b => Value.pointer (some ⟨b, 0, none⟩)) = fun q => (if q = p then some n else c.F q).map fun b => Value.pointer (some ⟨b, 0, none⟩) := by
        funext q
        by_cases hq : q = p <;> simp [hq]
      exact e ▸ hu3
    len := fun q => by
      show (if q = p then l else s.slots q).length = 272
      split
      · exact hl
      · exact h.len q
    hs := fun q b hb => by
      show K' b = 4 ∧ Blk w' b _ (bs (if q = p then l else s.slots q))
      by_cases hqp : q = p
      · have hb : (if q = p then some n else c.F q) = some b := hb
        rw [if_pos hqp] at hb
        have hb := Option.some.inj hb
        subst hb
        rw [if_pos hqp]
        exact ⟨by rw [hK']; exact if_pos rfl, (blk n (by omega)).trans hq⟩
      · have hb : (if q = p then some n else c.F q) = some b := hb
        rw [if_neg hqp] at hb
        rw [if_neg hqp]
        have h1 := h.hs q b hb
        exact ⟨by rw [old2 b (by rw [h1.1]; decide)]; exact h1.1, (blk b (by rw [h1.1]; decide)).trans h1.2⟩
    h0 := fun q hq => by
      have hq : (if q = p then some n else c.F q) = none := hq
      by_cases e : q = p
      · rw [if_pos e] at hq; cases hq
      · rw [if_neg e] at hq
        show (if q = p then l else s.slots q) = _
        rw [if_neg e]
        exact h.h0 q hq
    inj := fun q r b hq hr => by
      have hq : (if q = p then some n else c.F q) = some b := hq
      have hr : (if r = p then some n else c.F r) = some b := hr
      have ne : ∀ q b, c.F q = some b → b ≠ n := fun q b hb e => by have := (h.hs q b hb).1; rw [e] at this; omega
      by_cases e1 : q = p <;> by_cases e2 : r = p
      · rw [e1, e2]
      · rw [if_pos e1] at hq; rw [if_neg e2] at hr
        exact absurd (Option.some.inj hq).symm (ne r b hr)
      · rw [if_neg e1] at hq; rw [if_pos e2] at hr
        exact absurd (Option.some.inj hr).symm (ne q b hq)
      · rw [if_neg e1] at hq; rw [if_neg e2] at hr
        exact h.inj q r b hq hr
    ml := map_keep h.ml (blk _ (by rw [h.krl]; decide))
    hl := fun n x hx => let ⟨l, h1, h2⟩ := h.hl n x hx; ⟨l, h1, row h2⟩
    hn := h.hn
    q0 := row h.q0
    q1 := row h.q1
    tr := own_keep h.tr fun k hk => by have h5 := h.kt k hk; exact blk k (by omega)
    kt := fun k hk => by have h5 := h.kt k hk; rw [old2 k (by omega)]; exact h5
    th := fun x hx => row (h.th x hx)
    tv := h.tv
    dom := fun k hk => by
      rw [hu2.size]
      by_cases e : k = n
      · rw [e]; exact hq.lt
      · rw [old k e] at hk; exact h.dom k hk
    num := h.num }
theorem WdAt.turn (h : WdAt w g K c s) {r : Nat} {w' : World} (hT : Turn r w w') (h0 : K r = 0) : WdAt w' g K c s :=
  h.keep (Nat.le_of_eq hT.size.symm) fun k hk => hT.other k fun e => hk (by rw [e]; exact h0)
end
/-- the region that makes it: what has come up -/
structure CG (s : Wd) (w0 : World) (J : Nat → Nat) (L : Nat → Bool) (w : World) (f : Nat → Value) : Prop where
  bel : Below w0.heap.size w0 w
  dom : ∀ k, J k ≠ 0 → w0.heap.size ≤ k ∧ k < w.heap.size
  m4 : L 4 = true → ∃ r, f 4 = .map (some r) ∧ J r = 2 ∧ MapAt pkey w r (fun _ => none)
  m9 : L 9 = true → ∃ r, f 9 = .map (some r) ∧ J r = 3 ∧ MapAt i64v w r (fun _ => none)
  t : L 23 = true → ∃ T : List Tr, w.ownsRow 0 52 4 (f 23) T.length (trs T) ∧ T.map Tr.val = s.trace ∧ (∀ k, (f 23).ownBlock = some k → J k = 5) ∧ ∀ x ∈ T, Row6 w J x.A x.b x.c
  b : L 24 = true → f 24 = .agg #[.int .i64 s.blocks, f 4, .slice none 0 0, .slice none 0 0, .int .u64 s.counter, f 9, .int .i64 0, .bool s.armed, .int .i64 s.power, .bool s.dead, f 23]
  ob : L 25 = true → ∃ g, f 25 = .pointer (some ⟨g, 0, none⟩) ∧ J g = 1 ∧ Blk w g 73 [.int .i64 s.blocks, f 4, .slice none 0 0, .slice none 0 0, .int .u64 s.counter, f 9, .int .i64 0, .bool s.armed, .int .i64 s.power, .bool s.dead, f 23]
section
variable {s : Wd} {w0 w w' : World} {J J' : Nat → Nat} {L : Nat → Bool} {f : Nat → Value}
theorem CG.past (h : CG s w0 J L w f) (i : Nat) (v : Value) (hi : i ≠ 4 ∧ i ≠ 9 ∧ i ≠ 23 ∧ i ≠ 24 ∧ i ≠ 25) : CG s w0 J (fun j => j == i || L j) w (upd f i v) := by
  obtain ⟨n4, n9, n23, n24, n25⟩ := hi
  have e : ∀ k, k ≠ i → (k == i || L k) = L k := fun k hk => by simp [hk]
  refine ⟨h.bel, h.dom, fun a => ?_, fun a => ?_, fun a => ?_, fun a => ?_, fun a => ?_⟩
  · rw [upd_ne _ _ _ _ n4.symm]; exact h.m4 (e 4 n4.symm ▸ a)
  · rw [upd_ne _ _ _ _ n9.symm]; exact h.m9 (e 9 n9.symm ▸ a)
  · rw [upd_ne _ _ _ _ n23.symm]; exact h.t (e 23 n23.symm ▸ a)
  · rw [upd_ne _ _ _ _ n24.symm, upd_ne _ _ _ _ n4.symm, upd_ne _ _ _ _ n9.symm, upd_ne _ _ _ _ n23.symm]; exact h.b (e 24 n24.symm ▸ a)
  · rw [upd_ne _ _ _ _ n25.symm, upd_ne _ _ _ _ n4.symm, upd_ne _ _ _ _ n9.symm, upd_ne _ _ _ _ n23.symm]; exact h.ob (e 25 n25.symm ▸ a)
/-- memory is made -/
theorem CG.grow (h : CG s w0 J L w f) (hb : Below w.heap.size w w') (hJ : ∀ k, k < w.heap.size → J' k = J k) (hd : ∀ k, J' k ≠ 0 → k < w'.heap.size) : CG s w0 J' L w' f := by
  have same : ∀ k, J k ≠ 0 → J' k = J k := fun k hk => hJ k (h.dom k hk).2
  have row : ∀ {A : Option Addr} {l : List UInt8} {n : Nat}, Row6 w J A l n → Row6 w' J' A l n := fun r =>
    ⟨r.rc.below hb, r.cap, fun a ha => by rw [same _ (by rw [r.kd a ha]; decide)]; exact r.kd a ha⟩
  refine ⟨below_then h.bel h.bel.size hb, fun k hk => ?_, fun a => ?_, fun a => ?_, fun a => ?_, h.b, fun a => ?_⟩
  · refine ⟨?_, hd k hk⟩
    by_cases e : k < w.heap.size
    · rw [hJ k e] at hk; exact (h.dom k hk).1
    · have := h.bel.size; omega
  · obtain ⟨r, h1, h2, h3⟩ := h.m4 a
    exact ⟨r, h1, by rw [same r (by omega)]; exact h2, h3.below hb⟩
  · obtain ⟨r, h1, h2, h3⟩ := h.m9 a
    exact ⟨r, h1, by rw [same r (by omega)]; exact h2, h3.below hb⟩
  · obtain ⟨T, h1, h2, h3, h4⟩ := h.t a
    exact ⟨T, own_below h1 hb, h2, fun k hk => by rw [same k (by rw [h3 k hk]; decide)]; exact h3 k hk, fun x hx => row (h4 x hx)⟩
  · obtain ⟨q, h1, h2, h3⟩ := h.ob a
    exact ⟨q, h1, by rw [same q (by omega)]; exact h2, h3.below hb h3.lt⟩
theorem CG.start (w : World) (s : Wd) (f : Nat → Value) : CG s w (fun _ => 0) (fun _ => false) w.drew f :=
  ⟨(Below.refl _ _).drew, fun k hk => absurd rfl hk, nofun, nofun, nofun, nofun, nofun⟩
def CGE (s : Wd) (w0 : World) (L : Nat → Bool) (w : World) (f : Nat → Value) : Prop := ∃ J, CG s w0 J L w f
theorem CGE.past (h : CGE s w0 L w f) (i : Nat) (v : Value) (hi : i ≠ 4 ∧ i ≠ 9 ∧ i ≠ 23 ∧ i ≠ 24 ∧ i ≠ 25) : CGE s w0 (fun j => j == i || L j) w (upd f i v) := let ⟨J, h⟩ := h; ⟨J, h.past i v hi⟩
theorem CGE.bel (h : CGE s w0 L w f) : Below w0.heap.size w0 w := let ⟨_, h⟩ := h; h.bel
theorem tag_new (h : CG s w0 J L w f) (o : Obj) (t : Nat) : CG s w0 (fun k => if k = w.heap.size then t else J k) L (w.alloc o) f :=
  h.grow ((Below.refl _ _).alloc (Nat.le_refl _) _) (fun k hk => if_neg (by omega)) (fun k hk => by
    rw [World.size_alloc]
    by_cases e : k = w.heap.size
    · omega
    · have hk : (if k = w.heap.size then t else J k) ≠ 0 := hk
      rw [if_neg e] at hk; have := (h.dom k hk).2; omega)
theorem CGE.map4 (h : CGE s w0 L w f) (l23 : L 24 = false) (l25 : L 25 = false) : CGE s w0 (fun j => j == 4 || L j) (w.alloc (.map #[] 0)) (upd f 4 (.map (some w.heap.size))) := by
  obtain ⟨J, h⟩ := h
  have h' := tag_new h (.map #[] 0) 2
  refine ⟨_, h'.bel, h'.dom, fun _ => ?_, fun a => ?_, fun a => ?_, fun a => ?_, fun a => ?_⟩
  · rw [upd_same]; exact ⟨_, rfl, if_pos rfl, MapAt.new w⟩
  · rw [upd_ne _ _ _ _ (by decide)]; exact h'.m9 (by simpa using a)
  · rw [upd_ne _ _ _ _ (by decide)]; exact h'.t (by simpa using a)
  · simp [l23] at a
  · simp [l25] at a
theorem CGE.map9 (h : CGE s w0 L w f) (l23 : L 24 = false) (l25 : L 25 = false) : CGE s w0 (fun j => j == 9 || L j) (w.alloc (.map #[] 0)) (upd f 9 (.map (some w.heap.size))) := by
  obtain ⟨J, h⟩ := h
  have h' := tag_new h (.map #[] 0) 3
  refine ⟨_, h'.bel, h'.dom, fun a => ?_, fun _ => ?_, fun a => ?_, fun a => ?_, fun a => ?_⟩
  · rw [upd_ne _ _ _ _ (by decide)]; exact h'.m4 (by simpa using a)
  · rw [upd_same]; exact ⟨_, rfl, if_pos rfl, MapAt.new w⟩
  · rw [upd_ne _ _ _ _ (by decide)]; exact h'.t (by simpa using a)
  · simp [l23] at a
  · simp [l25] at a
theorem CGE.trace (h : CGE s w0 L w f) (l23 : L 24 = false) (l25 : L 25 = false) {v : Value} (hr : RetTrO s.trace w (.returned v) w') : CGE s w0 (fun j => j == 23 || L j) w' (upd f 23 v) := by
  obtain ⟨J, h⟩ := h
  obtain ⟨A, cap, T, h1, h2, h3, h4, h5, h6, h7, h8, h9⟩ := hr
  injection h1 with h1
  subst h1
  obtain ⟨J', hJ'⟩ : ∃ J' : Nat → Nat, J' = fun k => if k < w.heap.size then J k else if A.map (·.block) = some k then 5 else if k < w'.heap.size then 6 else 0 := ⟨_, rfl⟩
  have hA : ∀ a, A = some a → w.heap.size ≤ a.block ∧ a.block < w'.heap.size := fun a e => ⟨h7 a e, by
    obtain ⟨A2, c2, e2, _, _, h10⟩ := own_rc h9
    injection e2 with e2
    exact (h10 a (e2 ▸ e)).2⟩
  have h' : CG s w0 J' L w' f := h.grow h6 (fun k hk => by rw [hJ']; exact if_pos hk) (fun k hk => by
    rw [hJ'] at hk
    have hk : (if k < w.heap.size then J k else if A.map (·.block) = some k then 5 else if k < w'.heap.size then 6 else 0) ≠ 0 := hk
    by_cases e : k < w.heap.size
    · have := h6.size; omega
    · rw [if_neg e] at hk
      by_cases e2 : A.map (·.block) = some k
      · cases hAA : A with
        | none => rw [hAA] at e2; cases e2
        | some a => rw [hAA] at e2; injection e2 with e2; have e2 : a.block = k := e2; have := (hA a hAA).2; omega
      · rw [if_neg e2] at hk
        by_cases e3 : k < w'.heap.size
        · exact e3
        · rw [if_neg e3] at hk; exact absurd rfl hk)
  refine ⟨J', h'.bel, h'.dom, fun a => ?_, fun a => ?_, fun _ => ?_, fun a => ?_, fun a => ?_⟩
  · rw [upd_ne _ _ _ _ (by decide)]; exact h'.m4 (by simpa using a)
  · rw [upd_ne _ _ _ _ (by decide)]; exact h'.m9 (by simpa using a)
  · rw [upd_same]
    refine ⟨T, own_lower h9 (Nat.zero_le _), h2, fun k hk => ?_, fun x hx => ⟨(h5 x hx).1, (h5 x hx).2, fun a ha => ?_⟩⟩
    · cases hAA : A with
      | none => rw [hAA] at hk; cases hk
      | some a =>
        rw [hAA] at hk
        have hk : a.block = k := Option.some.inj hk
        have := hA a hAA
        rw [hJ']; dsimp only
        rw [if_neg (by omega), if_pos (by rw [hAA, ← hk]; rfl)]
    · obtain ⟨q1, q2, q3⟩ := h8 x hx a ha
      rw [hJ']; dsimp only
      rw [if_neg (by omega), if_neg, if_pos q2]
      intro e
      cases hAA : A with
      | none => rw [hAA] at e; cases e
      | some b => rw [hAA] at e; injection e with e; exact q3 b hAA e.symm
  · simp [l23] at a
  · simp [l25] at a
theorem CGE.agg (h : CGE s w0 L w f) (l25 : L 25 = false) : CGE s w0 (fun j => j == 24 || L j) w (upd f 24 (.agg #[.int .i64 s.blocks, f 4, .slice none 0 0, .slice none 0 0, .int .u64 s.counter, f 9, .int .i64 0, .bool s.armed, .int .i64 s.power, .bool s.dead, f 23])) := by
  obtain ⟨J, h⟩ := h
  refine ⟨J, h.bel, h.dom, fun a => ?_, fun a => ?_, fun a => ?_, fun a => ?_, fun a => ?_⟩
  · rw [upd_ne _ _ _ _ (by decide)]; exact h.m4 (by simpa using a)
  · rw [upd_ne _ _ _ _ (by decide)]; exact h.m9 (by simpa using a)
  · rw [upd_ne _ _ _ _ (by decide)]; exact h.t (by simpa using a)
  · rw [upd_same, upd_ne _ _ _ _ (by decide), upd_ne _ _ _ _ (by decide), upd_ne _ _ _ _ (by decide)]
  · simp [l25] at a
theorem CGE.box (h : CGE s w0 L w f) (l24 : L 24 = true) : CGE s w0 (fun j => j == 25 || L j) (w.alloc (.cells #[.int .i64 s.blocks, f 4, .slice none 0 0, .slice none 0 0, .int .u64 s.counter, f 9, .int .i64 0, .bool s.armed, .int .i64 s.power, .bool s.dead, f 23] 73)) (upd f 25 (.pointer (some ⟨w.heap.size, 0, none⟩))) := by
  obtain ⟨J, h⟩ := h
  have h' := tag_new h (.cells #[.int .i64 s.blocks, f 4, .slice none 0 0, .slice none 0 0, .int .u64 s.counter, f 9, .int .i64 0, .bool s.armed, .int .i64 s.power, .bool s.dead, f 23] 73) 1
  refine ⟨_, h'.bel, h'.dom, fun a => ?_, fun a => ?_, fun a => ?_, fun a => ?_, fun a => ?_⟩
  · rw [upd_ne _ _ _ _ (by decide)]; exact h'.m4 (by simpa using a)
  · rw [upd_ne _ _ _ _ (by decide)]; exact h'.m9 (by simpa using a)
  · rw [upd_ne _ _ _ _ (by decide)]; exact h'.t (by simpa using a)
  · rw [upd_ne _ _ _ _ (by decide), upd_ne _ _ _ _ (by decide), upd_ne _ _ _ _ (by decide), upd_ne _ _ _ _ (by decide)]; exact h.b l24
  · rw [upd_same, upd_ne _ _ _ _ (by decide), upd_ne _ _ _ _ (by decide), upd_ne _ _ _ _ (by decide)]
    exact ⟨_, rfl, if_pos rfl, Blk.new w _ _⟩
/-- the copy, as it is made -/
theorem CGE.done {g : Nat} {K : Nat → Nat} {c : Wc} (h : CGE s w0 L w f) (h0 : WdAt w0 g K c s) (l4 : L 4 = true) (l9 : L 9 = true) (l23 : L 23 = true) (l25 : L 25 = true) :
    ∃ gx J d, f 25 = .pointer (some ⟨gx, 0, none⟩) ∧ WdAt w gx J d (cpR s) ∧ (∀ p, d.F p = none) ∧ Below w0.heap.size w0 w ∧ ∀ k, J k ≠ 0 → w0.heap.size ≤ k := by
  obtain ⟨J, h⟩ := h
  obtain ⟨r4, e4, j4, m4⟩ := h.m4 l4
  obtain ⟨r9, e9, j9, m9⟩ := h.m9 l9
  obtain ⟨T, t1, t2, t3, t4⟩ := h.t l23
  obtain ⟨gx, e25, jx, hx⟩ := h.ob l25
  rw [e4, e9] at hx
  refine ⟨gx, J, ⟨r4, r9, none, 0, none, 0, f 23, T, fun _ => none, fun _ => none⟩, e25, ?_, fun _ => rfl, h.bel, fun k hk => (h.dom k hk).1⟩
  have hn := h0.num
  exact {
    obj := hx
    kg := jx
    krs := j4
    krl := j9
    ms := m4
    len := fun _ => nought_len
    hs := fun p b hb => by cases hb
    h0 := fun _ _ => rfl
    inj := fun p q b hb => by cases hb
    ml := m9
    hl := fun n x hx => by cases hx
    hn := fun _ _ => rfl
    q0 := ⟨Rc.nil _ _, Nat.le_refl _, fun a ha => by cases ha⟩
    q1 := ⟨Rc.nil _ _, Nat.le_refl _, fun a ha => by cases ha⟩
    tr := t1
    kt := t3
    th := t4
    tv := t2
    dom := fun k hk => (h.dom k hk).2
    num := ⟨hn.1, hn.2.1, Int.le_refl _, hn.2.2.2⟩ }
end
/-- one operation turns the world -/
structure G1 (k : Nat) (wa wb : World) (L : Nat → Bool) (w : World) : Prop where
  a : L k = false → w = wa
  b : L k = true → w = wb
theorem G1.past {k : Nat} {wa wb w : World} {L : Nat → Bool} (h : G1 k wa wb L w) (i : Nat) (hk : k ≠ i) : G1 k wa wb (fun j => j == i || L j) w := by
  have e : (k == i || L k) = L k := by simp [hk]
  exact ⟨fun x => h.a (e ▸ x), fun x => h.b (e ▸ x)⟩
/-- the first loop: slots -/
structure Cp1 (w0 : World) (c : Wc) (s : Wd) (gx r : Nat) (left : Int × Int → Bool) (cnt : Nat) (J : Nat → Nat) (d : Wc) (w : World) : Prop where
  wd : WdAt w gx J d (cp1 s left)
  fre : ∀ p, left p = true → d.F p = none
  rg : RgAt pkey w c.rs r (fun p => (c.F p).map fun b => .pointer (some ⟨b, 0, none⟩)) left cnt
  bel : Below w0.heap.size w0 w
  own : ∀ k, J k ≠ 0 → w0.heap.size ≤ k
  jr : J r = 0
  lr : w0.heap.size ≤ r
section
variable {w0 w w1 w' : World} {g : Nat} {K J : Nat → Nat} {c d : Wc} {s : Wd} {gx r cnt cnt' : Nat} {left : Int × Int → Bool} {k : Int × Int}
/-- an entry has come -/
theorem Cp1.next (h : Cp1 w0 c s gx r left cnt J d w) (hT : Turn r w w1) : WdAt w1 gx J d (cp1 s left) ∧ Below w0.heap.size w0 w1 := ⟨h.wd.turn hT h.jr, h.bel.trans (hT.below h.lr)⟩
theorem Cp1.step (h0 : WdAt w0 g K c s) (h : Cp1 w0 c s gx r left cnt J d w) (hk : left k = true) (hT : Turn r w w1) (hr : RgAt pkey w1 c.rs r (fun p => (c.F p).map fun b => .pointer (some ⟨b, 0, none⟩)) (fun q => left q && !decide (q = k)) cnt')
    {w2 : World} (hb : Below w1.heap.size w1 w2) {n : Nat} (hn : w1.heap.size ≤ n) (hq : Blk w2 n 96 (bs (s.slots k))) :
    ∃ w3, (Instr.mapUpdate 64 (.map (some d.rs)) (pkey k) (.pointer (some ⟨n, 0, none⟩))).run Try.prog w2 = .ok () w3 ∧ ∃ J' d', Cp1 w0 c s gx r (fun q => left q && !decide (q = k)) cnt' J' d' w3 := by
  have h1 := (h.next hT).1.below hb
  have hJn : J n = 0 := by
    by_cases e : J n = 0
    · exact e
    · have := (h.next hT).1.dom n e; omega
  obtain ⟨w3, hu, hT3, J', hw, hJ⟩ := put_slot h1 k (h.fre k hk) hq (h0.len k) hJn
  refine ⟨w3, hu, J', { d with F := fun q => if q = k then some n else d.F q }, ?_⟩
  rw [cp1_step] at hw
  have hrs : w0.heap.size ≤ d.rs := h.own _ (by rw [h1.krs]; decide)
  have hr0 := h.rg.lt
  have hlc : c.rs < w0.heap.size := h0.dom _ (by rw [h0.krs]; decide)
  have hle : w.heap.size ≤ w1.heap.size := Nat.le_of_eq hT.size.symm
  have hb01 : Below w0.heap.size w0 w1 := (h.next hT).2
  refine ⟨hw, fun p hp => ?_, hr.keep ?_ ?_, ?_, fun q hq => ?_, ?_, h.lr⟩
  · simp only [Bool.and_eq_true, Bool.not_eq_true', decide_eq_false_iff_not] at hp
    show (if p = k then some n else d.F p) = none
    rw [if_neg hp.2]
    exact h.fre p hp.1
  · exact (hT3.other _ (by omega)).trans (hb.block _ (by have := hb01.size; omega))
  · exact (hT3.other _ (fun e => by have := h.jr; rw [e, h1.krs] at this; cases this)).trans (hb.block _ (by omega))
  · exact (below_then hb01 hb01.size hb).trans (hT3.below hrs)
  · rw [hJ] at hq
    by_cases e : q = n
    · have := hb01.size; omega
    · rw [if_neg e] at hq; exact h.own q hq
  · rw [hJ, if_neg (by omega)]; exact h.jr
end
/-- the second loop: lies -/
structure Cp2 (w0 : World) (c : Wc) (s : Wd) (gx r : Nat) (left : Int → Bool) (cnt : Nat) (J : Nat → Nat) (d : Wc) (w : World) : Prop where
  wd : WdAt w gx J d (cp2 s left)
  rg : RgAt i64v w c.rl r (fun n => (c.L n).map (lieV s n)) left cnt
  bel : Below w0.heap.size w0 w
  own : ∀ k, J k ≠ 0 → w0.heap.size ≤ k
  jr : J r = 0
  lr : w0.heap.size ≤ r
section
variable {w0 w w1 w' : World} {g : Nat} {K J : Nat → Nat} {c d : Wc} {s : Wd} {gx r cnt cnt' : Nat} {left : Int → Bool} {k : Int}
theorem Cp2.next (h : Cp2 w0 c s gx r left cnt J d w) (hT : Turn r w w1) : WdAt w1 gx J d (cp2 s left) ∧ Below w0.heap.size w0 w1 := ⟨h.wd.turn hT h.jr, h.bel.trans (hT.below h.lr)⟩
theorem own_step {J' : Nat → Nat} (h : ∀ k, J k ≠ 0 → w0.heap.size ≤ k) (hw : w0.heap.size ≤ w.heap.size) (hs : Stp J J' w w') : ∀ k, J' k ≠ 0 → w0.heap.size ≤ k := fun k hk => by
  by_cases e : J k = 0
  · by_cases hl : k < w.heap.size
    · exact absurd (hs.free k hl e) hk
    · omega
  · exact h k e
theorem Cp2.step {J' : Nat → Nat} {d' : Wc} {l : List UInt8} (h0 : WdAt w0 g K c s) (h : Cp2 w0 c s gx r left cnt J d w) (hl : s.lies k = some l) (hT : Turn r w w1) (hr : RgAt i64v w1 c.rl r (fun n => (c.L n).map (lieV s n)) (fun q => left q && !decide (q = k)) cnt')
    (hw : WdAt w' gx J' d' (lieP (cp2 s left) k l)) (hs : Stp J J' w1 w') : Cp2 w0 c s gx r (fun q => left q && !decide (q = k)) cnt' J' d' w' := by
  rw [cp2_step s left k l hl] at hw
  have hb01 : Below w0.heap.size w0 w1 := (h.next hT).2
  have hlc : c.rl < w0.heap.size := h0.dom _ (by rw [h0.krl]; decide)
  have hJc : J c.rl = 0 := by
    by_cases e : J c.rl = 0
    · exact e
    · have := h.own _ e; omega
  have hr1 := hr.lt
  refine ⟨hw, hr.keep (hs.block _ hr1.1 hJc) (hs.block _ hr1.2 h.jr), hb01.trans (hs.below hb01.size h.own), own_step h.own hb01.size hs, hs.free r hr1.2 h.jr, h.lr⟩
end
end Go.Proofs.Ytffhncpgknkkaaa
/-! from W06Rt -/
namespace Go.Proofs.Ytffhncpgknkkaaa
open Go.RowKit Go.Sac
set_option linter.unusedVariables false
set_option linter.unusedSimpArgs false
/-- a row of cells that is none of K's -/
structure FrC (w : World) (K : Nat → Nat) (A : Option Addr) (cs : List Value) : Prop where
  rc : Rc w A cs
  fr : ∀ a, A = some a → cs ≠ [] → K a.block = 0 ∧ a.block < w.heap.size
theorem FrC.step {w w' : World} {K K' : Nat → Nat} {A : Option Addr} {cs : List Value} (h : FrC w K A cs) (hs : Stp K K' w w') : FrC w' K' A cs :=
  ⟨hs.rc h.rc fun a e hb => (h.fr a e hb).1, fun a e hb => ⟨hs.free _ (h.fr a e hb).2 (h.fr a e hb).1, Nat.lt_of_lt_of_le (h.fr a e hb).2 hs.size⟩⟩
theorem FrC.nil (w : World) (K : Nat → Nat) (A : Option Addr) : FrC w K A [] := ⟨Rc.nil _ _, fun _ _ h => absurd rfl h⟩
/-- a new row -/
theorem FrC.own {w1 : World} {K : Nat → Nat} {B : Nat} {E : TypeId} {sz n : Nat} {v : Value} {xs : List Value} (h : w1.ownsRow B E sz v n xs) (hB : ∀ k, B ≤ k → K k = 0) : ∃ A c, v = .slice A n c ∧ n ≤ c ∧ FrC w1 K A xs := by
  obtain ⟨A, c, h1, h2, h3, h4⟩ := own_rc h
  exact ⟨A, c, h1, h2, h3, fun a e _ => ⟨hB _ (h4 a e).1, (h4 a e).2⟩⟩
structure Rw where
  A : Option Addr
  b : List UInt8
  c : Nat
def Rw.cells (x : Rw) : List Value := [.slice x.A x.b.length x.c]
structure Lw where
  n : Int
  A : Option Addr
  b : List UInt8
  c : Nat
def Lw.cells (x : Lw) : List Value := [.int .i64 x.n, .slice x.A x.b.length x.c]
structure Td where
  blocks : Int
  AS : Option Addr
  S : List Rw
  cS : Nat
  AQ : Option Addr
  Q : List Rw
  cQ : Nat
  counter : Int
  AL : Option Addr
  L : List Lw
  cL : Nat
  reads : Int
  armed : Bool
  power : Int
  dead : Bool
  AT : Option Addr
  T : List Tr
  cT : Nat
def Td.cells (x : Td) : List Value := [.int .i64 x.blocks, .slice x.AS x.S.length x.cS, .slice x.AQ x.Q.length x.cQ, .int .u64 x.counter, .slice x.AL x.L.length x.cL, .int .i64 x.reads, .bool x.armed, .int .i64 x.power, .bool x.dead, .slice x.AT x.T.length x.cT]
def rws (l : List Rw) : List Value := rowK Rw.cells l
def lws (l : List Lw) : List Value := rowK Lw.cells l
theorem rw_len (x : Rw) : x.cells.length = 1 := rfl
theorem lw_len (x : Lw) : x.cells.length = 2 := rfl
theorem rw_one (x : Rw) : ∀ u ∈ x.cells, u.oneCell' = true := by intro u hu; simp only [Rw.cells, List.mem_cons, List.not_mem_nil, or_false] at hu; subst hu; rfl
theorem lw_one (x : Lw) : ∀ u ∈ x.cells, u.oneCell' = true := by intro u hu; simp only [Lw.cells, List.mem_cons, List.not_mem_nil, or_false] at hu; rcases hu with rfl | rfl <;> rfl
theorem rws_len (l : List Rw) : (rws l).length = l.length := by unfold rws; rw [rowK_len rw_len]; omega
theorem lws_len (l : List Lw) : (lws l).length = l.length * 2 := rowK_len lw_len l
theorem trs_length (l : List Tr) : (trs l).length = l.length * 4 := rowK_len trs_four l
/-- which lie is of one read -/
def lastLie : List Lw → Int → Option (List UInt8)
  | [], _ => none
  | x :: t, n => match lastLie t n with | some b => some b | none => if x.n = n then some x.b else none
theorem lastLie_app (l : List Lw) (x : Lw) (n : Int) : lastLie (l ++ [x]) n = if x.n = n then some x.b else lastLie l n := by
  induction l with
  | nil => simp [lastLie]
  | cons y t ih =>
    simp only [List.cons_append, lastLie, ih]
    by_cases h : x.n = n
    · simp [h]
    · simp only [if_neg h]
/-- x, in world w, means s -/
structure Tm (w : World) (K : Nat → Nat) (q : Nat) (x : Td) (s : Wd) : Prop where
  lq : x.L.length ≤ q
  rs : FrC w K x.AS (rws x.S)
  hs : ∀ y ∈ x.S, Fr w K y.A y.b ∧ y.b.length ≤ y.c ∧ y.b.length = 272
  rq : FrC w K x.AQ (rws x.Q)
  hq : ∀ y ∈ x.Q, Fr w K y.A y.b ∧ y.b.length ≤ y.c
  rl : FrC w K x.AL (lws x.L)
  hl : ∀ y ∈ x.L, Fr w K y.A y.b ∧ y.b.length ≤ y.c
  rt : FrC w K x.AT (trs x.T)
  ht : ∀ y ∈ x.T, Fr w K y.A y.b ∧ y.b.length ≤ y.c
  e0 : x.blocks = s.blocks ∧ x.counter = s.counter ∧ x.reads = s.reads ∧ x.armed = s.armed ∧ x.power = s.power ∧ x.dead = s.dead
  et : x.T.map Tr.val = s.trace
  es : x.S.length = 2 * s.blocks.toNat
  em : ∀ (a t : Nat) (h : 2 * a + t < x.S.length), t < 2 → (x.S[2 * a + t]).b = s.slots ((a : Int), (t : Int))
  eq : x.Q.map (·.b) = [s.s0, s.s1]
  el : ∀ n, s.lies n = lastLie x.L n
  nm : 0 ≤ s.blocks ∧ s.blocks ≤ 4096 ∧ 0 ≤ s.counter ∧ s.counter < 18446744073709551616 ∧ 0 ≤ s.reads ∧ 0 ≤ s.power ∧ s.power ≤ 1000000
  cp : x.S.length ≤ x.cS ∧ x.Q.length ≤ x.cQ ∧ x.L.length ≤ x.cL ∧ x.T.length ≤ x.cT
theorem Tm.step {w w' : World} {K K' : Nat → Nat} {q : Nat} {x : Td} {s : Wd} (h : Tm w K q x s) (hs : Stp K K' w w') : Tm w' K' q x s :=
  ⟨h.lq, h.rs.step hs, fun y hy => ⟨(h.hs y hy).1.step hs, (h.hs y hy).2⟩, h.rq.step hs, fun y hy => ⟨(h.hq y hy).1.step hs, (h.hq y hy).2⟩, h.rl.step hs, fun y hy => ⟨(h.hl y hy).1.step hs, (h.hl y hy).2⟩, h.rt.step hs, fun y hy => ⟨(h.ht y hy).1.step hs, (h.ht y hy).2⟩, h.e0, h.et, h.es, h.em, h.eq, h.el, h.nm, h.cp⟩
theorem Tm.below {w w' : World} {K : Nat → Nat} {q : Nat} {x : Td} {s : Wd} (h : Tm w K q x s) (hb : Below w.heap.size w w') : Tm w' K q x s := h.step (Stp.of_below hb)
theorem t_info : (Try.prog.info? 56).map (·.size) = some 10 := by kernel_rfl
theorem t_zero : (Try.prog.info? 56).map (·.zero) = some (some (.agg #[.int .i64 0, .slice none 0 0, .slice none 0 0, .int .u64 0, .slice none 0 0, .int .i64 0, .bool false, .int .i64 0, .bool false, .slice none 0 0])) := by kernel_rfl
theorem lie_info : (Try.prog.info? 91).map (fun i => (i.zero, i.size, i.bytes)) = some (some (.agg #[.int .i64 0, .slice none 0 0]), 2, 32) := by kernel_rfl
/-- a T is told -/
def RetT (K : Nat → Nat) (q : Nat) (s : Wd) (w : World) (e : Ending) (w' : World) : Prop := ∃ x, e = .returned (.agg x.cells.toArray) ∧ Tm w' K q x s ∧ Below w.heap.size w w'
def RetTB (K : Nat → Nat) (q : Nat) (s : Wd) (r : Bool) (w : World) (e : Ending) (w' : World) : Prop := ∃ x, e = .returned (.tuple #[.agg x.cells.toArray, .bool r]) ∧ Tm w' K q x s ∧ Below w.heap.size w w'
def RetTR (K : Nat → Nat) (q : Nat) (s : Wd) (b : List UInt8) (w : World) (e : Ending) (w' : World) : Prop := ∃ x A c, e = .returned (.tuple #[.agg x.cells.toArray, .slice A b.length c]) ∧ Tm w' K q x s ∧ Fr w' K A b ∧ b.length ≤ c ∧ Below w.heap.size w w'
def RetTI (K : Nat → Nat) (q : Nat) (s : Wd) (k : Int) (w : World) (e : Ending) (w' : World) : Prop := ∃ x, e = .returned (.tuple #[.agg x.cells.toArray, .int .i64 k]) ∧ Tm w' K q x s ∧ Below w.heap.size w w'
theorem FrC.own2 {w2 w4 : World} {K : Nat → Nat} {B : Nat} {E : TypeId} {sz n : Nat} {v : Value} {xs : List Value} (h : w2.ownsRow B E sz v n xs) (hB : ∀ k, B ≤ k → K k = 0) (hk : ∀ k, B ≤ k → w4.heap[k]? = w2.heap[k]?) (hs : w2.heap.size ≤ w4.heap.size) : ∃ A c, v = .slice A n c ∧ n ≤ c ∧ FrC w4 K A xs := by
  obtain ⟨A, c, h1, h2, h3, h4⟩ := own_rc h
  exact ⟨A, c, h1, h2, h3.keep fun b off e hb => hk b (by have := (h4 _ e).1; exact this), fun a e _ => ⟨hB _ (h4 a e).1, Nat.lt_of_lt_of_le (h4 a e).2 hs⟩⟩
def zT : List Value := [.int .i64 0, .slice none 0 0, .slice none 0 0, .int .u64 0, .slice none 0 0, .int .i64 0, .bool false, .int .i64 0, .bool false, .slice none 0 0]
theorem t_one (b : Int) (AS : Option Addr) (nS cS : Nat) (AQ : Option Addr) (nQ cQ : Nat) (c : Int) (AL : Option Addr) (nL cL : Nat) (r : Int) (a : Bool) (p : Int) (d : Bool) (AT : Option Addr) (nT cT : Nat) :
    (#[.int .i64 b, .slice AS nS cS, .slice AQ nQ cQ, .int .u64 c, .slice AL nL cL, .int .i64 r, .bool a, .int .i64 p, .bool d, .slice AT nT cT] : Array Value).all (·.oneCell') = true := by rw [List.all_toArray]; rfl
theorem zT_size (xs : Array Value) (h : xs.size = 10) : zT.toArray.size = xs.size := by rw [h]; rfl
section
variable {w : World} {K : Nat → Nat} {q : Nat} {x : Td} {s : Wd}
/-- one thing more is traced -/
theorem Tm.noted (h : Tm w K q x s) {w' : World} (hb : Below w.heap.size w w') {A9 : Option Addr} {c9 : Nat} {kind at_ slot : Int} {A : Option Addr} {b : List UInt8} {c : Nat} (hr : Fr w K A b) (hc : b.length ≤ c) (hT : FrC w' K A9 (trs (x.T ++ [⟨kind, at_, slot, A, b, c⟩]))) (hc9 : x.T.length + 1 ≤ c9) :
    Tm w' K q { x with AT := A9, T := x.T ++ [⟨kind, at_, slot, A, b, c⟩], cT := c9 } (noteP s kind at_ slot b) := by
  have h' := h.below hb
  exact { lq := h'.lq, rs := h'.rs, hs := h'.hs, rq := h'.rq, hq := h'.hq, rl := h'.rl, hl := h'.hl, rt := hT, ht := fun y hy => by
            rcases List.mem_append.1 hy with hy | hy
            · exact h'.ht y hy
            · rw [List.mem_singleton.1 hy]; exact ⟨hr.below hb, hc⟩
          e0 := h'.e0, et := by show (x.T ++ [_]).map Tr.val = s.trace ++ [_]; rw [List.map_append, h.et]; rfl
          es := h'.es, em := h'.em, eq := h'.eq, el := h'.el, nm := h'.nm, cp := ⟨h'.cp.1, h'.cp.2.1, h'.cp.2.2.1, by show (x.T ++ [_]).length ≤ c9; rw [List.length_append]; exact hc9⟩ }
set_option maxRecDepth 100000 in
set_option maxHeartbeats 4000000 in
theorem rnote_calls (h : Tm w K q x s) (hK : ∀ k, w.heap.size ≤ k → K k = 0) (hT : s.trace.length ≤ 1000000) (kind at_ slot : Int) (A : Option Addr) (n c : Nat) (b : List UInt8) (hr : Fr w K A b) (e1 : n = b.length) (hc : b.length ≤ c) :
    Calls Try.prog 51 #[.agg x.cells.toArray, .int .i64 kind, .int .i64 at_, .int .i64 slot, .slice A n c] w (RetT K q (noteP s kind at_ slot b) w) := by
  have HX := Hd.mk h
  have HK := Hd.mk hK
  have HR := Hd.mk hr
  have HC := Hd.mk hc
  have HTL : Hd (x.T.length ≤ 1000000) := ⟨by have := congrArg List.length h.et; rw [List.length_map] at this; omega⟩
  subst e1
  clear h hK hT hr hc
  obtain ⟨n, hn⟩ : ∃ n, x.T.length = n := ⟨_, rfl⟩
  have HN := Hd.mk hn
  unfold Td.cells
  rw [hn]
  have hn0 : n ≤ 1000000 := by have := HTL.out; omega
  clear hn
  have HXC : Hd ({ x with T := x.T }.cells = [.int .i64 x.blocks, .slice x.AS x.S.length x.cS, .slice x.AQ x.Q.length x.cQ, .int .u64 x.counter, .slice x.AL x.L.length x.cL, .int .i64 x.reads, .bool x.armed, .int .i64 x.power, .bool x.dead, .slice x.AT n x.cT]) := ⟨by unfold Td.cells; rw [HN.out]⟩
  obtain ⟨W, hW⟩ : ∃ W, (w.alloc (.cells #[.int .i64 x.blocks, .slice x.AS x.S.length x.cS, .slice x.AQ x.Q.length x.cQ, .int .u64 x.counter, .slice x.AL x.L.length x.cL, .int .i64 x.reads, .bool x.armed, .int .i64 x.power, .bool x.dead, .slice x.AT n x.cT] 56)).alloc (.cells #[.int .i64 0, .slice none 0 0, .slice none 0 0, .int .u64 0, .slice none 0 0, .int .i64 0, .bool false, .int .i64 0, .bool false, .slice none 0 0] 56) = W := ⟨_, rfl⟩
  have HB0 : Hd (Below w.heap.size w W) := ⟨hW ▸ ((Below.refl w.heap.size w).alloc (Nat.le_refl _) _).alloc (by simp) _⟩
  have HK0 : Hd (Blk W w.heap.size 56 [.int .i64 x.blocks, .slice x.AS x.S.length x.cS, .slice x.AQ x.Q.length x.cQ, .int .u64 x.counter, .slice x.AL x.L.length x.cL, .int .i64 x.reads, .bool x.armed, .int .i64 x.power, .bool x.dead, .slice x.AT n x.cT]) := ⟨hW ▸ (Blk.new w _ _).alloc _⟩
  have HK1 : Hd (Blk W (w.heap.size + 1) 56 zT) := ⟨by rw [← hW, show w.heap.size + 1 = (w.alloc (.cells #[.int .i64 x.blocks, .slice x.AS x.S.length x.cS, .slice x.AQ x.Q.length x.cQ, .int .u64 x.counter, .slice x.AL x.L.length x.cL, .int .i64 x.reads, .bool x.armed, .int .i64 x.power, .bool x.dead, .slice x.AT n x.cT] 56)).heap.size by simp]; exact Blk.new _ _ zT⟩
  have HZ : Hd (W.heap.size = w.heap.size + 2) := ⟨by rw [← hW]; simp⟩
  have p9 := HK0.out.cell (i := 9) rfl
  go_enter Try.func51, Try.ntmps51
  go_wp2_with (at_builtin; apply Hd.out)
  try rw [hW]
  clear hW
  refine ⟨app_rc (w.heap.size + 2) 48 52 (.agg #[.int .i64 0, .int .i64 0, .int .i64 0, .slice none 0 0]) 4 48 (.tmp 12) (.tmp 14) rfl rfl Try.underlying48 trace_info3 rfl (by decide) (by decide) (.slice none 0 0) 0 [] (trs x.T) x.AT n x.cT rfl rfl (World.ownsRow_nil _ _ _ _) (HX.out.rt.rc.below HB0.out) (by rw [trs_length, HN.out]) (trs_one x.T) (by have := HZ.out; omega) (by omega) n (trs x.T) (by omega) (by simp) ?_⟩
  intro v1 w1 ho hg hat
  have hb1 := below_nil hg
  obtain ⟨A1, c1, rfl, _, _, _⟩ := own_rc ho
  have HO1 := Hd.mk ho
  have HB1 := Hd.mk (below_then HB0.out HB0.out.size hb1)
  have HK0 := Hd.mk (HK0.out.below hb1 HK0.out.lt)
  have HK1 := Hd.mk (HK1.out.below hb1 HK1.out.lt)
  have HZ1 : Hd (w.heap.size + 2 ≤ w1.heap.size) := ⟨by have := hb1.size; have := HZ.out; omega⟩
  clear ho hg hat hb1 HB0 HZ p9
  go_wp2_with (at_builtin; apply Hd.out)
  refine ⟨app_rc (w.heap.size + 2) 48 52 (.agg #[.int .i64 0, .int .i64 0, .int .i64 0, .slice none 0 0]) 4 48 (.tmp 16) (.tmp 22) rfl rfl Try.underlying48 trace_info3 rfl (by decide) (by decide) (.slice A1 n c1) n (trs x.T) [.int .i64 kind, .int .i64 at_, .int .i64 slot, .slice A b.length c] (some ⟨w1.heap.size, 0, none⟩) 1 1 rfl rfl (own_below HO1.out ((Below.refl _ _).alloc (Nat.le_refl _) _)) (Blk.new w1 _ _).rc rfl (tr_one ⟨kind, at_, slot, A, b, c⟩) (by have := HZ1.out; simp; omega) (by omega) (n + 1) (trs (x.T ++ [⟨kind, at_, slot, A, b, c⟩])) rfl (by unfold trs; rw [rowK_app, rowK_single]; rfl) ?_⟩
  intro v2 w2 ho hg hat
  have hne : ∀ k, k < w.heap.size + 2 → some k ≠ (Value.slice A1 n c1).ownBlock := fun k hk e => by have := (own_lt HO1.out k e.symm).1; omega
  have HB2 : Hd (Below w.heap.size w w2) := ⟨below_lift (below_then HB1.out HB1.out.size ((Below.refl _ _).alloc (Nat.le_refl _) _)) (by have := HZ1.out; simp; omega) hg (fun k e => by have := (own_lt HO1.out k e).1; omega)⟩
  have HK0 := Hd.mk ((HK0.out.alloc (.cells #[.int .i64 kind, .int .i64 at_, .int .i64 slot, .slice A b.length c] 52)).grown hg (hne _ (by omega)))
  have HK1 := Hd.mk ((HK1.out.alloc (.cells #[.int .i64 kind, .int .i64 at_, .int .i64 slot, .slice A b.length c] 52)).grown hg (hne _ (by omega)))
  obtain ⟨A2, c2, rfl, hc2, _, _⟩ := own_rc ho
  have HO2 := Hd.mk ho
  have HC2 := Hd.mk hc2
  clear ho hg hat hne HB1 HO1 HZ1 hc2
  have p9 := HK0.out.cell (i := 9) rfl
  have f9 := HK0.out.frz 9
  have HK3 := Hd.mk (HK0.out.set 9 (.slice A2 (n + 1) c2))
  have HK4 := Hd.mk (HK1.out.far (p := ⟨w.heap.size, 9, none⟩) (by show w.heap.size + 1 ≠ w.heap.size; omega) (.slice A2 (n + 1) c2))
  go_wp2_with (first
    | (refine wpList_load_row rfl 56 (.tmp 5) rfl w.heap.size rfl 56 _ (0, 0) _ HK3.out Try.underlying56 rfl t_info ?_)
    | (refine wpList_store_row rfl 56 (.tmp 10) (.tmp 26) rfl (w.heap.size + 1) #[.int .i64 x.blocks, .slice x.AS x.S.length x.cS, .slice x.AQ x.Q.length x.cQ, .int .u64 x.counter, .slice x.AL x.L.length x.cL, .int .i64 x.reads, .bool x.armed, .int .i64 x.power, .bool x.dead, .slice A2 (n + 1) c2] rfl rfl 56 zT.toArray HK4.out t_info (zT_size _ rfl) (t_one _ _ _ _ _ _ _ _ _ _ _ _ _ _ _ _ _ _) ?_))
  obtain ⟨W4, hW4⟩ : ∃ W4, (w2.setCell ⟨w.heap.size, 9, none⟩ (.slice A2 (n + 1) c2)).setRow (w.heap.size + 1) #[.int .i64 x.blocks, .slice x.AS x.S.length x.cS, .slice x.AQ x.Q.length x.cQ, .int .u64 x.counter, .slice x.AL x.L.length x.cL, .int .i64 x.reads, .bool x.armed, .int .i64 x.power, .bool x.dead, .slice A2 (n + 1) c2] = W4 := ⟨_, rfl⟩
  have hb4 : Blk W4 (w.heap.size + 1) 56 [.int .i64 x.blocks, .slice x.AS x.S.length x.cS, .slice x.AQ x.Q.length x.cQ, .int .u64 x.counter, .slice x.AL x.L.length x.cL, .int .i64 x.reads, .bool x.armed, .int .i64 x.power, .bool x.dead, .slice A2 (n + 1) c2] := by rw [← hW4]; exact HK4.out.putRow _
  have hk4 : ∀ k, w.heap.size + 2 ≤ k → W4.heap[k]? = w2.heap[k]? := fun k hk => by rw [← hW4]; exact (setRow_other _ _ _ _ (by omega)).trans (Below.heap_setCell w2 ⟨w.heap.size, 9, none⟩ _ k (by show k ≠ w.heap.size; omega))
  have hbw : Below w.heap.size w W4 := by rw [← hW4]; exact below_row (HB2.out.setCell (Nat.le_refl _) _) (by omega) _
  have hz4 : w2.heap.size ≤ W4.heap.size := by rw [← hW4]; simp
  rw [hW4]
  refine bodyPost_ret (results_cell_row rfl _ _ (w.heap.size + 1) 56 #[.int .i64 x.blocks, .slice x.AS x.S.length x.cS, .slice x.AQ x.Q.length x.cQ, .int .u64 x.counter, .slice x.AL x.L.length x.cL, .int .i64 x.reads, .bool x.armed, .int .i64 x.power, .bool x.dead, .slice A2 (n + 1) c2] (0, 0) _ rfl hb4 Try.underlying56 rfl t_info) rfl ?_
  obtain ⟨A9, c9, e9, _, hf9⟩ := FrC.own2 HO2.out (fun k hk => HK.out k (by omega)) hk4 hz4
  injection e9 with e9 _ e10
  subst e9; subst e10
  have hx := HX.out.noted hbw (kind := kind) (at_ := at_) (slot := slot) HR.out HC.out hf9 (by rw [HN.out]; exact HC2.out)
  refine ⟨_, ?_, hx, hbw⟩
  unfold Td.cells
  rw [List.length_append, HN.out]
  rfl
end
end Go.Proofs.Ytffhncpgknkkaaa
/-! from W06Ru -/
namespace Go.Proofs.Ytffhncpgknkkaaa
open Go.RowKit Go.Sac
set_option linter.unusedVariables false
set_option linter.unusedSimpArgs false
theorem one_box (w : World) (X : List Value) : ∃ W, w.alloc (.cells X.toArray 56) = W ∧ Below w.heap.size w W ∧ Blk W w.heap.size 56 X ∧ W.heap.size = w.heap.size + 1 :=
  ⟨_, rfl, (Below.refl w.heap.size w).alloc (Nat.le_refl _) _, Blk.new w _ _, by simp⟩
theorem two_boxes (w : World) (X : List Value) : ∃ W, (w.alloc (.cells X.toArray 56)).alloc (.cells #[.int .i64 0, .slice none 0 0, .slice none 0 0, .int .u64 0, .slice none 0 0, .int .i64 0, .bool false, .int .i64 0, .bool false, .slice none 0 0] 56) = W ∧ Below w.heap.size w W ∧ Blk W w.heap.size 56 X ∧ Blk W (w.heap.size + 1) 56 zT ∧ W.heap.size = w.heap.size + 2 := by
  refine ⟨_, rfl, ((Below.refl w.heap.size w).alloc (Nat.le_refl _) _).alloc (by simp) _, (Blk.new w _ _).alloc _, ?_, by simp⟩
  have : (w.alloc (.cells X.toArray 56)).heap.size = w.heap.size + 1 := by simp
  rw [← this]
  exact Blk.new _ _ zT
section
variable {w : World} {K : Nat → Nat} {q : Nat} {x : Td} {s : Wd}
set_option maxHeartbeats 4000000 in
theorem rthere_calls (h : Tm w K q x s) (a t : Int) : Calls Try.prog 49 #[.agg x.cells.toArray, .int .i64 a, .int .i64 t] w fun e w' => e = .returned (.bool (thereP s a t)) ∧ Below w.heap.size w w' := by
  have hd := h.e0.2.2.2.2.2
  have hb := h.e0.1
  unfold thereP
  rw [← hd, ← hb]
  clear h hd hb
  unfold Td.cells
  obtain ⟨n, hn⟩ : ∃ n, x.blocks = n := ⟨_, rfl⟩
  obtain ⟨d, hd⟩ : ∃ d, x.dead = d := ⟨_, rfl⟩
  rw [hn, hd]
  clear hn hd
  have HB : Hd (∀ o, Below w.heap.size w (w.alloc o)) := ⟨fun o => (Below.refl _ _).alloc (Nat.le_refl _) _⟩
  cases d
  · by_cases h1 : 0 ≤ a
    · by_cases h2 : a < n
      · by_cases h3 : 0 ≤ t
        · by_cases h4 : t ≤ 1
          · go_enter Try.func49, Try.ntmps49
            go_wp2
            go_ret
            refine ⟨?_, HB.out _⟩
            have : t = 0 ∨ t = 1 := by omega
            rcases this with rfl | rfl <;> simp [h1, h2]
          · go_enter Try.func49, Try.ntmps49
            go_wp2
            go_ret
            refine ⟨?_, HB.out _⟩
            simp [h1, h2, h4, show ¬ t = 0 by omega, show ¬ t = 1 by omega]
        · go_enter Try.func49, Try.ntmps49
          go_wp2
          go_ret
          refine ⟨?_, HB.out _⟩
          simp [h1, h2, show ¬ t = 0 by omega, show ¬ t = 1 by omega]
      · go_enter Try.func49, Try.ntmps49
        go_wp2
        go_ret
        refine ⟨?_, HB.out _⟩
        simp [show ¬ a < n by omega]
    · go_enter Try.func49, Try.ntmps49
      go_wp2
      go_ret
      refine ⟨?_, HB.out _⟩
      simp [show ¬ 0 ≤ a by omega]
  · go_enter Try.func49, Try.ntmps49
    go_wp2
    go_ret
    exact ⟨rfl, HB.out _⟩
set_option maxHeartbeats 4000000 in
theorem rcounter_calls (h : Tm w K q x s) : Calls Try.prog 31 #[.agg x.cells.toArray] w fun e w' => e = .returned (.int .u64 (counterP s)) ∧ Below w.heap.size w w' := by
  have hd := h.e0.2.2.2.2.2
  have hb := h.e0.2.1
  unfold counterP
  rw [← hd, ← hb]
  clear h hd hb
  unfold Td.cells
  obtain ⟨n, hn⟩ : ∃ n, x.counter = n := ⟨_, rfl⟩
  obtain ⟨d, hd⟩ : ∃ d, x.dead = d := ⟨_, rfl⟩
  rw [hn, hd]
  clear hn hd
  have HB : Hd (∀ o, Below w.heap.size w (w.alloc o)) := ⟨fun o => (Below.refl _ _).alloc (Nat.le_refl _) _⟩
  cases d
  · go_enter Try.func31, Try.ntmps31
    go_wp2
    go_ret
    exact ⟨rfl, HB.out _⟩
  · go_enter Try.func31, Try.ntmps31
    go_wp2
    go_ret
    exact ⟨rfl, HB.out _⟩
/-- the lies so far -/
def lieB (l : List Lw) (n : Int) (b : List UInt8) : List UInt8 := (lastLie l n).getD b
theorem lieB_snoc (l : List Lw) (i : Nat) (h : i < l.length) (n : Int) (b : List UInt8) : lieB (l.take (i + 1)) n b = if l[i].n = n then l[i].b else lieB (l.take i) n b := by
  unfold lieB
  rw [List.take_succ_eq_append_getElem h, lastLie_app]
  by_cases e : l[i].n = n <;> simp [e]
set_option maxRecDepth 100000 in
set_option maxHeartbeats 4000000 in
theorem rtold_calls (h : Tm w K q x s) (hK : ∀ k, w.heap.size ≤ k → K k = 0) (hq : q ≤ 1000000) (hrd : s.reads ≤ 1000000) (A : Option Addr) (n c : Nat) (b : List UInt8) (hr : Fr w K A b) (e1 : n = b.length) (hc : b.length ≤ c) :
    Calls Try.prog 50 #[.agg x.cells.toArray, .slice A n c] w (RetTR K q (toldP s) (toldB s b) w) := by
  have HX := Hd.mk h
  have HK := Hd.mk hK
  have HR := Hd.mk hr
  have HC := Hd.mk hc
  have HLL : Hd (x.L.length ≤ 1000000) := ⟨by have := h.lq; omega⟩
  have HRD : Hd (0 ≤ x.reads ∧ x.reads ≤ 1000000) := ⟨by rw [h.e0.2.2.1]; exact ⟨h.nm.2.2.2.2.1, hrd⟩⟩
  have HTB : Hd (toldB s b = lieB x.L x.reads b) := ⟨by unfold toldB lieB; rw [h.el, h.e0.2.2.1]⟩
  subst e1
  clear h hK hr hc hq hrd
  obtain ⟨n, hn⟩ : ∃ n, x.L.length = n := ⟨_, rfl⟩
  have HN := Hd.mk hn
  obtain ⟨AL, hAL⟩ : ∃ AL, x.AL = AL := ⟨_, rfl⟩
  have HAL := Hd.mk hAL
  have HRL : Hd (Rc w AL (lws x.L)) := ⟨by rw [← hAL]; exact HX.out.rl.rc⟩
  obtain ⟨W, hW, hb, hk0, hk1, hz⟩ := two_boxes w [.int .i64 x.blocks, .slice x.AS x.S.length x.cS, .slice x.AQ x.Q.length x.cQ, .int .u64 x.counter, .slice x.AL x.L.length x.cL, .int .i64 x.reads, .bool x.armed, .int .i64 x.power, .bool x.dead, .slice x.AT x.T.length x.cT]
  rw [hn, hAL] at hW hk0
  have HB := Hd.mk hb; have HK0 := Hd.mk hk0; have HK1 := Hd.mk hk1; have HZ := Hd.mk hz
  unfold Td.cells
  rw [hn, hAL]
  have hn0 : n ≤ 1000000 := by have := HLL.out; omega
  clear hn hAL hb hk0 hk1 hz
  go_enter Try.func50, Try.ntmps50
  go_wp2
  try rw [hW]
  clear hW
  go_loopw [6, 1] (fun iv bv wr => ∃ i : Nat, iv = .int .i64 (i : Int) ∧ i ≤ n ∧ (∃ A c, bv = .slice A (lieB (x.L.take i) x.reads b).length c ∧ Hd (Fr w K A (lieB (x.L.take i) x.reads b) ∧ (lieB (x.L.take i) x.reads b).length ≤ c)) ∧ Hd (Drawn W wr)) (fun iv _ _ => n - (intOf iv).toNat)
  case atStart => exact ⟨0, rfl, Nat.zero_le _, ⟨A, c, rfl, ⟨HR.out, HC.out⟩⟩, ⟨⟨0, rfl⟩⟩⟩
  case round =>
    obtain ⟨i, rfl, hi, ⟨A1, c1, rfl, HB1⟩, HD⟩ := hrel
    have hbw : Below W.heap.size W wr := by obtain ⟨m, rfl⟩ := HD.out.out; exact below_drewN (Below.refl _ _) _
    have hk0 := HK0.out.below hbw HK0.out.lt
    have q4 := hk0.cell (i := 4) rfl
    have q5 := hk0.cell (i := 5) rfl
    have HBW := Hd.mk hbw
    clear hbw hk0
    by_cases hlt : i < n
    · have hii : (i : Int) < (n : Int) := by omega
      have hil : i < x.L.length := by rw [HN.out]; exact hlt
      obtain ⟨bb, off, rfl, hbb, hra⟩ := rcK_form lw_len (by decide) HRL.out (by omega)
      have hy := hra i hil
      have hsn := lieB_snoc x.L i hil x.reads b
      have hyl := HX.out.hl _ (List.getElem_mem hil)
      obtain ⟨y, hye⟩ : ∃ y, x.L[i] = y := ⟨_, rfl⟩
      rw [hye] at hy hsn hyl
      have HY := Hd.mk hy
      have y0 := HY.out wr (HB.out.trans (HBW.out.mono HB.out.size)) 0 _ rfl
      rw [Nat.add_zero] at y0
      have HYL := Hd.mk hyl
      obtain ⟨bn, hbn⟩ : ∃ bn, lieB (x.L.take i) x.reads b = bn := ⟨_, rfl⟩
      rw [hbn] at hsn HB1 ⊢
      have hdq := fun m => HD.out.step m
      have HDQ := Hd.mk hdq
      have hkw : ∀ W', Drawn W W' → Below W.heap.size W W' := fun W' h => by obtain ⟨m, rfl⟩ := h.out; exact below_drewN (Below.refl _ _) _
      have HKW := Hd.mk hkw
      clear hra hy hye hyl hil hdq hkw hbn
      by_cases he : y.n = x.reads
      · rw [if_pos he] at hsn
        have HS := Hd.mk hsn
        have he2 : (y.n == x.reads) = true := by simp [he]
        clear hsn he
        go_wp2
        go_quiet (fail)
        have HD2 := Hd.mk (HDQ.out nq)
        have hbq := HKW.out _ HD2.out
        have q4 := (HK0.out.below hbq HK0.out.lt).cell (i := 4) rfl
        have y1 := HY.out (wr.drewN nq) (HB.out.trans (hbq.mono HB.out.size)) 1 _ rfl
        clear hbq
        generalize wr.drewN nq = wq at *
        go_wp2
        go_roundw
        case rel => exact ⟨i + 1, by go_num, by omega, ⟨y.A, y.c, by rw [HS.out], ⟨by rw [HS.out]; exact HYL.out⟩⟩, ⟨HD2.out⟩⟩
        case measure => simp [intOf]; omega
      · rw [if_neg he] at hsn
        have HS := Hd.mk hsn
        have he2 : (y.n == x.reads) = false := by rw [beq_eq_false_iff_ne]; exact he
        clear hsn he
        go_wp2
        go_quiet (fail)
        have HD2 := Hd.mk (HDQ.out nq)
        clear y0 q4 q5
        generalize wr.drewN nq = wq at *
        go_wp2
        go_roundw
        case rel => exact ⟨i + 1, by go_num, by omega, ⟨A1, c1, by rw [HS.out], ⟨by rw [HS.out]; exact HB1.out⟩⟩, ⟨HD2.out⟩⟩
        case measure => simp [intOf]; omega
    · obtain rfl : i = n := by omega
      have e0 : x.L.take i = x.L := by rw [← HN.out]; exact List.take_length
      rw [e0] at HB1 ⊢
      clear e0
      obtain ⟨bn, hbn⟩ : ∃ bn, lieB x.L x.reads b = bn := ⟨_, rfl⟩
      have HBN : Hd (toldB s b = bn) := ⟨HTB.out.trans hbn⟩
      rw [hbn] at HB1 ⊢
      clear hbn HTB
      have f5 := (HK0.out.below HBW.out HK0.out.lt).frz 5
      have hrd1 := HRD.out.1
      have hrd2 := HRD.out.2
      have HK3 := Hd.mk ((HK0.out.below HBW.out HK0.out.lt).set 5 (.int .i64 (x.reads + 1)))
      have HK4 := Hd.mk ((HK1.out.below HBW.out HK1.out.lt).far (p := ⟨w.heap.size, 5, none⟩) (by show w.heap.size + 1 ≠ w.heap.size; omega) (.int .i64 (x.reads + 1)))
      go_wp2_with (first
        | (refine wpList_load_row rfl 56 (.tmp 2) rfl w.heap.size rfl 56 _ (0, 0) _ HK3.out Try.underlying56 rfl t_info ?_)
        | (refine wpList_store_row rfl 56 (.tmp 4) (.tmp 33) rfl (w.heap.size + 1) #[.int .i64 x.blocks, .slice x.AS x.S.length x.cS, .slice x.AQ x.Q.length x.cQ, .int .u64 x.counter, .slice AL i x.cL, .int .i64 (x.reads + 1), .bool x.armed, .int .i64 x.power, .bool x.dead, .slice x.AT x.T.length x.cT] rfl rfl 56 zT.toArray HK4.out t_info (zT_size _ rfl) (t_one _ _ _ _ _ _ _ _ _ _ _ _ _ _ _ _ _ _) ?_))
      obtain ⟨W4, hW4⟩ : ∃ W4, (wr.setCell ⟨w.heap.size, 5, none⟩ (.int .i64 (x.reads + 1))).setRow (w.heap.size + 1) #[.int .i64 x.blocks, .slice x.AS x.S.length x.cS, .slice x.AQ x.Q.length x.cQ, .int .u64 x.counter, .slice AL i x.cL, .int .i64 (x.reads + 1), .bool x.armed, .int .i64 x.power, .bool x.dead, .slice x.AT x.T.length x.cT] = W4 := ⟨_, rfl⟩
      have hb4 : Blk W4 (w.heap.size + 1) 56 [.int .i64 x.blocks, .slice x.AS x.S.length x.cS, .slice x.AQ x.Q.length x.cQ, .int .u64 x.counter, .slice AL i x.cL, .int .i64 (x.reads + 1), .bool x.armed, .int .i64 x.power, .bool x.dead, .slice x.AT x.T.length x.cT] := by rw [← hW4]; exact HK4.out.putRow _
      have hbw : Below w.heap.size w W4 := by rw [← hW4]; exact below_row ((HB.out.trans (HBW.out.mono HB.out.size)).setCell (Nat.le_refl _) _) (by omega) _
      rw [hW4]
      refine bodyPost_ret (results_cell_slot rfl _ _ (w.heap.size + 1) _ _ rfl rfl (load_row hb4 Try.underlying56 rfl t_info)) rfl ?_
      have hx := HX.out.below hbw
      unfold RetTR
      rw [HBN.out]
      refine ⟨{ x with reads := x.reads + 1 }, A1, c1, ?_, ?_, HB1.out.1.below hbw, HB1.out.2, hbw⟩
      · unfold Td.cells; dsimp only; rw [HAL.out, HN.out]; rfl
      · exact { hx with e0 := ⟨hx.e0.1, hx.e0.2.1, by show x.reads + 1 = s.reads + 1; rw [hx.e0.2.2.1], hx.e0.2.2.2⟩, nm := ⟨hx.nm.1, hx.nm.2.1, hx.nm.2.2.1, hx.nm.2.2.2.1, by show 0 ≤ s.reads + 1; have := hx.nm.2.2.2.2.1; omega, hx.nm.2.2.2.2.2⟩ }
end
end Go.Proofs.Ytffhncpgknkkaaa
/-! from W06Rv -/
namespace Go.Proofs.Ytffhncpgknkkaaa
open Go.RowKit Go.Sac
set_option linter.unusedVariables false
set_option linter.unusedSimpArgs false
/-- the boxes of a walk, as they stand -/
structure Bx (w : World) (X : List Value) (W : World) : Prop where
  bel : Below w.heap.size w W
  b0 : Blk W w.heap.size 56 X
  b1 : Blk W (w.heap.size + 1) 56 zT
theorem Bx.set {w W : World} {X : List Value} (h : Bx w X W) (i : Nat) (v : Value) : Bx w (X.set i v) (W.setCell ⟨w.heap.size, i, none⟩ v) :=
  ⟨h.bel.setCell (Nat.le_refl _) _, h.b0.set i v, h.b1.far (p := ⟨w.heap.size, i, none⟩) (by show w.heap.size + 1 ≠ w.heap.size; omega) v⟩
theorem Bx.below {w W W' : World} {X : List Value} (h : Bx w X W) (hb : Below W.heap.size W W') : Bx w X W' := ⟨below_then h.bel h.bel.size hb, h.b0.below hb h.b0.lt, h.b1.below hb h.b1.lt⟩
section
variable {w : World} {K : Nat → Nat} {q : Nat} {x : Td} {s : Wd}
theorem Tm.power (h : Tm w K q x s) {p : Int} {d : Bool} (h0 : 0 ≤ p) (h1 : p ≤ 1000000) : Tm w K q { x with power := p, dead := d } { s with power := p, dead := d } :=
  { h with e0 := ⟨h.e0.1, h.e0.2.1, h.e0.2.2.1, h.e0.2.2.2.1, rfl, rfl⟩, nm := ⟨h.nm.1, h.nm.2.1, h.nm.2.2.1, h.nm.2.2.2.1, h.nm.2.2.2.2.1, h0, h1⟩ }
set_option maxRecDepth 100000 in
set_option maxHeartbeats 4000000 in
theorem rtakes_calls (h : Tm w K q x s) (hd : s.dead = false) (n : Nat) (hn : n ≤ 1099511627776) :
    Calls Try.prog 53 #[.agg x.cells.toArray, .int .i64 (n : Int)] w (RetTI K q (takesP s n) (takesK s n) w) := by
  have HX := Hd.mk h
  have HD : Hd (x.dead = false) := ⟨h.e0.2.2.2.2.2.trans hd⟩
  have hpw : 0 ≤ x.power ∧ x.power ≤ 1000000 := by rw [h.e0.2.2.2.2.1]; exact h.nm.2.2.2.2.2
  have HSD := Hd.mk hd
  obtain ⟨W, hW, hb, hk0, hk1, hz⟩ := two_boxes w [.int .i64 x.blocks, .slice x.AS x.S.length x.cS, .slice x.AQ x.Q.length x.cQ, .int .u64 x.counter, .slice x.AL x.L.length x.cL, .int .i64 x.reads, .bool x.armed, .int .i64 x.power, .bool x.dead, .slice x.AT x.T.length x.cT]
  have HBX : Hd (Bx w [.int .i64 x.blocks, .slice x.AS x.S.length x.cS, .slice x.AQ x.Q.length x.cQ, .int .u64 x.counter, .slice x.AL x.L.length x.cL, .int .i64 x.reads, .bool x.armed, .int .i64 x.power, .bool x.dead, .slice x.AT x.T.length x.cT] W) := ⟨⟨hb, hk0, hk1⟩⟩
  clear hb hk0 hk1 hz hd
  by_cases ha : s.armed = true
  · have hxa : x.armed = true := h.e0.2.2.2.1.trans ha
    have HP : Hd (takesP s n = { s with power := s.power - min (n : Int) s.power, dead := decide (min (n : Int) s.power < (n : Int)) }) := ⟨by unfold takesP takesK; rw [if_pos ha, if_pos ha]⟩
    have HT : Hd (takesK s n = min (n : Int) s.power) := ⟨by unfold takesK; rw [if_pos ha]⟩
    have HPW : Hd (x.power = s.power) := ⟨h.e0.2.2.2.2.1⟩
    unfold Td.cells
    rw [hxa] at hW HBX ⊢
    rw [HD.out] at hW HBX ⊢
    have HA := Hd.mk hxa
    obtain ⟨pw, hpe⟩ : ∃ pw, x.power = pw := ⟨_, rfl⟩
    rw [hpe] at hW hpw HPW ⊢
    have HBX : Hd (Bx w [.int .i64 x.blocks, .slice x.AS x.S.length x.cS, .slice x.AQ x.Q.length x.cQ, .int .u64 x.counter, .slice x.AL x.L.length x.cL, .int .i64 x.reads, .bool true, .int .i64 (pw - ((0 : Nat) : Int)), .bool false, .slice x.AT x.T.length x.cT] W) := ⟨by have := HBX.out; rw [hpe] at this; rw [show pw - ((0 : Nat) : Int) = pw by omega]; exact this⟩
    have HPE := Hd.mk hpe
    clear ha hxa h hpe
    have q6 := HBX.out.b0.cell (i := 6) rfl
    go_enter Try.func53, Try.ntmps53
    go_wp2
    try rw [hW]
    clear hW
    go_loopw [6] (fun iv wr => ∃ k : Nat, iv = .int .i64 (k : Int) ∧ k ≤ n ∧ (k : Int) ≤ pw ∧ Hd (Bx w [.int .i64 x.blocks, .slice x.AS x.S.length x.cS, .slice x.AQ x.Q.length x.cQ, .int .u64 x.counter, .slice x.AL x.L.length x.cL, .int .i64 x.reads, .bool true, .int .i64 (pw - (k : Int)), .bool false, .slice x.AT x.T.length x.cT] wr)) (fun iv _ => n - (intOf iv).toNat)
    case atStart => exact ⟨0, rfl, Nat.zero_le _, hpw.1, HBX⟩
    case round =>
      clear HBX
      obtain ⟨k, rfl, hk, hkp, HB⟩ := hrel
      have q7 := HB.out.b0.cell (i := 7) rfl
      have f7 := HB.out.b0.frz 7
      have q8 := HB.out.b0.cell (i := 8) rfl
      have f8 := HB.out.b0.frz 8
      have FIN : Hd (∀ (k : Nat) (d : Bool) (W' : World), (k : Int) ≤ pw → k ≤ n → (k : Int) = min (n : Int) s.power → d = decide ((k : Int) < n) → Bx w [.int .i64 x.blocks, .slice x.AS x.S.length x.cS, .slice x.AQ x.Q.length x.cQ, .int .u64 x.counter, .slice x.AL x.L.length x.cL, .int .i64 x.reads, .bool true, .int .i64 (pw - (k : Int)), .bool d, .slice x.AT x.T.length x.cT] W' → RetTI K q (takesP s n) (takesK s n) w (.returned (.tuple #[.agg #[.int .i64 x.blocks, .slice x.AS x.S.length x.cS, .slice x.AQ x.Q.length x.cQ, .int .u64 x.counter, .slice x.AL x.L.length x.cL, .int .i64 x.reads, .bool true, .int .i64 (pw - (k : Int)), .bool d, .slice x.AT x.T.length x.cT], .int .i64 (k : Int)])) (W'.setRow (w.heap.size + 1) #[.int .i64 x.blocks, .slice x.AS x.S.length x.cS, .slice x.AQ x.Q.length x.cQ, .int .u64 x.counter, .slice x.AL x.L.length x.cL, .int .i64 x.reads, .bool true, .int .i64 (pw - (k : Int)), .bool d, .slice x.AT x.T.length x.cT])) := ⟨by
        intro k d W' h1 h2 h3 h4 h5
        have hbw : Below w.heap.size w (W'.setRow (w.heap.size + 1) #[.int .i64 x.blocks, .slice x.AS x.S.length x.cS, .slice x.AQ x.Q.length x.cQ, .int .u64 x.counter, .slice x.AL x.L.length x.cL, .int .i64 x.reads, .bool true, .int .i64 (pw - (k : Int)), .bool d, .slice x.AT x.T.length x.cT]) := below_row h5.bel (by omega) _
        refine ⟨{ x with power := pw - (k : Int), dead := d }, ?_, ?_, hbw⟩
        · unfold Td.cells; dsimp only; rw [HA.out, HT.out, h3]
        · rw [HP.out, ← h3, ← h4, ← HPW.out]
          exact (HX.out.below hbw).power (by omega) (by omega)⟩
      by_cases hlt : k < n
      · have hki : (k : Int) < (n : Int) := by omega
        by_cases hp : (k : Int) < pw
        · have hp1 : pw - (k : Int) > 0 := by omega
          have hw1 : IntKind.i64.wrap (pw - (k : Int) - 1) = pw - ((k + 1 : Nat) : Int) := by rw [IntKind.wrap_i64]; omega
          have HW1 := Hd.mk hw1
          clear hw1 FIN
          go_wp2
          go_roundw
          case rel => exact ⟨k + 1, by go_num, by omega, by omega, ⟨by have := HB.out.set 7 (.int .i64 (pw - ((k + 1 : Nat) : Int))); first | exact this | (rw [show pw - ((k + 1 : Nat) : Int) = pw - (k : Int) - 1 by omega] at this ⊢; exact this)⟩⟩
          case measure => simp [intOf]; omega
        · have hp1 : ¬ pw - (k : Int) > 0 := by omega
          have HK3 := Hd.mk (HB.out.set 8 (.bool true))
          have HF := Hd.mk (FIN.out k true _ hkp hk (by rw [← HPW.out]; omega) (by simp [hki]) HK3.out)
          clear FIN
          go_wp2_with (first
            | (refine wpList_load_row rfl 56 (.tmp 2) rfl w.heap.size rfl 56 _ (0, 0) _ HK3.out.b0 Try.underlying56 rfl t_info ?_)
            | (refine wpList_store_row rfl 56 (.tmp 4) (.tmp 30) rfl (w.heap.size + 1) #[.int .i64 x.blocks, .slice x.AS x.S.length x.cS, .slice x.AQ x.Q.length x.cQ, .int .u64 x.counter, .slice x.AL x.L.length x.cL, .int .i64 x.reads, .bool true, .int .i64 (pw - (k : Int)), .bool true, .slice x.AT x.T.length x.cT] rfl rfl 56 zT.toArray HK3.out.b1 t_info (zT_size _ rfl) (t_one _ _ _ _ _ _ _ _ _ _ _ _ _ _ _ _ _ _) ?_))
          have hb4 := HK3.out.b1.putRow [.int .i64 x.blocks, .slice x.AS x.S.length x.cS, .slice x.AQ x.Q.length x.cQ, .int .u64 x.counter, .slice x.AL x.L.length x.cL, .int .i64 x.reads, .bool true, .int .i64 (pw - (k : Int)), .bool true, .slice x.AT x.T.length x.cT]
          refine bodyPost_ret (results_cell_slot rfl _ _ (w.heap.size + 1) _ _ rfl rfl (load_row hb4 Try.underlying56 rfl t_info)) rfl ?_
          exact HF.out
      · obtain rfl : k = n := by omega
        have HF := Hd.mk (FIN.out k false _ hkp hk (by rw [← HPW.out]; omega) (by simp) HB.out)
        clear FIN
        go_wp2_with (first
          | (refine wpList_load_row rfl 56 (.tmp 2) rfl w.heap.size rfl 56 _ (0, 0) _ HB.out.b0 Try.underlying56 rfl t_info ?_)
          | (refine wpList_store_row rfl 56 (.tmp 4) (.tmp 30) rfl (w.heap.size + 1) #[.int .i64 x.blocks, .slice x.AS x.S.length x.cS, .slice x.AQ x.Q.length x.cQ, .int .u64 x.counter, .slice x.AL x.L.length x.cL, .int .i64 x.reads, .bool true, .int .i64 (pw - (k : Int)), .bool false, .slice x.AT x.T.length x.cT] rfl rfl 56 zT.toArray HB.out.b1 t_info (zT_size _ rfl) (t_one _ _ _ _ _ _ _ _ _ _ _ _ _ _ _ _ _ _) ?_))
        have hb4 := HB.out.b1.putRow [.int .i64 x.blocks, .slice x.AS x.S.length x.cS, .slice x.AQ x.Q.length x.cQ, .int .u64 x.counter, .slice x.AL x.L.length x.cL, .int .i64 x.reads, .bool true, .int .i64 (pw - (k : Int)), .bool false, .slice x.AT x.T.length x.cT]
        refine bodyPost_ret (results_cell_slot rfl _ _ (w.heap.size + 1) _ _ rfl rfl (load_row hb4 Try.underlying56 rfl t_info)) rfl ?_
        exact HF.out
  · have hxa : x.armed = false := h.e0.2.2.2.1.trans (by simpa using ha)
    have HP : Hd (takesP s n = s) := ⟨by unfold takesP; rw [if_neg ha]⟩
    have HT : Hd (takesK s n = n) := ⟨by unfold takesK; rw [if_neg ha]⟩
    unfold Td.cells
    rw [hxa] at hW HBX ⊢
    have HA := Hd.mk hxa
    clear ha hxa h
    have q6 := HBX.out.b0.cell (i := 6) rfl
    go_enter Try.func53, Try.ntmps53
    go_wp2_with (first
      | (refine wpList_load_row rfl 56 (.tmp 2) rfl w.heap.size rfl 56 _ (0, 0) _ HBX.out.b0 Try.underlying56 rfl t_info ?_)
      | (refine wpList_store_row rfl 56 (.tmp 4) (.tmp 10) rfl (w.heap.size + 1) #[.int .i64 x.blocks, .slice x.AS x.S.length x.cS, .slice x.AQ x.Q.length x.cQ, .int .u64 x.counter, .slice x.AL x.L.length x.cL, .int .i64 x.reads, .bool false, .int .i64 x.power, .bool x.dead, .slice x.AT x.T.length x.cT] rfl rfl 56 zT.toArray HBX.out.b1 t_info (zT_size _ rfl) (t_one _ _ _ _ _ _ _ _ _ _ _ _ _ _ _ _ _ _) ?_))
    have hb4 := HBX.out.b1.putRow [.int .i64 x.blocks, .slice x.AS x.S.length x.cS, .slice x.AQ x.Q.length x.cQ, .int .u64 x.counter, .slice x.AL x.L.length x.cL, .int .i64 x.reads, .bool false, .int .i64 x.power, .bool x.dead, .slice x.AT x.T.length x.cT]
    have hbw : Below w.heap.size w (W.setRow (w.heap.size + 1) #[.int .i64 x.blocks, .slice x.AS x.S.length x.cS, .slice x.AQ x.Q.length x.cQ, .int .u64 x.counter, .slice x.AL x.L.length x.cL, .int .i64 x.reads, .bool false, .int .i64 x.power, .bool x.dead, .slice x.AT x.T.length x.cT]) := below_row HBX.out.bel (by omega) _
    refine bodyPost_ret (results_cell_slot rfl _ _ (w.heap.size + 1) _ _ rfl rfl (load_row hb4 Try.underlying56 rfl t_info)) rfl ?_
    rw [HP.out, HT.out]
    refine ⟨x, ?_, HX.out.below hbw, hbw⟩
    unfold Td.cells; rw [HA.out]; rfl
end
end Go.Proofs.Ytffhncpgknkkaaa
/-! from W06Rw -/
namespace Go.Proofs.Ytffhncpgknkkaaa
open Go.RowKit Go.Sac
set_option linter.unusedVariables false
set_option linter.unusedSimpArgs false
def overR (old b : List UInt8) (k : Nat) : List UInt8 := b.take k ++ old.drop k
theorem overR_len (old b : List UInt8) (k : Nat) (h : k ≤ b.length) : (overR old b k).length = max old.length k := by unfold overR; simp; omega
theorem overR_at (old b : List UInt8) (k i : Nat) (h : k ≤ b.length) : (overR old b k)[i]? = if i < k then b[i]? else old[i]? := by
  unfold overR
  by_cases h2 : i < k
  · rw [if_pos h2, List.getElem?_append_left (by simp; omega), List.getElem?_take, if_pos h2]
  · rw [if_neg h2, List.getElem?_append_right (by simp; omega), List.getElem?_drop]
    congr 1
    simp
    omega
theorem rws_map (l : List Rw) : rws l = l.map fun y => .slice y.A y.b.length y.c := by
  unfold rws rowK
  induction l with
  | nil => rfl
  | cons z t ih => simp only [List.map_cons, List.flatten_cons, ih]; rfl
theorem rws_set (l : List Rw) (i : Nat) (y : Rw) : rws (l.set i y) = (rws l).set i (.slice y.A y.b.length y.c) := by rw [rws_map, rws_map, List.map_set]
theorem row_info : (Try.prog.info? 22).map (fun i => (i.zero, i.size, i.bytes)) = some (some (.slice none 0 0), 1, 24) := by kernel_rfl
section
variable {w : World} {K : Nat → Nat} {q : Nat} {x : Td} {s : Wd}
set_option maxRecDepth 100000 in
set_option maxHeartbeats 4000000 in
theorem rover_calls (A : Option Addr) (n c : Nat) (old : List UInt8) (hA : Rc w A (bs old)) (e1 : n = old.length) (B : Option Addr) (m d : Nat) (b : List UInt8) (hB : Rc w B (bs b)) (e2 : m = b.length) (k : Nat) (hk : k ≤ b.length) (ho : old.length ≤ 1099511627776) (hb : b.length ≤ 1099511627776) :
    Calls Try.prog 55 #[.slice A n c, .slice B m d, .int .i64 (k : Int)] w fun e w' => ∃ v, e = .returned v ∧ w'.ownsRow w.heap.size 5 1 v (overR old b k).length (bs (overR old b k)) ∧ Below w.heap.size w w' := by
  have HA := Hd.mk hA
  have HB := Hd.mk hB
  have E1 := Hd.mk e1
  have E2 := Hd.mk e2
  have HK := Hd.mk hk
  have HLN : Hd ((overR old b k).length = max n k) := ⟨by rw [overR_len old b k hk, e1]⟩
  have hn0 : n ≤ 1099511627776 := by omega
  have hm0 : m ≤ 1099511627776 := by omega
  have hkm : k ≤ m := by omega
  have HAT : Hd (∀ i, (overR old b k)[i]? = if i < k then b[i]? else old[i]?) := ⟨fun i => overR_at old b k i hk⟩
  clear hA hB e1 e2 hk ho hb
  go_enter Try.func55, Try.ntmps55
  go_wp2
  go_loopw [8, 7] (fun iv ov wr => ∃ i : Nat, iv = .int .i64 (i : Int) ∧ i ≤ max n k ∧ ∃ A1 c1, ov = .slice A1 i c1 ∧ Hd (wr.ownsRow w.heap.size 5 1 (.slice A1 i c1) i (bs ((overR old b k).take i)) ∧ Below w.heap.size w wr)) (fun iv _ _ => max n k - (intOf iv).toNat)
  case atStart => exact ⟨0, rfl, Nat.zero_le _, none, 0, rfl, ⟨World.ownsRow_nil _ _ _ _, Below.refl _ _⟩⟩
  case round =>
    obtain ⟨i, rfl, hi, A1, c1, rfl, HO⟩ := hrel
    have STEP : Hd (∀ (u : UInt8), (overR old b k)[i]? = some u → bs ((overR old b k).take i) ++ [.int .u8 (u.toNat : Int)] = bs ((overR old b k).take (i + 1))) := ⟨fun u hu => by
      rw [List.take_add_one, hu, Option.toList_some]; unfold bs; simp [u8v]⟩
    by_cases hik : i < k
    · have hki : (i : Int) < (k : Int) := by omega
      have him : i < m := by omega
      have hil : i < b.length := by rw [← E2.out]; exact him
      obtain ⟨bb, off, rfl, hbb, hcb⟩ := HB.out.form (by rw [bs_len]; omega)
      have y0 := (HO.out.2.cell (p := ⟨bb, off + i, none⟩) hbb).trans (hcb i (.int .u8 ((b[i]).toNat : Int)) (bs_at hil))
      have HS : Hd (bs ((overR old b k).take i) ++ [.int .u8 ((b[i]).toNat : Int)] = bs ((overR old b k).take (i + 1))) := ⟨STEP.out _ (by rw [HAT.out i, if_pos hik, List.getElem?_eq_getElem hil])⟩
      obtain ⟨u, hu⟩ : ∃ u, b[i] = u := ⟨_, rfl⟩
      rw [hu] at y0 HS
      clear hcb hil hu STEP
      by_cases hin : i < n
      all_goals (
        go_wp2_with (at_builtin; apply Hd.out)
        refine ⟨app_rc w.heap.size 22 5 (.int .u8 0) 1 1 (.tmp 23) (.tmp 28) rfl rfl Try.underlying22 info_u8 rfl (by decide) (by decide) (.slice A1 i c1) i (bs ((overR old b k).take i)) [.int .u8 (u.toNat : Int)] (some ⟨wr.heap.size, 0, none⟩) 1 1 rfl rfl (own_below HO.out.1 ((Below.refl _ _).alloc (Nat.le_refl _) _)) (Rc.one _ _ _) rfl (by simp [Value.oneCell']) (Nat.le_trans HO.out.2.size (by simp)) (by omega) (i + 1) (bs ((overR old b k).take (i + 1))) rfl HS.out ?_⟩
        intro v2 w2 ho hg hat
        obtain ⟨A2, c2, rfl, _, _, _⟩ := own_rc ho
        have HN : Hd (w2.ownsRow w.heap.size 5 1 (.slice A2 (i + 1) c2) (i + 1) (bs ((overR old b k).take (i + 1))) ∧ Below w.heap.size w w2) := ⟨ho, below_lift (HO.out.2.alloc HO.out.2.size _) (Nat.le_trans HO.out.2.size (by simp)) hg (fun p e => (own_lt HO.out.1 p e).1)⟩
        clear ho hg hat
        go_wp2_with fail
        go_roundw
        case rel => exact ⟨i + 1, by go_num, by omega, A2, c2, rfl, HN⟩
        case measure => simp [intOf]; omega)
    · have hki : ¬ (i : Int) < (k : Int) := by omega
      by_cases hin : i < n
      · have hil : i < old.length := by rw [← E1.out]; exact hin
        obtain ⟨bb, off, rfl, hbb, hcb⟩ := HA.out.form (by rw [bs_len]; omega)
        have y0 := (HO.out.2.cell (p := ⟨bb, off + i, none⟩) hbb).trans (hcb i (.int .u8 ((old[i]).toNat : Int)) (bs_at hil))
        have HS : Hd (bs ((overR old b k).take i) ++ [.int .u8 ((old[i]).toNat : Int)] = bs ((overR old b k).take (i + 1))) := ⟨STEP.out _ (by rw [HAT.out i, if_neg hik, List.getElem?_eq_getElem hil])⟩
        obtain ⟨u, hu⟩ : ∃ u, old[i] = u := ⟨_, rfl⟩
        rw [hu] at y0 HS
        clear hcb hil hu STEP
        go_wp2_with (at_builtin; apply Hd.out)
        refine ⟨app_rc w.heap.size 22 5 (.int .u8 0) 1 1 (.tmp 30) (.tmp 35) rfl rfl Try.underlying22 info_u8 rfl (by decide) (by decide) (.slice A1 i c1) i (bs ((overR old b k).take i)) [.int .u8 (u.toNat : Int)] (some ⟨wr.heap.size, 0, none⟩) 1 1 rfl rfl (own_below HO.out.1 ((Below.refl _ _).alloc (Nat.le_refl _) _)) (Rc.one _ _ _) rfl (by simp [Value.oneCell']) (Nat.le_trans HO.out.2.size (by simp)) (by omega) (i + 1) (bs ((overR old b k).take (i + 1))) rfl HS.out ?_⟩
        intro v2 w2 ho hg hat
        obtain ⟨A2, c2, rfl, _, _, _⟩ := own_rc ho
        have HN : Hd (w2.ownsRow w.heap.size 5 1 (.slice A2 (i + 1) c2) (i + 1) (bs ((overR old b k).take (i + 1))) ∧ Below w.heap.size w w2) := ⟨ho, below_lift (HO.out.2.alloc HO.out.2.size _) (Nat.le_trans HO.out.2.size (by simp)) hg (fun p e => (own_lt HO.out.1 p e).1)⟩
        clear ho hg hat
        go_wp2_with fail
        go_roundw
        case rel => exact ⟨i + 1, by go_num, by omega, A2, c2, rfl, HN⟩
        case measure => simp [intOf]; omega
      · have hin2 : ¬ (i : Int) < (n : Int) := by omega
        have HI : Hd (i = (overR old b k).length) := ⟨by rw [HLN.out]; omega⟩
        go_wp2_with fail
        go_ret
        refine ⟨_, rfl, ?_, HO.out.2⟩
        have h := HO.out.1
        have e := HI.out
        rw [List.take_of_length_le (by omega)] at h
        rw [← e]
        exact h
set_option maxRecDepth 100000 in
set_option maxHeartbeats 4000000 in
theorem rwith_calls (hK : ∀ k, w.heap.size ≤ k → K k = 0) (A : Option Addr) (n c : Nat) (l : List Rw) (hA : Rc w A (rws l)) (e1 : n = l.length) (hn : n ≤ 1000000) (i : Nat) (hi : i < n) (y : Rw) :
    Calls Try.prog 54 #[.slice A n c, .int .i64 (i : Int), .slice y.A y.b.length y.c] w fun e w' => ∃ A' c', e = .returned (.slice A' n c') ∧ n ≤ c' ∧ FrC w' K A' (rws (l.set i y)) ∧ Below w.heap.size w w' := by
  have HA := Hd.mk hA
  have E1 := Hd.mk e1
  have HK := Hd.mk hK
  have hii : (i : Int) < (n : Int) := by omega
  clear hA e1 hK
  go_enter Try.func54, Try.ntmps54
  go_wp2_with (at_builtin; apply Hd.out)
  refine ⟨app_rc w.heap.size 53 22 (.slice none 0 0) 1 24 (.tmp 8) (.tmp 9) rfl rfl Try.underlying53 row_info rfl (by decide) (by decide) (.slice none 0 0) 0 [] (rws l) A n c rfl rfl (World.ownsRow_nil _ _ _ _) HA.out (by rw [rws_len, E1.out]; omega) (rowK_one rw_one l) (Nat.le_refl _) (by omega) n (rws l) (by omega) (by simp) ?_⟩
  intro v1 w1 ho hg hat
  have hb1 := below_nil hg
  rcases ho.2 with ⟨_, h0⟩ | ⟨g, cap, cur, rfl, h1, h2, h3, h4, h5, h6⟩
  · omega
  have hil : i < l.length := by rw [← E1.out]; exact hi
  have hc1 : ∃ u, cur[i]? = some u := by
    have e2 : (rws l)[i]? = some (.slice l[i].A l[i].b.length l[i].c) := by rw [rws_map, List.getElem?_map, List.getElem?_eq_getElem hil]; rfl
    rw [← h6, List.getElem?_take, if_pos (by omega)] at e2
    exact ⟨_, by simpa using e2⟩
  obtain ⟨u, hcu⟩ := hc1
  have hcc : w1.cell? ⟨g, i, none⟩ = some u := (cell_of_row _ _ _ _ _ _ h2).trans hcu
  have hff : w1.frozen? ⟨g, i, none⟩ = false := by simp [World.frozen?, h2]
  have HB : Hd (Below w.heap.size w (w1.setCell ⟨g, i, none⟩ (.slice y.A y.b.length y.c))) := ⟨hb1.setCell h1 _⟩
  have HR : Hd (FrC (w1.setCell ⟨g, i, none⟩ (.slice y.A y.b.length y.c)) K (some ⟨g, 0, none⟩) (rws (l.set i y))) := ⟨by
    have hlt : g < w1.heap.size := (Array.getElem?_eq_some_iff.1 h2).1
    refine ⟨?_, fun a e _ => by injection e with e; subst e; exact ⟨HK.out _ h1, by simpa using hlt⟩⟩
    have hblk : (w1.setCell ⟨g, i, none⟩ (.slice y.A y.b.length y.c)).heap[g]? = some (.cells (cur.setIfInBounds i (.slice y.A y.b.length y.c)) 22 (0, 0)) := by
      rw [setCell_eq_setRow w1 g i cur 22 _ _ h2]
      exact setRow_heap w1 g _ _ _ _ h2
    refine Rc.mk fun j u hj => ?_
    rw [Nat.zero_add, cell_of_row _ _ _ _ _ _ hblk]
    rw [rws_set, ← h6, List.getElem?_set] at hj
    rw [Array.getElem?_setIfInBounds]
    have hics : i < cur.size := (Array.getElem?_eq_some_iff.1 hcu).1
    by_cases hij : i = j
    · rw [if_pos hij] at hj ⊢
      rw [if_pos (by rw [List.length_take, Array.length_toList]; omega)] at hj
      rw [if_pos (by omega)]
      exact hj
    · rw [if_neg hij] at hj ⊢
      rw [List.getElem?_take] at hj
      by_cases hjn : j < n * 1
      · rw [if_pos hjn] at hj; simpa using hj
      · rw [if_neg hjn] at hj; cases hj⟩
  clear ho hg hat hb1 h1 h2 h4 h5 h6 hcu hil
  go_wp2
  go_ret
  exact ⟨_, _, rfl, h3, HR.out, HB.out⟩
end
end Go.Proofs.Ytffhncpgknkkaaa
/-! from W06Rx -/
namespace Go.Proofs.Ytffhncpgknkkaaa
open Go.RowKit Go.Sac
set_option linter.unusedVariables false
set_option linter.unusedSimpArgs false
/-- what is told outlives whatever leaves the rest alone -/
def Lasting (R : World → (Nat → Nat) → List Value → Value → Prop) : Prop := ∀ K1 K2 w w' cs v, Stp K1 K2 w w' → R w K1 cs v → R w' K2 cs v
structure CS (ic ia is : Nat) (W0 : World) (K : Nat → Nat) (R : World → (Nat → Nat) → List Value → Value → Prop) (K2 : Nat → Nat) (L : Nat → Bool) (w : World) (f : Nat → Value) : Prop where
  bel : Below W0.heap.size W0 w
  low : ∀ k, K2 k = 0 → K k = 0
  hi : ∀ k, w.heap.size ≤ k → K2 k = 0
  ex : ∀ k, k < W0.heap.size → K2 k = K k
  c : L ic = true → ∃ cs, R w K2 cs (f ic)
  a : L ia = true → ∃ g, f ia = .pointer (some ⟨g, 0, none⟩) ∧ W0.heap.size ≤ g ∧ K2 g ≠ 0 ∧ (L is = false → Blk w g 56 zT) ∧ (L is = true → ∃ cs, R w K2 cs (f ic) ∧ Blk w g 56 cs)
def CSE (ic ia is : Nat) (W0 : World) (K : Nat → Nat) (R : World → (Nat → Nat) → List Value → Value → Prop) (L : Nat → Bool) (w : World) (f : Nat → Value) : Prop := ∃ K2, CS ic ia is W0 K R K2 L w f
theorem Stp.shrink {K1 K2 : Nat → Nat} (w : World) (h : ∀ k, k < w.heap.size → K1 k = 0 → K2 k = 0) : Stp K1 K2 w w := ⟨rfl, rfl, rfl, Nat.le_refl _, fun _ _ _ => rfl, h⟩
section
variable {ic ia is : Nat} {W0 : World} {K : Nat → Nat} {R : World → (Nat → Nat) → List Value → Value → Prop} {L : Nat → Bool} {w : World} {f : Nat → Value}
theorem CSE.start (hK : ∀ k, W0.heap.size ≤ k → K k = 0) (f : Nat → Value) : CSE ic ia is W0 K R (fun _ => false) W0.drew f :=
  ⟨K, (Below.refl _ _).drew, fun _ h => h, hK, fun _ _ => rfl, nofun, nofun⟩
theorem CSE.bel (h : CSE ic ia is W0 K R L w f) : Below W0.heap.size W0 w := let ⟨_, h⟩ := h; h.bel
theorem CSE.past (h : CSE ic ia is W0 K R L w f) (i : Nat) (v : Value) (hi : ic ≠ i ∧ ia ≠ i ∧ is ≠ i) : CSE ic ia is W0 K R (fun j => j == i || L j) w (upd f i v) := by
  obtain ⟨K2, h⟩ := h
  obtain ⟨n1, n2, n3⟩ := hi
  have e : ∀ k, k ≠ i → (k == i || L k) = L k := fun k hk => by simp [hk]
  refine ⟨K2, h.bel, h.low, h.hi, h.ex, fun a => ?_, fun a => ?_⟩
  · rw [upd_ne _ _ _ _ n1]; exact h.c (e ic n1 ▸ a)
  · rw [upd_ne _ _ _ _ n1, upd_ne _ _ _ _ n2]
    obtain ⟨g, h1, h2, h3, h4, h5⟩ := h.a (e ia n2 ▸ a)
    exact ⟨g, h1, h2, h3, fun b => h4 (e is n3 ▸ b), fun b => h5 (e is n3 ▸ b)⟩
/-- the call -/
theorem CSE.call (h : CSE ic ia is W0 K R L w f) (hR : Lasting R) (hn : ic ≠ ia ∧ is ≠ ic) (ls : L is = false) {P : Program} {fn : FuncId} {args : Array Value} {Q : Ending → World → Prop}
    (hc : ∀ K2, (∀ k, w.heap.size ≤ k → K2 k = 0) → (∀ k, k < W0.heap.size → K2 k = K k) → Calls P fn args w fun e w' => ∃ v cs, e = .returned v ∧ R w' K2 cs v ∧ Below w.heap.size w w')
    (hQ : ∀ v w', CSE ic ia is W0 K R (fun j => j == ic || L j) w' (upd f ic v) → Q (.returned v) w') : Calls P fn args w Q := by
  obtain ⟨K2, h⟩ := h
  refine (hc K2 h.hi h.ex).mono ?_
  rintro e w' ⟨v, cs, rfl, hv, hb⟩
  refine hQ v w' ⟨K2, below_then h.bel h.bel.size hb, h.low, fun k hk => h.hi k (Nat.le_trans hb.size hk), h.ex, fun _ => ⟨cs, by rw [upd_same]; exact hv⟩, fun a => ?_⟩
  have e1 : (ia == ic || L ia) = L ia := by simp [hn.1.symm]
  have e2 : (is == ic || L is) = false := by simp [hn.2, ls]
  obtain ⟨g, h1, h2, h3, h4, h5⟩ := h.a (e1 ▸ a)
  rw [upd_ne _ _ _ _ hn.1.symm]
  exact ⟨g, h1, h2, h3, fun _ => (h4 ls).below hb (h4 ls).lt, fun b => by rw [e2] at b; cases b⟩
theorem CSE.alloc (h : CSE ic ia is W0 K R L w f) (hR : Lasting R) (hn : ic ≠ ia ∧ is ≠ ia) (ls : L is = false) : CSE ic ia is W0 K R (fun j => j == ia || L j) (w.alloc (.cells zT.toArray 56)) (upd f ia (.pointer (some ⟨w.heap.size, 0, none⟩))) := by
  obtain ⟨K2, h⟩ := h
  have hlt := h.bel.size
  obtain ⟨K3, hK3⟩ : ∃ K3 : Nat → Nat, K3 = fun k => if k = w.heap.size then 1 else K2 k := ⟨_, rfl⟩
  have e3 : ∀ k, k ≠ w.heap.size → K3 k = K2 k := fun k hk => by rw [hK3]; exact if_neg hk
  have hst : Stp K2 K3 w (w.alloc (.cells zT.toArray 56)) := ⟨rfl, rfl, rfl, by simp, fun k hk _ => Below.heap_alloc w _ k hk, fun k hk h0 => by rw [e3 k (by omega)]; exact h0⟩
  refine ⟨K3, below_then h.bel h.bel.size ((Below.refl _ _).alloc (Nat.le_refl _) _), fun k hk => ?_, fun k hk => ?_, fun k hk => ?_, fun a => ?_, fun _ => ?_⟩
  · by_cases e : k = w.heap.size
    · rw [hK3, e] at hk; simp at hk
    · rw [e3 k e] at hk; exact h.low k hk
  · rw [World.size_alloc] at hk
    rw [e3 k (by omega)]; exact h.hi k (by omega)
  · rw [e3 k (by omega)]; exact h.ex k hk
  · have e : (ic == ia || L ic) = L ic := by simp [hn.1]
    obtain ⟨cs, hv⟩ := h.c (e ▸ a)
    exact ⟨cs, by rw [upd_ne _ _ _ _ hn.1]; exact hR _ _ _ _ _ _ hst hv⟩
  · have e : (is == ia || L is) = false := by simp [hn.2, ls]
    exact ⟨_, upd_same _ _ _, hlt, by rw [hK3]; simp, fun _ => Blk.new w _ zT, fun b => by rw [e] at b; cases b⟩
/-- the store -/
theorem CSE.store (h : CSE ic ia is W0 K R L w f) (hR : Lasting R) (hn : ic ≠ is ∧ ia ≠ is) (lc : L ic = true) (la : L ia = true) (ls : L is = false) (cs : List Value) (hcs : ∀ K2, (∃ cs, R w K2 cs (f ic)) → R w K2 cs (f ic)) :
    ∃ g, f ia = .pointer (some ⟨g, 0, none⟩) ∧ Blk w g 56 zT ∧ ∀ v, CSE ic ia is W0 K R (fun j => j == is || L j) (w.setRow g cs.toArray) (upd f is v) := by
  obtain ⟨K2, h⟩ := h
  obtain ⟨g, h1, h2, h3, h4, _⟩ := h.a la
  have hv := hcs K2 (h.c lc)
  have hz := h4 ls
  have hst : Stp K2 K2 w (w.setRow g cs.toArray) := ⟨rfl, rfl, rfl, by simp, fun k hk h0 => setRow_other _ _ _ _ (fun e => h3 (by rw [← e]; exact h0)), fun _ _ h => h⟩
  refine ⟨g, h1, hz, fun v => ⟨K2, below_row h.bel h2 _, h.low, fun k hk => h.hi k (by simpa using hk), h.ex, fun _ => ⟨cs, ?_⟩, fun _ => ⟨g, ?_, h2, h3, fun b => by simp at b, fun _ => ⟨cs, ?_, hz.putRow cs⟩⟩⟩⟩
  · rw [upd_ne _ _ _ _ hn.1]; exact hR _ _ _ _ _ _ hst hv
  · rw [upd_ne _ _ _ _ hn.2]; exact h1
  · rw [upd_ne _ _ _ _ hn.1]; exact hR _ _ _ _ _ _ hst hv
theorem CSE.done (h : CSE ic ia is W0 K R L w f) (hR : Lasting R) (lc : L ic = true) (la : L ia = true) (ls : L is = true) : ∃ g cs, f ia = .pointer (some ⟨g, 0, none⟩) ∧ W0.heap.size ≤ g ∧ R w K cs (f ic) ∧ Blk w g 56 cs ∧ Below W0.heap.size W0 w := by
  obtain ⟨K2, h⟩ := h
  obtain ⟨g, h1, h2, _, _, h5⟩ := h.a la
  obtain ⟨cs, hv, hb⟩ := h5 ls
  exact ⟨g, cs, h1, h2, hR _ _ _ _ _ _ (Stp.shrink w fun k _ hk => h.low k hk) hv, hb, h.bel⟩
end
theorem CSE.told {ic ia is : Nat} {W0 : World} {K : Nat → Nat} {R : World → (Nat → Nat) → List Value → Value → Prop} {L : Nat → Bool} {w : World} {f : Nat → Value} (h : CSE ic ia is W0 K R L w f) (lc : L ic = true) : ∃ K2 cs, R w K2 cs (f ic) := let ⟨K2, h⟩ := h; let ⟨cs, hv⟩ := h.c lc; ⟨K2, cs, hv⟩
theorem t_all (x : Td) : x.cells.toArray.all (·.oneCell') = true := t_one _ _ _ _ _ _ _ _ _ _ _ _ _ _ _ _ _ _
theorem Stp.into {K K2 : Nat → Nat} {W0 w : World} (hb : Below W0.heap.size W0 w) (hx : ∀ k, k < W0.heap.size → K2 k = K k) : Stp K K2 W0 w := ⟨hb.os, hb.tape, hb.output, hb.size, fun k hk _ => hb.block k hk, fun k hk h0 => by rw [hx k hk]; exact h0⟩
/-- told: a T, and bytes -/
def RB (q : Nat) (s : Wd) (b : List UInt8) (w : World) (K : Nat → Nat) (cs : List Value) (v : Value) : Prop :=
  ∃ x, cs = Td.cells x ∧ ∃ A c, v = .tuple #[.agg x.cells.toArray, .slice A b.length c] ∧ Tm w K q x s ∧ Fr w K A b ∧ b.length ≤ c
theorem RB.last (q : Nat) (s : Wd) (b : List UInt8) : Lasting (RB q s b) := fun K1 K2 w w' cs v hs ⟨x, h1, A, c, h2, h3, h4, h5⟩ => ⟨x, h1, A, c, h2, h3.step hs, h4.step hs, h5⟩
theorem cells_inj {x y : Td} (h : (Value.agg x.cells.toArray) = .agg y.cells.toArray) : x.cells = y.cells := by
  injection h with h
  exact List.toArray_inj h
theorem RB.same {q : Nat} {s : Wd} {b : List UInt8} {w' : World} {K' : Nat → Nat} {x : Td} {A : Option Addr} {c : Nat} {v : Value} (h : v = .tuple #[.agg x.cells.toArray, .slice A b.length c]) (hh : ∃ cs, RB q s b w' K' cs v) : RB q s b w' K' x.cells v := by
  obtain ⟨cs, y, h1, A2, c2, h2, h3⟩ := hh
  have e : Value.agg x.cells.toArray = .agg y.cells.toArray := by
    rw [h] at h2
    injection h2 with h2
    have := congrArg (fun z : Array Value => z.getD 0 undef) h2
    exact this
  exact ⟨y, cells_inj e, A2, c2, h2, h3⟩
/-- which operation yields what of another one's -/
def prj (k : Nat) (v : Value) : Value := match k, v with | 0, v => v | k + 1, .tuple vs => vs.getD k undef | _, _ => undef
def LK (lk : List (Nat × Nat × Nat)) (L : Nat → Bool) (f : Nat → Value) : Prop := ∀ t ∈ lk, L t.1 = true → f t.1 = prj t.2.2 (f t.2.1)
theorem LK.start (lk : List (Nat × Nat × Nat)) (f : Nat → Value) : LK lk (fun _ => false) f := fun _ _ h => by cases h
theorem LK.past {lk : List (Nat × Nat × Nat)} {L : Nat → Bool} {f : Nat → Value} (h : LK lk L f) (i : Nat) (v : Value) (h1 : ∀ t ∈ lk, t.1 ≠ i) (h2 : ∀ t ∈ lk, t.2.1 = i → L t.1 = false) : LK lk (fun j => j == i || L j) (upd f i v) := fun t ht hl => by
  have e : (t.1 == i || L t.1) = L t.1 := by simp [h1 t ht]
  have hl : (t.1 == i || L t.1) = true := hl
  rw [e] at hl
  have : t.2.1 ≠ i := fun e2 => by rw [h2 t ht e2] at hl; cases hl
  rw [upd_ne _ _ _ _ (h1 t ht), upd_ne _ _ _ _ this]
  exact h t ht hl
theorem LK.at {lk : List (Nat × Nat × Nat)} {L : Nat → Bool} {f : Nat → Value} (h : LK lk L f) (i j k : Nat) (hij : j ≠ i) (h1 : ∀ t ∈ lk, t.1 = i → t.2 = (j, k)) (h2 : ∀ t ∈ lk, t.2.1 = i → L t.1 = false) (h3 : ∀ t ∈ lk, t.1 = i → t.2.1 ≠ i) : LK lk (fun j => j == i || L j) (upd f i (prj k (f j))) := fun t ht hl => by
  have hl : (t.1 == i || L t.1) = true := hl
  by_cases e : t.1 = i
  · rw [e, upd_same, h1 t ht e, upd_ne _ _ _ _ hij]
  · have e1 : (t.1 == i || L t.1) = L t.1 := by simp [e]
    rw [e1] at hl
    have : t.2.1 ≠ i := fun e2 => by rw [h2 t ht e2] at hl; cases hl
    rw [upd_ne _ _ _ _ e, upd_ne _ _ _ _ this]
    exact h t ht hl
end Go.Proofs.Ytffhncpgknkkaaa
