/- A10Minus: audit.Minus. -/
import Derived.Carry
import Derived.Test.YtpahmlgbljfcjaaCPad2
import Derived.Test.YtpahmlgbljfcjaaA10It
import Derived.Test.YtpahmlgbljfcjaaBase15
import Derived.Test.YtpahmlgbljfcjaaBase18
import Derived.Test.YtpahmlgbljfcjaaBase19
namespace Go.Proofs.Ytpahmlgbljfcjaa
open Go.RowKit Go.Sac
set_option linter.unusedVariables false
set_option linter.unusedSimpArgs false
abbrev IK := Int × ByteArray
section
variable {K : Type} [DecidableEq K]
def cnt (l : List K) (q : K) : Nat := l.count q
theorem cnt_snoc (l : List K) (x q : K) : cnt (l ++ [x]) q = cnt l q + if q = x then 1 else 0 := by
  unfold cnt
  rw [List.count_append, List.count_singleton]
  by_cases hq : q = x
  · subst hq; simp
  · have : (x == q) = false := by simp; exact fun e => hq e.symm
    simp [this, hq]
theorem cnt_le (l : List K) (q : K) : cnt l q ≤ l.length := List.count_le_length
theorem minusL_is (a b : List K) : minusL a b = minusG a (cnt b) := rfl
end
/-- the map tells how many of each there are -/
def Cnt (w : World) (r : Nat) (m : IK → Nat) : Prop := ∃ F : IK → Option Value, MapAt ikey w r F ∧ ∀ k, (F k).getD (.int .i64 0) = .int .i64 (m k : Nat)
theorem its_len (x : It) : x.cells.length = 2 := rfl
/-- a row of items -/
def RetI (ks : List IK) (w : World) (e : Ending) (w' : World) : Prop :=
  ∃ v l, e = .returned v ∧ w'.ownsRow w.heap.size 26 2 v l.length (its l) ∧ Held w' l ∧ l.map It.key = ks ∧ Below w.heap.size w w'
/-- a region that turns one entry of the map: its operations me (entry), me + 1 (stamp), me + 2 (store) -/
structure MG (me : Nat) (w0 : World) (r : Nat) (F : IK → Option Value) (k : IK) (n nv : Int) (L : Nat → Bool) (w : World) (f : Nat → Value) : Prop where
  bel : Below r w0 w
  keep : KeepBut (some r) w0 w
  m0 : L me = false → MapAt ikey w r F
  m1 : L me = true → L (me + 2) = false → ∃ b : Nat, f me = .tuple #[.int .i64 n, goInt b] ∧ (L (me + 1) = true → f (me + 1) = goInt b) ∧ StampAt ikey w r (fun q => if q = k then some (.int .i64 n) else F q) k b
  m2 : L (me + 2) = true → ∃ F', MapAt ikey w r F' ∧ ∀ q, (F' q).getD (.int .i64 0) = if q = k then .int .i64 nv else (F q).getD (.int .i64 0)
section
variable {me : Nat} {w0 : World} {r : Nat} {F : IK → Option Value} {k : IK} {n nv : Int} {L : Nat → Bool} {w : World} {f : Nat → Value}
theorem MG.start (h : MapAt ikey w r F) (f : Nat → Value) : MG me w r F k n nv (fun _ => false) w.drew f :=
  ⟨(Below.refl _ _).drew, .of_below ((Below.refl _ _).drew) _, fun _ => h.below ((Below.refl _ _).drew), nofun, nofun⟩
theorem MG.past (h : MG me w0 r F k n nv L w f) (q : Nat) (v : Value) (h1 : q ≠ me) (h2 : q ≠ me + 1) (h3 : q ≠ me + 2) : MG me w0 r F k n nv (fun j => j == q || L j) w (upd f q v) := by
  have e1 : (me == q || L me) = L me := by simp [Ne.symm h1]
  have e2 : (me + 1 == q || L (me + 1)) = L (me + 1) := by simp [Ne.symm h2]
  have e3 : (me + 2 == q || L (me + 2)) = L (me + 2) := by simp [Ne.symm h3]
  refine ⟨h.bel, h.keep, fun a => h.m0 (e1 ▸ a), fun a b => ?_, fun a => h.m2 (e3 ▸ a)⟩
  rw [upd_ne _ _ _ _ (Ne.symm h1), upd_ne _ _ _ _ (Ne.symm h2)]
  obtain ⟨s, x, y, z⟩ := h.m1 (e1 ▸ a) (e3 ▸ b)
  exact ⟨s, x, fun c => y (e2 ▸ c), z⟩
theorem StampAt.below {kenc : IK → Value} {w w' : World} {b : Nat} {F : IK → Option Value} (h : StampAt kenc w r F k b) (hb : Below w.heap.size w w') : StampAt kenc w' r F k b := by
  obtain ⟨es, clock, h1, h2⟩ := h
  exact ⟨es, clock, (hb.block r (Array.getElem?_eq_some_iff.1 h1).1).trans h1, h2⟩
theorem MG.call (h : MG me w0 r F k n nv L w f) {w' : World} (hr : r ≤ w.heap.size) (hb : Below w.heap.size w w') : MG me w0 r F k n nv L w' f :=
  ⟨below_then h.bel hr hb, ⟨Nat.le_trans h.keep.1 hb.size, fun j hj hne => (hb.block j (Nat.lt_of_lt_of_le hj h.keep.1)).trans (h.keep.2 j hj hne)⟩, fun a => (h.m0 a).below hb, fun a b => let ⟨s, x, y, z⟩ := h.m1 a b; ⟨s, x, y, StampAt.below z hb⟩, fun a => let ⟨F', x, y⟩ := h.m2 a; ⟨F', x.below hb, y⟩⟩
theorem MG.turn (h : MG me w0 r F k n nv L w f) {w' : World} (ht : Turn r w w') : Below r w0 w' ∧ KeepBut (some r) w0 w' :=
  ⟨h.bel.trans (ht.below (Nat.le_refl _)), ⟨Nat.le_trans h.keep.1 ht.keep.1, fun j hj hne => (ht.keep.2 j (Nat.lt_of_lt_of_le hj h.keep.1) hne).trans (h.keep.2 j hj hne)⟩⟩
theorem zero_int (w : World) : (zeroValue 3).run Try.prog w = .ok (.int .i64 0) w := rfl
theorem map_und : Try.prog.underlying 34 = some (.map 36 3) := Try.underlying34
theorem MG.entry (h : MG me w0 r F k n nv L w f) (hF : (F k).getD (.int .i64 0) = .int .i64 n) (hL : L me = false) (hL1 : L (me + 1) = false) (hL2 : L (me + 2) = false) :
    ∃ b w', (Instr.mapEntry 34 (.map (some r)) (ikey k)).run Try.prog w = .ok (.tuple #[.int .i64 n, goInt (b : Nat)]) w' ∧ MG me w0 r F k n nv (fun j => j == me || L j) w' (upd f me (.tuple #[.int .i64 n, goInt (b : Nat)])) := by
  obtain ⟨b, w', h1, h2, h3⟩ := run_entry_k ikey_ok map_und (h.m0 hL) k (zero_int w)
  rw [hF] at h1 h3
  refine ⟨b, w', h1, (h.turn h2).1, (h.turn h2).2, fun a => by simp at a, fun _ _ => ⟨b, upd_same _ _ _, fun a => by simp [hL1] at a, h3⟩, fun a => by simp [hL2] at a⟩
theorem MG.stamp (h : MG me w0 r F k n nv L w f) (hL : L me = true) (hL2 : L (me + 2) = false) :
    ∃ b : Nat, f me = .tuple #[.int .i64 n, goInt b] ∧ MG me w0 r F k n nv (fun j => j == me + 1 || L j) w (upd f (me + 1) (goInt b)) := by
  obtain ⟨b, x, _, z⟩ := h.m1 hL hL2
  refine ⟨b, x, h.bel, h.keep, fun a => by simp [hL] at a, fun _ _ => ⟨b, by rw [upd_ne _ _ _ _ (by omega)]; exact x, fun _ => upd_same _ _ _, z⟩, fun a => by simp [hL2] at a⟩
theorem MG.store (h : MG me w0 r F k n nv L w f) (hL : L me = true) (hL1 : L (me + 1) = true) (hL2 : L (me + 2) = false) :
    ∃ b : Nat, f (me + 1) = goInt b ∧ ∃ w', (Instr.entryStore 34 (.map (some r)) (goInt (b : Nat)) (.int .i64 nv)).run Try.prog w = .ok () w' ∧ MG me w0 r F k n nv (fun j => j == me + 2 || L j) w' (upd f (me + 2) undef) := by
  obtain ⟨b, x, y, z⟩ := h.m1 hL hL2
  obtain ⟨w', h1, h2, h3⟩ := run_store_k (mt := 34) ikey_ok z (.int .i64 nv)
  refine ⟨b, y hL1, w', h1, (h.turn h2).1, (h.turn h2).2, fun a => by simp [hL] at a, fun _ a => by simp at a, fun _ => ⟨_, h3, fun q => ?_⟩⟩
  by_cases hq : q = k <;> simp [hq]
theorem MG.look (h : MG me w0 r F k n nv L w f) (hF : (F k).getD (.int .i64 0) = .int .i64 n) (hL2 : L (me + 2) = false) : (Instr.lookup 34 (.map (some r)) (ikey k) false).run Try.prog w = .ok (.int .i64 n) w := by
  cases hL : L me with
  | false => rw [← hF]; exact run_lookup_k ikey_ok map_und (h.m0 hL) k (zero_int w)
  | true =>
    obtain ⟨b, _, _, z⟩ := h.m1 hL hL2
    have := run_lookup_k ikey_ok map_und z.map k (zero_int w)
    simpa using this
theorem cnt_lookup {w : World} {r : Nat} {F : IK → Option Value} (h : MapAt ikey w r F) (k : IK) : (Instr.lookup 34 (.map (some r)) (ikey k) false).run Try.prog w = .ok ((F k).getD (.int .i64 0)) w := run_lookup_k ikey_ok map_und h k (zero_int w)
end
/-- a region that ends with an item more: clone (5), row of one (7), append (8), assign (9) -/
structure AI (w0 : World) (B : Nat) (ov : Value) (n : Nat) (X : List Value) (x : It) (L : Nat → Bool) (w : World) (f : Nat → Value) : Prop where
  bel : Below B w0 w
  siz : w0.heap.size ≤ w.heap.size
  keep : KeepBut ov.ownBlock w0 w
  own : L 8 = false → w.ownsRow B 26 2 ov n X
  cl : L 5 = true → ∃ A c, f 5 = .slice A x.b.length c ∧ Rc w A (bs x.b) ∧ x.b.length ≤ c ∧ ∀ a, A = some a → w0.heap.size ≤ a.block ∧ a.block < w.heap.size
  b6 : L 6 = true → f 6 = .agg #[.int .i64 x.at_, f 5]
  row : L 7 = true → L 8 = false → ∃ g, f 7 = .slice (some ⟨g, 0, none⟩) 1 1 ∧ w0.heap.size ≤ g ∧ Blk w g 26 [.int .i64 x.at_, f 5]
  out : L 8 = true → w.ownsRow B 26 2 (f 8) (n + 1) (X ++ [.int .i64 x.at_, f 5]) ∧ (∀ p, (f 8).ownBlock = some p → some p = ov.ownBlock ∨ w0.heap.size ≤ p) ∧ ∀ a q c, f 5 = .slice (some a) q c → some a.block ≠ (f 8).ownBlock
  lt : ∀ p, ov.ownBlock = some p → p < w0.heap.size
  fin : L 9 = true → f 9 = f 8
section
variable {w0 : World} {B : Nat} {ov : Value} {n : Nat} {X : List Value} {x : It} {L : Nat → Bool} {w : World} {f : Nat → Value}
theorem AI.start (h : w0.ownsRow B 26 2 ov n X) (hB : B ≤ w0.heap.size) (f : Nat → Value) : AI w0 B ov n X x (fun _ => false) w0.drew f :=
  ⟨(Below.refl _ _).drew, Nat.le_refl _, .of_below ((Below.refl _ _).drew) _, fun _ => own_below h ((Below.refl _ _).drew), nofun, nofun, nofun, nofun, fun p hp => (own_lt h p hp).2, nofun⟩
theorem AI.past (h : AI w0 B ov n X x L w f) (q : Nat) (v : Value) (h1 : q ≠ 5) (h6 : q ≠ 6) (h2 : q ≠ 7) (h3 : q ≠ 8) (h4 : q ≠ 9) : AI w0 B ov n X x (fun j => j == q || L j) w (upd f q v) := by
  have e1 : (5 == q || L 5) = L 5 := by simp [Ne.symm h1]
  have e6 : (6 == q || L 6) = L 6 := by simp [Ne.symm h6]
  have e2 : (7 == q || L 7) = L 7 := by simp [Ne.symm h2]
  have e3 : (8 == q || L 8) = L 8 := by simp [Ne.symm h3]
  have e4 : (9 == q || L 9) = L 9 := by simp [Ne.symm h4]
  refine ⟨h.bel, h.siz, h.keep, fun a => h.own (e3 ▸ a), fun a => ?_, fun a => ?_, fun a b => ?_, fun a => ?_, h.lt, fun a => ?_⟩
  · rw [upd_ne _ _ _ _ (Ne.symm h1)]; exact h.cl (e1 ▸ a)
  · rw [upd_ne _ _ _ _ (Ne.symm h1), upd_ne _ _ _ _ (Ne.symm h6)]; exact h.b6 (e6 ▸ a)
  · rw [upd_ne _ _ _ _ (Ne.symm h1), upd_ne _ _ _ _ (Ne.symm h2)]; exact h.row (e2 ▸ a) (e3 ▸ b)
  · rw [upd_ne _ _ _ _ (Ne.symm h1), upd_ne _ _ _ _ (Ne.symm h3)]; exact h.out (e3 ▸ a)
  · rw [upd_ne _ _ _ _ (Ne.symm h3), upd_ne _ _ _ _ (Ne.symm h4)]; exact h.fin (e4 ▸ a)
theorem AI.clone (h : AI w0 B ov n X x L w f) (hL6 : L 6 = false) (hL7 : L 7 = false) (hL8 : L 8 = false) (hL9 : L 9 = false) {w' : World} {v : Value} (ho : w'.ownsRow w.heap.size 5 1 v x.b.length (bs x.b)) (hb : Below w.heap.size w w') (hB : B ≤ w.heap.size) : AI w0 B ov n X x (fun j => j == 5 || L j) w' (upd f 5 v) := by
  obtain ⟨A, c, rfl, h1, h2, h3⟩ := own_rc ho
  refine ⟨below_then h.bel hB hb, Nat.le_trans h.siz hb.size, ⟨Nat.le_trans h.keep.1 hb.size, fun j hj hne => (hb.block j (Nat.lt_of_lt_of_le hj h.keep.1)).trans (h.keep.2 j hj hne)⟩, fun a => own_below (h.own (by simpa using a)) hb, fun _ => ?_, fun a => ?_, fun a => ?_, fun a => ?_, h.lt, fun a => ?_⟩
  · rw [upd_same]; exact ⟨A, c, rfl, h2, h1, fun a ha => ⟨Nat.le_trans h.siz (h3 a ha).1, (h3 a ha).2⟩⟩
  · simp [hL6] at a
  · simp [hL7] at a
  · simp [hL8] at a
  · simp [hL9] at a
theorem AI.built (h : AI w0 B ov n X x L w f) (hL8 : L 8 = false) (hL9 : L 9 = false) (hB : B ≤ w.heap.size) : AI w0 B ov n X x (fun j => j == 7 || L j) (w.alloc (.cells #[.int .i64 x.at_, f 5] 26)) (upd f 7 (.slice (some ⟨w.heap.size, 0, none⟩) 1 1)) := by
  have hb := (Below.refl w.heap.size w).alloc (Nat.le_refl _) (.cells #[.int .i64 x.at_, f 5] 26)
  refine ⟨below_then h.bel hB hb, Nat.le_trans h.siz hb.size, ⟨Nat.le_trans h.keep.1 hb.size, fun j hj hne => (hb.block j (Nat.lt_of_lt_of_le hj h.keep.1)).trans (h.keep.2 j hj hne)⟩, fun a => own_below (h.own (by simpa using a)) hb, fun a => ?_, fun a => by rw [upd_ne _ _ _ _ (by decide), upd_ne _ _ _ _ (by decide)]; exact h.b6 (by simpa using a), fun _ _ => ?_, fun a => ?_, h.lt, fun a => ?_⟩
  · rw [upd_ne _ _ _ _ (by decide)]
    obtain ⟨A, c, h1, h2, h3, h4⟩ := h.cl (by simpa using a)
    exact ⟨A, c, h1, h2.below hb, h3, fun a ha => ⟨(h4 a ha).1, Nat.lt_of_lt_of_le (h4 a ha).2 hb.size⟩⟩
  · rw [upd_same, upd_ne _ _ _ _ (by decide)]
    exact ⟨_, rfl, h.siz, Blk.new w 26 [.int .i64 x.at_, f 5]⟩
  · simp [hL8] at a
  · simp [hL9] at a
theorem AI.done (h : AI w0 B ov n X x L w f) (h5 : L 5 = true) (hL : L 8 = false) (hL9 : L 9 = false) {w' : World} {v : Value} (hg : w.grownBy w' ov.ownBlock) (hat : v.ownBlock = ov.ownBlock ∨ v.ownBlock = some w.heap.size) (ho : w'.ownsRow B 26 2 v (n + 1) (X ++ [.int .i64 x.at_, f 5])) (hB : B ≤ w.heap.size) : AI w0 B ov n X x (fun j => j == 8 || L j) w' (upd f 8 v) := by
  refine ⟨below_lift h.bel hB hg (fun p hp => (own_lt (h.own hL) p hp).1), Nat.le_trans h.siz hg.size, ⟨Nat.le_trans h.keep.1 hg.size, fun j hj hne => (hg.block j (Nat.lt_of_lt_of_le hj h.keep.1) hne).trans (h.keep.2 j hj hne)⟩, fun a => by simp at a, fun a => ?_, fun a => by rw [upd_ne _ _ _ _ (by decide), upd_ne _ _ _ _ (by decide)]; exact h.b6 (by simpa using a), fun _ a => by simp at a, fun _ => ?_, h.lt, fun a => by simp [hL9] at a⟩
  · rw [upd_ne _ _ _ _ (by decide)]
    obtain ⟨A, c, h1, h2, h3, h4⟩ := h.cl (by simpa using a)
    exact ⟨A, c, h1, h2.grown hg (fun a ha e => by have := h.lt _ e.symm; have := (h4 a ha).1; omega), h3, fun a ha => ⟨(h4 a ha).1, Nat.lt_of_lt_of_le (h4 a ha).2 hg.size⟩⟩
  · rw [upd_same, upd_ne _ _ _ _ (by decide)]
    refine ⟨ho, fun p hp => ?_, fun a q c he e2 => ?_⟩
    · rcases hat with e | e
      · rw [e] at hp; exact .inl hp.symm
      · rw [e] at hp; have := Option.some.inj hp; have := h.siz; exact .inr (by omega)
    · obtain ⟨A, c', h1, _, _, h4⟩ := h.cl h5
      rw [he] at h1
      injection h1 with h1
      have h6 := h4 a h1.symm
      rcases hat with e | e
      · rw [e] at e2; have := h.lt _ e2.symm; omega
      · rw [e] at e2; have := Option.some.inj e2; omega
theorem AI.agg (h : AI w0 B ov n X x L w f) (hL7 : L 7 = false) (hL8 : L 8 = false) (hL9 : L 9 = false) : AI w0 B ov n X x (fun j => j == 6 || L j) w (upd f 6 (.agg #[.int .i64 x.at_, f 5])) := by
  refine ⟨h.bel, h.siz, h.keep, fun a => h.own (by simpa using a), fun a => ?_, fun _ => ?_, fun a => ?_, fun a => ?_, h.lt, fun a => ?_⟩
  · rw [upd_ne _ _ _ _ (by decide)]; exact h.cl (by simpa using a)
  · rw [upd_same, upd_ne _ _ _ _ (by decide)]
  · simp [hL7] at a
  · simp [hL8] at a
  · simp [hL9] at a
theorem AI.asg (h : AI w0 B ov n X x L w f) : AI w0 B ov n X x (fun j => j == 9 || L j) w (upd f 9 (f 8)) := by
  refine ⟨h.bel, h.siz, h.keep, fun a => h.own (by simpa using a), fun a => ?_, fun a => ?_, fun a b => ?_, fun a => ?_, h.lt, fun a => ?_⟩
  · rw [upd_ne _ _ _ _ (by decide)]; exact h.cl (by simpa using a)
  · rw [upd_ne _ _ _ _ (by decide), upd_ne _ _ _ _ (by decide)]; exact h.b6 (by simpa using a)
  · rw [upd_ne _ _ _ _ (by decide), upd_ne _ _ _ _ (by decide)]; exact h.row (by simpa using a) (by simpa using b)
  · rw [upd_ne _ _ _ _ (by decide), upd_ne _ _ _ _ (by decide)]; exact h.out (by simpa using a)
  · rw [upd_same, upd_ne _ _ _ _ (by decide)]
end
/-- what the regions yield -/
def V5 (r : Nat) (x : It) (n nv : Int) (i : Nat) (w : World) (v : Value) : Prop :=
  match i with
  | 0 => v = Value.map (some r)
  | 1 => v = Value.agg #[.int .i64 x.at_, .slice x.A x.b.length x.c]
  | 2 => v = ikey x.key
  | 3 => v = Value.int .i64 n
  | 4 => v = Value.int .i64 nv
  | _ => True
def V13 (r : Nat) (x : It) (n nv : Int) (i : Nat) (w : World) (v : Value) : Prop :=
  match i with
  | 0 => v = Value.map (some r)
  | 1 => v = ikey x.key
  | 2 => v = Value.int .i64 n
  | 3 => v = Value.int .i64 nv
  | _ => True
def V14 (g : Nat) (ov : Value) (x : It) (i : Nat) (w : World) (v : Value) : Prop :=
  match i with
  | 0 => v = ov
  | 1 => v = Value.pointer (some ⟨g, 0, none⟩)
  | 2 => v = Value.int .i64 x.at_
  | 3 => v = Value.pointer (some ⟨g, 1, none⟩)
  | 4 => v = Value.slice x.A x.b.length x.c
  | _ => True
theorem item_info3 : (Try.prog.info? 26).map (fun i => (i.zero, i.size, i.bytes)) = some (some (.agg #[.int .i64 0, .slice none 0 0]), 2, 32) := by kernel_rfl
theorem it_one (x : It) : ∀ u ∈ x.cells, u.oneCell' = true := by
  intro u hu; simp only [It.cells, List.mem_cons, List.not_mem_nil, or_false] at hu; rcases hu with rfl | rfl <;> rfl
theorem Rc.kept {w w' : World} {o : Option Nat} (hk : KeepBut o w w') {A : Option Addr} {cs : List Value} (h : Rc w A cs) (hne : ∀ a, A = some a → some a.block ≠ o) : Rc w' A cs :=
  h.keep fun b off hA hb => hk.2 b hb (hne _ hA)
theorem key_info : (Try.prog.info? 36).map (·.size) = some 2 := by kernel_rfl
set_option maxHeartbeats 4000000 in
theorem minus_calls (A B : Option Addr) (n m ca cb : Nat) (a b : List It) (w : World) (ha : Rc w A (its a)) (hb : Rc w B (its b)) (hA : Held w a) (hB : Held w b) (e1 : n = a.length) (e2 : m = b.length) (hn : n ≤ 1000) (hm : m ≤ 1000) (hl : ∀ x ∈ a, x.b.length ≤ 1099511627776) :
    Calls Try.prog 6 #[.slice A n ca, .slice B m cb] w (RetI (minusL (a.map It.key) (b.map It.key)) w) := by
  have HRA := Hd.mk ha
  have HRB := Hd.mk hb
  have HHA := Hd.mk hA
  have HHB := Hd.mk hB
  have E1 := Hd.mk e1
  have E2 := Hd.mk e2
  have HL := Hd.mk hl
  clear ha hb hA hB e1 e2 hl
  have hmm := @run_makeMap Try.prog
  go_enter Try.func6, Try.ntmps6
  go_wp2
  have HC0 : Hd (Cnt (w.alloc (.map #[] 0)) w.heap.size (cnt ((b.take 0).map It.key))) := ⟨_, MapAt.new w, fun k => by simp [cnt]⟩
  have HB0 : Hd (Below w.heap.size w (w.alloc (.map #[] 0))) := ⟨(Below.refl _ _).alloc (Nat.le_refl _) _⟩
  clear hmm
  go_loopw [15] (fun iv wr => ∃ i : Nat, iv = .int .i64 (i : Int) ∧ i ≤ m ∧ Hd (Below w.heap.size w wr) ∧ Hd (w.heap.size < wr.heap.size) ∧ Hd (Cnt wr w.heap.size (cnt ((b.take i).map It.key)))) (fun iv _ => m - (intOf iv).toNat)
  case atStart => exact ⟨0, rfl, Nat.zero_le _, HB0, ⟨by rw [World.size_alloc]; omega⟩, HC0⟩
  case round =>
    obtain ⟨i, rfl, hi, HW, HS, HC⟩ := hrel
    clear HC0 HB0
    by_cases hlt : i < m
    · have hil : i < b.length := by rw [← E2.out]; exact hlt
      have hil2 : (i : Int) < (m : Int) := by omega
      obtain ⟨bb, off, rfl, hbb, hr⟩ := rcK_form its_len (by decide) HRB.out (by omega)
      have hxc := hr i hil wr HW.out
      have hx1 := (HHB.out _ (List.getElem_mem hil)).1
      have hst : ∀ q, cnt ((b.take (i + 1)).map It.key) q = cnt ((b.take i).map It.key) q + if q = b[i].key then 1 else 0 := fun q => by
        rw [List.take_succ_eq_append_getElem hil, List.map_append, List.map_singleton]; exact cnt_snoc _ _ _
      obtain ⟨x, hx⟩ : ∃ x, b[i] = x := ⟨_, rfl⟩
      rw [hx] at hxc hx1 hst
      have HXC : Hd (wr.rangeAt bb (off + i * 2) [.int .i64 x.at_, .slice x.A x.b.length x.c]) := ⟨hxc⟩
      have HX := Hd.mk hx1
      have HST := Hd.mk hst
      obtain ⟨c, hc⟩ : ∃ c, cnt ((b.take i).map It.key) x.key = c := ⟨_, rfl⟩
      have hcb : c ≤ 1000 := by rw [← hc]; refine Nat.le_trans (cnt_le _ _) ?_; simp; omega
      have HCE := Hd.mk hc
      obtain ⟨F, hF, hFq⟩ := HC.out
      have hFk : (F x.key).getD (.int .i64 0) = .int .i64 (c : Nat) := by have h := hFq x.key; rw [hc] at h; exact h
      have HFQ := Hd.mk hFq
      have HFk := Hd.mk hFk
      clear hxc hx1 hst hc hr hx hFq hFk HC
      go_wp2_with (first
          | (refine wpList_ldmid rfl 26 (.tmp 17) rfl bb (off + i * 2) rfl [.int .i64 x.at_, .slice x.A x.b.length x.c] _ HXC.out Try.underlying26 rfl (item_info.trans rfl) ?_))
      have HK : Hd (Blk (wr.alloc (.cells #[.int .i64 x.at_, .slice x.A x.b.length x.c] 26)) wr.heap.size 26 [.int .i64 x.at_, .slice x.A x.b.length x.c]) := ⟨Blk.new wr 26 [.int .i64 x.at_, .slice x.A x.b.length x.c]⟩
      have HB8 : Hd (Below w.heap.size w (wr.alloc (.cells #[.int .i64 x.at_, .slice x.A x.b.length x.c] 26))) := ⟨HW.out.alloc HW.out.size _⟩
      have HS8 : Hd (w.heap.size < (wr.alloc (.cells #[.int .i64 x.at_, .slice x.A x.b.length x.c] 26)).heap.size) := ⟨by rw [World.size_alloc]; have := HS.out; omega⟩
      have HF : Hd (MapAt ikey (wr.alloc (.cells #[.int .i64 x.at_, .slice x.A x.b.length x.c] 26)) w.heap.size F) := ⟨hF.below ((Below.refl _ _).alloc (Nat.le_refl _) _)⟩
      clear hF
      change Code.wp Try.prog _ _ _ (wr.alloc (.cells #[.int .i64 x.at_, .slice x.A x.b.length x.c] 26))
      generalize (wr.alloc (.cells #[.int .i64 x.at_, .slice x.A x.b.length x.c] 26)) = w8 at *
      refine region_stp (V5 w.heap.size x (c : Int) ((c : Int) + 1)) (MG 5 w8 w.heap.size F x.key (c : Int) ((c : Int) + 1)) NoR (by kernel_rfl) (by kernel_rfl) (by kernel_rfl) (by kernel_rfl) (fun f => MG.start HF.out f) ?stab ?steps ?fin
      case stab => intro i j w1 w2 v o ho hij hwt hR h; exact h
      case steps =>
        refine StepsG.cons ?_ (StepsG.cons ?_ (StepsG.cons ?_ (StepsG.cons ?_ (StepsG.cons ?_ (StepsG.cons ?_ (StepsG.cons ?_ (StepsG.cons ?_ StepsG.nil)))))))
        · intro L f A w6 Q hL hG hsz hlow hun hnl hp
          have e5 : A.tmps.getD 5 undef = Value.map (some w.heap.size) := hlow 5 rfl
          clear hlow hun hnl hp
          refine wpOp_go rfl rfl ?_
          go_simp
          first | exact ⟨_, rfl, hG.past 0 _ (by decide) (by decide) (by decide), ⟨⟩, rfl⟩ | exact ⟨hG.past 0 _ (by decide) (by decide) (by decide), ⟨⟩, rfl⟩ | exact ⟨hG.past 0 _ (by decide) (by decide) (by decide), rfl⟩ | exact hG.past 0 _ (by decide) (by decide) (by decide) | exact ⟨hG.past 0 _ (by decide) (by decide) (by decide), ⟨⟩⟩ | exact ⟨_, rfl, hG.past 0 _ (by decide) (by decide) (by decide), ⟨⟩, trivial⟩
        · intro L f A w6 Q hL hG hsz hlow hun hnl hp
          have e7 : A.tmps.getD 7 undef = Value.pointer (some ⟨wr.heap.size, 0, none⟩) := hlow 7 rfl
          have hk1 := hG.keep.blk HK.out (fun e => by have := HS.out; have := Option.some.inj e; omega)
          clear hlow hun hnl hp
          refine wpOp_go rfl rfl (wp_load_row 26 (.tmp 7) rfl wr.heap.size e7 26 _ (0, 0) _ hk1 Try.underlying26 rfl item_info ?_)
          exact ⟨_, rfl, hG.past 1 _ (by decide) (by decide) (by decide), ⟨⟩, rfl⟩
        · intro L f A w6 Q hL hG hsz hlow hun hnl hp
          have f1 : f 1 = Value.agg #[.int .i64 x.at_, .slice x.A x.b.length x.c] := (hp 1 rfl).2.1
          have e20 : A.tmps.getD 20 undef = Value.agg #[.int .i64 x.at_, .slice x.A x.b.length x.c] := ((hp 1 rfl).2.2 20 rfl).trans f1
          have hrx := HX.out.below (HB8.out.trans hG.bel)
          have hz6 := hG.keep.1
          clear hlow hun hnl hp
          refine wpOp_go rfl rfl ?_
          go_simp
          refine (of_it x w6 hrx).mono ?_
          rintro e w7 ⟨rfl, hb⟩
          exact ⟨_, rfl, (hG.call (by have := HS8.out; omega) hb).past 2 _ (by decide) (by decide) (by decide), ⟨⟩, rfl⟩
        · intro L f A w6 Q hL hG hsz hlow hun hnl hp
          have f0 : f 0 = Value.map (some w.heap.size) := (hp 0 rfl).2.1
          have e19 : A.tmps.getD 19 undef = Value.map (some w.heap.size) := ((hp 0 rfl).2.2 19 rfl).trans f0
          have f2 : f 2 = ikey x.key := (hp 2 rfl).2.1
          have e21 : A.tmps.getD 21 undef = ikey x.key := ((hp 2 rfl).2.2 21 rfl).trans f2
          have hl := hG.look HFk.out (hnl 7 3 hL rfl)
          clear hlow hun hnl hp
          refine wpOp_go rfl rfl (wp_lkp 34 (.tmp 19) (.tmp 21) false rfl (.int .i64 (c : Int)) ?_ ⟨_, rfl, hG.past 3 _ (by decide) (by decide) (by decide), ⟨⟩, rfl⟩)
          show (Instr.lookup _ (A.tmps.getD 19 undef) (A.tmps.getD 21 undef) false).run _ w6 = _
          rw [e19, e21]
          exact hl
        · intro L f A w6 Q hL hG hsz hlow hun hnl hp
          have f3 : f 3 = Value.int .i64 (c : Int) := (hp 3 rfl).2.1
          have e22 : A.tmps.getD 22 undef = Value.int .i64 (c : Int) := ((hp 3 rfl).2.2 22 rfl).trans f3
          have hwx : IntKind.i64.wrap ((c : Int) + 1) = (c : Int) + 1 := by rw [IntKind.wrap_i64]; omega
          clear hlow hun hnl hp
          refine wpOp_go rfl rfl ?_
          go_simp
          first | exact ⟨_, rfl, hG.past 4 _ (by decide) (by decide) (by decide), ⟨⟩, rfl⟩ | exact ⟨hG.past 4 _ (by decide) (by decide) (by decide), ⟨⟩, rfl⟩ | exact ⟨hG.past 4 _ (by decide) (by decide) (by decide), rfl⟩ | exact hG.past 4 _ (by decide) (by decide) (by decide) | exact ⟨hG.past 4 _ (by decide) (by decide) (by decide), ⟨⟩⟩ | exact ⟨_, rfl, hG.past 4 _ (by decide) (by decide) (by decide), ⟨⟩, trivial⟩
        · intro L f A w6 Q hL hG hsz hlow hun hnl hp
          have f0 : f 0 = Value.map (some w.heap.size) := (hp 0 rfl).2.1
          have e19 : A.tmps.getD 19 undef = Value.map (some w.heap.size) := ((hp 0 rfl).2.2 19 rfl).trans f0
          have f2 : f 2 = ikey x.key := (hp 2 rfl).2.1
          have e21 : A.tmps.getD 21 undef = ikey x.key := ((hp 2 rfl).2.2 21 rfl).trans f2
          obtain ⟨b0, w7, h1, h2⟩ := hG.entry HFk.out hL (hnl 6 5 hL rfl) (hnl 7 5 hL rfl)
          clear hlow hun hnl hp
          refine wpOp_go rfl rfl (wp_men 34 (.tmp 19) (.tmp 21) rfl _ w7 ?_ ⟨_, rfl, h2, ⟨⟩, trivial⟩)
          show (Instr.mapEntry _ (A.tmps.getD 19 undef) (A.tmps.getD 21 undef)).run _ w6 = _
          rw [e19, e21]
          exact h1
        · intro L f A w6 Q hL hG hsz hlow hun hnl hp
          have e24 : A.tmps.getD 24 undef = f 5 := (hp 5 rfl).2.2 24 rfl
          have v5 := (hp 5 rfl).2.1
          obtain ⟨b0, hb5, h2⟩ := hG.stamp (hp 5 rfl).1 (hnl 7 6 hL rfl)
          rw [hb5] at e24
          clear hlow hun hnl hp
          refine wpOp_go rfl rfl ?_
          go_simp
          exact ⟨_, rfl, h2, ⟨⟩, trivial⟩
        · intro L f A w6 Q hL hG hsz hlow hun hnl hp
          have f0 : f 0 = Value.map (some w.heap.size) := (hp 0 rfl).2.1
          have e19 : A.tmps.getD 19 undef = Value.map (some w.heap.size) := ((hp 0 rfl).2.2 19 rfl).trans f0
          have f4 : f 4 = Value.int .i64 ((c : Int) + 1) := (hp 4 rfl).2.1
          have e23 : A.tmps.getD 23 undef = Value.int .i64 ((c : Int) + 1) := ((hp 4 rfl).2.2 23 rfl).trans f4
          have e25 : A.tmps.getD 25 undef = f 6 := (hp 6 rfl).2.2 25 rfl
          have v6 := (hp 6 rfl).2.1
          obtain ⟨b0, hb6, w7, h1, h2⟩ := hG.store (hp 5 rfl).1 (hp 6 rfl).1 hL
          rw [hb6] at e25
          clear hlow hun hnl hp
          refine wpOp_go rfl rfl (wp_est 34 (.tmp 19) (.tmp 25) (.tmp 23) rfl w7 ?_ ⟨_, rfl, h2, ⟨⟩, trivial⟩)
          show (Instr.entryStore _ (A.tmps.getD 19 undef) (A.tmps.getD 25 undef) (A.tmps.getD 23 undef)).run _ w6 = _
          rw [e19, e25, e23]
          exact h1
      case fin =>
        intro L f w9 hLL hG hV
        obtain ⟨F', hm2, hF'⟩ := hG.m2 (hLL 7 (by simp))
        have HW9 := Hd.mk (HB8.out.trans hG.bel)
        have HS9 : Hd (w.heap.size < w9.heap.size) := ⟨by have := hG.keep.1; have := HS8.out; omega⟩
        have HC9 : Hd (Cnt w9 w.heap.size (cnt ((b.take (i + 1)).map It.key))) := ⟨F', hm2, fun q => by
          rw [hF', HST.out q, HFQ.out q]
          by_cases hq : q = x.key
          · subst hq; rw [if_pos rfl, if_pos rfl, HCE.out]; rfl
          · rw [if_neg hq, if_neg hq]; rfl⟩
        clear hG hV hLL hm2 hF'
        simp only [fillD, Act.put, List.setIfInBounds_toArray, List.set_cons_zero, List.set_cons_succ]
        go_wp2_with (fail)
        go_roundw
        case rel => exact ⟨i + 1, by go_num, by omega, HW9, HS9, HC9⟩
        case measure => simp [intOf]; omega
    · obtain rfl : i = m := by omega
      have e0 : b.take i = b := by rw [E2.out]; exact List.take_length
      rw [e0] at HC
      go_wp2
      go_loopw [8, 29] (fun ov iv wr => ∃ (i : Nat) (mm : IK → Nat) (acc : List It), iv = .int .i64 (i : Int) ∧ i ≤ n ∧ Hd (Below w.heap.size w wr) ∧ Hd (w.heap.size + 1 ≤ wr.heap.size) ∧ Hd (Cnt wr w.heap.size mm) ∧ Hd (wr.ownsRow (w.heap.size + 1) 26 2 ov acc.length (its acc)) ∧ Hd (Held wr acc) ∧ Hd (∀ y ∈ acc, ∀ ad, y.A = some ad → w.heap.size < ad.block ∧ ad.block < wr.heap.size ∧ some ad.block ≠ ov.ownBlock) ∧ Hd (acc.map It.key ++ minusG ((a.drop i).map It.key) mm = minusL (a.map It.key) (b.map It.key)) ∧ Hd ((∀ q, mm q ≤ 1000) ∧ acc.length ≤ i)) (fun _ iv _ => n - (intOf iv).toNat)
      case atStart => exact ⟨0, _, [], rfl, Nat.zero_le _, HW, HS, HC, ⟨World.ownsRow_nil _ _ _ _⟩, ⟨fun x hx => by cases hx⟩, ⟨fun y hy => by cases hy⟩, ⟨rfl⟩, ⟨fun q => Nat.le_trans (cnt_le _ _) (by rw [List.length_map, ← E2.out]; exact hm), Nat.le_refl _⟩⟩
      case round =>
        clear HW HS HC e0
        obtain ⟨j, mm, acc, rfl, hj, HW, HS, HC, HO, HH, HT, HM, HQ⟩ := hrel
        generalize u8 = ov at *
        by_cases hlt : j < n
        · have hil : j < a.length := by rw [← E1.out]; exact hlt
          have hil2 : (j : Int) < (n : Int) := by omega
          obtain ⟨bb, off, rfl, hbb, hr⟩ := rcK_form its_len (by decide) HRA.out (by omega)
          have hxc := hr j hil wr HW.out
          have hx1 := (HHA.out _ (List.getElem_mem hil)).1
          have hx2 := (HHA.out _ (List.getElem_mem hil)).2
          have hxl := HL.out _ (List.getElem_mem hil)
          have hdr := List.drop_eq_getElem_cons hil
          obtain ⟨x, hx⟩ : ∃ x, a[j] = x := ⟨_, rfl⟩
          rw [hx] at hxc hx1 hx2 hxl hdr
          have hmj := HM.out
          rw [hdr, List.map_cons] at hmj
          have HMJ := Hd.mk hmj
          have HXC : Hd (wr.rangeAt bb (off + j * 2) [.int .i64 x.at_, .slice x.A x.b.length x.c]) := ⟨hxc⟩
          have HX := Hd.mk hx1
          have HXL := Hd.mk hxl
          obtain ⟨c, hc⟩ : ∃ c, mm x.key = c := ⟨_, rfl⟩
          have hcb : c ≤ 1000 := by rw [← hc]; exact HQ.out.1 _
          have HCE := Hd.mk hc
          obtain ⟨F, hF, hFq⟩ := HC.out
          have hFk : (F x.key).getD (.int .i64 0) = .int .i64 (c : Nat) := by have h := hFq x.key; rw [hc] at h; exact h
          have HF := Hd.mk hF
          have HFQ := Hd.mk hFq
          have HFk := Hd.mk hFk
          have HQL := Hd.mk (show acc.length ≤ 1000 by have := HQ.out.2; omega)
          clear hxc hx1 hx2 hxl hc hr hx hFq hFk HC hdr hmj hF HM
          have HK1 : Hd (Blk (wr.alloc (.cells #[.int .i64 x.at_, .slice x.A x.b.length x.c] 26)) wr.heap.size 26 [.int .i64 x.at_, .slice x.A x.b.length x.c]) := ⟨Blk.new wr 26 [.int .i64 x.at_, .slice x.A x.b.length x.c]⟩
          have HA8 : Hd (Below wr.heap.size wr (wr.alloc (.cells #[.int .i64 x.at_, .slice x.A x.b.length x.c] 26))) := ⟨(Below.refl _ _).alloc (Nat.le_refl _) _⟩
          have T1 : Hd True := ⟨trivial⟩
          have T2 : Hd True := ⟨trivial⟩
          have T3 : Hd True := ⟨trivial⟩
          have T4 : Hd True := ⟨trivial⟩
          by_cases hc0 : 0 < c
          · have hc1 : (0 : Int) < (c : Int) := by omega
            go_wp2_with (first
              | (clear T1; refine wpList_ldmid rfl 26 (.tmp 31) rfl bb (off + j * 2) rfl [.int .i64 x.at_, .slice x.A x.b.length x.c] _ HXC.out Try.underlying26 rfl (item_info.trans rfl) ?_)
              | (clear T2; refine wpList_load_row rfl 26 (.tmp 10) rfl wr.heap.size rfl 26 _ (0, 0) _ HK1.out Try.underlying26 rfl item_info ?_)
              | (go_at_call 11; refine (of_it x _ (HX.out.below (HW.out.trans (HA8.out.mono HW.out.size)))).mono ?_; rintro e w7 ⟨he, hb⟩; rw [show ikey x.key = Value.agg #[.int .i64 x.at_, .string ⟨x.b.toArray⟩] from rfl] at he; subst he; have HK1 := Hd.mk (HK1.out.below hb HK1.out.lt); have HA8 := Hd.mk (below_then HA8.out HA8.out.size hb); clear hb; have HK2 : Hd (Blk (w7.alloc (.cells #[.int .i64 x.at_, .string ⟨x.b.toArray⟩] 36)) w7.heap.size 36 [.int .i64 x.at_, .string ⟨x.b.toArray⟩]) := ⟨Blk.new w7 36 [.int .i64 x.at_, .string ⟨x.b.toArray⟩]⟩)
              | (clear T3; refine wpList_load_row rfl 36 (.tmp 11) rfl w7.heap.size rfl 36 _ (0, 0) _ HK2.out Try.underlying36 rfl key_info ?_)
              | (clear T4; refine wpList_lkp rfl 34 (.tmp 35) (.tmp 36) false rfl (.int .i64 (c : Int)) ((cnt_lookup ((HF.out.below HA8.out).below ((Below.refl _ _).alloc (Nat.le_refl _) _)) x.key).trans (by rw [HFk.out])) ?_))
            have HB8 : Hd (Below w.heap.size w (w7.alloc (.cells #[.int .i64 x.at_, .string ⟨x.b.toArray⟩] 36))) := ⟨(HW.out.trans (HA8.out.mono HW.out.size)).alloc (by have := HA8.out.size; have := HS.out; omega) _⟩
            have HF : Hd (MapAt ikey (w7.alloc (.cells #[.int .i64 x.at_, .string ⟨x.b.toArray⟩] 36)) w.heap.size F) := ⟨(HF.out.below HA8.out).below ((Below.refl _ _).alloc (Nat.le_refl _) _)⟩
            have HK1 := Hd.mk (HK1.out.alloc (.cells #[.int .i64 x.at_, .string ⟨x.b.toArray⟩] 36))
            have HG2 : Hd (w.heap.size < w7.heap.size) := ⟨by have := HA8.out.size; have := HS.out; omega⟩
            have HS8 : Hd (w.heap.size + 1 ≤ (w7.alloc (.cells #[.int .i64 x.at_, .string ⟨x.b.toArray⟩] 36)).heap.size) := ⟨by rw [World.size_alloc]; have := HG2.out; omega⟩
            have HW8 : Hd (Below wr.heap.size wr (w7.alloc (.cells #[.int .i64 x.at_, .string ⟨x.b.toArray⟩] 36))) := ⟨HA8.out.alloc HA8.out.size _⟩
            have HNE : Hd (some wr.heap.size ≠ ov.ownBlock) := ⟨fun e => by have := (own_lt HO.out _ e.symm).2; omega⟩
            have HO8 := Hd.mk (own_below HO.out HW8.out)
            have HH8 := Hd.mk (HH.out.below HW8.out)
            have HT8 : Hd (∀ y ∈ acc, ∀ ad, y.A = some ad → w.heap.size < ad.block ∧ ad.block < (w7.alloc (.cells #[.int .i64 x.at_, .string ⟨x.b.toArray⟩] 36)).heap.size ∧ some ad.block ≠ ov.ownBlock) := ⟨fun y hy ad h => ⟨(HT.out y hy ad h).1, Nat.lt_of_lt_of_le (HT.out y hy ad h).2.1 HW8.out.size, (HT.out y hy ad h).2.2⟩⟩
            clear HO HH HT HA8 HW
            generalize wr.heap.size = g1 at *
            generalize w7.heap.size = g2 at *
            change Code.wp Try.prog _ _ _ (w7.alloc (.cells #[.int .i64 x.at_, .string ⟨x.b.toArray⟩] 36))
            generalize (w7.alloc (.cells #[.int .i64 x.at_, .string ⟨x.b.toArray⟩] 36)) = w8 at *
            refine region_stp (V13 w.heap.size x (c : Int) ((c : Int) - 1)) (MG 4 w8 w.heap.size F x.key (c : Int) ((c : Int) - 1)) NoR (by kernel_rfl) (by kernel_rfl) (by kernel_rfl) (by kernel_rfl) (fun f => MG.start HF.out f) ?stab ?steps ?fin
            case stab => intro i j w1 w2 v o ho hij hwt hR h; exact h
            case steps =>
              refine StepsG.cons ?_ (StepsG.cons ?_ (StepsG.cons ?_ (StepsG.cons ?_ (StepsG.cons ?_ (StepsG.cons ?_ (StepsG.cons ?_ StepsG.nil))))))
              · intro L f A w6 Q hL hG hsz hlow hun hnl hp
                have e5 : A.tmps.getD 5 undef = Value.map (some w.heap.size) := hlow 5 rfl
                clear hlow hun hnl hp
                refine wpOp_go rfl rfl ?_
                go_simp
                first | exact ⟨_, rfl, hG.past 0 _ (by decide) (by decide) (by decide), ⟨⟩, rfl⟩ | exact ⟨hG.past 0 _ (by decide) (by decide) (by decide), ⟨⟩, rfl⟩ | exact ⟨hG.past 0 _ (by decide) (by decide) (by decide), rfl⟩ | exact hG.past 0 _ (by decide) (by decide) (by decide) | exact ⟨hG.past 0 _ (by decide) (by decide) (by decide), ⟨⟩⟩ | exact ⟨_, rfl, hG.past 0 _ (by decide) (by decide) (by decide), ⟨⟩, trivial⟩
              · intro L f A w6 Q hL hG hsz hlow hun hnl hp
                have e11 : A.tmps.getD 11 undef = Value.pointer (some ⟨g2, 0, none⟩) := hlow 11 rfl
                have hk1 := hG.keep.blk HK2.out (fun e => by have := HG2.out; have := Option.some.inj e; omega)
                clear hlow hun hnl hp
                refine wpOp_go rfl rfl (wp_load_row 36 (.tmp 11) rfl g2 e11 36 _ (0, 0) _ hk1 Try.underlying36 rfl key_info ?_)
                exact ⟨_, rfl, hG.past 1 _ (by decide) (by decide) (by decide), ⟨⟩, rfl⟩
              · intro L f A w6 Q hL hG hsz hlow hun hnl hp
                have f0 : f 0 = Value.map (some w.heap.size) := (hp 0 rfl).2.1
                have e39 : A.tmps.getD 39 undef = Value.map (some w.heap.size) := ((hp 0 rfl).2.2 39 rfl).trans f0
                have f1 : f 1 = ikey x.key := (hp 1 rfl).2.1
                have e40 : A.tmps.getD 40 undef = ikey x.key := ((hp 1 rfl).2.2 40 rfl).trans f1
                have hl := hG.look HFk.out (hnl 6 2 hL rfl)
                clear hlow hun hnl hp
                refine wpOp_go rfl rfl (wp_lkp 34 (.tmp 39) (.tmp 40) false rfl (.int .i64 (c : Int)) ?_ ⟨_, rfl, hG.past 2 _ (by decide) (by decide) (by decide), ⟨⟩, rfl⟩)
                show (Instr.lookup _ (A.tmps.getD 39 undef) (A.tmps.getD 40 undef) false).run _ w6 = _
                rw [e39, e40]
                exact hl
              · intro L f A w6 Q hL hG hsz hlow hun hnl hp
                have f2 : f 2 = Value.int .i64 (c : Int) := (hp 2 rfl).2.1
                have e41 : A.tmps.getD 41 undef = Value.int .i64 (c : Int) := ((hp 2 rfl).2.2 41 rfl).trans f2
                have hwx : IntKind.i64.wrap ((c : Int) - 1) = (c : Int) - 1 := by rw [IntKind.wrap_i64]; omega
                clear hlow hun hnl hp
                refine wpOp_go rfl rfl ?_
                go_simp
                first | exact ⟨_, rfl, hG.past 3 _ (by decide) (by decide) (by decide), ⟨⟩, rfl⟩ | exact ⟨hG.past 3 _ (by decide) (by decide) (by decide), ⟨⟩, rfl⟩ | exact ⟨hG.past 3 _ (by decide) (by decide) (by decide), rfl⟩ | exact hG.past 3 _ (by decide) (by decide) (by decide) | exact ⟨hG.past 3 _ (by decide) (by decide) (by decide), ⟨⟩⟩ | exact ⟨_, rfl, hG.past 3 _ (by decide) (by decide) (by decide), ⟨⟩, trivial⟩
              · intro L f A w6 Q hL hG hsz hlow hun hnl hp
                have f0 : f 0 = Value.map (some w.heap.size) := (hp 0 rfl).2.1
                have e39 : A.tmps.getD 39 undef = Value.map (some w.heap.size) := ((hp 0 rfl).2.2 39 rfl).trans f0
                have f1 : f 1 = ikey x.key := (hp 1 rfl).2.1
                have e40 : A.tmps.getD 40 undef = ikey x.key := ((hp 1 rfl).2.2 40 rfl).trans f1
                obtain ⟨b0, w7, h1, h2⟩ := hG.entry HFk.out hL (hnl 5 4 hL rfl) (hnl 6 4 hL rfl)
                clear hlow hun hnl hp
                refine wpOp_go rfl rfl (wp_men 34 (.tmp 39) (.tmp 40) rfl _ w7 ?_ ⟨_, rfl, h2, ⟨⟩, trivial⟩)
                show (Instr.mapEntry _ (A.tmps.getD 39 undef) (A.tmps.getD 40 undef)).run _ w6 = _
                rw [e39, e40]
                exact h1
              · intro L f A w6 Q hL hG hsz hlow hun hnl hp
                have e43 : A.tmps.getD 43 undef = f 4 := (hp 4 rfl).2.2 43 rfl
                have v4 := (hp 4 rfl).2.1
                obtain ⟨b0, hb5, h2⟩ := hG.stamp (hp 4 rfl).1 (hnl 6 5 hL rfl)
                rw [hb5] at e43
                clear hlow hun hnl hp
                refine wpOp_go rfl rfl ?_
                go_simp
                exact ⟨_, rfl, h2, ⟨⟩, trivial⟩
              · intro L f A w6 Q hL hG hsz hlow hun hnl hp
                have f0 : f 0 = Value.map (some w.heap.size) := (hp 0 rfl).2.1
                have e39 : A.tmps.getD 39 undef = Value.map (some w.heap.size) := ((hp 0 rfl).2.2 39 rfl).trans f0
                have f3 : f 3 = Value.int .i64 ((c : Int) - 1) := (hp 3 rfl).2.1
                have e42 : A.tmps.getD 42 undef = Value.int .i64 ((c : Int) - 1) := ((hp 3 rfl).2.2 42 rfl).trans f3
                have e44 : A.tmps.getD 44 undef = f 5 := (hp 5 rfl).2.2 44 rfl
                have v5 := (hp 5 rfl).2.1
                obtain ⟨b0, hb6, w7, h1, h2⟩ := hG.store (hp 4 rfl).1 (hp 5 rfl).1 hL
                rw [hb6] at e44
                clear hlow hun hnl hp
                refine wpOp_go rfl rfl (wp_est 34 (.tmp 39) (.tmp 44) (.tmp 42) rfl w7 ?_ ⟨_, rfl, h2, ⟨⟩, trivial⟩)
                show (Instr.entryStore _ (A.tmps.getD 39 undef) (A.tmps.getD 44 undef) (A.tmps.getD 42 undef)).run _ w6 = _
                rw [e39, e44, e42]
                exact h1
            case fin =>
              intro L f w9 hLL hG hV
              obtain ⟨F', hm2, hF'⟩ := hG.m2 (hLL 6 (by simp))
              have HW9 := Hd.mk (HB8.out.trans hG.bel)
              have HS9 : Hd (w.heap.size + 1 ≤ w9.heap.size) := ⟨by have := hG.keep.1; have := HS8.out; omega⟩
              have HC9 : Hd (Cnt w9 w.heap.size (fun q => if q = x.key then mm q - 1 else mm q)) := ⟨F', hm2, fun q => by
                rw [hF', HFQ.out q]
                show _ = Value.int .i64 ((if q = x.key then mm q - 1 else mm q : Nat) : Int)
                by_cases hq : q = x.key
                · subst hq
                  have := HCE.out
                  rw [if_pos rfl, if_pos rfl]
                  congr 1
                  omega
                · rw [if_neg hq, if_neg hq]⟩
              have HO9 := Hd.mk (hG.keep.own HO8.out (fun k hk e => by have := (own_lt HO8.out k hk).1; have := Option.some.inj e; omega))
              have HH9 : Hd (Held w9 acc) := ⟨fun y hy => ⟨Rc.kept hG.keep (HH8.out y hy).1 (fun ad h e => by have := (HT8.out y hy ad h).1; have := Option.some.inj e; omega), (HH8.out y hy).2⟩⟩
              have HT9 : Hd (∀ y ∈ acc, ∀ ad, y.A = some ad → w.heap.size < ad.block ∧ ad.block < w9.heap.size ∧ some ad.block ≠ ov.ownBlock) := ⟨fun y hy ad h => ⟨(HT8.out y hy ad h).1, Nat.lt_of_lt_of_le (HT8.out y hy ad h).2.1 hG.keep.1, (HT8.out y hy ad h).2.2⟩⟩
              have hmj := HMJ.out
              rw [minusG_pos (by rw [HCE.out]; exact hc0)] at hmj
              have HM9 := Hd.mk hmj
              clear hG hV hLL hm2 hF' hmj
              simp only [fillD, Act.put, List.setIfInBounds_toArray, List.set_cons_zero, List.set_cons_succ]
              go_wp2_with (fail)
              go_roundw
              case rel => exact ⟨j + 1, _, acc, by go_num, by omega, HW9, HS9, HC9, HO9, HH9, HT9, HM9, ⟨fun q => by have := HQ.out.1 q; show (if q = x.key then mm q - 1 else mm q) ≤ 1000; split <;> omega, Nat.le_succ_of_le HQ.out.2⟩⟩
              case measure => simp [intOf]; omega
          · have hc1 : ¬ (0 : Int) < (c : Int) := by omega
            have hc2 : c = 0 := by omega
            have HC2 := Hd.mk hc2
            clear hc2
            go_wp2_with (first
              | (clear T1; refine wpList_ldmid rfl 26 (.tmp 31) rfl bb (off + j * 2) rfl [.int .i64 x.at_, .slice x.A x.b.length x.c] _ HXC.out Try.underlying26 rfl (item_info.trans rfl) ?_)
              | (clear T2; refine wpList_load_row rfl 26 (.tmp 10) rfl wr.heap.size rfl 26 _ (0, 0) _ HK1.out Try.underlying26 rfl item_info ?_)
              | (go_at_call 11; refine (of_it x _ (HX.out.below (HW.out.trans (HA8.out.mono HW.out.size)))).mono ?_; rintro e w7 ⟨he, hb⟩; rw [show ikey x.key = Value.agg #[.int .i64 x.at_, .string ⟨x.b.toArray⟩] from rfl] at he; subst he; have HK1 := Hd.mk (HK1.out.below hb HK1.out.lt); have HA8 := Hd.mk (below_then HA8.out HA8.out.size hb); clear hb; have HK2 : Hd (Blk (w7.alloc (.cells #[.int .i64 x.at_, .string ⟨x.b.toArray⟩] 36)) w7.heap.size 36 [.int .i64 x.at_, .string ⟨x.b.toArray⟩]) := ⟨Blk.new w7 36 [.int .i64 x.at_, .string ⟨x.b.toArray⟩]⟩)
              | (clear T3; refine wpList_load_row rfl 36 (.tmp 11) rfl w7.heap.size rfl 36 _ (0, 0) _ HK2.out Try.underlying36 rfl key_info ?_)
              | (clear T4; refine wpList_lkp rfl 34 (.tmp 35) (.tmp 36) false rfl (.int .i64 (c : Int)) ((cnt_lookup ((HF.out.below HA8.out).below ((Below.refl _ _).alloc (Nat.le_refl _) _)) x.key).trans (by rw [HFk.out])) ?_))
            have HB8 : Hd (Below w.heap.size w (w7.alloc (.cells #[.int .i64 x.at_, .string ⟨x.b.toArray⟩] 36))) := ⟨(HW.out.trans (HA8.out.mono HW.out.size)).alloc (by have := HA8.out.size; have := HS.out; omega) _⟩
            have HF : Hd (MapAt ikey (w7.alloc (.cells #[.int .i64 x.at_, .string ⟨x.b.toArray⟩] 36)) w.heap.size F) := ⟨(HF.out.below HA8.out).below ((Below.refl _ _).alloc (Nat.le_refl _) _)⟩
            have HK1 := Hd.mk (HK1.out.alloc (.cells #[.int .i64 x.at_, .string ⟨x.b.toArray⟩] 36))
            have HG2 : Hd (w.heap.size < w7.heap.size) := ⟨by have := HA8.out.size; have := HS.out; omega⟩
            have HS8 : Hd (w.heap.size + 1 ≤ (w7.alloc (.cells #[.int .i64 x.at_, .string ⟨x.b.toArray⟩] 36)).heap.size) := ⟨by rw [World.size_alloc]; have := HG2.out; omega⟩
            have HW8 : Hd (Below wr.heap.size wr (w7.alloc (.cells #[.int .i64 x.at_, .string ⟨x.b.toArray⟩] 36))) := ⟨HA8.out.alloc HA8.out.size _⟩
            have HNE : Hd (some wr.heap.size ≠ ov.ownBlock) := ⟨fun e => by have := (own_lt HO.out _ e.symm).2; omega⟩
            have HO8 := Hd.mk (own_below HO.out HW8.out)
            have HH8 := Hd.mk (HH.out.below HW8.out)
            have HT8 : Hd (∀ y ∈ acc, ∀ ad, y.A = some ad → w.heap.size < ad.block ∧ ad.block < (w7.alloc (.cells #[.int .i64 x.at_, .string ⟨x.b.toArray⟩] 36)).heap.size ∧ some ad.block ≠ ov.ownBlock) := ⟨fun y hy ad h => ⟨(HT.out y hy ad h).1, Nat.lt_of_lt_of_le (HT.out y hy ad h).2.1 HW8.out.size, (HT.out y hy ad h).2.2⟩⟩
            clear HO HH HT HA8 HW
            generalize wr.heap.size = g1 at *
            generalize w7.heap.size = g2 at *
            change Code.wp Try.prog _ _ _ (w7.alloc (.cells #[.int .i64 x.at_, .string ⟨x.b.toArray⟩] 36))
            generalize (w7.alloc (.cells #[.int .i64 x.at_, .string ⟨x.b.toArray⟩] 36)) = w8 at *
            obtain ⟨q, hq⟩ : ∃ q, acc.length = q := ⟨_, rfl⟩
            obtain ⟨X, hX⟩ : ∃ X, its acc = X := ⟨_, rfl⟩
            have HO8 := HO8
            rw [hq, hX] at HO8
            have hqb : q ≤ 1000 := by rw [← hq]; exact HQL.out
            refine region_stp (V14 g1 ov x) (AI w8 (w.heap.size + 1) ov q X x) NoR (by kernel_rfl) (by kernel_rfl) (by kernel_rfl) (by kernel_rfl) (fun f => AI.start HO8.out HS8.out f) ?stab ?steps ?fin
            case stab => intro i j w1 w2 v o ho hij hwt hR h; exact h
            case steps =>
              refine StepsG.cons ?_ (StepsG.cons ?_ (StepsG.cons ?_ (StepsG.cons ?_ (StepsG.cons ?_ (StepsG.cons ?_ (StepsG.cons ?_ (StepsG.cons ?_ (StepsG.cons ?_ (StepsG.cons ?_ StepsG.nil)))))))))
              · intro L f A w6 Q hL hG hsz hlow hun hnl hp
                have e8 : A.tmps.getD 8 undef = ov := hun 9 8 rfl
                clear hlow hun hnl hp
                refine wpOp_go rfl rfl ?_
                go_simp
                first | exact ⟨_, rfl, hG.past 0 _ (by decide) (by decide) (by decide) (by decide) (by decide), ⟨⟩, rfl⟩ | exact ⟨hG.past 0 _ (by decide) (by decide) (by decide) (by decide) (by decide), ⟨⟩, rfl⟩ | exact ⟨hG.past 0 _ (by decide) (by decide) (by decide) (by decide) (by decide), rfl⟩ | exact hG.past 0 _ (by decide) (by decide) (by decide) (by decide) (by decide) | exact ⟨hG.past 0 _ (by decide) (by decide) (by decide) (by decide) (by decide), ⟨⟩⟩ | exact ⟨_, rfl, hG.past 0 _ (by decide) (by decide) (by decide) (by decide) (by decide), ⟨⟩, trivial⟩
              · intro L f A w6 Q hL hG hsz hlow hun hnl hp
                have e10 : A.tmps.getD 10 undef = Value.pointer (some ⟨g1, 0, none⟩) := hlow 10 rfl
                clear hlow hun hnl hp
                refine wpOp_go rfl rfl ?_
                go_simp
                first | exact ⟨_, rfl, hG.past 1 _ (by decide) (by decide) (by decide) (by decide) (by decide), ⟨⟩, rfl⟩ | exact ⟨hG.past 1 _ (by decide) (by decide) (by decide) (by decide) (by decide), ⟨⟩, rfl⟩ | exact ⟨hG.past 1 _ (by decide) (by decide) (by decide) (by decide) (by decide), rfl⟩ | exact hG.past 1 _ (by decide) (by decide) (by decide) (by decide) (by decide) | exact ⟨hG.past 1 _ (by decide) (by decide) (by decide) (by decide) (by decide), ⟨⟩⟩ | exact ⟨_, rfl, hG.past 1 _ (by decide) (by decide) (by decide) (by decide) (by decide), ⟨⟩, trivial⟩
              · intro L f A w6 Q hL hG hsz hlow hun hnl hp
                have f1 : f 1 = Value.pointer (some ⟨g1, 0, none⟩) := (hp 1 rfl).2.1
                have e46 : A.tmps.getD 46 undef = Value.pointer (some ⟨g1, 0, none⟩) := ((hp 1 rfl).2.2 46 rfl).trans f1
                have hc0 := (hG.keep.blk HK1.out (fun e => HNE.out (by rw [e]))).cell (i := 0) rfl
                clear hlow hun hnl hp
                refine wpOp_go rfl rfl ?_
                go_simp
                first | exact ⟨_, rfl, hG.past 2 _ (by decide) (by decide) (by decide) (by decide) (by decide), ⟨⟩, rfl⟩ | exact ⟨hG.past 2 _ (by decide) (by decide) (by decide) (by decide) (by decide), ⟨⟩, rfl⟩ | exact ⟨hG.past 2 _ (by decide) (by decide) (by decide) (by decide) (by decide), rfl⟩ | exact hG.past 2 _ (by decide) (by decide) (by decide) (by decide) (by decide) | exact ⟨hG.past 2 _ (by decide) (by decide) (by decide) (by decide) (by decide), ⟨⟩⟩ | exact ⟨_, rfl, hG.past 2 _ (by decide) (by decide) (by decide) (by decide) (by decide), ⟨⟩, trivial⟩
              · intro L f A w6 Q hL hG hsz hlow hun hnl hp
                have e10 : A.tmps.getD 10 undef = Value.pointer (some ⟨g1, 0, none⟩) := hlow 10 rfl
                clear hlow hun hnl hp
                refine wpOp_go rfl rfl ?_
                go_simp
                first | exact ⟨_, rfl, hG.past 3 _ (by decide) (by decide) (by decide) (by decide) (by decide), ⟨⟩, rfl⟩ | exact ⟨hG.past 3 _ (by decide) (by decide) (by decide) (by decide) (by decide), ⟨⟩, rfl⟩ | exact ⟨hG.past 3 _ (by decide) (by decide) (by decide) (by decide) (by decide), rfl⟩ | exact hG.past 3 _ (by decide) (by decide) (by decide) (by decide) (by decide) | exact ⟨hG.past 3 _ (by decide) (by decide) (by decide) (by decide) (by decide), ⟨⟩⟩ | exact ⟨_, rfl, hG.past 3 _ (by decide) (by decide) (by decide) (by decide) (by decide), ⟨⟩, trivial⟩
              · intro L f A w6 Q hL hG hsz hlow hun hnl hp
                have f3 : f 3 = Value.pointer (some ⟨g1, 1, none⟩) := (hp 3 rfl).2.1
                have e48 : A.tmps.getD 48 undef = Value.pointer (some ⟨g1, 1, none⟩) := ((hp 3 rfl).2.2 48 rfl).trans f3
                have hc1 := (hG.keep.blk HK1.out (fun e => HNE.out (by rw [e]))).cell (i := 1) rfl
                clear hlow hun hnl hp
                refine wpOp_go rfl rfl ?_
                go_simp
                first | exact ⟨_, rfl, hG.past 4 _ (by decide) (by decide) (by decide) (by decide) (by decide), ⟨⟩, rfl⟩ | exact ⟨hG.past 4 _ (by decide) (by decide) (by decide) (by decide) (by decide), ⟨⟩, rfl⟩ | exact ⟨hG.past 4 _ (by decide) (by decide) (by decide) (by decide) (by decide), rfl⟩ | exact hG.past 4 _ (by decide) (by decide) (by decide) (by decide) (by decide) | exact ⟨hG.past 4 _ (by decide) (by decide) (by decide) (by decide) (by decide), ⟨⟩⟩ | exact ⟨_, rfl, hG.past 4 _ (by decide) (by decide) (by decide) (by decide) (by decide), ⟨⟩, trivial⟩
              · intro L f A w6 Q hL hG hsz hlow hun hnl hp
                have f4 : f 4 = Value.slice x.A x.b.length x.c := (hp 4 rfl).2.1
                have e49 : A.tmps.getD 49 undef = Value.slice x.A x.b.length x.c := ((hp 4 rfl).2.2 49 rfl).trans f4
                have n6 := (hnl 6 5 hL rfl)
                have n7 := (hnl 7 6 (hnl 6 5 hL rfl) rfl)
                have n8 := (hnl 8 5 hL rfl)
                have n9 := (hnl 9 5 hL rfl)
                have hrx := HX.out.below (HB8.out.trans (hG.bel.mono (by omega)))
                have hz6 := hG.siz
                clear hlow hun hnl hp
                refine wpOp_go rfl rfl (wp_app w6.heap.size 24 5 (.int .u8 0) 1 1 (.const (.slice none 0 0)) (.tmp 49) rfl Try.underlying24 info_u8 rfl (by decide) (by decide) (.slice none 0 0) 0 [] (bs x.b) x.A x.b.length x.c rfl e49 (World.ownsRow_nil _ _ _ _) hrx (by simp) bs_one (Nat.le_refl _) (by have := HXL.out; omega) x.b.length (bs x.b) (by omega) (by simp) ?_)
                intro v1 w7 ho hg hat
                exact ⟨v1, rfl, hG.clone n6 n7 n8 n9 ho (below_nil hg) (by have := HS8.out; omega), ⟨⟩, trivial⟩
              · intro L f A w6 Q hL hG hsz hlow hun hnl hp
                have f2 : f 2 = Value.int .i64 x.at_ := (hp 2 rfl).2.1
                have e47 : A.tmps.getD 47 undef = Value.int .i64 x.at_ := ((hp 2 rfl).2.2 47 rfl).trans f2
                have e50 : A.tmps.getD 50 undef = f 5 := (hp 5 rfl).2.2 50 rfl
                have v5 := (hp 5 rfl).2.1
                have n7 := (hnl 7 6 hL rfl)
                have n8 := (hnl 8 7 (hnl 7 6 hL rfl) rfl)
                have n9 := (hnl 9 6 hL rfl)
                have hA := hG.agg n7 n8 n9
                obtain ⟨A5, c5, h5, _⟩ := hG.cl (hp 5 rfl).1
                rw [h5] at e50 hA
                clear hlow hun hnl hp
                refine wpOp_go rfl rfl (wp_bld 26 #[(0, .tmp 47), (1, .tmp 50)] rfl #[(0, .int .i64 x.at_), (1, .slice A5 x.b.length c5)] (by simp only [List.map_toArray, List.map_cons, List.map_nil, Act.eval, e47, e50]) (.agg #[.int .i64 x.at_, .slice A5 x.b.length c5]) (run_build _ _ _ _ rfl) ?_)
                exact ⟨_, rfl, hA, ⟨⟩, trivial⟩
              · intro L f A w6 Q hL hG hsz hlow hun hnl hp
                have e51 : A.tmps.getD 51 undef = f 6 := (hp 6 rfl).2.2 51 rfl
                have v6 := (hp 6 rfl).2.1
                have n8 := (hnl 8 7 hL rfl)
                have n9 := (hnl 9 7 hL rfl)
                have hA := hG.built n8 n9 (by have := HS8.out; have := hG.siz; omega)
                have h6 := hG.b6 (hp 6 rfl).1
                have l5 : L 5 = true := by
                  cases h : L 5 with
                  | true => rfl
                  | false => have := hnl 6 5 h rfl; rw [(hp 6 rfl).1] at this; cases this
                obtain ⟨A5, c5, h5, _⟩ := hG.cl l5
                rw [h6, h5] at e51
                rw [h5] at hA
                clear hlow hun hnl hp
                refine wpOp_go rfl rfl (wp_bsl 22 1 #[(0, .tmp 51)] rfl #[(0, .agg #[.int .i64 x.at_, .slice A5 x.b.length c5])] (by simp only [List.map_toArray, List.map_cons, List.map_nil, Act.eval, e51]) (.slice (some ⟨w6.heap.size, 0, none⟩) 1 1) (w6.alloc (.cells #[.int .i64 x.at_, .slice A5 x.b.length c5] 26)) (by go_simp) ?_)
                exact ⟨_, rfl, hA, ⟨⟩, trivial⟩
              · intro L f A w6 Q hL hG hsz hlow hun hnl hp
                have f0 : f 0 = ov := (hp 0 rfl).2.1
                have e45 : A.tmps.getD 45 undef = ov := ((hp 0 rfl).2.2 45 rfl).trans f0
                have e52 : A.tmps.getD 52 undef = f 7 := (hp 7 rfl).2.2 52 rfl
                have v7 := (hp 7 rfl).2.1
                have n9 := (hnl 9 8 hL rfl)
                obtain ⟨g7, h7, hg7, hb7⟩ := hG.row (hp 7 rfl).1 hL
                rw [h7] at e52
                have h5 := (hp 5 rfl).1
                obtain ⟨A5, c5, h55, _⟩ := hG.cl h5
                clear hlow hun hnl hp
                refine wpOp_go rfl rfl (wp_app (w.heap.size + 1) 22 26 (.agg #[.int .i64 0, .slice none 0 0]) 2 32 (.tmp 45) (.tmp 52) rfl Try.underlying22 item_info3 rfl (by decide) (by decide) ov q X [.int .i64 x.at_, f 5] (some ⟨g7, 0, none⟩) 1 1 e45 e52 (hG.own hL) hb7.rc rfl (by rw [h55]; simp [Value.oneCell']) (by have := HS8.out; have := hG.siz; omega) (by omega) (q + 1) (X ++ [.int .i64 x.at_, f 5]) rfl rfl ?_)
                intro v1 w7 ho hg hat
                exact ⟨v1, rfl, hG.done h5 hL n9 hg hat ho (by have := HS8.out; have := hG.siz; omega), ⟨⟩, trivial⟩
              · intro L f A w6 Q hL hG hsz hlow hun hnl hp
                have e53 : A.tmps.getD 53 undef = f 8 := (hp 8 rfl).2.2 53 rfl
                have v8 := (hp 8 rfl).2.1
                clear hlow hun hnl hp
                refine wpOp_go rfl rfl ?_
                go_simp
                exact ⟨_, rfl, hG.asg, ⟨⟩, trivial⟩
            case fin =>
              intro L f w9 hLL hG hV
              obtain ⟨A5, c5, h5, hr5, hc5, hb5⟩ := hG.cl (hLL 5 (by simp))
              obtain ⟨ho, hob, hne⟩ := hG.out (hLL 8 (by simp))
              have h9 := hG.fin (hLL 9 (by simp))
              have HFR : Hd (MapAt ikey w9 w.heap.size F) := by
                obtain ⟨es, clock, x1, x2⟩ := HF.out
                exact ⟨es, clock, (hG.keep.2 _ (by have := HS8.out; omega) (fun e => by have := (own_lt HO8.out _ e.symm).1; omega)).trans x1, x2⟩
              have HC9 : Hd (Cnt w9 w.heap.size mm) := ⟨F, HFR.out, HFQ.out⟩
              have HW9 := Hd.mk (HB8.out.trans (hG.bel.mono (by omega)))
              have HS9 : Hd (w.heap.size + 1 ≤ w9.heap.size) := ⟨by have := hG.siz; have := HS8.out; omega⟩
              obtain ⟨acc2, hacc2⟩ : ∃ l, acc ++ [⟨x.at_, A5, x.b, c5⟩] = l := ⟨_, rfl⟩
              obtain ⟨v9, hv9⟩ : ∃ v, f 9 = v := ⟨_, rfl⟩
              rw [← h9, hv9] at ho hob hne
              have HO9 : Hd (w9.ownsRow (w.heap.size + 1) 26 2 v9 acc2.length (its acc2)) := ⟨by
                rw [← hacc2, List.length_append, hq]
                have e : its (acc ++ [⟨x.at_, A5, x.b, c5⟩]) = X ++ [.int .i64 x.at_, f 5] := by
                  unfold its
                  rw [rowK_app, rowK_single, h5, ← hX]
                  rfl
                rw [e]
                exact ho⟩
              have HH9 : Hd (Held w9 acc2) := ⟨fun y hy => by
                rw [← hacc2] at hy
                rcases List.mem_append.1 hy with hy | hy
                · exact ⟨Rc.kept hG.keep (HH8.out y hy).1 (fun ad h => (HT8.out y hy ad h).2.2), (HH8.out y hy).2⟩
                · rw [List.mem_singleton.1 hy]; exact ⟨hr5, hc5⟩⟩
              have HT9 : Hd (∀ y ∈ acc2, ∀ ad, y.A = some ad → w.heap.size < ad.block ∧ ad.block < w9.heap.size ∧ some ad.block ≠ v9.ownBlock) := ⟨fun y hy ad h => by
                have h8 := HS8.out
                rw [← hacc2] at hy
                rcases List.mem_append.1 hy with hy | hy
                · have h1 := HT8.out y hy ad h
                  refine ⟨h1.1, Nat.lt_of_lt_of_le h1.2.1 hG.siz, fun e => ?_⟩
                  rcases hob _ e.symm with e2 | e2
                  · exact h1.2.2 e2
                  · have := h1.2.1; omega
                · rw [List.mem_singleton.1 hy] at h
                  have h1 := hb5 ad h
                  exact ⟨by omega, h1.2, hne ad _ _ (by rw [h5]; congr 1)⟩⟩
              have hmj := HMJ.out
              rw [minusG_neg (HCE.out.trans HC2.out)] at hmj
              have HM9 : Hd (acc2.map It.key ++ minusG ((a.drop (j + 1)).map It.key) mm = minusL (a.map It.key) (b.map It.key)) := ⟨by
                rw [← hmj, ← hacc2, List.map_append, List.append_assoc]
                rfl⟩
              have HQ9 : Hd ((∀ q, mm q ≤ 1000) ∧ acc2.length ≤ j + 1) := ⟨HQ.out.1, by rw [← hacc2, List.length_append]; have := HQ.out.2; simp; omega⟩
              clear hG hV hLL hmj hacc2
              simp only [fillD, Act.put, List.setIfInBounds_toArray, List.set_cons_zero, List.set_cons_succ]
              rw [hv9]
              go_wp2_with (fail)
              go_roundw
              case rel => exact ⟨j + 1, mm, acc2, by go_num, by omega, HW9, HS9, HC9, HO9, HH9, HT9, HM9, HQ9⟩
              case measure => simp [intOf]; omega
        · obtain rfl : j = n := by omega
          have e0 : a.drop j = [] := by rw [E1.out]; exact List.drop_length
          have hmj := HM.out
          rw [e0] at hmj
          have HM9 := Hd.mk hmj
          clear hmj e0
          go_wp2
          go_ret
          exact ⟨_, acc, rfl, own_lower HO.out (by omega), HH.out, by simpa [minusG] using HM9.out, HW.out⟩
end Go.Proofs.Ytpahmlgbljfcjaa
