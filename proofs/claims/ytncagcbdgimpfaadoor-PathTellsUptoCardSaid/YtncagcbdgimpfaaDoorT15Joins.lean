/- Walks: the law PathJoins, where the names are short in all. -/
import Derived.Test.YtncagcbdgimpfaaDoorT15RefLong
import Derived.Test.YtncagcbdgimpfaaDoorBase10
namespace Go.Proofs.YtncagcbdgimpfaaDoor
open Go.RowKit Go.Sac Go.Shelf
set_option linter.unusedVariables false
set_option linter.unusedSimpArgs false

def jb (b1 b2 : Bool) : Bool := b2 || b1
def jx (b2 : Bool) (xs ys : List ByteArray) : List ByteArray := if b2 = true then ys else xs ++ ys
theorem join_is (b1 b2 : Bool) (A1 A2 : Option Addr) (n1 c1 n2 c2 : Nat) (xs ys : List ByteArray) (w : World) (hx : Rc w A1 (svs xs)) (hy : Rc w A2 (svs ys)) (e1 : n1 = xs.length) (e2 : n2 = ys.length) (hn : (xs.length + ys.length) * 16 ≤ 140737488355328) :
    Calls Tryd.prog 17 #[.agg #[.bool b1, .slice A1 n1 c1], .agg #[.bool b2, .slice A2 n2 c2]] w fun e w' => RetPath (jb b1 b2) (jx b2 xs ys) w e w' :=
  join_calls b1 b2 A1 A2 n1 c1 n2 c2 xs ys w hx hy e1 e2 hn
theorem jx_len (b2 : Bool) (xs ys : List ByteArray) : (jx b2 xs ys).length ≤ xs.length + ys.length := by
  unfold jx; split
  · omega
  · rw [List.length_append]; exact Nat.le_refl _
theorem j_assoc (b1 b2 b3 : Bool) (xs ys zs : List ByteArray) : jb (jb b1 b2) b3 = jb b1 (jb b2 b3) ∧ jx b3 (jx b2 xs ys) zs = jx (jb b2 b3) xs (jx b3 ys zs) := by
  cases b1 <;> cases b2 <;> cases b3 <;> simp [jb, jx]
def PathV (b : Bool) (X : List ByteArray) (w : World) (v : Value) : Prop := ∃ A c, v = .agg #[.bool b, .slice A X.length c] ∧ X.length ≤ c ∧ Rc w A (svs X)
def BoxLike (w : World) (g : Nat) : Prop := ∃ y A n c, Blk w g 25 [.bool y, .slice A n c]
theorem rc_boxlike {w w' : World} {g : Nat} {A : Option Addr} {X : List ByteArray} (h : Rc w A (svs X)) (hg : BoxLike w g) (hk : KeepBut (some g) w w') : Rc w' A (svs X) := by
  intro i u hu
  obtain ⟨b, off, hA, hc⟩ := h i u hu
  refine ⟨b, off, hA, ?_⟩
  have hu2 : ∃ s, u = .string s := by
    have hm := List.mem_of_getElem? hu
    simp only [svs, List.mem_map] at hm
    obtain ⟨s, _, rfl⟩ := hm
    exact ⟨s, rfl⟩
  obtain ⟨s, rfl⟩ := hu2
  have hb := World.block_lt_of_cell? w _ hc
  by_cases hbg : b = g
  · subst hbg
    obtain ⟨y, A', n, c, hblk⟩ := hg
    exfalso
    unfold Blk at hblk
    rcases hoi : off + i with _ | _ | k
    · rw [hoi] at hc; rw [Blk.cell (w := w) (g := b) (E := 25) hblk (i := 0) rfl] at hc; cases hc
    · rw [hoi] at hc; rw [Blk.cell (w := w) (g := b) (E := 25) hblk (i := 1) rfl] at hc; cases hc
    · rw [hoi] at hc
      simp [World.cell?, hblk] at hc
  · rw [World.cell?_of_block (a := ⟨b, off + i, none⟩) (hk.2 b hb (fun e => hbg (by injection e)))]
    exact hc
theorem Boxes.store {w W W' : World} {L : List PBox} {g : Nat} (h : Boxes w W L) (hg : BoxLike W g) (hne : ∀ (i : Nat) (x : PBox), L[i]? = some x → x.g ≠ g) (hk : KeepBut (some g) W W') (hb : Below w.heap.size w W') : Boxes w W' L :=
  ⟨hb, fun i x hx => ⟨hk.blk (h.all i x hx).blk (fun e => hne i x hx (by injection e)), rc_boxlike (h.all i x hx).rc hg hk, (h.all i x hx).cap⟩⟩
/-- what a region may change that stores into a box of its own at its s-th operation -/
def SR (s B i : Nat) (w w' : World) : Prop := if i = s then ∃ g, B ≤ g ∧ BoxLike w g ∧ KeepBut (some g) w w' ∧ BoxLike w' g else KeepBut none w w'
theorem rc_none {w w' : World} {A : Option Addr} {cs : List Value} (h : Rc w A cs) (hk : KeepBut none w w') : Rc w' A cs := h.keep fun b off _ hb => hk.2 b hb nofun
theorem BoxLike.keep {s B i : Nat} {w w' : World} {g : Nat} (h : BoxLike w g) (hR : SR s B i w w') : BoxLike w' g := by
  unfold SR at hR
  split at hR
  · obtain ⟨g1, _, _, h3, h4⟩ := hR
    by_cases e : g = g1
    · subst e; exact h4
    · obtain ⟨y, A, n, c, hb⟩ := h
      exact ⟨y, A, n, c, h3.blk hb (fun h => e (by injection h))⟩
  · obtain ⟨y, A, n, c, hb⟩ := h
    exact ⟨y, A, n, c, hR.blk hb nofun⟩
theorem PathV.keep {s B i : Nat} {w w' : World} {b : Bool} {X : List ByteArray} {v : Value} (h : PathV b X w v) (hR : SR s B i w w') : PathV b X w' v := by
  obtain ⟨A, c, h1, h2, h3⟩ := h
  refine ⟨A, c, h1, h2, ?_⟩
  unfold SR at hR
  split at hR
  · obtain ⟨g1, _, k2, k3, _⟩ := hR
    exact rc_boxlike h3 k2 k3
  · exact rc_none h3 hR
def J7 (B : Nat) (v0 v1 : Value) (C2 C3 : World → Value → Prop) (b : Bool) (X : List ByteArray) (j : Nat) (w : World) (f : Nat → Value) : Prop :=
  match j with
  | 0 => f 0 = v0
  | 1 => f 1 = v1
  | 2 => C2 w (f 2)
  | 3 => C3 w (f 3)
  | 4 => PathV b X w (f 4)
  | 5 => ∃ g, f 5 = .pointer (some ⟨g, 0, none⟩) ∧ B ≤ g ∧ BoxLike w g
  | 6 => ∃ g A c, f 5 = .pointer (some ⟨g, 0, none⟩) ∧ B ≤ g ∧ Blk w g 25 [.bool b, .slice A X.length c] ∧ X.length ≤ c ∧ Rc w A (svs X)
  | _ => True
theorem J7_stab {B : Nat} {v0 v1 : Value} {C2 C3 : World → Value → Prop} {b : Bool} {X : List ByteArray} (s2 : ∀ i w w' v, SR 6 B i w w' → C2 w v → C2 w' v) (s3 : ∀ i w w' v, SR 6 B i w w' → C3 w v → C3 w' v)
    (i j : Nat) (w w' : World) (f : Nat → Value) (v : Value) (hij : i ≠ j) (h65 : j = 6 → i ≠ 5) (hR : SR 6 B i w w') (h : J7 B v0 v1 C2 C3 b X j w f) : J7 B v0 v1 C2 C3 b X j w' (upd f i v) := by
  have hu : ∀ k, k ≠ i → upd f i v k = f k := fun k hk => if_neg hk
  rcases j with _ | _ | _ | _ | _ | _ | _ | j
  · show upd f i v 0 = v0
    rw [hu 0 (Ne.symm hij)]; exact h
  · show upd f i v 1 = v1
    rw [hu 1 (Ne.symm hij)]; exact h
  · show C2 w' (upd f i v 2)
    rw [hu 2 (Ne.symm hij)]; exact s2 i w w' _ hR h
  · show C3 w' (upd f i v 3)
    rw [hu 3 (Ne.symm hij)]; exact s3 i w w' _ hR h
  · show PathV b X w' (upd f i v 4)
    rw [hu 4 (Ne.symm hij)]; exact PathV.keep h hR
  · obtain ⟨g, h1, h2, h3⟩ := h
    exact ⟨g, by rw [hu 5 (Ne.symm hij)]; exact h1, h2, h3.keep hR⟩
  · obtain ⟨g, A, c, h1, h2, h3, h4, h5⟩ := h
    have hi : i ≠ 6 := hij
    unfold SR at hR
    rw [if_neg hi] at hR
    exact ⟨g, A, c, by rw [hu 5 (Ne.symm (h65 rfl))]; exact h1, h2, hR.blk h3 nofun, h4, rc_none h5 hR⟩
  · exact trivial
theorem join_z (b : Bool) (A1 A2 : Option Addr) (c1 n2 c2 : Nat) (ys : List ByteArray) (w : World) (hy : Rc w A2 (svs ys)) (e2 : n2 = ys.length) (hn : ys.length * 16 ≤ 140737488355328) :
    Calls Tryd.prog 17 #[.agg #[.bool false, .slice A1 0 c1], .agg #[.bool b, .slice A2 n2 c2]] w fun e w' => RetPath b ys w e w' := by
  have := join_calls false b A1 A2 0 c1 n2 c2 [] ys w (Rc.nil _ _) hy rfl e2 (by simpa using hn)
  rw [Bool.or_false] at this
  cases b
  · exact this
  · exact this
structure GB (w : World) (B : Nat) (L : List PBox) (W' : World) : Prop where
  box : Boxes w W' L
  size : B ≤ W'.heap.size
theorem GB.call {w W' W'' : World} {B : Nat} {L : List PBox} (h : GB w B L W') (k : Below W'.heap.size W' W'') : GB w B L W'' := ⟨h.box.call k, Nat.le_trans h.size k.size⟩
theorem sr_of {s B i : Nat} {w w' : World} (h : i ≠ s) (k : KeepBut none w w') : SR s B i w w' := by unfold SR; rw [if_neg h]; exact k
theorem Boxes.add {w W : World} {L : List PBox} (h : Boxes w W L) (x : PBox) (hx : x.at_ W) : Boxes w W (x :: L) := ⟨h.bel, fun i y hy => by
  rcases i with _ | i
  · injection hy with hy; subst hy; exact hx
  · exact h.all i y hy⟩
/-- what the first region yields -/
def S1V (v0 v2 v5 : Value) (n m k : Nat) (j : Nat) (w : World) (v : Value) : Prop :=
  match j with
  | 0 => v = v0
  | 1 => v = .int .i64 n
  | 2 => v = v2
  | 3 => v = .int .i64 m
  | 4 => v = .int .i64 (n + m)
  | 5 => v = v5
  | 6 => v = .int .i64 k
  | 7 => v = .int .i64 (n + m + k)
  | 8 => v = .bool (decide (((n : Int) + m + k) > 1000))
  | _ => True
theorem S1V_stab {v0 v2 v5 : Value} {n m k : Nat} (i j : Nat) (w w' : World) (v : Value) (hij : i ≠ j) (hR : KeepBut none w w') (h : S1V v0 v2 v5 n m k j w v) : S1V v0 v2 v5 n m k j w' v := by
  rcases j with _ | _ | _ | _ | _ | _ | _ | _ | _ | j <;> exact h
/-- what the last region yields -/
def V7 (b1 b2 b3 : Bool) (A1 A2 A9 A10 A11 A12 : Option Addr) (c1 c2 c9 c10 c11 c12 : Nat) (xs ys zs : List ByteArray) (p : Nat) (j : Nat) (w : World) (v : Value) : Prop :=
  match j with | 0 => v = Value.agg #[Value.bool (jb b1 (jb b2 b3)), Value.slice A9 (jx (jb b2 b3) xs (jx b3 ys zs)).length c9] | 1 => v = Value.agg #[Value.bool (jb b1 (jb b2 b3)), Value.slice A10 (jx (jb b2 b3) xs (jx b3 ys zs)).length c10] | 2 => v = Value.bool true | 3 => v = Value.bool true | 4 => v = Value.agg #[Value.bool (b1), Value.slice A11 (xs).length c11] | 5 => v = Value.agg #[Value.bool b1, Value.slice A1 xs.length c1] | 6 => v = Value.bool true | 7 => v = Value.bool true | 8 => v = Value.bool true | 9 => v = Value.agg #[Value.bool (b1), Value.slice A12 (xs).length c12] | 10 => v = Value.agg #[Value.bool b1, Value.slice A1 xs.length c1] | 11 => v = Value.bool true | 12 => v = Value.bool true | 13 => v = Value.bool true | 14 => v = Value.agg #[Value.bool b2, Value.slice A2 ys.length c2] | 15 => v = Value.pointer (some ⟨p, 1, none⟩) | 16 => v = Value.slice A1 xs.length c1 | 17 => v = Value.agg #[Value.bool true, Value.slice A1 xs.length c1] | 18 => PathV true xs w v | 19 => v = Value.pointer (some ⟨p, 1, none⟩) | 20 => v = Value.slice A1 xs.length c1 | 21 => v = Value.agg #[Value.bool true, Value.slice A1 xs.length c1] | 22 => v = Value.bool true | 23 => v = Value.bool true | 24 => v = Value.bool true | 25 => v = Value.bool true | 26 => v = Value.bool true | 27 => v = Value.bool true | _ => True
theorem V7_stab {b1 b2 b3 : Bool} {A1 A2 A9 A10 A11 A12 : Option Addr} {c1 c2 c9 c10 c11 c12 : Nat} {xs ys zs : List ByteArray} {p : Nat} (i j : Nat) (w w' : World) (v : Value) (hij : i ≠ j) (hR : KeepBut none w w') (h : V7 b1 b2 b3 A1 A2 A9 A10 A11 A12 c1 c2 c9 c10 c11 c12 xs ys zs p j w v) : V7 b1 b2 b3 A1 A2 A9 A10 A11 A12 c1 c2 c9 c10 c11 c12 xs ys zs p j w' v := by
  rcases j with _ | _ | _ | _ | _ | _ | _ | _ | _ | _ | _ | _ | _ | _ | _ | _ | _ | _ | _ | _ | _ | _ | _ | _ | _ | _ | _ | _ | j <;> try exact h
  exact PathV.keep (s := 1) (B := 0) (i := 0) h (sr_of (by decide) hR)
set_option maxHeartbeats 4000000 in
theorem law_joins (b1 : Bool) (A1 : Option Addr) (c1 : Nat) (xs : List ByteArray) (b2 : Bool) (A2 : Option Addr) (c2 : Nat) (ys : List ByteArray) (b3 : Bool) (A3 : Option Addr) (c3 : Nat) (zs : List ByteArray) (w : World)
    (hx : Rc w A1 (svs xs)) (hc1 : xs.length ≤ c1) (ht1 : totS xs ≤ 1048576) (hy : Rc w A2 (svs ys)) (hc2 : ys.length ≤ c2) (ht2 : totS ys ≤ 1048576) (hz : Rc w A3 (svs zs)) (hc3 : zs.length ≤ c3) (ht3 : totS zs ≤ 1048576) :
    Calls Tryd.prog 7 #[.agg #[.bool b1, .slice A1 xs.length c1], .agg #[.bool b2, .slice A2 ys.length c2], .agg #[.bool b3, .slice A3 zs.length c3]] w (RetT w) := by
  have hb1 : Below w.heap.size w (w.alloc (.cells #[.bool b1, .slice A1 xs.length c1] 25)) := (Below.refl _ w).alloc (Nat.le_refl _) _
  have hs1 := (Boxes.none w).push b1 hx hc1
  have hs2 := hs1.push b2 (hy.below hb1) hc2
  have hs3 := hs2.push b3 (hz.below hs2.bel) hc3
  rw [World.size_alloc, World.size_alloc] at hs3
  have HS := Hd.mk hs3
  have HT1 := Hd.mk ht1
  have HT2 := Hd.mk ht2
  have HT3 := Hd.mk ht3
  clear hb1 hs1 hs2 hs3 hx hy hz hc1 hc2 hc3 ht1 ht2 ht3
  go_enter Tryd.func7, Tryd.ntmps7
  go_wp2_with (fail)
  have HL := Hd.mk HS.out.bel.size
  generalize hW : (((w.alloc (.cells #[.bool b1, .slice A1 xs.length c1] 25)).alloc (.cells #[.bool b2, .slice A2 ys.length c2] 25)).alloc (.cells #[.bool b3, .slice A3 zs.length c3] 25)) = W at HS HL ⊢
  clear hW
  refine region_fam (fun f => #[Value.agg #[Value.bool b1, Value.slice A1 xs.length c1], Value.agg #[Value.bool b2, Value.slice A2 ys.length c2], Value.agg #[Value.bool b3, Value.slice A3 zs.length c3], Value.pointer (some ⟨w.heap.size, 0, none⟩), Value.pointer (some ⟨w.heap.size + 1, 0, none⟩), Value.pointer (some ⟨w.heap.size + 1 + 1, 0, none⟩), Value.bool false, undef, undef, undef, undef, f 0, f 1, f 2, f 3, f 4, f 5, f 6, f 7, f 8, undef, undef, undef, undef, undef, undef, undef, undef, undef, undef, undef, undef, undef, undef, undef, undef, undef, undef, undef, undef, undef, undef, undef, undef, undef, undef, undef, undef, undef, undef, undef, undef, undef, undef, undef, undef, undef, undef, undef, undef, undef, undef, undef, undef])
    (S1V (Value.agg #[Value.bool b1, Value.slice A1 xs.length c1]) (Value.agg #[Value.bool b2, Value.slice A2 ys.length c2]) (Value.agg #[Value.bool b3, Value.slice A3 zs.length c3]) (totS xs) (totS ys) (totS zs)) (fun W' => Boxes w W' [⟨w.heap.size + 1 + 1, b3, A3, zs, c3⟩, ⟨w.heap.size + 1, b2, A2, ys, c2⟩, ⟨w.heap.size, b1, A1, xs, c1⟩]) (fun _ => KeepBut none) (by kernel_rfl) (by kernel_rfl) (fun _ => undef) rfl (HS.out.call (Below.refl _ _).drew) S1V_stab ?put ?step ?fin
  case put =>
    intro i o ho f v
    rcases i with _ | _ | _ | _ | _ | _ | _ | _ | _ | i
    all_goals first | (injection ho with ho; subst ho; rfl) | (cases ho)
  case step =>
    intro i o ho f w5 hG hp
    have hp0 := (hG.all 2 _ rfl).blk.cell (i := 0) rfl
    have hp1 := (hG.all 2 _ rfl).blk.cell (i := 1) rfl
    have hq0 := (hG.all 1 _ rfl).blk.cell (i := 0) rfl
    have hq1 := (hG.all 1 _ rfl).blk.cell (i := 1) rfl
    have hr0 := (hG.all 0 _ rfl).blk.cell (i := 0) rfl
    have hr1 := (hG.all 0 _ rfl).blk.cell (i := 1) rfl
    rcases i with _ | _ | _ | _ | _ | _ | _ | _ | _ | i
    · injection ho with ho; subst ho
      refine wpOp_go rfl rfl ?_
      go_simp
      first | exact ⟨hG, .refl _ _, rfl⟩ | exact ⟨.refl _ _, rfl⟩
    · injection ho with ho; subst ho
      have h0 : f 0 = _ := hp ⟨0, .data⟩ (by simp) rfl
      simp only [h0]
      refine wpOp_go rfl rfl ?_
      go_simp
      refine (rlong_calls _ _ _ _ xs _ (hG.all 2 _ rfl).rc rfl HT1.out).mono ?_
      rintro e w6 ⟨rfl, hb⟩
      exact ⟨hG.call hb, .of_below hb _, rfl⟩
    · injection ho with ho; subst ho
      refine wpOp_go rfl rfl ?_
      go_simp
      first | exact ⟨hG, .refl _ _, rfl⟩ | exact ⟨.refl _ _, rfl⟩
    · injection ho with ho; subst ho
      have h2 : f 2 = _ := hp ⟨2, .data⟩ (by simp) rfl
      simp only [h2]
      refine wpOp_go rfl rfl ?_
      go_simp
      refine (rlong_calls _ _ _ _ ys _ (hG.all 1 _ rfl).rc rfl HT2.out).mono ?_
      rintro e w6 ⟨rfl, hb⟩
      exact ⟨hG.call hb, .of_below hb _, rfl⟩
    · injection ho with ho; subst ho
      have h1 : f 1 = _ := hp ⟨1, .data⟩ (by simp) rfl
      have h3 : f 3 = _ := hp ⟨3, .data⟩ (by simp) rfl
      simp only [h1, h3]
      have q1 := HT1.out
      have q2 := HT2.out
      have q3 := HT3.out
      have g1 : IntKind.i64.wrap ((totS xs : Int) + (totS ys : Int)) = (totS xs : Int) + (totS ys : Int) := by rw [IntKind.wrap_i64]; omega
      have g2 : IntKind.i64.wrap ((totS xs : Int) + (totS ys : Int) + (totS zs : Int)) = (totS xs : Int) + (totS ys : Int) + (totS zs : Int) := by rw [IntKind.wrap_i64]; omega
      refine wpOp_go rfl rfl ?_
      go_simp
      first | exact ⟨hG, .refl _ _, rfl⟩ | exact ⟨.refl _ _, rfl⟩
    · injection ho with ho; subst ho
      refine wpOp_go rfl rfl ?_
      go_simp
      first | exact ⟨hG, .refl _ _, rfl⟩ | exact ⟨.refl _ _, rfl⟩
    · injection ho with ho; subst ho
      have h5 : f 5 = _ := hp ⟨5, .data⟩ (by simp) rfl
      simp only [h5]
      refine wpOp_go rfl rfl ?_
      go_simp
      refine (rlong_calls _ _ _ _ zs _ (hG.all 0 _ rfl).rc rfl HT3.out).mono ?_
      rintro e w6 ⟨rfl, hb⟩
      exact ⟨hG.call hb, .of_below hb _, rfl⟩
    · injection ho with ho; subst ho
      have h4 : f 4 = _ := hp ⟨4, .data⟩ (by simp) rfl
      have h6 : f 6 = _ := hp ⟨6, .data⟩ (by simp) rfl
      simp only [h4, h6]
      have q1 := HT1.out
      have q2 := HT2.out
      have q3 := HT3.out
      have g1 : IntKind.i64.wrap ((totS xs : Int) + (totS ys : Int)) = (totS xs : Int) + (totS ys : Int) := by rw [IntKind.wrap_i64]; omega
      have g2 : IntKind.i64.wrap ((totS xs : Int) + (totS ys : Int) + (totS zs : Int)) = (totS xs : Int) + (totS ys : Int) + (totS zs : Int) := by rw [IntKind.wrap_i64]; omega
      refine wpOp_go rfl rfl ?_
      go_simp
      first | exact ⟨hG, .refl _ _, rfl⟩ | exact ⟨.refl _ _, rfl⟩
    · injection ho with ho; subst ho
      have h7 : f 7 = _ := hp ⟨7, .data⟩ (by simp) rfl
      have h7 : f 7 = _ := hp ⟨7, .data⟩ (by simp) rfl
      simp only [h7, h7]
      have q1 := HT1.out
      have q2 := HT2.out
      have q3 := HT3.out
      have g1 : IntKind.i64.wrap ((totS xs : Int) + (totS ys : Int)) = (totS xs : Int) + (totS ys : Int) := by rw [IntKind.wrap_i64]; omega
      have g2 : IntKind.i64.wrap ((totS xs : Int) + (totS ys : Int) + (totS zs : Int)) = (totS xs : Int) + (totS ys : Int) + (totS zs : Int) := by rw [IntKind.wrap_i64]; omega
      refine wpOp_go rfl rfl ?_
      go_simp
      first | exact ⟨hG, .refl _ _, rfl⟩ | exact ⟨.refl _ _, rfl⟩
    · cases ho
  case fin =>
    intro f w5 hG hV
    have h8 : f 8 = _ := hV 8 (by simp)
    simp only [h8]
    clear HS
    have HS := Hd.mk hG
    clear hG hV h8
    by_cases hbig : (totS xs : Int) + totS ys + totS zs > 1000
    · have f1 : decide (((totS xs : Int) + totS ys + totS zs) > 1000) = true := by simpa using hbig
      rw [f1]
      clear f1 hbig
      go_wp2_with (go_at_call 10; refine (known_calls _).mono ?_; rintro e w8 ⟨rfl, hb⟩; have HS := Hd.mk (HS.out.call hb); clear hb)
      go_ret
      exact ⟨rfl, HS.out.bel⟩
    · have f1 : decide (((totS xs : Int) + totS ys + totS zs) > 1000) = false := by simpa using hbig
      rw [f1]
      have HX : Hd (xs.length + ys.length + zs.length ≤ 1000) := ⟨by have := totS_len xs; have := totS_len ys; have := totS_len zs; omega⟩
      clear f1 hbig
      go_wp2_with (fail)
      have HN7 := Hd.mk HS.out.bel.size
      refine region_fam2 (fun g => #[Value.agg #[Value.bool b1, Value.slice A1 xs.length c1], Value.agg #[Value.bool b2, Value.slice A2 ys.length c2], Value.agg #[Value.bool b3, Value.slice A3 zs.length c3], Value.pointer (some ⟨w.heap.size, 0, none⟩), Value.pointer (some ⟨w.heap.size + 1, 0, none⟩), Value.pointer (some ⟨w.heap.size + 1 + 1, 0, none⟩), Value.bool false, g 5, undef, undef, undef, f 0, f 1, f 2, f 3, f 4, f 5, f 6, f 7, Value.bool false, undef, g 0, g 1, g 2, g 3, g 4, undef, undef, undef, undef, undef, undef, undef, undef, undef, undef, undef, undef, undef, undef, undef, undef, undef, undef, undef, undef, undef, undef, undef, undef, undef, undef, undef, undef, undef, undef, undef, undef, undef, undef, undef, undef, undef, undef])
        (J7 w5.heap.size (Value.agg #[Value.bool b1, Value.slice A1 xs.length c1]) (Value.agg #[Value.bool b2, Value.slice A2 ys.length c2]) (PathV (jb b1 b2) (jx b2 xs ys)) (fun _ v => v = Value.agg #[Value.bool b3, Value.slice A3 zs.length c3]) (jb (jb b1 b2) b3) (jx b3 (jx b2 xs ys) zs)) (GB w w5.heap.size [⟨w.heap.size + 1 + 1, b3, A3, zs, c3⟩, ⟨w.heap.size + 1, b2, A2, ys, c2⟩, ⟨w.heap.size, b1, A1, xs, c1⟩]) (SR 6 w5.heap.size) (by kernel_rfl) (by kernel_rfl) (fun _ => undef) rfl ⟨HS.out.call (Below.refl _ _).drew, by simp⟩ ?stab7 ?put7 ?step7 ?fin7
      case stab7 =>
        intro i j w w' f v o ho hij hd hR h
        refine J7_stab (C2 := PathV (jb b1 b2) (jx b2 xs ys)) (C3 := fun _ v => v = Value.agg #[Value.bool b3, Value.slice A3 zs.length c3]) (fun i w w' v hR h => PathV.keep h hR) (fun _ _ _ _ _ h => h) i j w w' f v hij (fun e => ?_) hR h
        subst e; injection ho with ho; subst ho
        intro e; subst e
        exact hd ⟨5, .data⟩ (by simp) rfl rfl
      case put7 =>
        intro i o ho f v
        rcases i with _ | _ | _ | _ | _ | _ | _ | i
        all_goals first | (injection ho with ho; subst ho; rfl) | (cases ho)
      case step7 =>
        intro i o ho g w6 hG hp
        have hxl := HX.out
        have hp0 := (hG.box.all 2 _ rfl).blk.cell (i := 0) rfl
        have hp1 := (hG.box.all 2 _ rfl).blk.cell (i := 1) rfl
        have hq0 := (hG.box.all 1 _ rfl).blk.cell (i := 0) rfl
        have hq1 := (hG.box.all 1 _ rfl).blk.cell (i := 1) rfl
        have hr0 := (hG.box.all 0 _ rfl).blk.cell (i := 0) rfl
        have hr1 := (hG.box.all 0 _ rfl).blk.cell (i := 1) rfl
        rcases i with _ | _ | _ | _ | _ | _ | _ | i
        · injection ho with ho; subst ho
          refine wpOp_go rfl rfl ?_
          go_simp
          first | exact ⟨hG, sr_of (by decide) (.refl _ _), rfl⟩ | exact ⟨sr_of (by decide) (.refl _ _), rfl⟩
        · injection ho with ho; subst ho
          refine wpOp_go rfl rfl ?_
          go_simp
          first | exact ⟨hG, sr_of (by decide) (.refl _ _), rfl⟩ | exact ⟨sr_of (by decide) (.refl _ _), rfl⟩
        · injection ho with ho; subst ho
          have h0 : g 0 = _ := hp ⟨0, .data⟩ (by simp) rfl
          have h1 : g 1 = _ := hp ⟨1, .data⟩ (by simp) rfl
          simp only [h0, h1]
          refine wpOp_go rfl rfl ?_
          go_simp
          refine (join_is _ _ _ _ _ _ _ _ xs ys _ (hG.box.all 2 _ rfl).rc (hG.box.all 1 _ rfl).rc rfl rfl (by have := jx_len b2 xs ys; have := jx_len b3 ys zs; omega)).mono ?_
          rintro e w7 ⟨A', c', rfl, hc', hr', hb⟩
          exact ⟨hG.call hb, sr_of (by decide) (.of_below hb _), A', c', rfl, hc', hr'⟩
        · injection ho with ho; subst ho
          refine wpOp_go rfl rfl ?_
          go_simp
          first | exact ⟨hG, sr_of (by decide) (.refl _ _), rfl⟩ | exact ⟨sr_of (by decide) (.refl _ _), rfl⟩
        · injection ho with ho; subst ho
          obtain ⟨A2, c2, h2, hc2, hr2⟩ := hp ⟨2, .data⟩ (by simp) rfl
          change g 2 = _ at h2
          have h3 : g 3 = _ := hp ⟨3, .data⟩ (by simp) rfl
          simp only [h2, h3]
          refine wpOp_go rfl rfl ?_
          go_simp
          refine (join_is _ _ _ _ _ _ _ _ (jx b2 xs ys) zs _ hr2 (hG.box.all 0 _ rfl).rc rfl rfl (by have := jx_len b2 xs ys; have := jx_len b3 ys zs; omega)).mono ?_
          rintro e w7 ⟨A', c', rfl, hc', hr', hb⟩
          exact ⟨hG.call hb, sr_of (by decide) (.of_below hb _), A', c', rfl, hc', hr'⟩
        · injection ho with ho; subst ho
          refine wpOp_go rfl rfl ?_
          go_simp
          exact ⟨hG.call ((Below.refl _ _).alloc (Nat.le_refl _) _), sr_of (by decide) (.alloc _ _ _), w6.heap.size, rfl, hG.size, false, none, 0, 0, Blk.new w6 _ [.bool false, .slice none 0 0]⟩
        · injection ho with ho; subst ho
          obtain ⟨A4, c4, h4, hc4, hr4⟩ := hp ⟨4, .data⟩ (by simp) rfl
          change g 4 = _ at h4
          obtain ⟨g, h5, hg, hl⟩ := hp ⟨5, .data⟩ (by simp) rfl
          obtain ⟨y, A', n', c', hbl⟩ := hl
          simp only [h4, h5]
          refine wpOp_go rfl rfl (wp_store_row 25 (.tmp 7) (.tmp 25) rfl g #[.bool _, .slice A4 _ c4] rfl rfl 25 _ hbl (info_path.trans (by simp)) (by simp) (by simp [Value.oneCell']) ?_)
          have hl : BoxLike w6 g := ⟨y, A', n', c', hbl⟩
          refine ⟨undef, rfl, ⟨hG.box.store hl (fun i x hx e => ?_) (KeepBut.row w6 g _) (below_row hG.box.bel (by have := HN7.out; omega) _), by simp; exact hG.size⟩, ⟨g, hg, hl, KeepBut.row w6 g _, _, _, _, _, hbl.putRow [.bool _, .slice A4 _ c4]⟩, g, A4, c4, h5, hg, hbl.putRow [.bool _, .slice A4 _ c4], hc4, rc_boxlike hr4 hl (KeepBut.row w6 g _)⟩
          have := (HS.out.all i x hx).blk.lt
          omega
        · cases ho
      case fin7 =>
        intro g w9 hG hV
        obtain ⟨g7, A9, c9, h5, hg, hbl, hc, hr⟩ := hV 6 (by simp)
        simp only [h5]
        clear HS
        have HS := Hd.mk (hG.box.add ⟨g7, jb (jb b1 b2) b3, A9, jx b3 (jx b2 xs ys) zs, c9⟩ ⟨hbl, hr, hc⟩)
        clear hG hV h5 hg hbl hc hr
        go_wp2_with (fail)
        have HN8 := Hd.mk HS.out.bel.size
        refine region_fam2 (fun k => #[Value.agg #[Value.bool b1, Value.slice A1 xs.length c1], Value.agg #[Value.bool b2, Value.slice A2 ys.length c2], Value.agg #[Value.bool b3, Value.slice A3 zs.length c3], Value.pointer (some ⟨w.heap.size, 0, none⟩), Value.pointer (some ⟨w.heap.size + 1, 0, none⟩), Value.pointer (some ⟨w.heap.size + 1 + 1, 0, none⟩), Value.bool false, Value.pointer (some ⟨g7, 0, none⟩), k 5, undef, undef, f 0, f 1, f 2, f 3, f 4, f 5, f 6, f 7, Value.bool false, undef, g 0, g 1, g 2, g 3, g 4, k 0, k 1, k 2, k 3, k 4, undef, undef, undef, undef, undef, undef, undef, undef, undef, undef, undef, undef, undef, undef, undef, undef, undef, undef, undef, undef, undef, undef, undef, undef, undef, undef, undef, undef, undef, undef, undef, undef, undef])
          (J7 w9.heap.size (Value.agg #[Value.bool b1, Value.slice A1 xs.length c1]) (Value.agg #[Value.bool b2, Value.slice A2 ys.length c2]) (fun _ v => v = Value.agg #[Value.bool b3, Value.slice A3 zs.length c3]) (PathV (jb b2 b3) (jx b3 ys zs)) (jb b1 (jb b2 b3)) (jx (jb b2 b3) xs (jx b3 ys zs))) (GB w w9.heap.size [⟨g7, jb (jb b1 b2) b3, A9, jx b3 (jx b2 xs ys) zs, c9⟩, ⟨w.heap.size + 1 + 1, b3, A3, zs, c3⟩, ⟨w.heap.size + 1, b2, A2, ys, c2⟩, ⟨w.heap.size, b1, A1, xs, c1⟩]) (SR 6 w9.heap.size) (by kernel_rfl) (by kernel_rfl) (fun _ => undef) rfl ⟨HS.out.call (Below.refl _ _).drew, by simp⟩ ?stab8 ?put8 ?step8 ?fin8
        case stab8 =>
          intro i j w w' f v o ho hij hd hR h
          refine J7_stab (C2 := fun _ v => v = Value.agg #[Value.bool b3, Value.slice A3 zs.length c3]) (C3 := PathV (jb b2 b3) (jx b3 ys zs)) (fun _ _ _ _ _ h => h) (fun i w w' v hR h => PathV.keep h hR) i j w w' f v hij (fun e => ?_) hR h
          subst e; injection ho with ho; subst ho
          intro e; subst e
          exact hd ⟨5, .data⟩ (by simp) rfl rfl
        case put8 =>
          intro i o ho f v
          rcases i with _ | _ | _ | _ | _ | _ | _ | i
          all_goals first | (injection ho with ho; subst ho; rfl) | (cases ho)
        case step8 =>
          intro i o ho k w6 hG hp
          have hxl := HX.out
          have hp0 := (hG.box.all 3 _ rfl).blk.cell (i := 0) rfl
          have hp1 := (hG.box.all 3 _ rfl).blk.cell (i := 1) rfl
          have hq0 := (hG.box.all 2 _ rfl).blk.cell (i := 0) rfl
          have hq1 := (hG.box.all 2 _ rfl).blk.cell (i := 1) rfl
          have hr0 := (hG.box.all 1 _ rfl).blk.cell (i := 0) rfl
          have hr1 := (hG.box.all 1 _ rfl).blk.cell (i := 1) rfl
          rcases i with _ | _ | _ | _ | _ | _ | _ | i
          · injection ho with ho; subst ho
            refine wpOp_go rfl rfl ?_
            go_simp
            first | exact ⟨hG, sr_of (by decide) (.refl _ _), rfl⟩ | exact ⟨sr_of (by decide) (.refl _ _), rfl⟩
          · injection ho with ho; subst ho
            refine wpOp_go rfl rfl ?_
            go_simp
            first | exact ⟨hG, sr_of (by decide) (.refl _ _), rfl⟩ | exact ⟨sr_of (by decide) (.refl _ _), rfl⟩
          · injection ho with ho; subst ho
            refine wpOp_go rfl rfl ?_
            go_simp
            first | exact ⟨hG, sr_of (by decide) (.refl _ _), rfl⟩ | exact ⟨sr_of (by decide) (.refl _ _), rfl⟩
          · injection ho with ho; subst ho
            have h1 : k 1 = _ := hp ⟨1, .data⟩ (by simp) rfl
            have h2 : k 2 = _ := hp ⟨2, .data⟩ (by simp) rfl
            simp only [h1, h2]
            refine wpOp_go rfl rfl ?_
            go_simp
            refine (join_is _ _ _ _ _ _ _ _ ys zs _ (hG.box.all 2 _ rfl).rc (hG.box.all 1 _ rfl).rc rfl rfl (by have := jx_len b2 xs ys; have := jx_len b3 ys zs; omega)).mono ?_
            rintro e w7 ⟨A', c', rfl, hc', hr', hb⟩
            exact ⟨hG.call hb, sr_of (by decide) (.of_below hb _), A', c', rfl, hc', hr'⟩
          · injection ho with ho; subst ho
            have h0 : k 0 = _ := hp ⟨0, .data⟩ (by simp) rfl
            obtain ⟨A3, c3, h3, hc3, hr3⟩ := hp ⟨3, .data⟩ (by simp) rfl
            change k 3 = _ at h3
            simp only [h0, h3]
            refine wpOp_go rfl rfl ?_
            go_simp
            refine (join_is _ _ _ _ _ _ _ _ xs (jx b3 ys zs) _ (hG.box.all 3 _ rfl).rc hr3 rfl rfl (by have := jx_len b2 xs ys; have := jx_len b3 ys zs; omega)).mono ?_
            rintro e w7 ⟨A', c', rfl, hc', hr', hb⟩
            exact ⟨hG.call hb, sr_of (by decide) (.of_below hb _), A', c', rfl, hc', hr'⟩
          · injection ho with ho; subst ho
            refine wpOp_go rfl rfl ?_
            go_simp
            exact ⟨hG.call ((Below.refl _ _).alloc (Nat.le_refl _) _), sr_of (by decide) (.alloc _ _ _), w6.heap.size, rfl, hG.size, false, none, 0, 0, Blk.new w6 _ [.bool false, .slice none 0 0]⟩
          · injection ho with ho; subst ho
            obtain ⟨A4, c4, h4, hc4, hr4⟩ := hp ⟨4, .data⟩ (by simp) rfl
            change k 4 = _ at h4
            obtain ⟨g, h5, hg, hl⟩ := hp ⟨5, .data⟩ (by simp) rfl
            obtain ⟨y, A', n', c', hbl⟩ := hl
            simp only [h4, h5]
            refine wpOp_go rfl rfl (wp_store_row 25 (.tmp 8) (.tmp 30) rfl g #[.bool _, .slice A4 _ c4] rfl rfl 25 _ hbl (info_path.trans (by simp)) (by simp) (by simp [Value.oneCell']) ?_)
            have hl : BoxLike w6 g := ⟨y, A', n', c', hbl⟩
            refine ⟨undef, rfl, ⟨hG.box.store hl (fun i x hx e => ?_) (KeepBut.row w6 g _) (below_row hG.box.bel (by have := HN8.out; omega) _), by simp; exact hG.size⟩, ⟨g, hg, hl, KeepBut.row w6 g _, _, _, _, _, hbl.putRow [.bool _, .slice A4 _ c4]⟩, g, A4, c4, h5, hg, hbl.putRow [.bool _, .slice A4 _ c4], hc4, rc_boxlike hr4 hl (KeepBut.row w6 g _)⟩
            have := (HS.out.all i x hx).blk.lt
            omega
          · cases ho
        case fin8 =>
          intro k w10 hG hV
          obtain ⟨g8, A10, c10, h5, hg, hbl, hc, hr⟩ := hV 6 (by simp)
          simp only [h5]
          clear HS
          have HS := Hd.mk (hG.box.add ⟨g8, jb b1 (jb b2 b3), A10, jx (jb b2 b3) xs (jx b3 ys zs), c10⟩ ⟨hbl, hr, hc⟩)
          clear hG hV h5 hg hbl hc hr
          have HA := j_assoc b1 b2 b3 xs ys zs
          rw [HA.1, HA.2] at HS
          clear HA
          have T1 : Hd True := ⟨trivial⟩
          have T2 : Hd True := ⟨trivial⟩
          go_wp2_with (first
            | (go_at_call 17; first
                | (clear T1; refine (join_f b1 _ _ _ _ _ _ xs [] xs _ (by simp) (HS.out.all 4 _ rfl).rc (Rc.nil _ _) rfl rfl (by have := HX.out; simp; omega)).mono ?_; rintro e w11 ⟨A11, c11, rfl, hc, hr, hb⟩; have HS := Hd.mk ((HS.out.call hb).push b1 hr hc); clear hr hb hc)
                | (clear T2; refine (join_z b1 _ _ _ _ _ xs _ (HS.out.all 5 _ rfl).rc rfl (by have := HX.out; omega)).mono ?_; rintro e w12 ⟨A12, c12, rfl, hc, hr, hb⟩; have HS := Hd.mk ((HS.out.call hb).push b1 hr hc); clear hr hb hc))
            | (first | (refine box_load HS 4 _ rfl rfl _ rfl rfl ?_) | (refine box_load HS 5 _ rfl rfl _ rfl rfl ?_)))
          refine region_fam (fun q => #[Value.agg #[Value.bool b1, Value.slice A1 xs.length c1], Value.agg #[Value.bool b2, Value.slice A2 ys.length c2], Value.agg #[Value.bool b3, Value.slice A3 zs.length c3], Value.pointer (some ⟨w.heap.size, 0, none⟩), Value.pointer (some ⟨w.heap.size + 1, 0, none⟩), Value.pointer (some ⟨w.heap.size + 1 + 1, 0, none⟩), q 27, Value.pointer (some ⟨g7, 0, none⟩), Value.pointer (some ⟨g8, 0, none⟩), Value.pointer (some ⟨w11.heap.size, 0, none⟩), Value.pointer (some ⟨w12.heap.size, 0, none⟩), f 0, f 1, f 2, f 3, f 4, f 5, f 6, f 7, Value.bool false, undef, g 0, g 1, g 2, g 3, g 4, k 0, k 1, k 2, k 3, k 4, Value.agg #[Value.bool b1, Value.slice A1 xs.length c1], Value.agg #[Value.bool false, Value.slice none 0 0], Value.agg #[Value.bool b1, Value.slice A11 xs.length c11], Value.agg #[Value.bool false, Value.slice none 0 0], Value.agg #[Value.bool b1, Value.slice A1 xs.length c1], Value.agg #[Value.bool b1, Value.slice A12 xs.length c12], q 0, q 1, q 2, q 3, q 4, q 5, q 6, q 7, q 8, q 9, q 10, q 11, q 12, q 13, q 14, q 15, q 16, q 17, q 18, q 19, q 20, q 21, q 22, q 23, q 24, q 25, q 26])
            (V7 b1 b2 b3 A1 A2 A9 A10 A11 A12 c1 c2 c9 c10 c11 c12 xs ys zs w.heap.size) (fun W' => Boxes w W' [⟨w12.heap.size, b1, A12, xs, c12⟩, ⟨w11.heap.size, b1, A11, xs, c11⟩, ⟨g8, jb b1 (jb b2 b3), A10, jx (jb b2 b3) xs (jx b3 ys zs), c10⟩, ⟨g7, jb b1 (jb b2 b3), A9, jx (jb b2 b3) xs (jx b3 ys zs), c9⟩, ⟨w.heap.size + 1 + 1, b3, A3, zs, c3⟩, ⟨w.heap.size + 1, b2, A2, ys, c2⟩, ⟨w.heap.size, b1, A1, xs, c1⟩]) (fun _ => KeepBut none) (by kernel_rfl) (by kernel_rfl) (fun i => if i = 27 then .bool false else undef) rfl (HS.out.call (Below.refl _ _).drew) V7_stab ?put ?step ?fin
          case put =>
            intro i o ho f v
            rcases i with _ | _ | _ | _ | _ | _ | _ | _ | _ | _ | _ | _ | _ | _ | _ | _ | _ | _ | _ | _ | _ | _ | _ | _ | _ | _ | _ | _ | i
            all_goals first | (injection ho with ho; subst ho; rfl) | (cases ho)
          case step =>
            intro i o ho q w20 hG hp
            have hxl := HX.out
            have hx00 := (hG.all 0 _ rfl).blk.cell (i := 0) rfl
            have hx01 := (hG.all 0 _ rfl).blk.cell (i := 1) rfl
            have hx10 := (hG.all 1 _ rfl).blk.cell (i := 0) rfl
            have hx11 := (hG.all 1 _ rfl).blk.cell (i := 1) rfl
            have hx20 := (hG.all 2 _ rfl).blk.cell (i := 0) rfl
            have hx21 := (hG.all 2 _ rfl).blk.cell (i := 1) rfl
            have hx30 := (hG.all 3 _ rfl).blk.cell (i := 0) rfl
            have hx31 := (hG.all 3 _ rfl).blk.cell (i := 1) rfl
            have hx40 := (hG.all 4 _ rfl).blk.cell (i := 0) rfl
            have hx41 := (hG.all 4 _ rfl).blk.cell (i := 1) rfl
            have hx50 := (hG.all 5 _ rfl).blk.cell (i := 0) rfl
            have hx51 := (hG.all 5 _ rfl).blk.cell (i := 1) rfl
            have hx60 := (hG.all 6 _ rfl).blk.cell (i := 0) rfl
            have hx61 := (hG.all 6 _ rfl).blk.cell (i := 1) rfl
            have hjl : (jx (jb b2 b3) xs (jx b3 ys zs)).length ≤ 1000 := by have := jx_len (jb b2 b3) xs (jx b3 ys zs); have := jx_len b3 ys zs; omega
            rcases i with _ | _ | _ | _ | _ | _ | _ | _ | _ | _ | _ | _ | _ | _ | _ | _ | _ | _ | _ | _ | _ | _ | _ | _ | _ | _ | _ | _ | i
            · injection ho with ho; subst ho
              refine wpOp_go rfl rfl ?_
              go_simp
              first | exact ⟨hG, .refl _ _, rfl⟩ | exact ⟨.refl _ _, rfl⟩
            · injection ho with ho; subst ho
              refine wpOp_go rfl rfl ?_
              go_simp
              first | exact ⟨hG, .refl _ _, rfl⟩ | exact ⟨.refl _ _, rfl⟩
            · injection ho with ho; subst ho
              have h0 : q 0 = _ := hp ⟨0, .data⟩ (by simp) rfl
              have h1 : q 1 = _ := hp ⟨1, .data⟩ (by simp) rfl
              simp only [h0, h1]
              refine wpOp_go rfl rfl ?_
              go_simp
              refine (same_calls _ _ _ _ _ _ _ _ (jx (jb b2 b3) xs (jx b3 ys zs)) (jx (jb b2 b3) xs (jx b3 ys zs)) _ (hG.all 3 _ rfl).rc (hG.all 2 _ rfl).rc rfl rfl (by omega) (by omega)).mono ?_
              rintro e w21 ⟨rfl, hb⟩
              rw [eqP_yes ⟨rfl, rfl⟩]
              exact ⟨hG.call hb, .of_below hb _, rfl⟩
            · injection ho with ho; subst ho
              have h2 : q 2 = _ := hp ⟨2, .data⟩ (by simp) rfl
              simp only [h2]
              refine wpOp_go rfl rfl ?_
              go_simp
              first | exact ⟨hG, .refl _ _, rfl⟩ | exact ⟨.refl _ _, rfl⟩
            · injection ho with ho; subst ho
              have h3 : q 3 = _ := hp ⟨3, .guard⟩ (by simp) rfl
              simp only [h3]
              refine wpOp_go rfl rfl ?_
              go_simp
              first | exact ⟨hG, .refl _ _, rfl⟩ | exact ⟨.refl _ _, rfl⟩
            · injection ho with ho; subst ho
              have h3 : q 3 = _ := hp ⟨3, .guard⟩ (by simp) rfl
              simp only [h3]
              refine wpOp_go rfl rfl ?_
              go_simp
              first | exact ⟨hG, .refl _ _, rfl⟩ | exact ⟨.refl _ _, rfl⟩
            · injection ho with ho; subst ho
              have h4 : q 4 = _ := hp ⟨4, .data⟩ (by simp) rfl
              have h5 : q 5 = _ := hp ⟨5, .data⟩ (by simp) rfl
              have h3 : q 3 = _ := hp ⟨3, .guard⟩ (by simp) rfl
              simp only [h4, h5, h3]
              refine wpOp_go rfl rfl ?_
              go_simp
              refine (same_calls _ _ _ _ _ _ _ _ (xs) (xs) _ (hG.all 1 _ rfl).rc (hG.all 6 _ rfl).rc rfl rfl (by omega) (by omega)).mono ?_
              rintro e w21 ⟨rfl, hb⟩
              rw [eqP_yes ⟨rfl, rfl⟩]
              exact ⟨hG.call hb, .of_below hb _, rfl⟩
            · injection ho with ho; subst ho
              have h3 : q 3 = _ := hp ⟨3, .data⟩ (by simp) rfl
              have h6 : q 6 = _ := hp ⟨6, .data⟩ (by simp) rfl
              simp only [h3, h6]
              refine wpOp_go rfl rfl ?_
              go_simp
              first | exact ⟨hG, .refl _ _, rfl⟩ | exact ⟨.refl _ _, rfl⟩
            · injection ho with ho; subst ho
              have h7 : q 7 = _ := hp ⟨7, .data⟩ (by simp) rfl
              simp only [h7]
              refine wpOp_go rfl rfl ?_
              go_simp
              first | exact ⟨hG, .refl _ _, rfl⟩ | exact ⟨.refl _ _, rfl⟩
            · injection ho with ho; subst ho
              have h8 : q 8 = _ := hp ⟨8, .guard⟩ (by simp) rfl
              simp only [h8]
              refine wpOp_go rfl rfl ?_
              go_simp
              first | exact ⟨hG, .refl _ _, rfl⟩ | exact ⟨.refl _ _, rfl⟩
            · injection ho with ho; subst ho
              have h8 : q 8 = _ := hp ⟨8, .guard⟩ (by simp) rfl
              simp only [h8]
              refine wpOp_go rfl rfl ?_
              go_simp
              first | exact ⟨hG, .refl _ _, rfl⟩ | exact ⟨.refl _ _, rfl⟩
            · injection ho with ho; subst ho
              have h9 : q 9 = _ := hp ⟨9, .data⟩ (by simp) rfl
              have h10 : q 10 = _ := hp ⟨10, .data⟩ (by simp) rfl
              have h8 : q 8 = _ := hp ⟨8, .guard⟩ (by simp) rfl
              simp only [h9, h10, h8]
              refine wpOp_go rfl rfl ?_
              go_simp
              refine (same_calls _ _ _ _ _ _ _ _ (xs) (xs) _ (hG.all 0 _ rfl).rc (hG.all 6 _ rfl).rc rfl rfl (by omega) (by omega)).mono ?_
              rintro e w21 ⟨rfl, hb⟩
              rw [eqP_yes ⟨rfl, rfl⟩]
              exact ⟨hG.call hb, .of_below hb _, rfl⟩
            · injection ho with ho; subst ho
              have h8 : q 8 = _ := hp ⟨8, .data⟩ (by simp) rfl
              have h11 : q 11 = _ := hp ⟨11, .data⟩ (by simp) rfl
              simp only [h8, h11]
              refine wpOp_go rfl rfl ?_
              go_simp
              first | exact ⟨hG, .refl _ _, rfl⟩ | exact ⟨.refl _ _, rfl⟩
            · injection ho with ho; subst ho
              have h12 : q 12 = _ := hp ⟨12, .data⟩ (by simp) rfl
              simp only [h12]
              refine wpOp_go rfl rfl ?_
              go_simp
              first | exact ⟨hG, .refl _ _, rfl⟩ | exact ⟨.refl _ _, rfl⟩
            · injection ho with ho; subst ho
              have h13 : q 13 = _ := hp ⟨13, .guard⟩ (by simp) rfl
              simp only [h13]
              refine wpOp_go rfl rfl ?_
              go_simp
              first | exact ⟨hG, .refl _ _, rfl⟩ | exact ⟨.refl _ _, rfl⟩
            · injection ho with ho; subst ho
              have h13 : q 13 = _ := hp ⟨13, .guard⟩ (by simp) rfl
              simp only [h13]
              refine wpOp_go rfl rfl ?_
              go_simp
              first | exact ⟨hG, .refl _ _, rfl⟩ | exact ⟨.refl _ _, rfl⟩
            · injection ho with ho; subst ho
              have h15 : q 15 = _ := hp ⟨15, .data⟩ (by simp) rfl
              have h13 : q 13 = _ := hp ⟨13, .guard⟩ (by simp) rfl
              simp only [h15, h13]
              refine wpOp_go rfl rfl ?_
              go_simp
              first | exact ⟨hG, .refl _ _, rfl⟩ | exact ⟨.refl _ _, rfl⟩
            · injection ho with ho; subst ho
              have h16 : q 16 = _ := hp ⟨16, .data⟩ (by simp) rfl
              have h13 : q 13 = _ := hp ⟨13, .guard⟩ (by simp) rfl
              simp only [h16, h13]
              refine wpOp_go rfl rfl ?_
              go_simp
              first | exact ⟨hG, .refl _ _, rfl⟩ | exact ⟨.refl _ _, rfl⟩
            · injection ho with ho; subst ho
              have h14 : q 14 = _ := hp ⟨14, .data⟩ (by simp) rfl
              have h17 : q 17 = _ := hp ⟨17, .data⟩ (by simp) rfl
              have h13 : q 13 = _ := hp ⟨13, .guard⟩ (by simp) rfl
              simp only [h14, h17, h13]
              refine wpOp_go rfl rfl ?_
              go_simp
              refine (join_t b2 _ _ _ _ _ _ ys xs _ (hG.all 5 _ rfl).rc (hG.all 6 _ rfl).rc rfl rfl (by omega)).mono ?_
              rintro e w21 ⟨A21, c21, rfl, hc, hr, hb⟩
              exact ⟨hG.call hb, .of_below hb _, A21, c21, rfl, hc, hr⟩
            · injection ho with ho; subst ho
              have h13 : q 13 = _ := hp ⟨13, .guard⟩ (by simp) rfl
              simp only [h13]
              refine wpOp_go rfl rfl ?_
              go_simp
              first | exact ⟨hG, .refl _ _, rfl⟩ | exact ⟨.refl _ _, rfl⟩
            · injection ho with ho; subst ho
              have h19 : q 19 = _ := hp ⟨19, .data⟩ (by simp) rfl
              have h13 : q 13 = _ := hp ⟨13, .guard⟩ (by simp) rfl
              simp only [h19, h13]
              refine wpOp_go rfl rfl ?_
              go_simp
              first | exact ⟨hG, .refl _ _, rfl⟩ | exact ⟨.refl _ _, rfl⟩
            · injection ho with ho; subst ho
              have h20 : q 20 = _ := hp ⟨20, .data⟩ (by simp) rfl
              have h13 : q 13 = _ := hp ⟨13, .guard⟩ (by simp) rfl
              simp only [h20, h13]
              refine wpOp_go rfl rfl ?_
              go_simp
              first | exact ⟨hG, .refl _ _, rfl⟩ | exact ⟨.refl _ _, rfl⟩
            · injection ho with ho; subst ho
              have h21 : q 21 = _ := hp ⟨21, .data⟩ (by simp) rfl
              have h13 : q 13 = _ := hp ⟨13, .guard⟩ (by simp) rfl
              obtain ⟨A18, c18, h18, hc18, hr18⟩ := hp ⟨18, .data⟩ (by simp) rfl
              change q 18 = _ at h18
              simp only [h21, h13, h18]
              refine wpOp_go rfl rfl ?_
              go_simp
              refine (same_calls true true _ _ _ _ _ _ xs xs _ hr18 (hG.all 6 _ rfl).rc rfl rfl (by omega) (by omega)).mono ?_
              rintro e w21 ⟨rfl, hb⟩
              rw [eqP_yes ⟨rfl, rfl⟩]
              exact ⟨hG.call hb, .of_below hb _, rfl⟩
            · injection ho with ho; subst ho
              have h13 : q 13 = _ := hp ⟨13, .data⟩ (by simp) rfl
              have h22 : q 22 = _ := hp ⟨22, .data⟩ (by simp) rfl
              simp only [h13, h22]
              refine wpOp_go rfl rfl ?_
              go_simp
              first | exact ⟨hG, .refl _ _, rfl⟩ | exact ⟨.refl _ _, rfl⟩
            · injection ho with ho; subst ho
              have h23 : q 23 = _ := hp ⟨23, .data⟩ (by simp) rfl
              simp only [h23]
              refine wpOp_go rfl rfl ?_
              go_simp
              first | exact ⟨hG, .refl _ _, rfl⟩ | exact ⟨.refl _ _, rfl⟩
            · injection ho with ho; subst ho
              have h24 : q 24 = _ := hp ⟨24, .guard⟩ (by simp) rfl
              simp only [h24]
              refine wpOp_go rfl rfl ?_
              go_simp
              refine (known_calls _).mono ?_
              rintro e w21 ⟨rfl, hb⟩
              exact ⟨hG.call hb, .of_below hb _, rfl⟩
            · injection ho with ho; subst ho
              have h24 : q 24 = _ := hp ⟨24, .data⟩ (by simp) rfl
              have h25 : q 25 = _ := hp ⟨25, .data⟩ (by simp) rfl
              simp only [h24, h25]
              refine wpOp_go rfl rfl ?_
              go_simp
              first | exact ⟨hG, .refl _ _, rfl⟩ | exact ⟨.refl _ _, rfl⟩
            · injection ho with ho; subst ho
              have h26 : q 26 = _ := hp ⟨26, .data⟩ (by simp) rfl
              simp only [h26]
              refine wpOp_go rfl rfl ?_
              go_simp
              first | exact ⟨hG, .refl _ _, rfl⟩ | exact ⟨.refl _ _, rfl⟩
            · cases ho
          case fin =>
            intro q w20 hG hV
            have h27 : q 27 = _ := hV 27 (by simp)
            simp only [h27]
            go_wp2_with (fail)
            go_ret
            exact ⟨rfl, hG.bel⟩
end Go.Proofs.YtncagcbdgimpfaaDoor
