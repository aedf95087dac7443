/- Walks: the law PathTells, where the names are short in all. -/
import Derived.Test.YtncagcbdgimpfaaDoorT15Tells0
namespace Go.Proofs.YtncagcbdgimpfaaDoor
open Go.RowKit Go.Sac Go.Shelf
set_option linter.unusedVariables false
set_option linter.unusedSimpArgs false

/-- what the first region yields -/
def T1V (v0 v2 : Value) (n m : Nat) (j : Nat) (w : World) (v : Value) : Prop :=
  match j with
  | 0 => v = v0
  | 1 => v = .int .i64 n
  | 2 => v = v2
  | 3 => v = .int .i64 m
  | 4 => v = .int .i64 (n + m)
  | 5 => v = .bool (decide (((n : Int) + m) > 1000))
  | _ => True
theorem T1V_stab {v0 v2 : Value} {n m : Nat} (i j : Nat) (w w' : World) (v : Value) (hij : i ≠ j) (hR : KeepBut none w w') (h : T1V v0 v2 n m j w v) : T1V v0 v2 n m j w' v := by
  rcases j with _ | _ | _ | _ | _ | _ | j <;> exact h
/-- what the last region yields -/
def T5V (b1 b2 b' : Bool) (A1 A2 A6 A7 : Option Addr) (c1 c2 c6 c7 : Nat) (xs ys X : List ByteArray) (z : ByteArray) (er : Int) (j : Nat) (w : World) (v : Value) : Prop :=
  match j with | 0 => v = Value.agg #[Value.bool b1, Value.slice A1 xs.length c1] | 1 => v = Value.string (mkS (printL b1 xs)) | 2 => v = Value.agg #[Value.bool b1, Value.slice A1 xs.length c1] | 3 => v = Value.string (mkS (printL b1 xs)) | 4 => v = Value.bool true | 5 => v = Value.bool true | 6 => v = Value.agg #[Value.bool b1, Value.slice A1 xs.length c1] | 7 => v = Value.agg #[Value.bool b2, Value.slice A2 ys.length c2] | 8 => PathV (jb b1 b2) (jx b2 xs ys) w v | 9 => v = Value.agg #[Value.bool b1, Value.slice A1 xs.length c1] | 10 => v = Value.agg #[Value.bool b2, Value.slice A2 ys.length c2] | 11 => PathV (jb b1 b2) (jx b2 xs ys) w v | 12 => v = Value.bool true | 13 => v = Value.bool true | 14 => v = Value.bool true | 15 => v = Value.agg #[Value.bool b', Value.slice A6 X.length c6] | 16 => v = Value.agg #[Value.bool b', Value.slice A7 X.length c7] | 17 => v = Value.bool true | 18 => v = Value.bool true | 19 => v = Value.bool true | 20 => v = Value.string z | 21 => v = Value.string z | 22 => v = Value.bool true | 23 => v = Value.bool true | 24 => v = Value.bool true | 25 => v = Value.int .i64 er | 26 => v = Value.int .i64 er | 27 => v = Value.bool true | 28 => v = Value.bool true | 29 => v = Value.bool true | 30 => v = Value.agg #[Value.bool b1, Value.slice A1 xs.length c1] | 31 => v = Value.agg #[Value.bool b2, Value.slice A2 ys.length c2] | 32 => v = Value.bool (eqP b1 b2 xs ys) | 33 => v = Value.agg #[Value.bool b1, Value.slice A1 xs.length c1] | 34 => v = Value.agg #[Value.bool b2, Value.slice A2 ys.length c2] | 35 => v = Value.bool (eqP b1 b2 xs ys) | 36 => v = Value.bool true | 37 => v = Value.bool true | 38 => v = Value.bool true | 39 => v = Value.agg #[Value.bool b1, Value.slice A1 xs.length c1] | 40 => v = Value.agg #[Value.bool b1, Value.slice A1 xs.length c1] | 41 => v = Value.bool true | 42 => v = Value.bool true | 43 => v = Value.bool true | 44 => v = Value.bool true | 45 => v = Value.bool true | 46 => v = Value.bool true | _ => True
theorem T5V_stab {b1 b2 b' : Bool} {A1 A2 A6 A7 : Option Addr} {c1 c2 c6 c7 : Nat} {xs ys X : List ByteArray} {z : ByteArray} {er : Int} (i j : Nat) (w w' : World) (v : Value) (hij : i ≠ j) (hR : KeepBut none w w') (h : T5V b1 b2 b' A1 A2 A6 A7 c1 c2 c6 c7 xs ys X z er j w v) : T5V b1 b2 b' A1 A2 A6 A7 c1 c2 c6 c7 xs ys X z er j w' v := by
  rcases j with _ | _ | _ | _ | _ | _ | _ | _ | _ | _ | _ | _ | _ | _ | _ | _ | _ | _ | _ | _ | _ | _ | _ | _ | _ | _ | _ | _ | _ | _ | _ | _ | _ | _ | _ | _ | _ | _ | _ | _ | _ | _ | _ | _ | _ | _ | _ | j <;> try exact h
  all_goals exact PathV.keep (s := 1) (B := 0) (i := 0) h (sr_of (by decide) hR)
theorem joinL_1000 (xs : List ByteArray) (h : totS xs ≤ 1000) : (joinL xs).length ≤ 1000000 := by
  cases xs with
  | nil => decide
  | cons x r => have := joinL_len (x :: r) (by simp); omega
set_option maxHeartbeats 4000000 in
theorem law_tells (b1 : Bool) (A1 : Option Addr) (c1 : Nat) (xs : List ByteArray) (b2 : Bool) (A2 : Option Addr) (c2 : Nat) (ys : List ByteArray) (w : World)
    (hx : Rc w A1 (svs xs)) (hc1 : xs.length ≤ c1) (ht1 : totS xs ≤ 1048576) (hy : Rc w A2 (svs ys)) (hc2 : ys.length ≤ c2) (ht2 : totS ys ≤ 1048576) :
    Calls Tryd.prog 8 #[.agg #[.bool b1, .slice A1 xs.length c1], .agg #[.bool b2, .slice A2 ys.length c2]] w (RetT w) := by
  have hb1 : Below w.heap.size w (w.alloc (.cells #[.bool b1, .slice A1 xs.length c1] 25)) := (Below.refl _ w).alloc (Nat.le_refl _) _
  have hs1 := (Boxes.none w).push b1 hx hc1
  have hs2 := hs1.push b2 (hy.below hb1) hc2
  rw [World.size_alloc] at hs2
  have HS := Hd.mk hs2
  have HT1 := Hd.mk ht1
  have HT2 := Hd.mk ht2
  have HX0 := Hd.mk hx
  have HC1 := Hd.mk hc1
  have HC2 := Hd.mk hc2
  clear hb1 hs1 hs2 hx hy hc1 hc2 ht1 ht2
  go_enter Tryd.func8, Tryd.ntmps8
  go_wp2_with (fail)
  have HL := Hd.mk HS.out.bel.size
  generalize hW : ((w.alloc (.cells #[.bool b1, .slice A1 xs.length c1] 25)).alloc (.cells #[.bool b2, .slice A2 ys.length c2] 25)) = W at HS HL ⊢
  clear hW
  refine region_fam (fun f => #[Value.agg #[Value.bool b1, Value.slice A1 xs.length c1], Value.agg #[Value.bool b2, Value.slice A2 ys.length c2], Value.pointer (some ⟨w.heap.size, 0, none⟩), Value.pointer (some ⟨w.heap.size + 1, 0, none⟩), Value.bool false, undef, undef, undef, undef, undef, undef, f 0, f 1, f 2, f 3, f 4, f 5, undef, undef, undef, undef, undef, undef, undef, undef, undef, undef, undef, undef, undef, undef, undef, undef, undef, undef, undef, undef, undef, undef, undef, undef, undef, undef, undef, undef, undef, undef, undef, undef, undef, undef, undef, undef, undef, undef, undef, undef, undef, undef, undef, undef, undef, undef, undef, undef, undef, undef, undef, undef, undef, undef, undef, undef, undef, undef, undef])
    (T1V (Value.agg #[Value.bool b1, Value.slice A1 xs.length c1]) (Value.agg #[Value.bool b2, Value.slice A2 ys.length c2]) (totS xs) (totS ys)) (fun W' => Boxes w W' [⟨w.heap.size + 1, b2, A2, ys, c2⟩, ⟨w.heap.size, b1, A1, xs, c1⟩]) (fun _ => KeepBut none) (by kernel_rfl) (by kernel_rfl) (fun _ => undef) rfl (HS.out.call (Below.refl _ _).drew) T1V_stab ?put ?step ?fin
  case put =>
    intro i o ho f v
    rcases i with _ | _ | _ | _ | _ | _ | i
    all_goals first | (injection ho with ho; subst ho; rfl) | (cases ho)
  case step =>
    intro i o ho f w5 hG hp
    have hp0 := (hG.all 1 _ rfl).blk.cell (i := 0) rfl
    have hp1 := (hG.all 1 _ rfl).blk.cell (i := 1) rfl
    have hq0 := (hG.all 0 _ rfl).blk.cell (i := 0) rfl
    have hq1 := (hG.all 0 _ rfl).blk.cell (i := 1) rfl
    rcases i with _ | _ | _ | _ | _ | _ | i
    · injection ho with ho; subst ho
      refine wpOp_go rfl rfl ?_
      go_simp
      first | exact ⟨hG, .refl _ _, rfl⟩ | exact ⟨.refl _ _, rfl⟩
    · injection ho with ho; subst ho
      have h0 : f 0 = _ := hp ⟨0, .data⟩ (by simp) rfl
      simp only [h0]
      refine wpOp_go rfl rfl ?_
      go_simp
      refine (rlong_calls _ _ _ _ _ _ (hG.all 1 _ rfl).rc rfl HT1.out).mono ?_
      rintro e w6 ⟨rfl, hb⟩
      exact ⟨hG.call hb, .of_below hb _, rfl⟩
    · injection ho with ho; subst ho
      refine wpOp_go rfl rfl ?_
      go_simp
      first | exact ⟨hG, .refl _ _, rfl⟩ | exact ⟨.refl _ _, rfl⟩
    · injection ho with ho; subst ho
      have h2 : f 2 = _ := hp ⟨2, .data⟩ (by simp) rfl
      simp only [h2]
      refine wpOp_go rfl rfl ?_
      go_simp
      refine (rlong_calls _ _ _ _ _ _ (hG.all 0 _ rfl).rc rfl HT2.out).mono ?_
      rintro e w6 ⟨rfl, hb⟩
      exact ⟨hG.call hb, .of_below hb _, rfl⟩
    · injection ho with ho; subst ho
      have h1 : f 1 = _ := hp ⟨1, .data⟩ (by simp) rfl
      have h3 : f 3 = _ := hp ⟨3, .data⟩ (by simp) rfl
      simp only [h1, h3]
      have q1 := HT1.out
      have q2 := HT2.out
      have g1 : IntKind.i64.wrap ((totS xs : Int) + (totS ys : Int)) = (totS xs : Int) + (totS ys : Int) := by rw [IntKind.wrap_i64]; omega
      refine wpOp_go rfl rfl ?_
      go_simp
      first | exact ⟨hG, .refl _ _, rfl⟩ | exact ⟨.refl _ _, rfl⟩
    · injection ho with ho; subst ho
      have h4 : f 4 = _ := hp ⟨4, .data⟩ (by simp) rfl
      simp only [h4]
      refine wpOp_go rfl rfl ?_
      go_simp
      first | exact ⟨hG, .refl _ _, rfl⟩ | exact ⟨.refl _ _, rfl⟩
    · cases ho
  case fin =>
    intro f w5 hG hV
    have h5 : f 5 = _ := hV 5 (by simp)
    simp only [h5]
    clear HS
    have HS := Hd.mk hG
    clear hG hV h5
    by_cases hbig : (totS xs : Int) + totS ys > 1000
    · have f1 : decide (((totS xs : Int) + totS ys) > 1000) = true := by simpa using hbig
      rw [f1]
      clear f1 hbig
      go_wp2_with (go_at_call 10; refine (known_calls _).mono ?_; rintro e w8 ⟨rfl, hb⟩; have HS := Hd.mk (HS.out.call hb); clear hb)
      go_ret
      exact ⟨rfl, HS.out.bel⟩
    · have f1 : decide (((totS xs : Int) + totS ys) > 1000) = false := by simpa using hbig
      rw [f1]
      have HX : Hd (xs.length + ys.length ≤ 1000 ∧ (joinL xs).length ≤ 1000000) := ⟨by have := totS_len xs; have := totS_len ys; have := joinL_1000 xs (by omega); exact ⟨by omega, this⟩⟩
      obtain ⟨b', X, z, er, hLI, hX, her⟩ := last_both b1 A1 c1 xs w HX0.out HC1.out (by have := HX.out; omega)
      have HLI := Hd.mk hLI
      have HXX := Hd.mk hX
      clear f1 hbig hLI hX
      have T3 : Hd True := ⟨trivial⟩
      have T4 : Hd True := ⟨trivial⟩
      go_wp2_with (first
        | (go_at_call 19; clear T3; refine (HLI.out _ (HS.out.all 1 _ rfl).rc).1.mono ?_; rintro e w6 ⟨A6, c6, rfl, hc, hr, hb⟩; have HS := Hd.mk ((HS.out.call hb).push b' hr hc); clear hr hb hc)
        | (go_at_call 20; clear T4; refine (HLI.out _ (HS.out.all 2 _ rfl).rc).2.mono ?_; rintro e w7 ⟨A7, c7, rfl, hc, hr, hb⟩; have HS := Hd.mk ((HS.out.call hb).push b' hr hc); clear hr hb hc)
        | (first | (refine box_load HS 1 _ rfl rfl _ rfl rfl ?_) | (refine box_load HS 2 _ rfl rfl _ rfl rfl ?_)))
      refine region_fam (fun g => #[Value.agg #[Value.bool b1, Value.slice A1 xs.length c1], Value.agg #[Value.bool b2, Value.slice A2 ys.length c2], Value.pointer (some ⟨w.heap.size, 0, none⟩), Value.pointer (some ⟨w.heap.size + 1, 0, none⟩), g 46, Value.pointer (some ⟨w6.heap.size, 0, none⟩), Value.string z, Value.int .i64 er, Value.pointer (some ⟨w7.heap.size, 0, none⟩), Value.string z, Value.int .i64 er, f 0, f 1, f 2, f 3, f 4, Value.bool false, undef, Value.tuple #[Value.agg #[Value.bool b', Value.slice A6 X.length c6], Value.string z, Value.int .i64 er], Value.agg #[Value.bool b1, Value.slice A1 xs.length c1], Value.tuple #[Value.agg #[Value.bool b', Value.slice A6 X.length c6], Value.string z, Value.int .i64 er], Value.agg #[Value.bool b', Value.slice A6 X.length c6], Value.string z, Value.int .i64 er, Value.tuple #[Value.agg #[Value.bool b', Value.slice A7 X.length c7], Value.string z, Value.int .i64 er], Value.agg #[Value.bool b1, Value.slice A1 xs.length c1], Value.tuple #[Value.agg #[Value.bool b', Value.slice A7 X.length c7], Value.string z, Value.int .i64 er], Value.agg #[Value.bool b', Value.slice A7 X.length c7], Value.string z, Value.int .i64 er, g 0, g 1, g 2, g 3, g 4, g 5, g 6, g 7, g 8, g 9, g 10, g 11, g 12, g 13, g 14, g 15, g 16, g 17, g 18, g 19, g 20, g 21, g 22, g 23, g 24, g 25, g 26, g 27, g 28, g 29, g 30, g 31, g 32, g 33, g 34, g 35, g 36, g 37, g 38, g 39, g 40, g 41, g 42, g 43, g 44, g 45])
        (T5V b1 b2 b' A1 A2 A6 A7 c1 c2 c6 c7 xs ys X z er) (fun W' => Boxes w W' [⟨w7.heap.size, b', A7, X, c7⟩, ⟨w6.heap.size, b', A6, X, c6⟩, ⟨w.heap.size + 1, b2, A2, ys, c2⟩, ⟨w.heap.size, b1, A1, xs, c1⟩]) (fun _ => KeepBut none) (by kernel_rfl) (by kernel_rfl) (fun i => if i = 46 then .bool false else undef) rfl (HS.out.call (Below.refl _ _).drew) T5V_stab ?put ?step ?fin
      case put =>
        intro i o ho f v
        rcases i with _ | _ | _ | _ | _ | _ | _ | _ | _ | _ | _ | _ | _ | _ | _ | _ | _ | _ | _ | _ | _ | _ | _ | _ | _ | _ | _ | _ | _ | _ | _ | _ | _ | _ | _ | _ | _ | _ | _ | _ | _ | _ | _ | _ | _ | _ | _ | i
        all_goals first | (injection ho with ho; subst ho; rfl) | (cases ho)
      case step =>
        intro i o ho g w20 hG hp
        have hxl := HX.out.1
        have hxj := HX.out.2
        have hXl := HXX.out
        have hjl : (jx b2 xs ys).length ≤ 1000 := by have := jx_len b2 xs ys; omega
        have hx00 := (hG.all 0 _ rfl).blk.cell (i := 0) rfl
        have hx01 := (hG.all 0 _ rfl).blk.cell (i := 1) rfl
        have hx10 := (hG.all 1 _ rfl).blk.cell (i := 0) rfl
        have hx11 := (hG.all 1 _ rfl).blk.cell (i := 1) rfl
        have hx20 := (hG.all 2 _ rfl).blk.cell (i := 0) rfl
        have hx21 := (hG.all 2 _ rfl).blk.cell (i := 1) rfl
        have hx30 := (hG.all 3 _ rfl).blk.cell (i := 0) rfl
        have hx31 := (hG.all 3 _ rfl).blk.cell (i := 1) rfl
        rcases i with _ | _ | _ | _ | _ | _ | _ | _ | _ | _ | _ | _ | _ | _ | _ | _ | _ | _ | _ | _ | _ | _ | _ | _ | _ | _ | _ | _ | _ | _ | _ | _ | _ | _ | _ | _ | _ | _ | _ | _ | _ | _ | _ | _ | _ | _ | _ | i
        · injection ho with ho; subst ho
          refine wpOp_go rfl rfl ?_
          go_simp
          first | exact ⟨hG, .refl _ _, rfl⟩ | exact ⟨.refl _ _, rfl⟩
        · injection ho with ho; subst ho
          have h0 : g 0 = _ := hp ⟨0, .data⟩ (by simp) rfl
          simp only [h0]
          refine wpOp_go rfl rfl ?_
          go_simp
          refine (print_calls _ _ _ _ xs _ (hG.all 3 _ rfl).rc rfl (hG.all 3 _ rfl).cap (by omega) hxj).mono ?_
          rintro e w21 ⟨rfl, hb⟩
          exact ⟨hG.call hb, .of_below hb _, rfl⟩
        · injection ho with ho; subst ho
          refine wpOp_go rfl rfl ?_
          go_simp
          first | exact ⟨hG, .refl _ _, rfl⟩ | exact ⟨.refl _ _, rfl⟩
        · injection ho with ho; subst ho
          have h2 : g 2 = _ := hp ⟨2, .data⟩ (by simp) rfl
          simp only [h2]
          refine wpOp_go rfl rfl ?_
          go_simp
          refine (rprint_calls _ _ _ _ xs _ (hG.all 3 _ rfl).rc rfl (hG.all 3 _ rfl).cap (by omega) hxj).mono ?_
          rintro e w21 ⟨rfl, hb⟩
          exact ⟨hG.call hb, .of_below hb _, rfl⟩
        · injection ho with ho; subst ho
          have h1 : g 1 = _ := hp ⟨1, .data⟩ (by simp) rfl
          have h3 : g 3 = _ := hp ⟨3, .data⟩ (by simp) rfl
          simp only [h1, h3]
          refine wpOp_go rfl rfl ?_
          go_simp
          first | exact ⟨hG, .refl _ _, rfl⟩ | exact ⟨.refl _ _, rfl⟩
        · injection ho with ho; subst ho
          have h4 : g 4 = _ := hp ⟨4, .data⟩ (by simp) rfl
          simp only [h4]
          refine wpOp_go rfl rfl ?_
          go_simp
          first | exact ⟨hG, .refl _ _, rfl⟩ | exact ⟨.refl _ _, rfl⟩
        · injection ho with ho; subst ho
          have h5 : g 5 = _ := hp ⟨5, .guard⟩ (by simp) rfl
          simp only [h5]
          refine wpOp_go rfl rfl ?_
          go_simp
          first | exact ⟨hG, .refl _ _, rfl⟩ | exact ⟨.refl _ _, rfl⟩
        · injection ho with ho; subst ho
          have h5 : g 5 = _ := hp ⟨5, .guard⟩ (by simp) rfl
          simp only [h5]
          refine wpOp_go rfl rfl ?_
          go_simp
          first | exact ⟨hG, .refl _ _, rfl⟩ | exact ⟨.refl _ _, rfl⟩
        · injection ho with ho; subst ho
          have h6 : g 6 = _ := hp ⟨6, .data⟩ (by simp) rfl
          have h7 : g 7 = _ := hp ⟨7, .data⟩ (by simp) rfl
          have h5 : g 5 = _ := hp ⟨5, .guard⟩ (by simp) rfl
          simp only [h6, h7, h5]
          refine wpOp_go rfl rfl ?_
          go_simp
          refine (join_is _ _ _ _ _ _ _ _ xs ys _ (hG.all 3 _ rfl).rc (hG.all 2 _ rfl).rc rfl rfl (by omega)).mono ?_
          rintro e w21 ⟨A21, c21, rfl, hc, hr, hb⟩
          exact ⟨hG.call hb, .of_below hb _, A21, c21, rfl, hc, hr⟩
        · injection ho with ho; subst ho
          have h5 : g 5 = _ := hp ⟨5, .guard⟩ (by simp) rfl
          simp only [h5]
          refine wpOp_go rfl rfl ?_
          go_simp
          first | exact ⟨hG, .refl _ _, rfl⟩ | exact ⟨.refl _ _, rfl⟩
        · injection ho with ho; subst ho
          have h5 : g 5 = _ := hp ⟨5, .guard⟩ (by simp) rfl
          simp only [h5]
          refine wpOp_go rfl rfl ?_
          go_simp
          first | exact ⟨hG, .refl _ _, rfl⟩ | exact ⟨.refl _ _, rfl⟩
        · injection ho with ho; subst ho
          have h9 : g 9 = _ := hp ⟨9, .data⟩ (by simp) rfl
          have h10 : g 10 = _ := hp ⟨10, .data⟩ (by simp) rfl
          have h5 : g 5 = _ := hp ⟨5, .guard⟩ (by simp) rfl
          simp only [h9, h10, h5]
          refine wpOp_go rfl rfl ?_
          go_simp
          refine (rjoin_is _ _ _ _ _ _ _ _ xs ys _ (hG.all 3 _ rfl).rc (hG.all 2 _ rfl).rc rfl rfl (hG.all 2 _ rfl).cap (by omega)).mono ?_
          rintro e w21 ⟨A21, c21, rfl, hc, hr, hb⟩
          exact ⟨hG.call hb, .of_below hb _, A21, c21, rfl, hc, hr⟩
        · injection ho with ho; subst ho
          have h5 : g 5 = _ := hp ⟨5, .guard⟩ (by simp) rfl
          obtain ⟨A8, c8, h8, hc8, hr8⟩ := hp ⟨8, .data⟩ (by simp) rfl
          change g 8 = _ at h8
          obtain ⟨A11, c11, h11, hc11, hr11⟩ := hp ⟨11, .data⟩ (by simp) rfl
          change g 11 = _ at h11
          simp only [h5, h8, h11]
          refine wpOp_go rfl rfl ?_
          go_simp
          refine (rsame_calls _ _ _ _ _ _ _ _ _ _ _ hr8 hr11 rfl rfl (by omega) (by omega)).mono ?_
          rintro e w21 ⟨rfl, hb⟩
          rw [eqP_yes ⟨rfl, rfl⟩]
          exact ⟨hG.call hb, .of_below hb _, rfl⟩
        · injection ho with ho; subst ho
          have h5 : g 5 = _ := hp ⟨5, .data⟩ (by simp) rfl
          have h12 : g 12 = _ := hp ⟨12, .data⟩ (by simp) rfl
          simp only [h5, h12]
          refine wpOp_go rfl rfl ?_
          go_simp
          first | exact ⟨hG, .refl _ _, rfl⟩ | exact ⟨.refl _ _, rfl⟩
        · injection ho with ho; subst ho
          have h13 : g 13 = _ := hp ⟨13, .data⟩ (by simp) rfl
          simp only [h13]
          refine wpOp_go rfl rfl ?_
          go_simp
          first | exact ⟨hG, .refl _ _, rfl⟩ | exact ⟨.refl _ _, rfl⟩
        · injection ho with ho; subst ho
          have h14 : g 14 = _ := hp ⟨14, .guard⟩ (by simp) rfl
          simp only [h14]
          refine wpOp_go rfl rfl ?_
          go_simp
          first | exact ⟨hG, .refl _ _, rfl⟩ | exact ⟨.refl _ _, rfl⟩
        · injection ho with ho; subst ho
          have h14 : g 14 = _ := hp ⟨14, .guard⟩ (by simp) rfl
          simp only [h14]
          refine wpOp_go rfl rfl ?_
          go_simp
          first | exact ⟨hG, .refl _ _, rfl⟩ | exact ⟨.refl _ _, rfl⟩
        · injection ho with ho; subst ho
          have h15 : g 15 = _ := hp ⟨15, .data⟩ (by simp) rfl
          have h16 : g 16 = _ := hp ⟨16, .data⟩ (by simp) rfl
          have h14 : g 14 = _ := hp ⟨14, .guard⟩ (by simp) rfl
          simp only [h15, h16, h14]
          refine wpOp_go rfl rfl ?_
          go_simp
          refine (rsame_calls _ _ _ _ _ _ _ _ X X _ (hG.all 1 _ rfl).rc (hG.all 0 _ rfl).rc rfl rfl (by omega) (by omega)).mono ?_
          rintro e w21 ⟨rfl, hb⟩
          rw [eqP_yes ⟨rfl, rfl⟩]
          exact ⟨hG.call hb, .of_below hb _, rfl⟩
        · injection ho with ho; subst ho
          have h14 : g 14 = _ := hp ⟨14, .data⟩ (by simp) rfl
          have h17 : g 17 = _ := hp ⟨17, .data⟩ (by simp) rfl
          simp only [h14, h17]
          refine wpOp_go rfl rfl ?_
          go_simp
          first | exact ⟨hG, .refl _ _, rfl⟩ | exact ⟨.refl _ _, rfl⟩
        · injection ho with ho; subst ho
          have h18 : g 18 = _ := hp ⟨18, .data⟩ (by simp) rfl
          simp only [h18]
          refine wpOp_go rfl rfl ?_
          go_simp
          first | exact ⟨hG, .refl _ _, rfl⟩ | exact ⟨.refl _ _, rfl⟩
        · injection ho with ho; subst ho
          have h19 : g 19 = _ := hp ⟨19, .guard⟩ (by simp) rfl
          simp only [h19]
          refine wpOp_go rfl rfl ?_
          go_simp
          first | exact ⟨hG, .refl _ _, rfl⟩ | exact ⟨.refl _ _, rfl⟩
        · injection ho with ho; subst ho
          have h19 : g 19 = _ := hp ⟨19, .guard⟩ (by simp) rfl
          simp only [h19]
          refine wpOp_go rfl rfl ?_
          go_simp
          first | exact ⟨hG, .refl _ _, rfl⟩ | exact ⟨.refl _ _, rfl⟩
        · injection ho with ho; subst ho
          have h20 : g 20 = _ := hp ⟨20, .data⟩ (by simp) rfl
          have h21 : g 21 = _ := hp ⟨21, .data⟩ (by simp) rfl
          have h19 : g 19 = _ := hp ⟨19, .guard⟩ (by simp) rfl
          simp only [h20, h21, h19]
          refine wpOp_go rfl rfl ?_
          go_simp
          first | exact ⟨hG, .refl _ _, rfl⟩ | exact ⟨.refl _ _, rfl⟩
        · injection ho with ho; subst ho
          have h19 : g 19 = _ := hp ⟨19, .data⟩ (by simp) rfl
          have h22 : g 22 = _ := hp ⟨22, .data⟩ (by simp) rfl
          simp only [h19, h22]
          refine wpOp_go rfl rfl ?_
          go_simp
          first | exact ⟨hG, .refl _ _, rfl⟩ | exact ⟨.refl _ _, rfl⟩
        · injection ho with ho; subst ho
          have h23 : g 23 = _ := hp ⟨23, .data⟩ (by simp) rfl
          simp only [h23]
          refine wpOp_go rfl rfl ?_
          go_simp
          first | exact ⟨hG, .refl _ _, rfl⟩ | exact ⟨.refl _ _, rfl⟩
        · injection ho with ho; subst ho
          have h24 : g 24 = _ := hp ⟨24, .guard⟩ (by simp) rfl
          simp only [h24]
          refine wpOp_go rfl rfl ?_
          go_simp
          first | exact ⟨hG, .refl _ _, rfl⟩ | exact ⟨.refl _ _, rfl⟩
        · injection ho with ho; subst ho
          have h24 : g 24 = _ := hp ⟨24, .guard⟩ (by simp) rfl
          simp only [h24]
          refine wpOp_go rfl rfl ?_
          go_simp
          first | exact ⟨hG, .refl _ _, rfl⟩ | exact ⟨.refl _ _, rfl⟩
        · injection ho with ho; subst ho
          have h25 : g 25 = _ := hp ⟨25, .data⟩ (by simp) rfl
          have h26 : g 26 = _ := hp ⟨26, .data⟩ (by simp) rfl
          have h24 : g 24 = _ := hp ⟨24, .guard⟩ (by simp) rfl
          simp only [h25, h26, h24]
          refine wpOp_go rfl rfl ?_
          go_simp
          first | exact ⟨hG, .refl _ _, rfl⟩ | exact ⟨.refl _ _, rfl⟩
        · injection ho with ho; subst ho
          have h24 : g 24 = _ := hp ⟨24, .data⟩ (by simp) rfl
          have h27 : g 27 = _ := hp ⟨27, .data⟩ (by simp) rfl
          simp only [h24, h27]
          refine wpOp_go rfl rfl ?_
          go_simp
          first | exact ⟨hG, .refl _ _, rfl⟩ | exact ⟨.refl _ _, rfl⟩
        · injection ho with ho; subst ho
          have h28 : g 28 = _ := hp ⟨28, .data⟩ (by simp) rfl
          simp only [h28]
          refine wpOp_go rfl rfl ?_
          go_simp
          first | exact ⟨hG, .refl _ _, rfl⟩ | exact ⟨.refl _ _, rfl⟩
        · injection ho with ho; subst ho
          have h29 : g 29 = _ := hp ⟨29, .guard⟩ (by simp) rfl
          simp only [h29]
          refine wpOp_go rfl rfl ?_
          go_simp
          first | exact ⟨hG, .refl _ _, rfl⟩ | exact ⟨.refl _ _, rfl⟩
        · injection ho with ho; subst ho
          have h29 : g 29 = _ := hp ⟨29, .guard⟩ (by simp) rfl
          simp only [h29]
          refine wpOp_go rfl rfl ?_
          go_simp
          first | exact ⟨hG, .refl _ _, rfl⟩ | exact ⟨.refl _ _, rfl⟩
        · injection ho with ho; subst ho
          have h30 : g 30 = _ := hp ⟨30, .data⟩ (by simp) rfl
          have h31 : g 31 = _ := hp ⟨31, .data⟩ (by simp) rfl
          have h29 : g 29 = _ := hp ⟨29, .guard⟩ (by simp) rfl
          simp only [h30, h31, h29]
          refine wpOp_go rfl rfl ?_
          go_simp
          refine (same_calls _ _ _ _ _ _ _ _ xs ys _ (hG.all 3 _ rfl).rc (hG.all 2 _ rfl).rc rfl rfl (by omega) (by omega)).mono ?_
          rintro e w21 ⟨rfl, hb⟩
          exact ⟨hG.call hb, .of_below hb _, rfl⟩
        · injection ho with ho; subst ho
          have h29 : g 29 = _ := hp ⟨29, .guard⟩ (by simp) rfl
          simp only [h29]
          refine wpOp_go rfl rfl ?_
          go_simp
          first | exact ⟨hG, .refl _ _, rfl⟩ | exact ⟨.refl _ _, rfl⟩
        · injection ho with ho; subst ho
          have h29 : g 29 = _ := hp ⟨29, .guard⟩ (by simp) rfl
          simp only [h29]
          refine wpOp_go rfl rfl ?_
          go_simp
          first | exact ⟨hG, .refl _ _, rfl⟩ | exact ⟨.refl _ _, rfl⟩
        · injection ho with ho; subst ho
          have h33 : g 33 = _ := hp ⟨33, .data⟩ (by simp) rfl
          have h34 : g 34 = _ := hp ⟨34, .data⟩ (by simp) rfl
          have h29 : g 29 = _ := hp ⟨29, .guard⟩ (by simp) rfl
          simp only [h33, h34, h29]
          refine wpOp_go rfl rfl ?_
          go_simp
          refine (rsame_calls _ _ _ _ _ _ _ _ xs ys _ (hG.all 3 _ rfl).rc (hG.all 2 _ rfl).rc rfl rfl (by omega) (by omega)).mono ?_
          rintro e w21 ⟨rfl, hb⟩
          exact ⟨hG.call hb, .of_below hb _, rfl⟩
        · injection ho with ho; subst ho
          have h32 : g 32 = _ := hp ⟨32, .data⟩ (by simp) rfl
          have h35 : g 35 = _ := hp ⟨35, .data⟩ (by simp) rfl
          have h29 : g 29 = _ := hp ⟨29, .guard⟩ (by simp) rfl
          simp only [h32, h35, h29]
          refine wpOp_go rfl rfl ?_
          go_simp
          first | exact ⟨hG, .refl _ _, rfl⟩ | exact ⟨.refl _ _, rfl⟩
        · injection ho with ho; subst ho
          have h29 : g 29 = _ := hp ⟨29, .data⟩ (by simp) rfl
          have h36 : g 36 = _ := hp ⟨36, .data⟩ (by simp) rfl
          simp only [h29, h36]
          refine wpOp_go rfl rfl ?_
          go_simp
          first | exact ⟨hG, .refl _ _, rfl⟩ | exact ⟨.refl _ _, rfl⟩
        · injection ho with ho; subst ho
          have h37 : g 37 = _ := hp ⟨37, .data⟩ (by simp) rfl
          simp only [h37]
          refine wpOp_go rfl rfl ?_
          go_simp
          first | exact ⟨hG, .refl _ _, rfl⟩ | exact ⟨.refl _ _, rfl⟩
        · injection ho with ho; subst ho
          have h38 : g 38 = _ := hp ⟨38, .guard⟩ (by simp) rfl
          simp only [h38]
          refine wpOp_go rfl rfl ?_
          go_simp
          first | exact ⟨hG, .refl _ _, rfl⟩ | exact ⟨.refl _ _, rfl⟩
        · injection ho with ho; subst ho
          have h38 : g 38 = _ := hp ⟨38, .guard⟩ (by simp) rfl
          simp only [h38]
          refine wpOp_go rfl rfl ?_
          go_simp
          first | exact ⟨hG, .refl _ _, rfl⟩ | exact ⟨.refl _ _, rfl⟩
        · injection ho with ho; subst ho
          have h39 : g 39 = _ := hp ⟨39, .data⟩ (by simp) rfl
          have h40 : g 40 = _ := hp ⟨40, .data⟩ (by simp) rfl
          have h38 : g 38 = _ := hp ⟨38, .guard⟩ (by simp) rfl
          simp only [h39, h40, h38]
          refine wpOp_go rfl rfl ?_
          go_simp
          refine (same_calls _ _ _ _ _ _ _ _ xs xs _ (hG.all 3 _ rfl).rc (hG.all 3 _ rfl).rc rfl rfl (by omega) (by omega)).mono ?_
          rintro e w21 ⟨rfl, hb⟩
          rw [eqP_yes ⟨rfl, rfl⟩]
          exact ⟨hG.call hb, .of_below hb _, rfl⟩
        · injection ho with ho; subst ho
          have h38 : g 38 = _ := hp ⟨38, .data⟩ (by simp) rfl
          have h41 : g 41 = _ := hp ⟨41, .data⟩ (by simp) rfl
          simp only [h38, h41]
          refine wpOp_go rfl rfl ?_
          go_simp
          first | exact ⟨hG, .refl _ _, rfl⟩ | exact ⟨.refl _ _, rfl⟩
        · injection ho with ho; subst ho
          have h42 : g 42 = _ := hp ⟨42, .data⟩ (by simp) rfl
          simp only [h42]
          refine wpOp_go rfl rfl ?_
          go_simp
          first | exact ⟨hG, .refl _ _, rfl⟩ | exact ⟨.refl _ _, rfl⟩
        · injection ho with ho; subst ho
          have h43 : g 43 = _ := hp ⟨43, .guard⟩ (by simp) rfl
          simp only [h43]
          refine wpOp_go rfl rfl ?_
          go_simp
          refine (known_calls _).mono ?_
          rintro e w21 ⟨rfl, hb⟩
          exact ⟨hG.call hb, .of_below hb _, rfl⟩
        · injection ho with ho; subst ho
          have h43 : g 43 = _ := hp ⟨43, .data⟩ (by simp) rfl
          have h44 : g 44 = _ := hp ⟨44, .data⟩ (by simp) rfl
          simp only [h43, h44]
          refine wpOp_go rfl rfl ?_
          go_simp
          first | exact ⟨hG, .refl _ _, rfl⟩ | exact ⟨.refl _ _, rfl⟩
        · injection ho with ho; subst ho
          have h45 : g 45 = _ := hp ⟨45, .data⟩ (by simp) rfl
          simp only [h45]
          refine wpOp_go rfl rfl ?_
          go_simp
          first | exact ⟨hG, .refl _ _, rfl⟩ | exact ⟨.refl _ _, rfl⟩
        · cases ho
      case fin =>
        intro g w20 hG hV
        have h46 : g 46 = _ := hV 46 (by simp)
        simp only [h46]
        go_wp2_with (fail)
        go_ret
        exact ⟨rfl, hG.bel⟩
end Go.Proofs.YtncagcbdgimpfaaDoor
