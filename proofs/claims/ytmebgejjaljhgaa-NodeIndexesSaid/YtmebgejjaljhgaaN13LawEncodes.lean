/- Walks: the law NodeEncodes. -/
import Derived.Test.YtmebgejjaljhgaaN13LawDecodes
namespace Go.Proofs.Ytmebgejjaljhgaa
open Go.RowKit Go.Sac
set_option linter.unusedVariables false
set_option linter.unusedSimpArgs false

/-- both encode it so -/
def EncBoth (xs : List Int) (l : List UInt8) (er : Int) : Prop := ∀ w, Calls Try.prog 11 #[ino xs] w (RetE 5 l er w) ∧ Calls Try.prog 20 #[ino xs] w (RetE 5 l er w)
theorem enc_both (xs : List Int) (hx : xs.length = 10) : ∃ l er, EncBoth xs l er := ⟨encB xs, encE xs, fun w => ⟨encode_calls xs w hx, rencode_calls xs w hx⟩⟩
def IdxBoth (A : Option Addr) (n c : Nat) (zs : List Int) (l : List UInt8) (er : Int) : Prop :=
  ∀ w, Rc w A (ns zs) → Calls Try.prog 21 #[.slice A n c] w (RetE 5 l er w) ∧ Calls Try.prog 22 #[.slice A n c] w (RetE 5 l er w)
theorem idx_both (A : Option Addr) (c : Nat) (zs : List Int) (hn : zs.length ≤ 1000000) : ∃ l er, IdxBoth A zs.length c zs l er := ⟨idxB zs, idxE zs, fun w hr => ⟨index_calls A c zs w hr (by omega), rindex_calls A c zs w hr (by omega)⟩⟩
def RightIs (xs : List Int) (r : Bool) : Prop := ∀ w, (Calls Try.prog 12 #[ino xs] w fun e w' => e = .returned (.bool r) ∧ Below w.heap.size w w') ∧ (Calls Try.prog 23 #[ino xs] w fun e w' => e = .returned (.bool r) ∧ Below w.heap.size w w')
theorem right_is (xs : List Int) (hx : xs.length = 10) : ∃ r, RightIs xs r := ⟨rightB xs, fun w => ⟨right_calls xs w hx, rright_calls xs w hx⟩⟩
/-- what the last region yields -/
def LEV (xs : List Int) (A1 A2 A3 A4 : Option Addr) (c1 c2 c3 c4 : Nat) (E F : List UInt8) (er es : Int) (r : Bool) (j : Nat) (w : World) (v : Value) : Prop :=
  match j with | 0 => v = Value.slice A1 E.length c1 | 1 => v = Value.slice A2 E.length c2 | 2 => v = Value.bool true | 3 => v = Value.bool true | 4 => v = Value.int .i64 er | 5 => v = Value.int .i64 er | 6 => v = Value.bool true | 7 => v = Value.bool true | 8 => v = Value.bool true | 9 => v = Value.slice A3 F.length c3 | 10 => v = Value.slice A4 F.length c4 | 11 => v = Value.bool true | 12 => v = Value.bool true | 13 => v = Value.bool true | 14 => v = Value.int .i64 es | 15 => v = Value.int .i64 es | 16 => v = Value.bool true | 17 => v = Value.bool true | 18 => v = Value.bool true | 19 => v = Value.agg (ns xs).toArray | 20 => v = Value.bool r | 21 => v = Value.agg (ns xs).toArray | 22 => v = Value.bool r | 23 => v = Value.bool true | 24 => v = Value.bool true | 25 => v = Value.bool true | 26 => v = Value.bool true | 27 => v = Value.bool true | 28 => v = Value.bool true | _ => True
theorem LEV_stab {xs : List Int} {A1 A2 A3 A4 : Option Addr} {c1 c2 c3 c4 : Nat} {E F : List UInt8} {er es : Int} {r : Bool} (i j : Nat) (w w' : World) (v : Value) (h : LEV xs A1 A2 A3 A4 c1 c2 c3 c4 E F er es r j w v) : LEV xs A1 A2 A3 A4 c1 c2 c3 c4 E F er es r j w' v := by
  rcases j with _ | _ | _ | _ | _ | _ | _ | _ | _ | _ | _ | _ | _ | _ | _ | _ | _ | _ | _ | _ | _ | _ | _ | _ | _ | _ | _ | _ | _ | j <;> exact h
set_option maxHeartbeats 4000000 in
theorem law_encodes (xs : List Int) (A : Option Addr) (c : Nat) (l : List Int) (w : World) (hx : xs.length = 10) (hl : Rc w A (ns l)) (hc : l.length ≤ c) (hn : l.length ≤ 140737488351232) (hi : ∀ n ∈ l, (Lit.int .i64 n).wf = true) :
    Calls Try.prog 7 #[ino xs, .slice A l.length c] w (RetT w) := by
  unfold ino
  have HK : Hd (Blk (w.alloc (.cells (ns xs).toArray 24)) w.heap.size 24 (ns xs)) := ⟨Blk.new w _ _⟩
  have HB : Hd (Below w.heap.size w (w.alloc (.cells (ns xs).toArray 24))) := ⟨(Below.refl _ w).alloc (Nat.le_refl _) _⟩
  have HX := Hd.mk hx
  clear hi
  by_cases hbig : l.length > 100
  · have d1 : decide ((l.length : Int) > 100) = true := by simp; omega
    clear hbig hl hc hx
    go_enter Try.func7, Try.ntmps7
    go_wp2_with (go_at_call 13; refine (known_calls _).mono ?_; rintro e w1 ⟨rfl, hb⟩; have HB := Hd.mk (below_then HB.out HB.out.size hb); clear hb)
    go_ret
    exact ⟨rfl, HB.out⟩
  · have d1 : decide ((l.length : Int) > 100) = false := by simp; omega
    obtain ⟨E, er, hE⟩ := enc_both xs hx
    obtain ⟨F, es, hF⟩ := idx_both A c l (by omega)
    obtain ⟨r, hR⟩ := right_is xs hx
    have HE := Hd.mk hE
    have HF := Hd.mk hF
    have HRI := Hd.mk hR
    have HL := Hd.mk hl
    clear hbig hl hc hx hE hF hR
    go_enter Try.func7, Try.ntmps7
    go_wp2_with (first
      | (refine wpList_load_row_w rfl 24 (.tmp 2) rfl w.heap.size rfl 24 _ (0, 0) _ HK.out Try.underlying24 rfl (ten_size HX.out) ?_)
      | (go_at_call 11; refine ((HE.out _).1).mono ?_; rintro e w1 ⟨v1, rfl, ho, hb⟩; obtain ⟨A1, c1, rfl, _, hr1, _⟩ := own_rc ho; have HR1 := Hd.mk hr1; have HK := Hd.mk (HK.out.below hb HK.out.lt); have HB := Hd.mk (below_then HB.out HB.out.size hb); clear ho hb hr1)
      | (go_at_call 20; refine ((HE.out _).2).mono ?_; rintro e w2 ⟨v2, rfl, ho, hb⟩; obtain ⟨A2, c2, rfl, _, hr2, _⟩ := own_rc ho; have HR2 := Hd.mk hr2; have HR1 := Hd.mk (HR1.out.below hb); have HK := Hd.mk (HK.out.below hb HK.out.lt); have HB := Hd.mk (below_then HB.out HB.out.size hb); clear ho hb hr2)
      | (go_at_call 21; refine ((HF.out _ (HL.out.below HB.out)).1).mono ?_; rintro e w3 ⟨v3, rfl, ho, hb⟩; obtain ⟨A3, c3, rfl, _, hr3, _⟩ := own_rc ho; have HR3 := Hd.mk hr3; have HR1 := Hd.mk (HR1.out.below hb); have HR2 := Hd.mk (HR2.out.below hb); have HK := Hd.mk (HK.out.below hb HK.out.lt); have HB := Hd.mk (below_then HB.out HB.out.size hb); clear ho hb hr3)
      | (go_at_call 22; refine ((HF.out _ (HL.out.below HB.out)).2).mono ?_; rintro e w4 ⟨v4, rfl, ho, hb⟩; obtain ⟨A4, c4, rfl, _, hr4, _⟩ := own_rc ho; have HR4 := Hd.mk hr4; have HR1 := Hd.mk (HR1.out.below hb); have HR2 := Hd.mk (HR2.out.below hb); have HR3 := Hd.mk (HR3.out.below hb); have HK := Hd.mk (HK.out.below hb HK.out.lt); have HB := Hd.mk (below_then HB.out HB.out.size hb); clear ho hb hr4))
    refine region_fam (fun f => #[Value.agg (ns xs).toArray, Value.slice A l.length c, Value.pointer (some ⟨w.heap.size, 0, none⟩), undef, f 28, Value.slice A1 E.length c1, Value.int .i64 er, Value.slice A2 E.length c2, Value.int .i64 er, Value.slice A3 F.length c3, Value.int .i64 es, Value.slice A4 F.length c4, Value.int .i64 es, Value.slice A l.length c, Value.int .i64 (l.length : Int), Value.bool false, undef, Value.tuple #[Value.slice A1 E.length c1, Value.int .i64 er], Value.agg (ns xs).toArray, Value.tuple #[Value.slice A1 E.length c1, Value.int .i64 er], Value.slice A1 E.length c1, Value.int .i64 er, Value.tuple #[Value.slice A2 E.length c2, Value.int .i64 er], Value.agg (ns xs).toArray, Value.tuple #[Value.slice A2 E.length c2, Value.int .i64 er], Value.slice A2 E.length c2, Value.int .i64 er, Value.tuple #[Value.slice A3 F.length c3, Value.int .i64 es], Value.slice A l.length c, Value.tuple #[Value.slice A3 F.length c3, Value.int .i64 es], Value.slice A3 F.length c3, Value.int .i64 es, Value.tuple #[Value.slice A4 F.length c4, Value.int .i64 es], Value.slice A l.length c, Value.tuple #[Value.slice A4 F.length c4, Value.int .i64 es], Value.slice A4 F.length c4, Value.int .i64 es, f 0, f 1, f 2, f 3, f 4, f 5, f 6, f 7, f 8, f 9, f 10, f 11, f 12, f 13, f 14, f 15, f 16, f 17, f 18, f 19, f 20, f 21, f 22, f 23, f 24, f 25, f 26, f 27])
      (LEV xs A1 A2 A3 A4 c1 c2 c3 c4 E F er es r) (fun W => Below w4.heap.size w4 W) (fun _ _ _ => True) (by kernel_rfl) (by kernel_rfl) (fun i => if i = 28 then .bool false else undef) rfl (Below.refl _ _).drew (fun i j w w' v _ _ h => LEV_stab i j w w' v h) ?put ?step ?fin
    case put =>
      intro i o ho f v
      rcases i with _ | _ | _ | _ | _ | _ | _ | _ | _ | _ | _ | _ | _ | _ | _ | _ | _ | _ | _ | _ | _ | _ | _ | _ | _ | _ | _ | _ | _ | i
      all_goals first | (injection ho with ho; subst ho; rfl) | (cases ho)
    case step =>
      intro i o ho f w6 hG hp
      rcases i with _ | _ | _ | _ | _ | _ | _ | _ | _ | _ | _ | _ | _ | _ | _ | _ | _ | _ | _ | _ | _ | _ | _ | _ | _ | _ | _ | _ | _ | i
      · injection ho with ho; subst ho
        refine wpOp_go rfl rfl ?_
        go_simp
        first | exact ⟨hG, trivial, rfl⟩ | exact ⟨hG, rfl⟩ | exact rfl
      · injection ho with ho; subst ho
        refine wpOp_go rfl rfl ?_
        go_simp
        first | exact ⟨hG, trivial, rfl⟩ | exact ⟨hG, rfl⟩ | exact rfl
      · injection ho with ho; subst ho
        have h0 : f 0 = _ := hp ⟨0, .data⟩ (by simp) rfl
        have h1 : f 1 = _ := hp ⟨1, .data⟩ (by simp) rfl
        simp only [h0, h1]
        refine wpOp_go rfl rfl ?_
        go_simp
        refine (same_any _ _ _ _ _ _ E E _ (HR1.out.below hG) (HR2.out.below hG) rfl rfl).mono ?_
        rintro e w7 ⟨rfl, rfl⟩
        first | exact congrArg Value.bool (beq_self_eq_true E) | exact ⟨hG, congrArg Value.bool (beq_self_eq_true E)⟩
      · injection ho with ho; subst ho
        have h2 : f 2 = _ := hp ⟨2, .data⟩ (by simp) rfl
        simp only [h2]
        refine wpOp_go rfl rfl ?_
        go_simp
        first | exact ⟨hG, trivial, rfl⟩ | exact ⟨hG, rfl⟩ | exact rfl
      · injection ho with ho; subst ho
        have h3 : f 3 = _ := hp ⟨3, .guard⟩ (by simp) rfl
        simp only [h3]
        refine wpOp_go rfl rfl ?_
        go_simp
        first | exact ⟨hG, trivial, rfl⟩ | exact ⟨hG, rfl⟩ | exact rfl
      · injection ho with ho; subst ho
        have h3 : f 3 = _ := hp ⟨3, .guard⟩ (by simp) rfl
        simp only [h3]
        refine wpOp_go rfl rfl ?_
        go_simp
        first | exact ⟨hG, trivial, rfl⟩ | exact ⟨hG, rfl⟩ | exact rfl
      · injection ho with ho; subst ho
        have h4 : f 4 = _ := hp ⟨4, .data⟩ (by simp) rfl
        have h5 : f 5 = _ := hp ⟨5, .data⟩ (by simp) rfl
        have h3 : f 3 = _ := hp ⟨3, .guard⟩ (by simp) rfl
        simp only [h4, h5, h3]
        refine wpOp_go rfl rfl ?_
        go_simp
        first | exact ⟨hG, trivial, rfl⟩ | exact ⟨hG, rfl⟩ | exact rfl
      · injection ho with ho; subst ho
        have h3 : f 3 = _ := hp ⟨3, .data⟩ (by simp) rfl
        have h6 : f 6 = _ := hp ⟨6, .data⟩ (by simp) rfl
        simp only [h3, h6]
        refine wpOp_go rfl rfl ?_
        go_simp
        first | exact ⟨hG, trivial, rfl⟩ | exact ⟨hG, rfl⟩ | exact rfl
      · injection ho with ho; subst ho
        have h7 : f 7 = _ := hp ⟨7, .data⟩ (by simp) rfl
        simp only [h7]
        refine wpOp_go rfl rfl ?_
        go_simp
        first | exact ⟨hG, trivial, rfl⟩ | exact ⟨hG, rfl⟩ | exact rfl
      · injection ho with ho; subst ho
        have h8 : f 8 = _ := hp ⟨8, .guard⟩ (by simp) rfl
        simp only [h8]
        refine wpOp_go rfl rfl ?_
        go_simp
        first | exact ⟨hG, trivial, rfl⟩ | exact ⟨hG, rfl⟩ | exact rfl
      · injection ho with ho; subst ho
        have h8 : f 8 = _ := hp ⟨8, .guard⟩ (by simp) rfl
        simp only [h8]
        refine wpOp_go rfl rfl ?_
        go_simp
        first | exact ⟨hG, trivial, rfl⟩ | exact ⟨hG, rfl⟩ | exact rfl
      · injection ho with ho; subst ho
        have h9 : f 9 = _ := hp ⟨9, .data⟩ (by simp) rfl
        have h10 : f 10 = _ := hp ⟨10, .data⟩ (by simp) rfl
        have h8 : f 8 = _ := hp ⟨8, .guard⟩ (by simp) rfl
        simp only [h9, h10, h8]
        refine wpOp_go rfl rfl ?_
        go_simp
        refine (same_any _ _ _ _ _ _ F F _ (HR3.out.below hG) (HR4.out.below hG) rfl rfl).mono ?_
        rintro e w7 ⟨rfl, rfl⟩
        first | exact congrArg Value.bool (beq_self_eq_true F) | exact ⟨hG, congrArg Value.bool (beq_self_eq_true F)⟩
      · injection ho with ho; subst ho
        have h8 : f 8 = _ := hp ⟨8, .data⟩ (by simp) rfl
        have h11 : f 11 = _ := hp ⟨11, .data⟩ (by simp) rfl
        simp only [h8, h11]
        refine wpOp_go rfl rfl ?_
        go_simp
        first | exact ⟨hG, trivial, rfl⟩ | exact ⟨hG, rfl⟩ | exact rfl
      · injection ho with ho; subst ho
        have h12 : f 12 = _ := hp ⟨12, .data⟩ (by simp) rfl
        simp only [h12]
        refine wpOp_go rfl rfl ?_
        go_simp
        first | exact ⟨hG, trivial, rfl⟩ | exact ⟨hG, rfl⟩ | exact rfl
      · injection ho with ho; subst ho
        have h13 : f 13 = _ := hp ⟨13, .guard⟩ (by simp) rfl
        simp only [h13]
        refine wpOp_go rfl rfl ?_
        go_simp
        first | exact ⟨hG, trivial, rfl⟩ | exact ⟨hG, rfl⟩ | exact rfl
      · injection ho with ho; subst ho
        have h13 : f 13 = _ := hp ⟨13, .guard⟩ (by simp) rfl
        simp only [h13]
        refine wpOp_go rfl rfl ?_
        go_simp
        first | exact ⟨hG, trivial, rfl⟩ | exact ⟨hG, rfl⟩ | exact rfl
      · injection ho with ho; subst ho
        have h14 : f 14 = _ := hp ⟨14, .data⟩ (by simp) rfl
        have h15 : f 15 = _ := hp ⟨15, .data⟩ (by simp) rfl
        have h13 : f 13 = _ := hp ⟨13, .guard⟩ (by simp) rfl
        simp only [h14, h15, h13]
        refine wpOp_go rfl rfl ?_
        go_simp
        first | exact ⟨hG, trivial, rfl⟩ | exact ⟨hG, rfl⟩ | exact rfl
      · injection ho with ho; subst ho
        have h13 : f 13 = _ := hp ⟨13, .data⟩ (by simp) rfl
        have h16 : f 16 = _ := hp ⟨16, .data⟩ (by simp) rfl
        simp only [h13, h16]
        refine wpOp_go rfl rfl ?_
        go_simp
        first | exact ⟨hG, trivial, rfl⟩ | exact ⟨hG, rfl⟩ | exact rfl
      · injection ho with ho; subst ho
        have h17 : f 17 = _ := hp ⟨17, .data⟩ (by simp) rfl
        simp only [h17]
        refine wpOp_go rfl rfl ?_
        go_simp
        first | exact ⟨hG, trivial, rfl⟩ | exact ⟨hG, rfl⟩ | exact rfl
      · injection ho with ho; subst ho
        have h18 : f 18 = _ := hp ⟨18, .guard⟩ (by simp) rfl
        simp only [h18]
        refine wpOp_go rfl rfl (wp_load_row 24 _ rfl w.heap.size rfl 24 _ (0, 0) _ (HK.out.below hG HK.out.lt) Try.underlying24 rfl (ten_size HX.out) ?_)
        exact ⟨_, rfl, hG, trivial, rfl⟩
      · injection ho with ho; subst ho
        have h19 : f 19 = _ := hp ⟨19, .data⟩ (by simp) rfl
        have h18 : f 18 = _ := hp ⟨18, .guard⟩ (by simp) rfl
        simp only [h19, h18]
        refine wpOp_go rfl rfl ?_
        go_simp
        refine ((HRI.out _).1).mono ?_
        rintro e w7 ⟨rfl, hb⟩
        first | exact ⟨below_then hG hG.size hb, rfl⟩ | exact ⟨below_then hG hG.size hb, trivial, rfl⟩
      · injection ho with ho; subst ho
        have h18 : f 18 = _ := hp ⟨18, .guard⟩ (by simp) rfl
        simp only [h18]
        refine wpOp_go rfl rfl (wp_load_row 24 _ rfl w.heap.size rfl 24 _ (0, 0) _ (HK.out.below hG HK.out.lt) Try.underlying24 rfl (ten_size HX.out) ?_)
        exact ⟨_, rfl, hG, trivial, rfl⟩
      · injection ho with ho; subst ho
        have h21 : f 21 = _ := hp ⟨21, .data⟩ (by simp) rfl
        have h18 : f 18 = _ := hp ⟨18, .guard⟩ (by simp) rfl
        simp only [h21, h18]
        refine wpOp_go rfl rfl ?_
        go_simp
        refine ((HRI.out _).2).mono ?_
        rintro e w7 ⟨rfl, hb⟩
        first | exact ⟨below_then hG hG.size hb, rfl⟩ | exact ⟨below_then hG hG.size hb, trivial, rfl⟩
      · injection ho with ho; subst ho
        have h20 : f 20 = _ := hp ⟨20, .data⟩ (by simp) rfl
        have h22 : f 22 = _ := hp ⟨22, .data⟩ (by simp) rfl
        have h18 : f 18 = _ := hp ⟨18, .guard⟩ (by simp) rfl
        simp only [h20, h22, h18]
        refine wpOp_go rfl rfl ?_
        go_simp
        first | exact ⟨hG, trivial, rfl⟩ | exact ⟨hG, rfl⟩ | exact rfl
      · injection ho with ho; subst ho
        have h18 : f 18 = _ := hp ⟨18, .data⟩ (by simp) rfl
        have h23 : f 23 = _ := hp ⟨23, .data⟩ (by simp) rfl
        simp only [h18, h23]
        refine wpOp_go rfl rfl ?_
        go_simp
        first | exact ⟨hG, trivial, rfl⟩ | exact ⟨hG, rfl⟩ | exact rfl
      · injection ho with ho; subst ho
        have h24 : f 24 = _ := hp ⟨24, .data⟩ (by simp) rfl
        simp only [h24]
        refine wpOp_go rfl rfl ?_
        go_simp
        first | exact ⟨hG, trivial, rfl⟩ | exact ⟨hG, rfl⟩ | exact rfl
      · injection ho with ho; subst ho
        have h25 : f 25 = _ := hp ⟨25, .guard⟩ (by simp) rfl
        simp only [h25]
        refine wpOp_go rfl rfl ?_
        go_simp
        refine (known_calls _).mono ?_
        rintro e w7 ⟨rfl, hb⟩
        first | exact ⟨below_then hG hG.size hb, rfl⟩ | exact ⟨below_then hG hG.size hb, trivial, rfl⟩
      · injection ho with ho; subst ho
        have h25 : f 25 = _ := hp ⟨25, .data⟩ (by simp) rfl
        have h26 : f 26 = _ := hp ⟨26, .data⟩ (by simp) rfl
        simp only [h25, h26]
        refine wpOp_go rfl rfl ?_
        go_simp
        first | exact ⟨hG, trivial, rfl⟩ | exact ⟨hG, rfl⟩ | exact rfl
      · injection ho with ho; subst ho
        have h27 : f 27 = _ := hp ⟨27, .data⟩ (by simp) rfl
        simp only [h27]
        refine wpOp_go rfl rfl ?_
        go_simp
        first | exact ⟨hG, trivial, rfl⟩ | exact ⟨hG, rfl⟩ | exact rfl
      · cases ho
    case fin =>
      intro f w6 hG hV
      have h28 : f 28 = _ := hV 28 (by simp)
      simp only [h28]
      go_wp2_with (fail)
      go_ret
      exact ⟨rfl, below_then HB.out HB.out.size hG⟩
end Go.Proofs.Ytmebgejjaljhgaa
