/- Walks: the law NodeFree. -/
import Derived.Test.YtmebgejjaljhgaaN13LawEncodes
namespace Go.Proofs.Ytmebgejjaljhgaa
open Go.RowKit Go.Sac
set_option linter.unusedVariables false
set_option linter.unusedSimpArgs false

theorem enc_inj {xs ys : List Int} (hx : xs.length = 10) (hy : ys.length = 10) (h1 : rightB xs = true) (h2 : rightB ys = true) : (encB xs == encB ys) = (xs == ys) := by
  rw [Bool.eq_iff_iff, beq_iff_eq, beq_iff_eq]
  refine ⟨fun h => ?_, fun h => by rw [h]⟩
  rw [← dec_enc hx h1, h, dec_enc hy h2]
theorem zero_right : rightB zeroI = true := by decide
theorem zero_enc : encB zeroI = List.replicate 64 0 := by decide
theorem enc_zero {xs : List Int} (hx : xs.length = 10) (h1 : rightB xs = true) : (encB xs == List.replicate 64 0) = (xs.getD 0 0 == 0) := by
  rw [← zero_enc, enc_inj hx rfl h1 zero_right, Bool.eq_iff_iff, beq_iff_eq, beq_iff_eq]
  refine ⟨fun h => by rw [h]; rfl, fun h => (of_decide_eq_true h1).2.resolve_left (by rw [h]; simp)⟩
section
variable {P : Program} {o : Oper} {a : Act} {w : World} {K : Act → World → Prop} {Q : Exit → Act → World → Prop}
theorem wp_eql (r : Bool) (t rt : TypeId) (x y : Operand) (ho : o.op = .binOp .eql t x y rt) (xs ys : Array Value) (hx : a.eval x = .agg xs) (hy : a.eval y = .agg ys)
    (hg : P.eqGuardType P.depth t = false) (h : (Op.equalIn 10000 t (.agg xs) (.agg ys)).run P w = .ok r w) (hk : K (a.put o.dst (.bool r)) w) : o.wp P a w K Q := by
  unfold Oper.wp execOp
  simp only [ho, hx, hy, Sem.run_bind, run_eqGuard_agg w .eql t x y xs ys hg, run_eql_struct w t xs ys, h, Result.andThen_ok, Sem.run_pure]
  exact hk
end
theorem right_b (xs : List Int) (w : World) (hx : xs.length = 10) (r : Bool) (hr : rightB xs = r) : Calls Try.prog 12 #[ino xs] w fun e w' => e = .returned (.bool r) ∧ Below w.heap.size w w' := by subst hr; exact right_calls xs w hx
/-- what the last region yields -/
def LFV0 (g p : Nat) (x : Int) (q : Bool) (xs ys : List Int) (A1 A2 : Option Addr) (c1 c2 : Nat) (E F : List UInt8) (j : Nat) (w : World) (v : Value) : Prop :=
  match j with | 0 => v = Value.slice A1 E.length c1 | 1 => v = Value.slice A2 F.length c2 | 2 => v = Value.bool q | 3 => v = Value.agg (ns xs).toArray | 4 => v = Value.agg (ns ys).toArray | 5 => v = Value.bool q | 6 => v = Value.bool true | 7 => v = Value.bool true | 8 => v = Value.slice A1 E.length c1 | 9 => v = Value.slice (some ⟨p, 0, none⟩) 64 64 | 10 => v = Value.bool true | 11 => v = Value.pointer (some ⟨g, 0, none⟩) | 12 => v = Value.int .i64 x | 13 => v = Value.bool true | 14 => v = Value.bool true | 15 => v = Value.bool true | 16 => v = Value.bool true | 17 => v = Value.pointer (some ⟨g, 0, none⟩) | 18 => v = Value.int .i64 x | 19 => v = Value.bool false | 20 => v = Value.bool false | 21 => v = Value.agg (ns xs).toArray | 22 => v = Value.agg (ns zeroI).toArray | 23 => v = Value.bool true | 24 => v = Value.bool true | 25 => v = Value.bool true | 26 => v = Value.bool true | 27 => v = Value.bool true | 28 => v = Value.bool true | 29 => v = Value.bool true | _ => True
theorem LFV0_stab {g p : Nat} {x : Int} {q : Bool} {xs ys : List Int} {A1 A2 : Option Addr} {c1 c2 : Nat} {E F : List UInt8} (i j : Nat) (w w' : World) (v : Value) (h : LFV0 g p x q xs ys A1 A2 c1 c2 E F j w v) : LFV0 g p x q xs ys A1 A2 c1 c2 E F j w' v := by
  rcases j with _ | _ | _ | _ | _ | _ | _ | _ | _ | _ | _ | _ | _ | _ | _ | _ | _ | _ | _ | _ | _ | _ | _ | _ | _ | _ | _ | _ | _ | _ | j <;> exact h
/-- what the last region yields -/
def LFV1 (g p : Nat) (x : Int) (q : Bool) (xs ys : List Int) (A1 A2 : Option Addr) (c1 c2 : Nat) (E F : List UInt8) (j : Nat) (w : World) (v : Value) : Prop :=
  match j with | 0 => v = Value.slice A1 E.length c1 | 1 => v = Value.slice A2 F.length c2 | 2 => v = Value.bool q | 3 => v = Value.agg (ns xs).toArray | 4 => v = Value.agg (ns ys).toArray | 5 => v = Value.bool q | 6 => v = Value.bool true | 7 => v = Value.bool true | 8 => v = Value.slice A1 E.length c1 | 9 => v = Value.slice (some ⟨p, 0, none⟩) 64 64 | 10 => v = Value.bool false | 11 => v = Value.pointer (some ⟨g, 0, none⟩) | 12 => v = Value.int .i64 x | 13 => v = Value.bool false | 14 => v = Value.bool true | 15 => v = Value.bool true | 16 => v = Value.bool true | 17 => v = Value.pointer (some ⟨g, 0, none⟩) | 18 => v = Value.int .i64 x | 19 => v = Value.bool true | 20 => v = Value.bool true | 21 => v = undef | 22 => v = undef | 23 => v = undef | 24 => v = Value.bool true | 25 => v = Value.bool true | 26 => v = Value.bool true | 27 => v = Value.bool true | 28 => v = Value.bool true | 29 => v = Value.bool true | _ => True
theorem LFV1_stab {g p : Nat} {x : Int} {q : Bool} {xs ys : List Int} {A1 A2 : Option Addr} {c1 c2 : Nat} {E F : List UInt8} (i j : Nat) (w w' : World) (v : Value) (h : LFV1 g p x q xs ys A1 A2 c1 c2 E F j w v) : LFV1 g p x q xs ys A1 A2 c1 c2 E F j w' v := by
  rcases j with _ | _ | _ | _ | _ | _ | _ | _ | _ | _ | _ | _ | _ | _ | _ | _ | _ | _ | _ | _ | _ | _ | _ | _ | _ | _ | _ | _ | _ | _ | j <;> exact h
set_option maxHeartbeats 8000000 in
theorem law_free (xs ys : List Int) (w : World) (hx : xs.length = 10) (hy : ys.length = 10) :
    Calls Try.prog 3 #[ino xs, ino ys] w (RetT w) := by
  unfold ino
  have K2 : Hd (Blk ((w.alloc (.cells (ns xs).toArray 24)).alloc (.cells (ns ys).toArray 24)) w.heap.size 24 (ns xs)) := ⟨(Blk.new w _ _).alloc _⟩
  have K3 : Hd (Blk ((w.alloc (.cells (ns xs).toArray 24)).alloc (.cells (ns ys).toArray 24)) (w.heap.size + 1) 24 (ns ys)) := ⟨by
    have := Blk.new (w.alloc (.cells (ns xs).toArray 24)) 24 (ns ys)
    rw [World.size_alloc] at this; exact this⟩
  have HB : Hd (Below w.heap.size w ((w.alloc (.cells (ns xs).toArray 24)).alloc (.cells (ns ys).toArray 24))) := ⟨((Below.refl _ w).alloc (Nat.le_refl _) _).alloc (by simp) _⟩
  have HX := Hd.mk hx
  have HY := Hd.mk hy
  obtain ⟨E, hE⟩ : ∃ E, encB xs = E := ⟨_, rfl⟩
  obtain ⟨F, hF⟩ : ∃ F, encB ys = F := ⟨_, rfl⟩
  have HRX : ∀ r, rightB xs = r → Hd (∀ w, Calls Try.prog 12 #[ino xs] w fun e w' => e = .returned (.bool r) ∧ Below w.heap.size w w') := fun r h => ⟨fun w => right_b xs w hx r h⟩
  have HRY : ∀ r, rightB ys = r → Hd (∀ w, Calls Try.prog 12 #[ino ys] w fun e w' => e = .returned (.bool r) ∧ Below w.heap.size w w') := fun r h => ⟨fun w => right_b ys w hy r h⟩
  have hex : encE xs = if rightB xs = true then 0 else 2 := rfl
  have hey : encE ys = if rightB ys = true then 0 else 2 := rfl
  cases h1 : rightB xs
  all_goals cases h2 : rightB ys
  all_goals
    rw [h1] at hex
    rw [h2] at hey
    simp only [Bool.false_eq_true, if_true, if_false] at hex hey
    have HEX := enc_is xs hx ⟨hE, hex⟩
    have HEY := enc_is ys hy ⟨hF, hey⟩
    have RX := HRX _ h1
    have RY := HRY _ h2
  case false.false =>
    clear HRX HRY hex hey hE hF h1 h2 hx hy
    have T1 : Hd True := ⟨trivial⟩
    have T2 : Hd True := ⟨trivial⟩
    have T3 : Hd True := ⟨trivial⟩
    have T4 : Hd True := ⟨trivial⟩
    go_enter Try.func3, Try.ntmps3
    go_wp2_with (first
      | (refine wpList_load_row_w rfl 24 (.tmp 2) rfl w.heap.size rfl 24 _ (0, 0) _ K2.out Try.underlying24 rfl (ten_size HX.out) ?_)
      | (refine wpList_load_row_w rfl 24 (.tmp 3) rfl (w.heap.size + 1) rfl 24 _ (0, 0) _ K3.out Try.underlying24 rfl (ten_size HY.out) ?_)
      | (go_at_call 11; clear T1; refine (HEX.out _).mono ?_; rintro e w1 ⟨v1, rfl, ho, hb⟩; obtain ⟨A1, c1, rfl, _, hr1, _⟩ := own_rc ho; have HR1 := Hd.mk hr1; have K2 := Hd.mk (K2.out.below hb K2.out.lt); have K3 := Hd.mk (K3.out.below hb K3.out.lt); have HB := Hd.mk (below_then HB.out HB.out.size hb); clear ho hb hr1)
      | (go_at_call 11; clear T2; refine (HEY.out _).mono ?_; rintro e w2 ⟨v2, rfl, ho, hb⟩; obtain ⟨A2, c2, rfl, _, hr2, _⟩ := own_rc ho; have HR2 := Hd.mk hr2; have HR1 := Hd.mk (HR1.out.below hb); have K2 := Hd.mk (K2.out.below hb K2.out.lt); have K3 := Hd.mk (K3.out.below hb K3.out.lt); have HB := Hd.mk (below_then HB.out HB.out.size hb); clear ho hb hr2)
      | (go_at_call 13; refine (known_calls _).mono ?_; rintro e w6 ⟨rfl, hb⟩; have HB := Hd.mk (below_then HB.out HB.out.size hb); clear hb)
      | (go_at_call 12; clear T3; refine (RX.out _).mono ?_; rintro e w4 ⟨rfl, hb⟩; have K2 := Hd.mk (K2.out.below hb K2.out.lt); have K3 := Hd.mk (K3.out.below hb K3.out.lt); have HB := Hd.mk (below_then HB.out HB.out.size hb); clear hb)
      | (go_at_call 12; clear T4; refine (RY.out _).mono ?_; rintro e w5 ⟨rfl, hb⟩; have K2 := Hd.mk (K2.out.below hb K2.out.lt); have K3 := Hd.mk (K3.out.below hb K3.out.lt); have HB := Hd.mk (below_then HB.out HB.out.size hb); clear hb))
    go_ret
    exact ⟨rfl, HB.out⟩
  case false.true =>
    clear HRX HRY hex hey hE hF h1 h2 hx hy
    have T1 : Hd True := ⟨trivial⟩
    have T2 : Hd True := ⟨trivial⟩
    go_enter Try.func3, Try.ntmps3
    go_wp2_with (first
      | (refine wpList_load_row_w rfl 24 (.tmp 2) rfl w.heap.size rfl 24 _ (0, 0) _ K2.out Try.underlying24 rfl (ten_size HX.out) ?_)
      | (refine wpList_load_row_w rfl 24 (.tmp 3) rfl (w.heap.size + 1) rfl 24 _ (0, 0) _ K3.out Try.underlying24 rfl (ten_size HY.out) ?_)
      | (go_at_call 11; clear T1; refine (HEX.out _).mono ?_; rintro e w1 ⟨v1, rfl, ho, hb⟩; obtain ⟨A1, c1, rfl, _, hr1, _⟩ := own_rc ho; have HR1 := Hd.mk hr1; have K2 := Hd.mk (K2.out.below hb K2.out.lt); have K3 := Hd.mk (K3.out.below hb K3.out.lt); have HB := Hd.mk (below_then HB.out HB.out.size hb); clear ho hb hr1)
      | (go_at_call 11; clear T2; refine (HEY.out _).mono ?_; rintro e w2 ⟨v2, rfl, ho, hb⟩; obtain ⟨A2, c2, rfl, _, hr2, _⟩ := own_rc ho; have HR2 := Hd.mk hr2; have HR1 := Hd.mk (HR1.out.below hb); have K2 := Hd.mk (K2.out.below hb K2.out.lt); have K3 := Hd.mk (K3.out.below hb K3.out.lt); have HB := Hd.mk (below_then HB.out HB.out.size hb); clear ho hb hr2)
      | (go_at_call 13; refine (known_calls _).mono ?_; rintro e w6 ⟨rfl, hb⟩; have HB := Hd.mk (below_then HB.out HB.out.size hb); clear hb)
      | (go_at_call 12; refine (RX.out _).mono ?_; rintro e w4 ⟨rfl, hb⟩; have K2 := Hd.mk (K2.out.below hb K2.out.lt); have K3 := Hd.mk (K3.out.below hb K3.out.lt); have HB := Hd.mk (below_then HB.out HB.out.size hb); clear hb))
    go_ret
    exact ⟨rfl, HB.out⟩
  case true.false =>
    clear HRX HRY hex hey hE hF h1 h2 hx hy
    have T1 : Hd True := ⟨trivial⟩
    have T2 : Hd True := ⟨trivial⟩
    go_enter Try.func3, Try.ntmps3
    go_wp2_with (first
      | (refine wpList_load_row_w rfl 24 (.tmp 2) rfl w.heap.size rfl 24 _ (0, 0) _ K2.out Try.underlying24 rfl (ten_size HX.out) ?_)
      | (refine wpList_load_row_w rfl 24 (.tmp 3) rfl (w.heap.size + 1) rfl 24 _ (0, 0) _ K3.out Try.underlying24 rfl (ten_size HY.out) ?_)
      | (go_at_call 11; clear T1; refine (HEX.out _).mono ?_; rintro e w1 ⟨v1, rfl, ho, hb⟩; obtain ⟨A1, c1, rfl, _, hr1, _⟩ := own_rc ho; have HR1 := Hd.mk hr1; have K2 := Hd.mk (K2.out.below hb K2.out.lt); have K3 := Hd.mk (K3.out.below hb K3.out.lt); have HB := Hd.mk (below_then HB.out HB.out.size hb); clear ho hb hr1)
      | (go_at_call 11; clear T2; refine (HEY.out _).mono ?_; rintro e w2 ⟨v2, rfl, ho, hb⟩; obtain ⟨A2, c2, rfl, _, hr2, _⟩ := own_rc ho; have HR2 := Hd.mk hr2; have HR1 := Hd.mk (HR1.out.below hb); have K2 := Hd.mk (K2.out.below hb K2.out.lt); have K3 := Hd.mk (K3.out.below hb K3.out.lt); have HB := Hd.mk (below_then HB.out HB.out.size hb); clear ho hb hr2)
      | (go_at_call 13; refine (known_calls _).mono ?_; rintro e w6 ⟨rfl, hb⟩; have HB := Hd.mk (below_then HB.out HB.out.size hb); clear hb)
      | (go_at_call 12; refine (RY.out _).mono ?_; rintro e w5 ⟨rfl, hb⟩; have K2 := Hd.mk (K2.out.below hb K2.out.lt); have K3 := Hd.mk (K3.out.below hb K3.out.lt); have HB := Hd.mk (below_then HB.out HB.out.size hb); clear hb))
    go_ret
    exact ⟨rfl, HB.out⟩
  case true.true =>
    have HQ := Hd.mk (enc_inj hx hy h1 h2)
    have HZ := Hd.mk (enc_zero hx h1)
    have HZZ : Hd (xs.getD 0 0 = 0 → xs = zeroI) := ⟨fun h => (of_decide_eq_true h1).2.resolve_left (by rw [h]; simp)⟩
    rw [hE, hF] at HQ
    rw [hE] at HZ
    obtain ⟨q, hq⟩ : ∃ q, (xs == ys) = q := ⟨_, rfl⟩
    have HXY : Hd (∀ w, (Op.equalIn 10000 24 (.agg (ns xs).toArray) (.agg (ns ys).toArray)).run Try.prog w = .ok q w) := ⟨fun w => by rw [← hq]; exact eq_inode xs ys hx hy w⟩
    rw [hq] at HQ
    obtain ⟨x, hx0⟩ : ∃ x, xs.getD 0 0 = x := ⟨_, rfl⟩
    rw [hx0] at HZ HZZ
    have HX0 := Hd.mk hx0
    have hmake : ∀ W : World, (Instr.makeSlice 25 (.int .i64 64) (.int .i64 64)).run Try.prog W = .ok (.slice (some ⟨W.heap.size, 0, none⟩) 64 64) (W.alloc (.cells (zeroRow 64) 5)) := run_make_u8 (P := Try.prog) 25 5 Try.underlying25 info_u8 64 (by omega)
    clear HRX HRY hex hey hE hF h1 h2 hx hy hq hx0
    have T1 : Hd True := ⟨trivial⟩
    have T2 : Hd True := ⟨trivial⟩
    go_enter Try.func3, Try.ntmps3
    go_wp2_with (first
      | (refine wpList_load_row_w rfl 24 (.tmp 2) rfl w.heap.size rfl 24 _ (0, 0) _ K2.out Try.underlying24 rfl (ten_size HX.out) ?_)
      | (refine wpList_load_row_w rfl 24 (.tmp 3) rfl (w.heap.size + 1) rfl 24 _ (0, 0) _ K3.out Try.underlying24 rfl (ten_size HY.out) ?_)
      | (go_at_call 11; clear T1; refine (HEX.out _).mono ?_; rintro e w1 ⟨v1, rfl, ho, hb⟩; obtain ⟨A1, c1, rfl, _, hr1, _⟩ := own_rc ho; have HR1 := Hd.mk hr1; have K2 := Hd.mk (K2.out.below hb K2.out.lt); have K3 := Hd.mk (K3.out.below hb K3.out.lt); have HB := Hd.mk (below_then HB.out HB.out.size hb); clear ho hb hr1)
      | (go_at_call 11; clear T2; refine (HEY.out _).mono ?_; rintro e w2 ⟨v2, rfl, ho, hb⟩; obtain ⟨A2, c2, rfl, _, hr2, _⟩ := own_rc ho; have HR2 := Hd.mk hr2; have HR1 := Hd.mk (HR1.out.below hb); have K2 := Hd.mk (K2.out.below hb K2.out.lt); have K3 := Hd.mk (K3.out.below hb K3.out.lt); have HB := Hd.mk (below_then HB.out HB.out.size hb); clear ho hb hr2)
      | (go_at_call 13; refine (known_calls _).mono ?_; rintro e w6 ⟨rfl, hb⟩; have HB := Hd.mk (below_then HB.out HB.out.size hb); clear hb))
    clear hmake
    have HZB : Hd (Blk (w2.alloc (.cells (zeroRow 64) 5)) w2.heap.size 5 (bs (List.replicate 64 0))) := ⟨Blk.new w2 5 (bs (List.replicate 64 0))⟩
    have HB := Hd.mk (HB.out.alloc HB.out.size (.cells (zeroRow 64) 5))
    have K2 := Hd.mk (K2.out.alloc (.cells (zeroRow 64) 5))
    have K3 := Hd.mk (K3.out.alloc (.cells (zeroRow 64) 5))
    have HR1 := Hd.mk (HR1.out.alloc (.cells (zeroRow 64) 5))
    have HR2 := Hd.mk (HR2.out.alloc (.cells (zeroRow 64) 5))
    change Code.wp Try.prog _ _ _ (w2.alloc (.cells (zeroRow 64) 5))
    generalize (w2.alloc (.cells (zeroRow 64) 5)) = wz at *
    by_cases hz0 : x = 0
    · have c5 : (x != 0) = false := by simp [hz0]
      have c6 : (x == 0) = true := by simp [hz0]
      have HE0 : Hd (∀ w, (Op.equalIn 10000 24 (.agg (ns xs).toArray) (.agg (ns zeroI).toArray)).run Try.prog w = .ok true w) := ⟨fun w => by rw [HZZ.out hz0]; exact (eq_inode zeroI zeroI rfl rfl w).trans (congrArg (Result.ok · w) (beq_self_eq_true zeroI))⟩
      clear HZZ hz0
      refine region_fam (fun f => #[Value.agg (ns xs).toArray, Value.agg (ns ys).toArray, Value.pointer (some ⟨w.heap.size, 0, none⟩), Value.pointer (some ⟨w.heap.size + 1, 0, none⟩), f 29, Value.slice A1 E.length c1, Value.int .i64 0, Value.slice A2 F.length c2, Value.int .i64 0, Value.slice (some ⟨w2.heap.size, 0, none⟩) 64 64, Value.tuple #[Value.slice A1 E.length c1, Value.int .i64 0], Value.agg (ns xs).toArray, Value.tuple #[Value.slice A1 E.length c1, Value.int .i64 0], Value.slice A1 E.length c1, Value.int .i64 0, Value.tuple #[Value.slice A2 F.length c2, Value.int .i64 0], Value.agg (ns ys).toArray, Value.tuple #[Value.slice A2 F.length c2, Value.int .i64 0], Value.slice A2 F.length c2, Value.int .i64 0, Value.int .i64 0, Value.bool false, Value.bool false, Value.int .i64 0, Value.bool false, Value.bool false, undef, undef, undef, undef, undef, undef, undef, undef, undef, undef, undef, undef, undef, undef, undef, undef, undef, undef, undef, Value.slice (some ⟨w2.heap.size, 0, none⟩) 64 64, f 0, f 1, f 2, f 3, f 4, f 5, f 6, f 7, f 8, f 9, f 10, f 11, f 12, f 13, f 14, f 15, f 16, f 17, f 18, f 19, f 20, f 21, f 22, f 23, f 24, f 25, f 26, f 27, f 28])
        (LFV0 w.heap.size w2.heap.size x q xs ys A1 A2 c1 c2 E F) (fun W => Below wz.heap.size wz W) (fun _ _ _ => True) (by kernel_rfl) (by kernel_rfl) (fun i => if i = 29 then .bool false else undef) rfl (Below.refl _ _).drew (fun i j w w' v _ _ h => LFV0_stab i j w w' v h) ?put ?step ?fin
      case put =>
        intro i o ho f v
        rcases i with _ | _ | _ | _ | _ | _ | _ | _ | _ | _ | _ | _ | _ | _ | _ | _ | _ | _ | _ | _ | _ | _ | _ | _ | _ | _ | _ | _ | _ | _ | i
        all_goals first | (injection ho with ho; subst ho; rfl) | (cases ho)
      case step =>
        intro i o ho f w6 hG hp
        have hcx := (K2.out.below hG K2.out.lt).cell (ns_get xs 0 (by have := HX.out; omega))
        rw [HX0.out] at hcx
        rcases i with _ | _ | _ | _ | _ | _ | _ | _ | _ | _ | _ | _ | _ | _ | _ | _ | _ | _ | _ | _ | _ | _ | _ | _ | _ | _ | _ | _ | _ | _ | i
        · injection ho with ho; subst ho
          refine wpOp_go rfl rfl ?_
          go_simp
          first | exact ⟨hG, trivial, rfl⟩ | exact ⟨hG, rfl⟩ | exact rfl
        · injection ho with ho; subst ho
          refine wpOp_go rfl rfl ?_
          go_simp
          first | exact ⟨hG, trivial, rfl⟩ | exact ⟨hG, rfl⟩ | exact rfl
        · injection ho with ho; subst ho
          have h0 : f 0 = _ := hp ⟨0, .data⟩ (by simp) rfl
          have h1 : f 1 = _ := hp ⟨1, .data⟩ (by simp) rfl
          simp only [h0, h1]
          refine wpOp_go rfl rfl ?_
          go_simp
          refine (same_any _ _ _ _ _ _ E F _ (HR1.out.below hG) (HR2.out.below hG) rfl rfl).mono ?_
          rintro e w7 ⟨rfl, rfl⟩
          first | exact congrArg Value.bool HQ.out | exact ⟨hG, congrArg Value.bool HQ.out⟩
        · injection ho with ho; subst ho
          refine wpOp_go rfl rfl (wp_load_row 24 _ rfl _ rfl 24 _ (0, 0) _ (K2.out.below hG K2.out.lt) Try.underlying24 rfl (ten_size HX.out) ?_)
          exact ⟨_, rfl, hG, trivial, rfl⟩
        · injection ho with ho; subst ho
          refine wpOp_go rfl rfl (wp_load_row 24 _ rfl _ rfl 24 _ (0, 0) _ (K3.out.below hG K3.out.lt) Try.underlying24 rfl (ten_size HY.out) ?_)
          exact ⟨_, rfl, hG, trivial, rfl⟩
        · injection ho with ho; subst ho
          have h3 : f 3 = _ := hp ⟨3, .data⟩ (by simp) rfl
          have h4 : f 4 = _ := hp ⟨4, .data⟩ (by simp) rfl
          simp only [h3, h4]
          refine wpOp_go rfl rfl (wp_eql q 24 _ (.tmp 49) (.tmp 50) rfl (ns xs).toArray (ns ys).toArray rfl rfl (by kernel_rfl) (HXY.out _) ?_)
          exact ⟨_, rfl, hG, trivial, rfl⟩
        · injection ho with ho; subst ho
          have h2 : f 2 = _ := hp ⟨2, .data⟩ (by simp) rfl
          have h5 : f 5 = _ := hp ⟨5, .data⟩ (by simp) rfl
          simp only [h2, h5]
          refine wpOp_go rfl rfl ?_
          go_simp
          first | exact ⟨hG, trivial, rfl⟩ | exact ⟨hG, rfl⟩ | exact rfl
        · injection ho with ho; subst ho
          have h6 : f 6 = _ := hp ⟨6, .data⟩ (by simp) rfl
          simp only [h6]
          refine wpOp_go rfl rfl ?_
          go_simp
          first | exact ⟨hG, trivial, rfl⟩ | exact ⟨hG, rfl⟩ | exact rfl
        · injection ho with ho; subst ho
          have h7 : f 7 = _ := hp ⟨7, .guard⟩ (by simp) rfl
          simp only [h7]
          refine wpOp_go rfl rfl ?_
          go_simp
          first | exact ⟨hG, trivial, rfl⟩ | exact ⟨hG, rfl⟩ | exact rfl
        · injection ho with ho; subst ho
          have h7 : f 7 = _ := hp ⟨7, .guard⟩ (by simp) rfl
          simp only [h7]
          refine wpOp_go rfl rfl ?_
          go_simp
          first | exact ⟨hG, trivial, rfl⟩ | exact ⟨hG, rfl⟩ | exact rfl
        · injection ho with ho; subst ho
          have h8 : f 8 = _ := hp ⟨8, .data⟩ (by simp) rfl
          have h9 : f 9 = _ := hp ⟨9, .data⟩ (by simp) rfl
          have h7 : f 7 = _ := hp ⟨7, .guard⟩ (by simp) rfl
          simp only [h8, h9, h7]
          refine wpOp_go rfl rfl ?_
          go_simp
          refine (same_any _ _ _ _ _ _ E (List.replicate 64 0) _ (HR1.out.below hG) (HZB.out.rc.below hG) rfl (by simp)).mono ?_
          rintro e w7 ⟨rfl, rfl⟩
          first | exact congrArg Value.bool (HZ.out.trans c6) | exact ⟨hG, congrArg Value.bool (HZ.out.trans c6)⟩
        · injection ho with ho; subst ho
          have h7 : f 7 = _ := hp ⟨7, .guard⟩ (by simp) rfl
          simp only [h7]
          refine wpOp_go rfl rfl ?_
          go_simp
          first | exact ⟨hG, trivial, rfl⟩ | exact ⟨hG, rfl⟩ | exact rfl
        · injection ho with ho; subst ho
          have h11 : f 11 = _ := hp ⟨11, .data⟩ (by simp) rfl
          have h7 : f 7 = _ := hp ⟨7, .guard⟩ (by simp) rfl
          simp only [h11, h7]
          refine wpOp_go rfl rfl ?_
          go_simp
          first | exact ⟨hG, trivial, rfl⟩ | exact ⟨hG, rfl⟩ | exact rfl
        · injection ho with ho; subst ho
          have h12 : f 12 = _ := hp ⟨12, .data⟩ (by simp) rfl
          have h7 : f 7 = _ := hp ⟨7, .guard⟩ (by simp) rfl
          simp only [h12, h7]
          refine wpOp_go rfl rfl ?_
          go_simp
          first | exact ⟨hG, trivial, rfl⟩ | exact ⟨hG, rfl⟩ | exact rfl
        · injection ho with ho; subst ho
          have h10 : f 10 = _ := hp ⟨10, .data⟩ (by simp) rfl
          have h13 : f 13 = _ := hp ⟨13, .data⟩ (by simp) rfl
          have h7 : f 7 = _ := hp ⟨7, .guard⟩ (by simp) rfl
          simp only [h10, h13, h7]
          refine wpOp_go rfl rfl ?_
          go_simp
          first | exact ⟨hG, trivial, rfl⟩ | exact ⟨hG, rfl⟩ | exact rfl
        · injection ho with ho; subst ho
          have h7 : f 7 = _ := hp ⟨7, .data⟩ (by simp) rfl
          have h14 : f 14 = _ := hp ⟨14, .data⟩ (by simp) rfl
          simp only [h7, h14]
          refine wpOp_go rfl rfl ?_
          go_simp
          first | exact ⟨hG, trivial, rfl⟩ | exact ⟨hG, rfl⟩ | exact rfl
        · injection ho with ho; subst ho
          have h15 : f 15 = _ := hp ⟨15, .data⟩ (by simp) rfl
          simp only [h15]
          refine wpOp_go rfl rfl ?_
          go_simp
          first | exact ⟨hG, trivial, rfl⟩ | exact ⟨hG, rfl⟩ | exact rfl
        · injection ho with ho; subst ho
          have h16 : f 16 = _ := hp ⟨16, .guard⟩ (by simp) rfl
          simp only [h16]
          refine wpOp_go rfl rfl ?_
          go_simp
          first | exact ⟨hG, trivial, rfl⟩ | exact ⟨hG, rfl⟩ | exact rfl
        · injection ho with ho; subst ho
          have h17 : f 17 = _ := hp ⟨17, .data⟩ (by simp) rfl
          have h16 : f 16 = _ := hp ⟨16, .guard⟩ (by simp) rfl
          simp only [h17, h16]
          refine wpOp_go rfl rfl ?_
          go_simp
          first | exact ⟨hG, trivial, rfl⟩ | exact ⟨hG, rfl⟩ | exact rfl
        · injection ho with ho; subst ho
          have h18 : f 18 = _ := hp ⟨18, .data⟩ (by simp) rfl
          have h16 : f 16 = _ := hp ⟨16, .guard⟩ (by simp) rfl
          simp only [h18, h16]
          refine wpOp_go rfl rfl ?_
          go_simp
          first | exact ⟨hG, trivial, rfl⟩ | exact ⟨hG, rfl⟩ | exact rfl
        · injection ho with ho; subst ho
          have h19 : f 19 = _ := hp ⟨19, .data⟩ (by simp) rfl
          have h16 : f 16 = _ := hp ⟨16, .guard⟩ (by simp) rfl
          simp only [h19, h16]
          refine wpOp_go rfl rfl ?_
          go_simp
          first | exact ⟨hG, trivial, rfl⟩ | exact ⟨hG, rfl⟩ | exact rfl
        · injection ho with ho; subst ho
          have h20 : f 20 = _ := hp ⟨20, .guard⟩ (by simp) rfl
          simp only [h20]
          refine wpOp_go rfl rfl (wp_load_row 24 _ rfl _ rfl 24 _ (0, 0) _ (K2.out.below hG K2.out.lt) Try.underlying24 rfl (ten_size HX.out) ?_)
          exact ⟨_, rfl, hG, trivial, rfl⟩
        · injection ho with ho; subst ho
          have h20 : f 20 = _ := hp ⟨20, .guard⟩ (by simp) rfl
          simp only [h20]
          refine wpOp_go rfl rfl ?_
          go_simp
          first | exact ⟨hG, trivial, rfl⟩ | exact ⟨hG, rfl⟩ | exact rfl
        · injection ho with ho; subst ho
          have h21 : f 21 = _ := hp ⟨21, .data⟩ (by simp) rfl
          have h22 : f 22 = _ := hp ⟨22, .data⟩ (by simp) rfl
          have h20 : f 20 = _ := hp ⟨20, .guard⟩ (by simp) rfl
          simp only [h21, h22, h20]
          refine wpOp_go rfl rfl (wp_eql true 24 _ (.tmp 67) (.tmp 68) rfl (ns xs).toArray (ns zeroI).toArray rfl rfl (by kernel_rfl) (HE0.out _) ?_)
          exact ⟨_, rfl, hG, trivial, rfl⟩
        · injection ho with ho; subst ho
          have h20 : f 20 = _ := hp ⟨20, .data⟩ (by simp) rfl
          have h23 : f 23 = _ := hp ⟨23, .data⟩ (by simp) rfl
          have h16 : f 16 = _ := hp ⟨16, .guard⟩ (by simp) rfl
          simp only [h20, h23, h16]
          refine wpOp_go rfl rfl ?_
          go_simp
          first | exact ⟨hG, trivial, rfl⟩ | exact ⟨hG, rfl⟩ | exact rfl
        · injection ho with ho; subst ho
          have h16 : f 16 = _ := hp ⟨16, .data⟩ (by simp) rfl
          have h24 : f 24 = _ := hp ⟨24, .data⟩ (by simp) rfl
          simp only [h16, h24]
          refine wpOp_go rfl rfl ?_
          go_simp
          first | exact ⟨hG, trivial, rfl⟩ | exact ⟨hG, rfl⟩ | exact rfl
        · injection ho with ho; subst ho
          have h25 : f 25 = _ := hp ⟨25, .data⟩ (by simp) rfl
          simp only [h25]
          refine wpOp_go rfl rfl ?_
          go_simp
          first | exact ⟨hG, trivial, rfl⟩ | exact ⟨hG, rfl⟩ | exact rfl
        · injection ho with ho; subst ho
          have h26 : f 26 = _ := hp ⟨26, .guard⟩ (by simp) rfl
          simp only [h26]
          refine wpOp_go rfl rfl ?_
          go_simp
          refine (known_calls _).mono ?_
          rintro e w7 ⟨rfl, hb⟩
          first | exact ⟨below_then hG hG.size hb, rfl⟩ | exact ⟨below_then hG hG.size hb, trivial, rfl⟩
        · injection ho with ho; subst ho
          have h26 : f 26 = _ := hp ⟨26, .data⟩ (by simp) rfl
          have h27 : f 27 = _ := hp ⟨27, .data⟩ (by simp) rfl
          simp only [h26, h27]
          refine wpOp_go rfl rfl ?_
          go_simp
          first | exact ⟨hG, trivial, rfl⟩ | exact ⟨hG, rfl⟩ | exact rfl
        · injection ho with ho; subst ho
          have h28 : f 28 = _ := hp ⟨28, .data⟩ (by simp) rfl
          simp only [h28]
          refine wpOp_go rfl rfl ?_
          go_simp
          first | exact ⟨hG, trivial, rfl⟩ | exact ⟨hG, rfl⟩ | exact rfl
        · cases ho
      case fin =>
        intro f w6 hG hV
        have h29 : f 29 = _ := hV 29 (by simp)
        simp only [h29]
        go_wp2_with (fail)
        go_ret
        exact ⟨rfl, below_then HB.out HB.out.size hG⟩
    · have c5 : (x != 0) = true := by simp [hz0]
      have c6 : (x == 0) = false := by simp [hz0]
      clear HZZ hz0
      refine region_fam (fun f => #[Value.agg (ns xs).toArray, Value.agg (ns ys).toArray, Value.pointer (some ⟨w.heap.size, 0, none⟩), Value.pointer (some ⟨w.heap.size + 1, 0, none⟩), f 29, Value.slice A1 E.length c1, Value.int .i64 0, Value.slice A2 F.length c2, Value.int .i64 0, Value.slice (some ⟨w2.heap.size, 0, none⟩) 64 64, Value.tuple #[Value.slice A1 E.length c1, Value.int .i64 0], Value.agg (ns xs).toArray, Value.tuple #[Value.slice A1 E.length c1, Value.int .i64 0], Value.slice A1 E.length c1, Value.int .i64 0, Value.tuple #[Value.slice A2 F.length c2, Value.int .i64 0], Value.agg (ns ys).toArray, Value.tuple #[Value.slice A2 F.length c2, Value.int .i64 0], Value.slice A2 F.length c2, Value.int .i64 0, Value.int .i64 0, Value.bool false, Value.bool false, Value.int .i64 0, Value.bool false, Value.bool false, undef, undef, undef, undef, undef, undef, undef, undef, undef, undef, undef, undef, undef, undef, undef, undef, undef, undef, undef, Value.slice (some ⟨w2.heap.size, 0, none⟩) 64 64, f 0, f 1, f 2, f 3, f 4, f 5, f 6, f 7, f 8, f 9, f 10, f 11, f 12, f 13, f 14, f 15, f 16, f 17, f 18, f 19, f 20, f 21, f 22, f 23, f 24, f 25, f 26, f 27, f 28])
        (LFV1 w.heap.size w2.heap.size x q xs ys A1 A2 c1 c2 E F) (fun W => Below wz.heap.size wz W) (fun _ _ _ => True) (by kernel_rfl) (by kernel_rfl) (fun i => if i = 29 then .bool false else undef) rfl (Below.refl _ _).drew (fun i j w w' v _ _ h => LFV1_stab i j w w' v h) ?put ?step ?fin
      case put =>
        intro i o ho f v
        rcases i with _ | _ | _ | _ | _ | _ | _ | _ | _ | _ | _ | _ | _ | _ | _ | _ | _ | _ | _ | _ | _ | _ | _ | _ | _ | _ | _ | _ | _ | _ | i
        all_goals first | (injection ho with ho; subst ho; rfl) | (cases ho)
      case step =>
        intro i o ho f w6 hG hp
        have hcx := (K2.out.below hG K2.out.lt).cell (ns_get xs 0 (by have := HX.out; omega))
        rw [HX0.out] at hcx
        rcases i with _ | _ | _ | _ | _ | _ | _ | _ | _ | _ | _ | _ | _ | _ | _ | _ | _ | _ | _ | _ | _ | _ | _ | _ | _ | _ | _ | _ | _ | _ | i
        · injection ho with ho; subst ho
          refine wpOp_go rfl rfl ?_
          go_simp
          first | exact ⟨hG, trivial, rfl⟩ | exact ⟨hG, rfl⟩ | exact rfl
        · injection ho with ho; subst ho
          refine wpOp_go rfl rfl ?_
          go_simp
          first | exact ⟨hG, trivial, rfl⟩ | exact ⟨hG, rfl⟩ | exact rfl
        · injection ho with ho; subst ho
          have h0 : f 0 = _ := hp ⟨0, .data⟩ (by simp) rfl
          have h1 : f 1 = _ := hp ⟨1, .data⟩ (by simp) rfl
          simp only [h0, h1]
          refine wpOp_go rfl rfl ?_
          go_simp
          refine (same_any _ _ _ _ _ _ E F _ (HR1.out.below hG) (HR2.out.below hG) rfl rfl).mono ?_
          rintro e w7 ⟨rfl, rfl⟩
          first | exact congrArg Value.bool HQ.out | exact ⟨hG, congrArg Value.bool HQ.out⟩
        · injection ho with ho; subst ho
          refine wpOp_go rfl rfl (wp_load_row 24 _ rfl _ rfl 24 _ (0, 0) _ (K2.out.below hG K2.out.lt) Try.underlying24 rfl (ten_size HX.out) ?_)
          exact ⟨_, rfl, hG, trivial, rfl⟩
        · injection ho with ho; subst ho
          refine wpOp_go rfl rfl (wp_load_row 24 _ rfl _ rfl 24 _ (0, 0) _ (K3.out.below hG K3.out.lt) Try.underlying24 rfl (ten_size HY.out) ?_)
          exact ⟨_, rfl, hG, trivial, rfl⟩
        · injection ho with ho; subst ho
          have h3 : f 3 = _ := hp ⟨3, .data⟩ (by simp) rfl
          have h4 : f 4 = _ := hp ⟨4, .data⟩ (by simp) rfl
          simp only [h3, h4]
          refine wpOp_go rfl rfl (wp_eql q 24 _ (.tmp 49) (.tmp 50) rfl (ns xs).toArray (ns ys).toArray rfl rfl (by kernel_rfl) (HXY.out _) ?_)
          exact ⟨_, rfl, hG, trivial, rfl⟩
        · injection ho with ho; subst ho
          have h2 : f 2 = _ := hp ⟨2, .data⟩ (by simp) rfl
          have h5 : f 5 = _ := hp ⟨5, .data⟩ (by simp) rfl
          simp only [h2, h5]
          refine wpOp_go rfl rfl ?_
          go_simp
          first | exact ⟨hG, trivial, rfl⟩ | exact ⟨hG, rfl⟩ | exact rfl
        · injection ho with ho; subst ho
          have h6 : f 6 = _ := hp ⟨6, .data⟩ (by simp) rfl
          simp only [h6]
          refine wpOp_go rfl rfl ?_
          go_simp
          first | exact ⟨hG, trivial, rfl⟩ | exact ⟨hG, rfl⟩ | exact rfl
        · injection ho with ho; subst ho
          have h7 : f 7 = _ := hp ⟨7, .guard⟩ (by simp) rfl
          simp only [h7]
          refine wpOp_go rfl rfl ?_
          go_simp
          first | exact ⟨hG, trivial, rfl⟩ | exact ⟨hG, rfl⟩ | exact rfl
        · injection ho with ho; subst ho
          have h7 : f 7 = _ := hp ⟨7, .guard⟩ (by simp) rfl
          simp only [h7]
          refine wpOp_go rfl rfl ?_
          go_simp
          first | exact ⟨hG, trivial, rfl⟩ | exact ⟨hG, rfl⟩ | exact rfl
        · injection ho with ho; subst ho
          have h8 : f 8 = _ := hp ⟨8, .data⟩ (by simp) rfl
          have h9 : f 9 = _ := hp ⟨9, .data⟩ (by simp) rfl
          have h7 : f 7 = _ := hp ⟨7, .guard⟩ (by simp) rfl
          simp only [h8, h9, h7]
          refine wpOp_go rfl rfl ?_
          go_simp
          refine (same_any _ _ _ _ _ _ E (List.replicate 64 0) _ (HR1.out.below hG) (HZB.out.rc.below hG) rfl (by simp)).mono ?_
          rintro e w7 ⟨rfl, rfl⟩
          first | exact congrArg Value.bool (HZ.out.trans c6) | exact ⟨hG, congrArg Value.bool (HZ.out.trans c6)⟩
        · injection ho with ho; subst ho
          have h7 : f 7 = _ := hp ⟨7, .guard⟩ (by simp) rfl
          simp only [h7]
          refine wpOp_go rfl rfl ?_
          go_simp
          first | exact ⟨hG, trivial, rfl⟩ | exact ⟨hG, rfl⟩ | exact rfl
        · injection ho with ho; subst ho
          have h11 : f 11 = _ := hp ⟨11, .data⟩ (by simp) rfl
          have h7 : f 7 = _ := hp ⟨7, .guard⟩ (by simp) rfl
          simp only [h11, h7]
          refine wpOp_go rfl rfl ?_
          go_simp
          first | exact ⟨hG, trivial, rfl⟩ | exact ⟨hG, rfl⟩ | exact rfl
        · injection ho with ho; subst ho
          have h12 : f 12 = _ := hp ⟨12, .data⟩ (by simp) rfl
          have h7 : f 7 = _ := hp ⟨7, .guard⟩ (by simp) rfl
          simp only [h12, h7]
          refine wpOp_go rfl rfl ?_
          go_simp
          first | exact ⟨hG, trivial, rfl⟩ | exact ⟨hG, rfl⟩ | exact rfl
        · injection ho with ho; subst ho
          have h10 : f 10 = _ := hp ⟨10, .data⟩ (by simp) rfl
          have h13 : f 13 = _ := hp ⟨13, .data⟩ (by simp) rfl
          have h7 : f 7 = _ := hp ⟨7, .guard⟩ (by simp) rfl
          simp only [h10, h13, h7]
          refine wpOp_go rfl rfl ?_
          go_simp
          first | exact ⟨hG, trivial, rfl⟩ | exact ⟨hG, rfl⟩ | exact rfl
        · injection ho with ho; subst ho
          have h7 : f 7 = _ := hp ⟨7, .data⟩ (by simp) rfl
          have h14 : f 14 = _ := hp ⟨14, .data⟩ (by simp) rfl
          simp only [h7, h14]
          refine wpOp_go rfl rfl ?_
          go_simp
          first | exact ⟨hG, trivial, rfl⟩ | exact ⟨hG, rfl⟩ | exact rfl
        · injection ho with ho; subst ho
          have h15 : f 15 = _ := hp ⟨15, .data⟩ (by simp) rfl
          simp only [h15]
          refine wpOp_go rfl rfl ?_
          go_simp
          first | exact ⟨hG, trivial, rfl⟩ | exact ⟨hG, rfl⟩ | exact rfl
        · injection ho with ho; subst ho
          have h16 : f 16 = _ := hp ⟨16, .guard⟩ (by simp) rfl
          simp only [h16]
          refine wpOp_go rfl rfl ?_
          go_simp
          first | exact ⟨hG, trivial, rfl⟩ | exact ⟨hG, rfl⟩ | exact rfl
        · injection ho with ho; subst ho
          have h17 : f 17 = _ := hp ⟨17, .data⟩ (by simp) rfl
          have h16 : f 16 = _ := hp ⟨16, .guard⟩ (by simp) rfl
          simp only [h17, h16]
          refine wpOp_go rfl rfl ?_
          go_simp
          first | exact ⟨hG, trivial, rfl⟩ | exact ⟨hG, rfl⟩ | exact rfl
        · injection ho with ho; subst ho
          have h18 : f 18 = _ := hp ⟨18, .data⟩ (by simp) rfl
          have h16 : f 16 = _ := hp ⟨16, .guard⟩ (by simp) rfl
          simp only [h18, h16]
          refine wpOp_go rfl rfl ?_
          go_simp
          first | exact ⟨hG, trivial, rfl⟩ | exact ⟨hG, rfl⟩ | exact rfl
        · injection ho with ho; subst ho
          have h19 : f 19 = _ := hp ⟨19, .data⟩ (by simp) rfl
          have h16 : f 16 = _ := hp ⟨16, .guard⟩ (by simp) rfl
          simp only [h19, h16]
          refine wpOp_go rfl rfl ?_
          go_simp
          first | exact ⟨hG, trivial, rfl⟩ | exact ⟨hG, rfl⟩ | exact rfl
        · injection ho with ho; subst ho
          have h20 : f 20 = _ := hp ⟨20, .guard⟩ (by simp) rfl
          simp only [h20]
          refine wpOp_past rfl rfl ?_
          exact ⟨undef, rfl, hG, trivial, rfl⟩
        · injection ho with ho; subst ho
          have h20 : f 20 = _ := hp ⟨20, .guard⟩ (by simp) rfl
          simp only [h20]
          refine wpOp_past rfl rfl ?_
          exact ⟨undef, rfl, hG, trivial, rfl⟩
        · injection ho with ho; subst ho
          have h20 : f 20 = _ := hp ⟨20, .guard⟩ (by simp) rfl
          simp only [h20]
          refine wpOp_past rfl rfl ?_
          exact ⟨undef, rfl, hG, trivial, rfl⟩
        · injection ho with ho; subst ho
          have h20 : f 20 = _ := hp ⟨20, .data⟩ (by simp) rfl
          have h23 : f 23 = _ := hp ⟨23, .data⟩ (by simp) rfl
          have h16 : f 16 = _ := hp ⟨16, .guard⟩ (by simp) rfl
          simp only [h20, h23, h16]
          refine wpOp_go rfl rfl ?_
          go_simp
          first | exact ⟨hG, trivial, rfl⟩ | exact ⟨hG, rfl⟩ | exact rfl
        · injection ho with ho; subst ho
          have h16 : f 16 = _ := hp ⟨16, .data⟩ (by simp) rfl
          have h24 : f 24 = _ := hp ⟨24, .data⟩ (by simp) rfl
          simp only [h16, h24]
          refine wpOp_go rfl rfl ?_
          go_simp
          first | exact ⟨hG, trivial, rfl⟩ | exact ⟨hG, rfl⟩ | exact rfl
        · injection ho with ho; subst ho
          have h25 : f 25 = _ := hp ⟨25, .data⟩ (by simp) rfl
          simp only [h25]
          refine wpOp_go rfl rfl ?_
          go_simp
          first | exact ⟨hG, trivial, rfl⟩ | exact ⟨hG, rfl⟩ | exact rfl
        · injection ho with ho; subst ho
          have h26 : f 26 = _ := hp ⟨26, .guard⟩ (by simp) rfl
          simp only [h26]
          refine wpOp_go rfl rfl ?_
          go_simp
          refine (known_calls _).mono ?_
          rintro e w7 ⟨rfl, hb⟩
          first | exact ⟨below_then hG hG.size hb, rfl⟩ | exact ⟨below_then hG hG.size hb, trivial, rfl⟩
        · injection ho with ho; subst ho
          have h26 : f 26 = _ := hp ⟨26, .data⟩ (by simp) rfl
          have h27 : f 27 = _ := hp ⟨27, .data⟩ (by simp) rfl
          simp only [h26, h27]
          refine wpOp_go rfl rfl ?_
          go_simp
          first | exact ⟨hG, trivial, rfl⟩ | exact ⟨hG, rfl⟩ | exact rfl
        · injection ho with ho; subst ho
          have h28 : f 28 = _ := hp ⟨28, .data⟩ (by simp) rfl
          simp only [h28]
          refine wpOp_go rfl rfl ?_
          go_simp
          first | exact ⟨hG, trivial, rfl⟩ | exact ⟨hG, rfl⟩ | exact rfl
        · cases ho
      case fin =>
        intro f w6 hG hV
        have h29 : f 29 = _ := hV 29 (by simp)
        simp only [h29]
        go_wp2_with (fail)
        go_ret
        exact ⟨rfl, below_then HB.out HB.out.size hG⟩
end Go.Proofs.Ytmebgejjaljhgaa
