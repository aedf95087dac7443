/- Walks: the reference: an inode as bytes. -/
import Derived.Test.YtmebgejjaljhgaaN13RefPut
import Derived.Test.YtmebgejjaljhgaaCPadRef
namespace Go.Proofs.Ytmebgejjaljhgaa
open Go.RowKit Go.Sac
set_option linter.unusedVariables false
set_option linter.unusedSimpArgs false

theorem encL_one (xs : List Int) (k : Nat) : encL xs (k + 1) = encL xs k ++ oneI xs k := rfl
/-- what the first three numbers' region yields -/
def R3V (g : Nat) (xs : List Int) (p : Nat) (j : Nat) (w : World) (v : Value) : Prop :=
  match j with
  | 0 => v = .pointer (some ⟨g, 0, none⟩)
  | 1 => v = .int .i64 (xs.getD 0 0)
  | 2 => FreshR p (encL xs 1).length (bs (encL xs 1)) w v
  | 3 => v = .pointer (some ⟨g, 1, none⟩)
  | 4 => v = .int .i64 (xs.getD 1 0)
  | 5 => FreshR p (encL xs 2).length (bs (encL xs 2)) w v
  | 6 => v = .pointer (some ⟨g, 2, none⟩)
  | 7 => v = .int .i64 (xs.getD 2 0)
  | 8 => FreshR p (encL xs 3).length (bs (encL xs 3)) w v
  | 9 => FreshR p (encL xs 3).length (bs (encL xs 3)) w v
  | _ => True
theorem R3V_stab {g : Nat} {xs : List Int} {p : Nat} (i j : Nat) (w w' : World) (v : Value) (hij : i ≠ j) (hR : KeepBut none w w') (h : R3V g xs p j w v) : R3V g xs p j w' v := by
  rcases j with _ | _ | _ | _ | _ | _ | _ | _ | _ | _ | j <;> try exact h
  all_goals exact KeepBut.fresh hR h (fun _ e => by cases e)
structure XG (g : Nat) (xs : List Int) (w0 w : World) : Prop where
  bel : Below g w0 w
  bx : Blk w g 24 (ns xs)
  size : g + 1 ≤ w.heap.size
theorem XG.call {g : Nat} {xs : List Int} {w0 w w' : World} (h : XG g xs w0 w) (hb : Below w.heap.size w w') : XG g xs w0 w' := ⟨below_then h.bel (by have := h.size; omega) hb, h.bx.below hb h.bx.lt, Nat.le_trans h.size hb.size⟩
theorem inI_small {xs : List Int} (h : ∀ k, k < 10 → inI xs k) (k : Nat) (hk : k < 10) : 0 ≤ xs.getD k 0 ∧ xs.getD k 0 ≤ 1000000 := by
  have := h k hk
  unfold inI mostI at this
  refine ⟨this.1, ?_⟩
  have h2 := this.2
  split at h2
  · omega
  · split at h2
    · omega
    · split at h2 <;> omega
set_option maxHeartbeats 4000000 in
theorem rencode_calls (xs : List Int) (w : World) (hx : xs.length = 10) :
    Calls Try.prog 20 #[ino xs] w fun e w' => RetE 5 (encB xs) (encE xs) w e w' := by
  unfold ino
  have HK : Hd (Blk (w.alloc (.cells (ns xs).toArray 24)) w.heap.size 24 (ns xs)) := ⟨Blk.new w _ _⟩
  have HB : Hd (Below w.heap.size w (w.alloc (.cells (ns xs).toArray 24))) := ⟨(Below.refl _ w).alloc (Nat.le_refl _) _⟩
  have HX := Hd.mk hx
  clear hx
  cases hr : rightB xs
  · have HR : Hd (encB xs = [] ∧ encE xs = 2) := ⟨by unfold encB encE; rw [hr]; exact ⟨rfl, rfl⟩⟩
    have HRB := Hd.mk hr
    clear hr
    go_enter Try.func20, Try.ntmps20
    go_wp2_with (first
      | (refine wpList_load_row_w rfl 24 (.tmp 1) rfl w.heap.size rfl 24 _ (0, 0) _ HK.out Try.underlying24 rfl (info_inode.trans (by simp [HX.out])) ?_)
      | (go_at_call 23; refine (rright_calls xs _ HX.out).mono ?_; rintro e w1 ⟨rfl, hb⟩; rw [HRB.out]; have HB := Hd.mk (below_then HB.out HB.out.size hb); clear hb))
    go_ret2
    rw [HR.out.1, HR.out.2]
    exact ⟨_, rfl, World.ownsRow_nil _ _ _ _, HB.out⟩
  · have HR : Hd (encB xs = padB (encL xs 10) 64 ∧ encE xs = 0) := ⟨by unfold encB encE; rw [hr]; exact ⟨rfl, rfl⟩⟩
    have HRB := Hd.mk hr
    have HIN : Hd (∀ k, k < 10 → 0 ≤ xs.getD k 0 ∧ xs.getD k 0 ≤ 1000000) := ⟨inI_small (of_decide_eq_true hr).1⟩
    clear hr
    go_enter Try.func20, Try.ntmps20
    go_wp2_with (first
      | (refine wpList_load_row_w rfl 24 (.tmp 1) rfl w.heap.size rfl 24 _ (0, 0) _ HK.out Try.underlying24 rfl (info_inode.trans (by simp [HX.out])) ?_)
      | (go_at_call 23; refine (rright_calls xs _ HX.out).mono ?_; rintro e w1 ⟨rfl, hb⟩; rw [HRB.out]; have HK := Hd.mk (HK.out.below hb HK.out.lt); have HB := Hd.mk (below_then HB.out HB.out.size hb); clear hb))
    have HG : Hd (XG w.heap.size xs w w1) := ⟨HB.out, HK.out, HK.out.lt⟩
    clear HK HB
    refine region_fam (fun f => #[Value.agg (ns xs).toArray, Value.pointer (some ⟨w.heap.size, 0, none⟩), Value.slice none 0 0, Value.int .i64 0, f 9, undef, Value.agg (ns xs).toArray, Value.bool true, Value.bool false, f 0, f 1, f 2, f 3, f 4, f 5, f 6, f 7, f 8, undef, undef, undef, undef, undef, undef, undef, undef, undef, undef, undef, undef, undef, undef, undef])
      (R3V w.heap.size xs (w.heap.size + 1)) (XG w.heap.size xs w) (fun _ => KeepBut none) (by kernel_rfl) (by kernel_rfl) (fun _ => undef) rfl (HG.out.call (Below.refl _ _).drew) R3V_stab ?put ?step ?fin
    case put =>
      intro i o ho f v
      rcases i with _ | _ | _ | _ | _ | _ | _ | _ | _ | _ | i
      all_goals first | (injection ho with ho; subst ho; rfl) | (cases ho)
    case step =>
      intro i o ho f w6 hG hp
      have hc0 := hG.bx.cell (ns_get xs 0 (by have := HX.out; omega))
      have hc1 := hG.bx.cell (ns_get xs 1 (by have := HX.out; omega))
      have hc2 := hG.bx.cell (ns_get xs 2 (by have := HX.out; omega))
      rcases i with _ | _ | _ | _ | _ | _ | _ | _ | _ | _ | i
      · injection ho with ho; subst ho
        refine wpOp_go rfl rfl ?_
        go_simp
        first | exact ⟨hG, .refl _ _, rfl⟩ | exact ⟨.refl _ _, rfl⟩
      · injection ho with ho; subst ho
        have h0 : f 0 = _ := hp ⟨0, .data⟩ (by simp) rfl
        simp only [h0]
        refine wpOp_go rfl rfl ?_
        go_simp
        first | exact ⟨hG, .refl _ _, rfl⟩ | exact ⟨.refl _ _, rfl⟩
      · injection ho with ho; subst ho
        have h1 : f 1 = _ := hp ⟨1, .data⟩ (by simp) rfl
        have hlen := encL_len xs 0
        simp only [h1]
        refine wpOp_go rfl rfl ?_
        go_simp
        refine (put13_calls none 0 0 [] (encL xs 1) (xs.getD 0 0) 1 _ (Rc.nil _ _) rfl (by first | omega | simp) (HIN.out 0 (by omega)) (by omega) rfl).mono ?_
        rintro e w7 ⟨v7, rfl, ho7, hb7⟩
        exact ⟨hG.call hb7, .of_below hb7 _, (FreshR.of_own ho7 rfl).mono hG.size⟩
      · injection ho with ho; subst ho
        refine wpOp_go rfl rfl ?_
        go_simp
        first | exact ⟨hG, .refl _ _, rfl⟩ | exact ⟨.refl _ _, rfl⟩
      · injection ho with ho; subst ho
        have h3 : f 3 = _ := hp ⟨3, .data⟩ (by simp) rfl
        simp only [h3]
        refine wpOp_go rfl rfl ?_
        go_simp
        first | exact ⟨hG, .refl _ _, rfl⟩ | exact ⟨.refl _ _, rfl⟩
      · injection ho with ho; subst ho
        have h4 : f 4 = _ := hp ⟨4, .data⟩ (by simp) rfl
        obtain ⟨A2, c2, h2, hc2, hr2, hf2⟩ := hp ⟨2, .data⟩ (by simp) rfl
        change f 2 = _ at h2
        have hlen := encL_len xs 1
        simp only [h4, h2]
        refine wpOp_go rfl rfl ?_
        go_simp
        refine (put13_calls A2 _ c2 (encL xs 1) (encL xs 2) (xs.getD 1 0) 2 _ hr2 rfl (by first | omega | simp) (HIN.out 1 (by omega)) (by omega) rfl).mono ?_
        rintro e w7 ⟨v7, rfl, ho7, hb7⟩
        exact ⟨hG.call hb7, .of_below hb7 _, (FreshR.of_own ho7 rfl).mono hG.size⟩
      · injection ho with ho; subst ho
        refine wpOp_go rfl rfl ?_
        go_simp
        first | exact ⟨hG, .refl _ _, rfl⟩ | exact ⟨.refl _ _, rfl⟩
      · injection ho with ho; subst ho
        have h6 : f 6 = _ := hp ⟨6, .data⟩ (by simp) rfl
        simp only [h6]
        refine wpOp_go rfl rfl ?_
        go_simp
        first | exact ⟨hG, .refl _ _, rfl⟩ | exact ⟨.refl _ _, rfl⟩
      · injection ho with ho; subst ho
        have h7 : f 7 = _ := hp ⟨7, .data⟩ (by simp) rfl
        obtain ⟨A5, c5, h5, hc5, hr5, hf5⟩ := hp ⟨5, .data⟩ (by simp) rfl
        change f 5 = _ at h5
        have hlen := encL_len xs 2
        simp only [h7, h5]
        refine wpOp_go rfl rfl ?_
        go_simp
        refine (put13_calls A5 _ c5 (encL xs 2) (encL xs 3) (xs.getD 2 0) 4 _ hr5 rfl (by first | omega | simp) (HIN.out 2 (by omega)) (by omega) rfl).mono ?_
        rintro e w7 ⟨v7, rfl, ho7, hb7⟩
        exact ⟨hG.call hb7, .of_below hb7 _, (FreshR.of_own ho7 rfl).mono hG.size⟩
      · injection ho with ho; subst ho
        have h8 := hp ⟨8, .data⟩ (by simp) rfl
        refine wpOp_go rfl rfl ?_
        go_simp
        first | exact ⟨hG, .refl _ _, h8⟩ | exact ⟨.refl _ _, h8⟩
      · cases ho
    case fin =>
      intro f w6 hG hV
      have h9 : FreshR (w.heap.size + 1) (encL xs 3).length (bs (encL xs 3)) w6 (f 9) := hV 9 (by simp)
      obtain ⟨A9, c9, h9, hc9, hr9, hf9⟩ := h9
      simp only [h9]
      have HR9 : Hd (Rc w6 A9 (bs (encL xs 3))) := ⟨hr9⟩
      have HG := Hd.mk hG
      clear hr9 hG hV h9 hc9 hf9
      go_wp2_with (fail)
      go_loopw [4, 5] (fun v i wr => ∃ (k : Nat) (A : Option Addr) (c : Nat), k ≤ 6 ∧ i = .int .i64 k ∧ v = .slice A (encL xs (3 + k)).length c ∧ Hd (Rc wr A (bs (encL xs (3 + k)))) ∧ Hd (XG w.heap.size xs w wr)) (fun _ i _ => 6 - (intOf i).toNat)
      case atStart => exact ⟨0, A9, c9, by omega, rfl, rfl, HR9, HG⟩
      case round =>
        clear HR9 HG
        obtain ⟨k, A, c, hk, rfl, rfl, HL, HG⟩ := hrel
        by_cases hlt : k < 6
        · have hcx := HG.out.bx.cell (ns_get xs (3 + k) (by have := HX.out; omega))
          have HIX := Hd.mk (HIN.out (3 + k) (by omega))
          have HZ : Hd (encL xs (3 + k) ++ putB (xs.getD (3 + k) 0).toNat (putW 4) = encL xs (3 + (k + 1))) := ⟨by
            show _ = encL xs (3 + k) ++ oneI xs (3 + k)
            unfold oneI wideI
            rw [if_neg (by omega), if_neg (by omega)]
            rfl⟩
          have HLN := Hd.mk (encL_len xs (3 + k))
          have HLT := Hd.mk hlt
          obtain ⟨x, hx0⟩ : ∃ x, xs.getD (3 + k) 0 = x := ⟨_, rfl⟩
          rw [hx0] at hcx HIX HZ
          clear hx0
          go_wp2_with (go_at_call 33; refine (put13_calls A _ c (encL xs (3 + k)) (encL xs (3 + (k + 1))) x 4 _ HL.out rfl (by have := HLN.out; have := HLT.out; omega) HIX.out (by omega) HZ.out).mono ?_; rintro e w7 ⟨v7, rfl, ho7, hb7⟩; obtain ⟨A7, c7, rfl, _, hr7, _⟩ := own_rc ho7; have HR7 := Hd.mk hr7; have HG := Hd.mk (HG.out.call hb7); clear ho7 hb7 hr7)
          go_roundw
          case rel => exact ⟨k + 1, A7, c7, by omega, by go_num, rfl, HR7, HG⟩
          case measure => simp [intOf]; omega
        · obtain rfl : k = 6 := by omega
          have hcx := HG.out.bx.cell (ns_get xs 9 (by have := HX.out; omega))
          have HIX := Hd.mk (HIN.out 9 (by omega))
          have HZ : Hd (encL xs 9 ++ putB (xs.getD 9 0).toNat (putW 4) = encL xs 10) := ⟨rfl⟩
          have HLN := Hd.mk (encL_len xs 9)
          have HL10 := Hd.mk (encL_len xs 10)
          obtain ⟨x, hx0⟩ : ∃ x, xs.getD 9 0 = x := ⟨_, rfl⟩
          rw [hx0] at hcx HIX HZ
          clear hx0
          go_wp2_with (first
            | (go_at_call 33; refine (put13_calls A _ c (encL xs 9) (encL xs 10) x 4 _ HL.out rfl (by have := HLN.out; omega) HIX.out (by omega) HZ.out).mono ?_; rintro e w7 ⟨v7, rfl, ho7, hb7⟩; obtain ⟨A7, c7, rfl, _, hr7, _⟩ := own_rc ho7; have HR7 := Hd.mk hr7; have HG := Hd.mk (HG.out.call hb7); clear ho7 hb7 hr7)
            | (go_at_call 34; refine (rpad_calls A7 _ c7 (encL xs 10) 64 _ HR7.out (by have := HL10.out; omega) (by omega) rfl).mono ?_; rintro e w8 ⟨v8, rfl, ho8, hb8⟩; have HO8 := Hd.mk (own_lower ho8 (show w.heap.size ≤ w7.heap.size by have := HG.out.size; omega)); have HG := Hd.mk (HG.out.call hb8); clear ho8 hb8))
          go_ret2
          rw [HR.out.1, HR.out.2]
          exact ⟨v8, rfl, HO8.out, HG.out.bel⟩
end Go.Proofs.Ytmebgejjaljhgaa
