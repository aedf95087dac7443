/- Walks: an inode as bytes. -/
import Derived.Test.YtmebgejjaljhgaaN13RefRight
import Derived.Test.YtmebgejjaljhgaaBase11
namespace Go.Proofs.Ytmebgejjaljhgaa
open Go.RowKit Go.Sac
set_option linter.unusedVariables false
set_option linter.unusedSimpArgs false

/-- bytes and an error -/
def RetE (E : TypeId) (l : List UInt8) (er : Int) (w : World) (e : Ending) (w' : World) : Prop :=
  ∃ v, e = .returned (.tuple #[v, .int .i64 er]) ∧ w'.ownsRow w.heap.size E 1 v l.length (bs l) ∧ Below w.heap.size w w'
def oneI (xs : List Int) (k : Nat) : List UInt8 := putB (xs.getD k 0).toNat (wideI k)
def encL (xs : List Int) : Nat → List UInt8
  | 0 => []
  | k + 1 => encL xs k ++ oneI xs k
theorem wideI_le (k : Nat) : wideI k ≤ 4 := by unfold wideI; split <;> (try split) <;> omega
theorem putW_wide (k : Nat) : putW (wideI k : Int) = wideI k := by have := wideI_le k; unfold putW; omega
theorem oneI_len (xs : List Int) (k : Nat) : (oneI xs k).length = wideI k := putB_len _ _
theorem encL_len (xs : List Int) (k : Nat) : (encL xs k).length ≤ 4 * k := by
  induction k with
  | zero => simp [encL]
  | succ k ih => rw [encL, List.length_append, oneI_len]; have := wideI_le k; omega
def encB (xs : List Int) : List UInt8 := if rightB xs = true then padB (encL xs 10) 64 else []
def encE (xs : List Int) : Int := if rightB xs = true then 0 else 2
/-- what the loop's region yields -/
def EV (g p k : Nat) (x : Int) (m : Nat) (A : Option Addr) (n c n' : Nat) (zs ys : List UInt8) (j : Nat) (w : World) (v : Value) : Prop :=
  match j with
  | 0 => v = .slice A n c
  | 1 => v = .pointer (some ⟨p, 0, none⟩)
  | 2 => v = .pointer (some ⟨g, k, none⟩)
  | 3 => v = .pointer (some ⟨g, k, none⟩)
  | 4 => v = .int .i64 x
  | 5 => v = .int .u64 x
  | 6 => v = .pointer (some ⟨p, 1, none⟩)
  | 7 => v = .int .i64 m
  | 8 => FreshR (p + 1) zs.length (bs zs) w v
  | 9 => w.ownsRow (g + 1) 5 1 v n' (bs ys)
  | 10 => w.ownsRow (g + 1) 5 1 v n' (bs ys)
  | _ => True
def ER (ob : Option Nat) (i : Nat) : World → World → Prop := KeepBut (if i = 9 then ob else none)
structure EG (g p k : Nat) (x : Int) (m : Nat) (ms : Int) (E : TypeId) (xs : List Int) (A : Option Addr) (n c : Nat) (ys : List UInt8) (w0 : World) (L : Nat → Bool) (w : World) : Prop where
  bel : Below g w0 w
  size : p + 1 ≤ w.heap.size
  bx : Blk w g 24 (ns xs)
  bf : Blk w p 62 [.pointer (some ⟨g, k, none⟩), .int .i64 m, .int .i64 ms]
  own : L 9 = false → w.ownsRow (g + 1) 5 1 (.slice A n c) n (bs ys)
theorem EG.more {g p k : Nat} {x : Int} {m : Nat} {ms : Int} {E : TypeId} {xs : List Int} {A : Option Addr} {n c : Nat} {ys : List UInt8} {w0 : World} {L : Nat → Bool} {w : World} (h : EG g p k x m ms E xs A n c ys w0 L w) (i : Nat) : EG g p k x m ms E xs A n c ys w0 (fun j => j == i || L j) w :=
  ⟨h.bel, h.size, h.bx, h.bf, fun hL => h.own (by simp at hL; exact hL.2)⟩
theorem EG.call {g p k : Nat} {x : Int} {m : Nat} {ms : Int} {E : TypeId} {xs : List Int} {A : Option Addr} {n c : Nat} {ys : List UInt8} {w0 : World} {L : Nat → Bool} {w w' : World} (h : EG g p k x m ms E xs A n c ys w0 L w) (hg : g ≤ p) (hb : Below w.heap.size w w') : EG g p k x m ms E xs A n c ys w0 L w' :=
  ⟨below_then h.bel (Nat.le_trans (by omega) h.size) hb, Nat.le_trans h.size hb.size, h.bx.below hb h.bx.lt, h.bf.below hb h.bf.lt, fun hL => own_below (h.own hL) hb⟩
theorem EV_stab {g p k : Nat} {x : Int} {m : Nat} {A : Option Addr} {n c n' : Nat} {zs ys : List UInt8} (hob : ∀ b, (Value.slice A n c).ownBlock = some b → b < p + 1) (i j : Nat) (w w' : World) (v : Value) (h9 : j = 9 → i ≠ 9) (h10 : j = 10 → i ≠ 9) (hR : ER (Value.slice A n c).ownBlock i w w') (h : EV g p k x m A n c n' zs ys j w v) : EV g p k x m A n c n' zs ys j w' v := by
  have ho : ∀ q, (if i = 9 then (Value.slice A n c).ownBlock else none) = some q → q < p + 1 := by
    intro q; split
    · exact hob q
    · intro e; cases e
  rcases j with _ | _ | _ | _ | _ | _ | _ | _ | _ | _ | _ | j <;> try exact h
  · exact KeepBut.fresh hR h ho
  · have hi := h9 rfl
    unfold ER at hR
    rw [if_neg hi] at hR
    exact KeepBut.own hR h (fun _ _ => by simp)
  · have hi := h10 rfl
    unfold ER at hR
    rw [if_neg hi] at hR
    exact KeepBut.own hR h (fun _ _ => by simp)
theorem own_rc2 {w : World} {base : Nat} {e : TypeId} {size n c : Nat} {A : Option Addr} {xs : List Value} (h : w.ownsRow base e size (.slice A n c) n xs) : Rc w A xs := by
  obtain ⟨A', c', e, _, h3, _⟩ := own_rc h
  injection e with e1 e2 e3
  subst e1
  exact h3
theorem pad_any (A : Option Addr) (n c : Nat) (l : List UInt8) (wide : Int) (w : World) (hl : Rc w A (bs l)) (e : n = l.length) (hn : l.length ≤ 1099511627776) (h0 : -1099511627776 ≤ wide) (h1 : wide ≤ 1099511627776) :
    Calls Try.prog 31 #[.slice A n c, .int .i64 wide] w fun e w' => RetB 5 (padB l wide) w e w' := by subst e; exact pad_calls A c l wide w hl hn h0 h1
set_option maxHeartbeats 4000000 in
theorem encode_calls (xs : List Int) (w : World) (hx : xs.length = 10) :
    Calls Try.prog 11 #[ino xs] w fun e w' => RetE 5 (encB xs) (encE xs) w e w' := by
  unfold ino
  have HK : Hd (Blk (w.alloc (.cells (ns xs).toArray 24)) w.heap.size 24 (ns xs)) := ⟨Blk.new w _ _⟩
  have HB : Hd (Below w.heap.size w (w.alloc (.cells (ns xs).toArray 24))) := ⟨(Below.refl _ w).alloc (Nat.le_refl _) _⟩
  have HX := Hd.mk hx
  clear hx
  cases hr : rightB xs
  · have HR : Hd (encB xs = [] ∧ encE xs = 2) := ⟨by unfold encB encE; rw [hr]; exact ⟨rfl, rfl⟩⟩
    have HRB := Hd.mk hr
    clear hr
    go_enter Try.func11, Try.ntmps11
    go_wp2_with (first
      | (refine wpList_load_row_w rfl 24 (.tmp 1) rfl w.heap.size rfl 24 _ (0, 0) _ HK.out Try.underlying24 rfl (info_inode.trans (by simp [HX.out])) ?_)
      | (go_at_call 12; refine (right_calls xs _ HX.out).mono ?_; rintro e w1 ⟨rfl, hb⟩; rw [HRB.out]; have HB := Hd.mk (below_then HB.out HB.out.size hb); clear hb))
    go_ret2
    rw [HR.out.1, HR.out.2]
    exact ⟨_, rfl, World.ownsRow_nil _ _ _ _, HB.out⟩
  · have HR : Hd (encB xs = padB (encL xs 10) 64 ∧ encE xs = 0) := ⟨by unfold encB encE; rw [hr]; exact ⟨rfl, rfl⟩⟩
    have HRB := Hd.mk hr
    have HIN : Hd (∀ k, k < 10 → inI xs k) := ⟨(of_decide_eq_true hr).1⟩
    clear hr
    go_enter Try.func11, Try.ntmps11
    go_wp2_with (first
      | (refine wpList_load_row_w rfl 24 (.tmp 1) rfl w.heap.size rfl 24 _ (0, 0) _ HK.out Try.underlying24 rfl (info_inode.trans (by simp [HX.out])) ?_)
      | (go_at_call 12; refine (right_calls xs _ HX.out).mono ?_; rintro e w1 ⟨rfl, hb⟩; rw [HRB.out]; have HK := Hd.mk (HK.out.below hb HK.out.lt); have HB := Hd.mk (below_then HB.out HB.out.size hb); clear hb)
      | (go_at_call 29; refine (fields_calls _ _).mono ?_; rintro e w2 ⟨rfl, hb⟩; have HK := Hd.mk (HK.out.below hb HK.out.lt); have HB := Hd.mk (below_then HB.out HB.out.size hb); clear hb))
    go_loopw [4, 11] (fun v i wr => ∃ k : Nat, k ≤ 10 ∧ i = .int .i64 k ∧ Hd (wr.ownsRow (w.heap.size + 1) 5 1 v (encL xs k).length (bs (encL xs k))) ∧ Hd (Blk wr w.heap.size 24 (ns xs)) ∧ Hd (Below w.heap.size w wr)) (fun _ i _ => 10 - (intOf i).toNat)
    case atStart => exact ⟨0, by omega, rfl, ⟨World.ownsRow_nil _ _ _ _⟩, HK, HB⟩
    case round =>
      clear HK HB
      obtain ⟨k, hk, rfl, HO, HK, HB⟩ := hrel
      obtain ⟨A1, c1, rfl, _, _, _⟩ := own_rc HO.out
      by_cases hlt : k < 10
      · have hix := index_fields w.heap.size k hlt wr
        have hin := HIN.out k hlt
        have hcx := fun (o : Obj) => (HK.out.alloc o).cell (ns_get xs k (by have := HX.out; omega))
        have hml : mostI k ≤ 65535 := by unfold mostI; split <;> (try split) <;> (try split) <;> omega
        have hst : Hd (encL xs (k + 1) = encL xs k ++ putB (xs.getD k 0).toNat (wideI k)) := ⟨rfl⟩
        obtain ⟨ms, hms⟩ : ∃ m, mostI k = m := ⟨_, rfl⟩
        unfold inI at hin
        rw [hms] at hin hix hml
        obtain ⟨x, hx0⟩ : ∃ x, xs.getD k 0 = x := ⟨_, rfl⟩
        rw [hx0] at hin hcx hst
        have hpw := putW_wide k
        have hw4 := wideI_le k
        obtain ⟨m, hm⟩ : ∃ m, wideI k = m := ⟨_, rfl⟩
        rw [hm] at hix hst hpw hw4
        have hlen := encL_len xs k
        have HIX := Hd.mk hin
        have HPW := Hd.mk hpw
        have HM4 := Hd.mk hw4
        have HML := Hd.mk hml
        have HOB : Hd (∀ b, (Value.slice A1 (encL xs k).length c1).ownBlock = some b → w.heap.size + 1 ≤ b ∧ b < wr.heap.size) := ⟨fun b hb => own_lt HO.out b hb⟩
        have HG : Hd (EG w.heap.size wr.heap.size k x m ms 5 xs A1 (encL xs k).length c1 (encL xs k) w (fun _ => false) (wr.alloc (.cells #[.pointer (some ⟨w.heap.size, k, none⟩), .int .i64 m, .int .i64 ms] 62))) := ⟨HB.out.alloc HB.out.size _, by simp, HK.out.alloc _, Blk.new wr 62 [.pointer (some ⟨w.heap.size, k, none⟩), .int .i64 m, .int .i64 ms], fun _ => own_alloc HO.out _⟩
        have HGP : Hd (w.heap.size ≤ wr.heap.size) := ⟨HB.out.size⟩
        have HXK := Hd.mk hx0
        clear hin hpw hw4 hm hx0 hms hml HB HO hcx
        go_wp2_with (fail)
        clear hix
        change Code.wp Try.prog _ _ _ (wr.alloc (.cells #[.pointer (some ⟨w.heap.size, k, none⟩), .int .i64 m, .int .i64 ms] 62))
        generalize (wr.alloc (.cells #[.pointer (some ⟨w.heap.size, k, none⟩), .int .i64 m, .int .i64 ms] 62)) = w5 at *
        refine region_famL (fun f => #[Value.agg (ns xs).toArray, Value.pointer (some ⟨w.heap.size, 0, none⟩), Value.slice none 0 0, Value.int .i64 0, f 10, undef, Value.pointer (some ⟨wr.heap.size, 0, none⟩), Value.agg (ns xs).toArray, Value.bool true, Value.bool false, Value.agg (fieldsOf w.heap.size), Value.int .i64 k, Value.bool (decide ((k : Int) < 10)), Value.agg #[.pointer (some ⟨w.heap.size, k, none⟩), .int .i64 m, .int .i64 ms], f 0, f 1, f 2, f 3, f 4, f 5, f 6, f 7, f 8, f 9, u24, undef, undef])
          (EV w.heap.size wr.heap.size k x m A1 (encL xs k).length c1 (encL xs (k + 1)).length (putB x.toNat m) (encL xs (k + 1))) (EG w.heap.size wr.heap.size k x m ms 5 xs A1 (encL xs k).length c1 (encL xs k) w) (ER (Value.slice A1 (encL xs k).length c1).ownBlock) (by kernel_rfl) (by kernel_rfl)
          (fun i => if i = 0 then u14 else if i = 1 then u15 else if i = 2 then u16 else if i = 3 then u17 else if i = 4 then u18 else if i = 5 then u19 else if i = 6 then u20 else if i = 7 then u21 else if i = 8 then u22 else if i = 9 then u23 else if i = 10 then .slice A1 (encL xs k).length c1 else undef) rfl (HG.out.call HGP.out (Below.refl _ _).drew) ?stab ?put ?step ?fin
        case stab =>
          intro i j w w' v o ho hij hd hR h
          refine EV_stab (fun b hb => Nat.lt_succ_of_lt (HOB.out b hb).2) i j w w' v (fun e => ?_) (fun e => ?_) hR h
          · subst e; exact hij
          · subst e; injection ho with ho; subst ho
            intro e; subst e
            exact hd ⟨9, .data⟩ (by simp) rfl rfl
        case put =>
          intro i o ho f v
          rcases i with _ | _ | _ | _ | _ | _ | _ | _ | _ | _ | _ | i
          all_goals first | (injection ho with ho; subst ho; rfl) | (cases ho)
        case step =>
          intro L i o ho hL f w6 hG hfr hp
          have hin := HIX.out
          have hm4 := HM4.out
          have hml := HML.out
          have hcx := hG.bx.cell (ns_get xs k (by have := HX.out; omega))
          rw [HXK.out] at hcx
          have hf0 := hG.bf.cell (i := 0) rfl
          have hf1 := hG.bf.cell (i := 1) rfl
          rcases i with _ | _ | _ | _ | _ | _ | _ | _ | _ | _ | _ | i
          · injection ho with ho; subst ho
            have hM := hG.more 0
            have h10 : f 10 = _ := hfr 10 _ rfl ⟨0, .phase⟩ (by simp) rfl rfl
            simp only [h10]
            refine wpOp_go rfl rfl ?_
            go_simp
            first | exact ⟨hM, .refl _ _, rfl⟩ | exact ⟨.refl _ _, rfl⟩
          · injection ho with ho; subst ho
            have hM := hG.more 1
            refine wpOp_go rfl rfl ?_
            go_simp
            first | exact ⟨hM, .refl _ _, rfl⟩ | exact ⟨.refl _ _, rfl⟩
          · injection ho with ho; subst ho
            have h1 : f 1 = _ := hp ⟨1, .data⟩ (by simp) rfl
            have hM := hG.more 2
            simp only [h1]
            refine wpOp_go rfl rfl ?_
            go_simp
            first | exact ⟨hM, .refl _ _, rfl⟩ | exact ⟨.refl _ _, rfl⟩
          · injection ho with ho; subst ho
            have h2 : f 2 = _ := hp ⟨2, .data⟩ (by simp) rfl
            have hM := hG.more 3
            simp only [h2]
            refine wpOp_go rfl rfl ?_
            go_simp
            first | exact ⟨hM, .refl _ _, rfl⟩ | exact ⟨.refl _ _, rfl⟩
          · injection ho with ho; subst ho
            have h3 : f 3 = _ := hp ⟨3, .data⟩ (by simp) rfl
            have hM := hG.more 4
            simp only [h3]
            refine wpOp_go rfl rfl ?_
            go_simp
            first | exact ⟨hM, .refl _ _, rfl⟩ | exact ⟨.refl _ _, rfl⟩
          · injection ho with ho; subst ho
            have h4 : f 4 = _ := hp ⟨4, .data⟩ (by simp) rfl
            have hM := hG.more 5
            have hwx : IntKind.u64.wrap x = x := by rw [IntKind.wrap_u64]; omega
            simp only [h4]
            refine wpOp_go rfl rfl ?_
            go_simp
            first | exact ⟨hM, .refl _ _, rfl⟩ | exact ⟨.refl _ _, rfl⟩
          · injection ho with ho; subst ho
            have hM := hG.more 6
            refine wpOp_go rfl rfl ?_
            go_simp
            first | exact ⟨hM, .refl _ _, rfl⟩ | exact ⟨.refl _ _, rfl⟩
          · injection ho with ho; subst ho
            have h6 : f 6 = _ := hp ⟨6, .data⟩ (by simp) rfl
            have hM := hG.more 7
            simp only [h6]
            refine wpOp_go rfl rfl ?_
            go_simp
            first | exact ⟨hM, .refl _ _, rfl⟩ | exact ⟨.refl _ _, rfl⟩
          · injection ho with ho; subst ho
            have h5 : f 5 = _ := hp ⟨5, .data⟩ (by simp) rfl
            have h7 : f 7 = _ := hp ⟨7, .data⟩ (by simp) rfl
            simp only [h5, h7]
            refine wpOp_go rfl rfl ?_
            go_simp
            refine (put_any x (m : Int) _ (by omega)).mono ?_
            rintro e w7 ⟨v7, rfl, ho7, hb7⟩
            rw [HPW.out] at ho7
            exact ⟨(hG.call HGP.out hb7).more 8, .of_below hb7 _, (FreshR.of_own ho7 rfl).mono hG.size⟩
          · injection ho with ho; subst ho
            have h0 : f 0 = _ := hp ⟨0, .data⟩ (by simp) rfl
            obtain ⟨A8, c8, h8, hc8, hr8, hf8⟩ := hp ⟨8, .data⟩ (by simp) rfl
            change f 8 = _ at h8
            simp only [h0, h8]
            have hown := hG.own hL
            refine wpOp_go rfl rfl (wp_app (w.heap.size + 1) 25 5 (.int .u8 0) 1 1 (.tmp 14) (.tmp 22) rfl Try.underlying25 info_u8 rfl (by decide) (by decide) (.slice A1 (encL xs k).length c1) (encL xs k).length (bs (encL xs k)) (bs (putB x.toNat m)) A8 (putB x.toNat m).length c8 rfl rfl hown hr8 (by simp) bs_one (Nat.le_trans (Nat.succ_le_succ HGP.out) hG.size) (by rw [putB_len]; omega) (encL xs (k + 1)).length (bs (encL xs (k + 1))) (by rw [hst.out, List.length_append]) (by rw [hst.out]; simp) ?_)
            intro v1 w7 ho hg hat
            refine ⟨v1, rfl, ⟨below_lift hG.bel (Nat.le_trans (by have := HGP.out; omega) hG.size) hg (fun b hb => by have := (HOB.out b hb).1; omega), Nat.le_trans hG.size hg.size, hG.bx.grown hg (fun e => by have := (HOB.out _ e.symm).1; omega), hG.bf.grown hg (fun e => by have := (HOB.out _ e.symm).2; omega), fun h => by simp at h⟩, .of_grown hg, ho⟩
          · injection ho with ho; subst ho
            have hM := hG.more 10
            have h9 := hp ⟨9, .data⟩ (by simp) rfl
            refine wpOp_go rfl rfl ?_
            go_simp
            first | exact ⟨hM, .refl _ _, h9⟩ | exact ⟨.refl _ _, h9⟩ | exact ⟨hM, .refl _ _⟩
          · cases ho
        case fin =>
          intro L f w6 hLL hG hV
          have h10 := hV 10 (by simp)
          have h10 : Hd (w6.ownsRow (w.heap.size + 1) 5 1 (f 10) (encL xs (k + 1)).length (bs (encL xs (k + 1)))) := ⟨h10⟩
          clear hV
          have HBX := Hd.mk hG.bx
          have HBL := Hd.mk hG.bel
          clear hG HG
          go_wp2_with (fail)
          go_roundw
          case rel => exact ⟨k + 1, by omega, by go_num, h10, HBX, HBL⟩
          case measure => simp [intOf]; omega
      · obtain rfl : k = 10 := by omega
        have hlen := encL_len xs 10
        have HLN := Hd.mk hlen
        clear hlen
        go_wp2_with (go_at_call 31; refine (pad_any A1 _ c1 (encL xs 10) 64 _ (own_rc2 HO.out) rfl (by have := HLN.out; omega) (by omega) (by omega)).mono ?_; rintro e w9 ⟨v9, rfl, ho9, hb9⟩; have HO9 := Hd.mk ho9; have HB9 := Hd.mk (below_then HB.out HB.out.size hb9); have HS9 := Hd.mk HB.out.size; clear ho9 hb9)
        go_ret2
        rw [HR.out.1, HR.out.2]
        exact ⟨v9, rfl, own_lower HO9.out HS9.out, HB9.out⟩
end Go.Proofs.Ytmebgejjaljhgaa
