/- W06LawTells: the law WorldTells. -/
import Derived.Test.YtffhncpgknkkaaaW06Calm
import Derived.Test.YtffhncpgknkkaaaR00Same
namespace Go.Proofs.Ytffhncpgknkkaaa
open Go.RowKit Go.Sac
set_option linter.unusedVariables false
set_option linter.unusedSimpArgs false
theorem nought_at (k : Nat) (h : k < nought.length) : nought[k] = 0 := by unfold nought; exact List.getElem_replicate _
def dA (i s : Int) (a : List UInt8) : DD := updD (fun _ => nought) (i, s) (wideW a)
def dB (i s j : Int) (a b : List UInt8) : DD := updD (dA i s a) (j, 1 - s) (wideW b)
def lL (l : List UInt8) : LL := updL (fun _ => none) 1 l
theorem tell0 (i s j : Int) (a b : List UInt8) (hs : 0 ≤ s ∧ s ≤ 1) : ((fun _ => none : LL) (0 : Nat)).getD (dB i s j a b (i, s)) = wideW a := by
  show dB i s j a b (i, s) = _
  unfold dB updD
  rw [if_neg (by intro e; injection e with e1 e2; omega)]
  unfold dA updD
  rw [if_pos rfl]
theorem tell1 (i s j : Int) (a b l : List UInt8) : (lL l ((1 : Nat) : Int)).getD (dB i s j a b (i, s)) = l := rfl
theorem tell2 (i s j : Int) (a b l : List UInt8) (hs : 0 ≤ s ∧ s ≤ 1) : (lL l ((2 : Nat) : Int)).getD (dB i s j a b (i, s)) = wideW a := tell0 i s j a b hs
theorem tell3 (i s j : Int) (a b l : List UInt8) (hs : 0 ≤ s ∧ s ≤ 1) : (lL l ((3 : Nat) : Int)).getD (dB i s j a b (i, 1 - s)) = if i = j then wideW b else nought := by
  show dB i s j a b (i, 1 - s) = _
  unfold dB updD
  by_cases h : i = j
  · subst h; rw [if_pos rfl, if_pos rfl]
  · rw [if_neg (by intro e; injection e with e1 e2; exact h e1), if_neg h]
    unfold dA updD
    rw [if_neg (by intro e; injection e with e1 e2; omega)]
def VT27 (A8 B : Option Addr) (c8 m cb mm : Nat) (i : Nat) (w : World) (v : Value) : Prop :=
  match i with
  | 0 => v = (.slice A8 272 c8)
  | 1 => v = .int .i64 272
  | 2 => v = .int .i64 272
  | 3 => v = .bool true
  | 4 => v = .bool true
  | 5 => v = (.slice A8 272 c8)
  | 6 => v = .int .i64 (mm : Int)
  | 7 => v = (.slice A8 mm c8)
  | 8 => v = (.slice B m cb)
  | 9 => v = .int .i64 (mm : Int)
  | 10 => v = (.slice B mm cb)
  | 11 => v = .bool true
  | 12 => v = .bool true
  | 13 => v = .bool true
  | 14 => v = .bool true
  | 15 => v = .bool true
  | 16 => v = .bool true
  | _ => True
set_option maxRecDepth 100000 in
set_option maxHeartbeats 8000000 in
theorem law_tells (A B C : Option Addr) (n m k ca cb cc : Nat) (a b l : List UInt8) (at_ slot other : Int) (w : World) (ha : Rc w A (bs a)) (hb : Rc w B (bs b)) (hc : Rc w C (bs l))
    (e1 : n = a.length) (e2 : m = b.length) (e3 : k = l.length) (hca : n ≤ ca) (hcb : m ≤ cb) (hn : n ≤ 140737488355328) (hm : m ≤ 140737488355328) (hk : k ≤ 140737488355328)
    (h1 : 0 ≤ at_ ∧ at_ ≤ 255) (h2 : 0 ≤ slot ∧ slot ≤ 255) (h3 : 0 ≤ other ∧ other ≤ 255) :
    Calls Try.prog 3 #[.slice A n ca, .slice B m cb, .slice C k cc, .int .u8 at_, .int .u8 slot, .int .u8 other] w (RetT w) := by
  have HRA := Hd.mk ha
  have HRB := Hd.mk hb
  have HRC := Hd.mk hc
  have E1 := Hd.mk e1
  have E2 := Hd.mk e2
  have E3 := Hd.mk e3
  have HCA := Hd.mk hca
  have HCB := Hd.mk hcb
  clear ha hb hc e1 e2 e3 hca hcb
  by_cases hsm : n + m + k ≤ 800
  · have hsm2 : ¬ (800 : Int) < (n : Int) + (m : Int) + (k : Int) := by omega
    have HSM := Hd.mk hsm
    clear hsm
    have T1 : Hd True := ⟨trivial⟩
    have T2 : Hd True := ⟨trivial⟩
    have T3 : Hd True := ⟨trivial⟩
    have T4 : Hd True := ⟨trivial⟩
    go_enter Try.func3, Try.ntmps3
    go_wp2_with (first
      | (go_at_call 11; refine (wq_new _).mono ?_; rintro e w1 ⟨g, K1, rfl, h, _⟩; have W1 := Hd.mk h; clear h
         obtain ⟨i, hi⟩ : ∃ i, at_ % 8 = i := ⟨_, rfl⟩
         obtain ⟨s, hs⟩ : ∃ s, slot % 2 = s := ⟨_, rfl⟩
         obtain ⟨j, hj⟩ : ∃ j, other % 8 = j := ⟨_, rfl⟩
         have hi0 : 0 ≤ i := by omega
         have hi1 : i < 8 := by omega
         have hs0 : 0 ≤ s := by omega
         have hs1 : s ≤ 1 := by omega
         have hj0 : 0 ≤ j := by omega
         have hj1 : j < 8 := by omega
         rw [hi, hs, hj]
         clear hi hs hj)
      | (go_at_call 12; clear T1; refine (wq_write W1.out (by decide) (by decide) hi0 hi1 (by omega) A n ca a (W1.out.arg HRA.out) E1.out (by have := E1.out; omega)).mono ?_; rintro e w2 ⟨rfl, K2, h, _⟩; have W2 : Hd (Wq w w2 g K2 (dA i s a) _ _ _) := ⟨h⟩; clear h W1)
      | (go_at_call 12; clear T2; refine (wq_write W2.out (by decide) (by decide) hj0 hj1 (by omega) B m cb b (W2.out.arg HRB.out) E2.out (by have := E2.out; omega)).mono ?_; rintro e w3 ⟨rfl, K3, h, _⟩; have W3 : Hd (Wq w w3 g K3 (dB i s j a b) _ _ _) := ⟨h⟩; clear h W2)
      | (go_at_call 13; refine (wq_read W3.out (by decide) (by decide) hi0 hi1 (by omega) _ (tell0 i s j a b ⟨hs0, hs1⟩) 272 (wideW_len a).symm).mono ?_; rintro e w4 ⟨A4, c4, K4, rfl, h4, hf, h, _⟩; have W4 := Hd.mk h; have C4 := Hd.mk h4; have F4 := Hd.mk hf; clear h h4 hf W3)
      | (go_at_call 14; refine (wq_lie W4.out 1 C k cc l (W4.out.arg HRC.out).rc E3.out (by have := E3.out; omega)).mono ?_; rintro e w5 ⟨rfl, K5, h, hs⟩; have W5 : Hd (Wq w w5 g K5 (dB i s j a b) (lL l) _ _) := ⟨h⟩; have F5 := Hd.mk (F4.out.step hs); clear h hs W4 F4)
      | (go_at_call 13; clear T3; refine (wq_read W5.out (by decide) (by decide) hi0 hi1 (by omega) _ (tell1 i s j a b l) k E3.out).mono ?_; rintro e w6 ⟨A6, c6, K6, rfl, h4, hf, h, hs⟩; have W6 := Hd.mk h; have F6 := Hd.mk hf; have G6 := Hd.mk (F5.out.step hs); clear h h4 hf hs W5 F5)
      | (go_at_call 13; refine (wq_read W6.out (by decide) (by decide) hi0 hi1 (by omega) _ (tell2 i s j a b l ⟨hs0, hs1⟩) 272 (wideW_len a).symm).mono ?_; rintro e w7 ⟨A7, c7, K7, rfl, h4, hf, h, hs⟩; have W7 := Hd.mk h; have F7 := Hd.mk hf; have G7 := Hd.mk (F6.out.step hs); have I7 := Hd.mk (G6.out.step hs); clear h h4 hf hs W6 F6 G6)
      | (go_at_call 15; clear T4; refine (same_any _ _ _ _ _ _ l l _ G7.out.rc (W7.out.arg HRC.out).rc E3.out E3.out).mono ?_; rintro e w8 ⟨rfl, hw⟩; obtain rfl := hw.symm; rw [show (l == l) = true by simp])
      | (go_at_call 15; refine (same_any _ _ _ _ _ _ (wideW a) (wideW a) _ I7.out.rc F7.out.rc (wideW_len a).symm (wideW_len a).symm).mono ?_; rintro e w8 ⟨rfl, hw⟩; obtain rfl := hw.symm; rw [show (wideW a == wideW a) = true by simp]))
    go_loopw [21, 22] (fun iv cv wr => ∃ q : Nat, iv = .int .i64 (q : Int) ∧ q ≤ 272 ∧ wr = w7) (fun iv _ _ => 272 - (intOf iv).toNat)
    case atStart => exact ⟨0, rfl, Nat.zero_le _, rfl⟩
    case round =>
      obtain ⟨q, rfl, hq, rfl⟩ := hrel
      by_cases hlt : q < 272
      · have hqi : (q : Int) < 272 := by omega
        have hql : q < (wideW a).length := by rw [wideW_len]; exact hlt
        obtain ⟨bb, off, rfl, hbb, hcc⟩ := I7.out.rc.form (by rw [bs_len, wideW_len]; decide)
        have hcell : wr.cell? ⟨bb, off + q, none⟩ = some (.int .u8 ((a.getD q 0).toNat : Int)) := by rw [hcc q _ (bs_at hql), wide_at]
        by_cases hqn : q < n
        · have hqa : q < a.length := by rw [← E1.out]; exact hqn
          have hqni : (q : Int) < (n : Int) := by omega
          obtain ⟨ba, offa, rfl, hba, hca⟩ := (W7.out.arg HRA.out).rc.form (by rw [bs_len]; omega)
          have hce : wr.cell? ⟨ba, offa + q, none⟩ = some (.int .u8 ((a.getD q 0).toNat : Int)) := by rw [hca q _ (bs_at hqa), List.getD_eq_getElem?_getD, List.getElem?_eq_getElem hqa, Option.getD_some]
          obtain ⟨u, hu⟩ : ∃ u, a.getD q 0 = u := ⟨_, rfl⟩
          rw [hu] at hcell hce
          clear hcc hca hu
          go_wp2_with fail
          go_roundw
          case rel => exact ⟨q + 1, by go_num, by omega, trivial⟩
          case measure => simp [intOf]; omega
        · have hqni : ¬ (q : Int) < (n : Int) := by omega
          rw [show a.getD q 0 = 0 by rw [List.getD_eq_getElem?_getD, List.getElem?_eq_none (by have := E1.out; omega), Option.getD_none]] at hcell
          clear hcc
          go_wp2_with fail
          go_roundw
          case rel => exact ⟨q + 1, by go_num, by omega, trivial⟩
          case measure => simp [intOf]; omega
      · obtain rfl : q = 272 := by omega
        by_cases hij : i = j
        · subst hij
          go_wp2_with (go_at_call 13; refine (wq_read W7.out (by decide) (by decide) hi0 hi1 (by omega) (wideW b) ((tell3 i s i a b l ⟨hs0, hs1⟩).trans (if_pos rfl)) 272 (wideW_len b).symm).mono ?_; rintro e w8 ⟨A8, c8, K8, rfl, h4, hf, h, hs⟩; have W8 := Hd.mk h; have C8 := Hd.mk h4; have F8 := Hd.mk hf; clear h h4 hf hs)
          obtain ⟨mm, hmm⟩ : ∃ mm, min m 272 = mm := ⟨_, rfl⟩
          have hmi : min (m : Int) 272 = (mm : Int) := by omega
          rw [hmi]
          have hmc : mm ≤ c8 := by have := C8.out; omega
          have hmb : mm ≤ cb := by have := HCB.out; omega
          have HM1 := Hd.mk hmc
          have HM2 := Hd.mk hmb
          have FB : Fr w8 K8 B (b.take mm) := ⟨by rw [bs, List.map_take]; exact (W8.out.arg HRB.out).rc.take mm, fun a' e hb => (W8.out.arg HRB.out).fr a' e (fun h0 => hb (by rw [h0]; exact List.take_nil))⟩
          have FS : Hd (Fr w8 K8 A8 ((wideW b).take mm) ∧ Fr w8 K8 B (b.take mm) ∧ mm = ((wideW b).take mm).length ∧ mm = (b.take mm).length ∧ ((wideW b).take mm == b.take mm) = true) := ⟨⟨by rw [bs, List.map_take]; exact F8.out.rc.take mm, fun a' e hb => F8.out.fr a' e (fun h0 => by have := congrArg List.length h0; rw [wideW_len] at this; cases this)⟩, FB, by rw [List.length_take, wideW_len]; omega, by rw [List.length_take]; have := E2.out; omega, by rw [wide_take b mm (by have := E2.out; omega)]; simp⟩
          have BL := Hd.mk W8.out.bel
          have HMI := Hd.mk hmi
          clear hmc hmb hmm hmi F8 FB
          refine region_stp (VT27 A8 B c8 m cb mm) (fun _ w' _ => Below w8.heap.size w8 w') NoR (by kernel_rfl) (by kernel_rfl) (by kernel_rfl) (by kernel_rfl) (fun _ => (Below.refl _ _).drew) ?stab ?steps ?fin
          case stab => intro i j w1 w2 v o ho hij hwt hR h; exact h
          case steps =>
            refine StepsG.cons ?_ (StepsG.cons ?_ (StepsG.cons ?_ (StepsG.cons ?_ (StepsG.cons ?_ (StepsG.cons ?_ (StepsG.cons ?_ (StepsG.cons ?_ (StepsG.cons ?_ (StepsG.cons ?_ (StepsG.cons ?_ (StepsG.cons ?_ (StepsG.cons ?_ (StepsG.cons ?_ (StepsG.cons ?_ (StepsG.cons ?_ (StepsG.cons ?_ StepsG.nil))))))))))))))))
            · intro L f A w6 Q hL hG hsz hlow hun hnl hp
              have e23 : A.tmps.getD 23 undef = Value.slice A8 272 c8 := hlow 23 rfl
              clear hlow hun hnl hp
              refine wpOp_go rfl rfl ?_
              go_simp
              first | exact ⟨_, rfl, hG, ⟨⟩, rfl⟩ | exact ⟨hG, ⟨⟩, rfl⟩ | exact ⟨hG, rfl⟩ | exact hG | exact ⟨hG, ⟨⟩⟩ | exact ⟨_, rfl, hG, ⟨⟩, trivial⟩ | exact ⟨_, rfl, ⟨⟩, rfl⟩ | exact ⟨⟨⟩, rfl⟩
            · intro L f A w6 Q hL hG hsz hlow hun hnl hp
              have f0 : f 0 = (Value.slice A8 272 c8) := (hp 0 rfl).2.1
              have e123 : A.tmps.getD 123 undef = (Value.slice A8 272 c8) := ((hp 0 rfl).2.2 123 rfl).trans f0
              clear hlow hun hnl hp
              refine wpOp_go rfl rfl ?_
              go_simp
              first | exact ⟨_, rfl, hG, ⟨⟩, rfl⟩ | exact ⟨hG, ⟨⟩, rfl⟩ | exact ⟨hG, rfl⟩ | exact hG | exact ⟨hG, ⟨⟩⟩ | exact ⟨_, rfl, hG, ⟨⟩, trivial⟩ | exact ⟨_, rfl, ⟨⟩, rfl⟩ | exact ⟨⟨⟩, rfl⟩
            · intro L f A w6 Q hL hG hsz hlow hun hnl hp
              have e13 : A.tmps.getD 13 undef = Value.int .i64 272 := hlow 13 rfl
              clear hlow hun hnl hp
              refine wpOp_go rfl rfl ?_
              go_simp
              first | exact ⟨_, rfl, hG, ⟨⟩, rfl⟩ | exact ⟨hG, ⟨⟩, rfl⟩ | exact ⟨hG, rfl⟩ | exact hG | exact ⟨hG, ⟨⟩⟩ | exact ⟨_, rfl, hG, ⟨⟩, trivial⟩ | exact ⟨_, rfl, ⟨⟩, rfl⟩ | exact ⟨⟨⟩, rfl⟩
            · intro L f A w6 Q hL hG hsz hlow hun hnl hp
              have f1 : f 1 = Value.int .i64 272 := (hp 1 rfl).2.1
              have e124 : A.tmps.getD 124 undef = Value.int .i64 272 := ((hp 1 rfl).2.2 124 rfl).trans f1
              have f2 : f 2 = Value.int .i64 272 := (hp 2 rfl).2.1
              have e125 : A.tmps.getD 125 undef = Value.int .i64 272 := ((hp 2 rfl).2.2 125 rfl).trans f2
              clear hlow hun hnl hp
              refine wpOp_go rfl rfl ?_
              go_simp
              first | exact ⟨_, rfl, hG, ⟨⟩, rfl⟩ | exact ⟨hG, ⟨⟩, rfl⟩ | exact ⟨hG, rfl⟩ | exact hG | exact ⟨hG, ⟨⟩⟩ | exact ⟨_, rfl, hG, ⟨⟩, trivial⟩ | exact ⟨_, rfl, ⟨⟩, rfl⟩ | exact ⟨⟨⟩, rfl⟩
            · intro L f A w6 Q hL hG hsz hlow hun hnl hp
              have f3 : f 3 = Value.bool true := (hp 3 rfl).2.1
              have e126 : A.tmps.getD 126 undef = Value.bool true := ((hp 3 rfl).2.2 126 rfl).trans f3
              clear hlow hun hnl hp
              refine wpOp_go rfl rfl ?_
              go_simp
              first | exact ⟨_, rfl, hG, ⟨⟩, rfl⟩ | exact ⟨hG, ⟨⟩, rfl⟩ | exact ⟨hG, rfl⟩ | exact hG | exact ⟨hG, ⟨⟩⟩ | exact ⟨_, rfl, hG, ⟨⟩, trivial⟩ | exact ⟨_, rfl, ⟨⟩, rfl⟩ | exact ⟨⟨⟩, rfl⟩
            · intro L f A w6 Q hL hG hsz hlow hun hnl hp
              have e23 : A.tmps.getD 23 undef = Value.slice A8 272 c8 := hlow 23 rfl
              have e127 : A.tmps.getD 127 undef = Value.bool true := ((hp 4 rfl).2.2 127 rfl).trans (hp 4 rfl).2.1
              clear hlow hun hnl hp
              refine wpOp_go rfl ((wanted_of (want := true) (b := true) rfl rfl e127).trans rfl) ?_
              go_simp
              first | exact ⟨_, rfl, hG, ⟨⟩, rfl⟩ | exact ⟨hG, ⟨⟩, rfl⟩ | exact ⟨hG, rfl⟩ | exact hG | exact ⟨hG, ⟨⟩⟩ | exact ⟨_, rfl, hG, ⟨⟩, trivial⟩ | exact ⟨_, rfl, ⟨⟩, rfl⟩ | exact ⟨⟨⟩, rfl⟩
            · intro L f A w6 Q hL hG hsz hlow hun hnl hp
              have e24 : A.tmps.getD 24 undef = Value.int .i64 (mm : Int) := hlow 24 rfl
              have e127 : A.tmps.getD 127 undef = Value.bool true := ((hp 4 rfl).2.2 127 rfl).trans (hp 4 rfl).2.1
              clear hlow hun hnl hp
              refine wpOp_go rfl ((wanted_of (want := true) (b := true) rfl rfl e127).trans rfl) ?_
              go_simp
              first | exact ⟨_, rfl, hG, ⟨⟩, rfl⟩ | exact ⟨hG, ⟨⟩, rfl⟩ | exact ⟨hG, rfl⟩ | exact hG | exact ⟨hG, ⟨⟩⟩ | exact ⟨_, rfl, hG, ⟨⟩, trivial⟩ | exact ⟨_, rfl, ⟨⟩, rfl⟩ | exact ⟨⟨⟩, rfl⟩
            · intro L f A w6 Q hL hG hsz hlow hun hnl hp
              have f5 : f 5 = (Value.slice A8 272 c8) := (hp 5 rfl).2.1
              have e128 : A.tmps.getD 128 undef = (Value.slice A8 272 c8) := ((hp 5 rfl).2.2 128 rfl).trans f5
              have f6 : f 6 = Value.int .i64 (mm : Int) := (hp 6 rfl).2.1
              have e129 : A.tmps.getD 129 undef = Value.int .i64 (mm : Int) := ((hp 6 rfl).2.2 129 rfl).trans f6
              have e127 : A.tmps.getD 127 undef = Value.bool true := ((hp 4 rfl).2.2 127 rfl).trans (hp 4 rfl).2.1
              have hm1 := HM1.out
              clear hlow hun hnl hp
              refine wpOp_go rfl ((wanted_of (want := true) (b := true) rfl rfl e127).trans rfl) ?_
              go_simp
              first | exact ⟨_, rfl, hG, ⟨⟩, rfl⟩ | exact ⟨hG, ⟨⟩, rfl⟩ | exact ⟨hG, rfl⟩ | exact hG | exact ⟨hG, ⟨⟩⟩ | exact ⟨_, rfl, hG, ⟨⟩, trivial⟩ | exact ⟨_, rfl, ⟨⟩, rfl⟩ | exact ⟨⟨⟩, rfl⟩
            · intro L f A w6 Q hL hG hsz hlow hun hnl hp
              have e1 : A.tmps.getD 1 undef = Value.slice B m cb := hlow 1 rfl
              have e127 : A.tmps.getD 127 undef = Value.bool true := ((hp 4 rfl).2.2 127 rfl).trans (hp 4 rfl).2.1
              clear hlow hun hnl hp
              refine wpOp_go rfl ((wanted_of (want := true) (b := true) rfl rfl e127).trans rfl) ?_
              go_simp
              first | exact ⟨_, rfl, hG, ⟨⟩, rfl⟩ | exact ⟨hG, ⟨⟩, rfl⟩ | exact ⟨hG, rfl⟩ | exact hG | exact ⟨hG, ⟨⟩⟩ | exact ⟨_, rfl, hG, ⟨⟩, trivial⟩ | exact ⟨_, rfl, ⟨⟩, rfl⟩ | exact ⟨⟨⟩, rfl⟩
            · intro L f A w6 Q hL hG hsz hlow hun hnl hp
              have e24 : A.tmps.getD 24 undef = Value.int .i64 (mm : Int) := hlow 24 rfl
              have e127 : A.tmps.getD 127 undef = Value.bool true := ((hp 4 rfl).2.2 127 rfl).trans (hp 4 rfl).2.1
              clear hlow hun hnl hp
              refine wpOp_go rfl ((wanted_of (want := true) (b := true) rfl rfl e127).trans rfl) ?_
              go_simp
              first | exact ⟨_, rfl, hG, ⟨⟩, rfl⟩ | exact ⟨hG, ⟨⟩, rfl⟩ | exact ⟨hG, rfl⟩ | exact hG | exact ⟨hG, ⟨⟩⟩ | exact ⟨_, rfl, hG, ⟨⟩, trivial⟩ | exact ⟨_, rfl, ⟨⟩, rfl⟩ | exact ⟨⟨⟩, rfl⟩
            · intro L f A w6 Q hL hG hsz hlow hun hnl hp
              have f8 : f 8 = (Value.slice B m cb) := (hp 8 rfl).2.1
              have e131 : A.tmps.getD 131 undef = (Value.slice B m cb) := ((hp 8 rfl).2.2 131 rfl).trans f8
              have f9 : f 9 = Value.int .i64 (mm : Int) := (hp 9 rfl).2.1
              have e132 : A.tmps.getD 132 undef = Value.int .i64 (mm : Int) := ((hp 9 rfl).2.2 132 rfl).trans f9
              have e127 : A.tmps.getD 127 undef = Value.bool true := ((hp 4 rfl).2.2 127 rfl).trans (hp 4 rfl).2.1
              have hm1 := HM2.out
              clear hlow hun hnl hp
              refine wpOp_go rfl ((wanted_of (want := true) (b := true) rfl rfl e127).trans rfl) ?_
              go_simp
              first | exact ⟨_, rfl, hG, ⟨⟩, rfl⟩ | exact ⟨hG, ⟨⟩, rfl⟩ | exact ⟨hG, rfl⟩ | exact hG | exact ⟨hG, ⟨⟩⟩ | exact ⟨_, rfl, hG, ⟨⟩, trivial⟩ | exact ⟨_, rfl, ⟨⟩, rfl⟩ | exact ⟨⟨⟩, rfl⟩
            · intro L f A w6 Q hL hG hsz hlow hun hnl hp
              have f7 : f 7 = (Value.slice A8 mm c8) := (hp 7 rfl).2.1
              have e130 : A.tmps.getD 130 undef = (Value.slice A8 mm c8) := ((hp 7 rfl).2.2 130 rfl).trans f7
              have f10 : f 10 = (Value.slice B mm cb) := (hp 10 rfl).2.1
              have e133 : A.tmps.getD 133 undef = (Value.slice B mm cb) := ((hp 10 rfl).2.2 133 rfl).trans f10
              have e127 : A.tmps.getD 127 undef = Value.bool true := ((hp 4 rfl).2.2 127 rfl).trans (hp 4 rfl).2.1
              clear hlow hun hnl hp
              refine wpOp_go rfl ((wanted_of (want := true) (b := true) rfl rfl e127).trans rfl) ?_
              go_simp
              refine (same_any A8 B mm mm c8 cb _ _ w6 (FS.out.1.rc.below hG) (FS.out.2.1.rc.below hG) FS.out.2.2.1 FS.out.2.2.2.1).mono ?_
              rintro e w7 ⟨rfl, hw⟩
              obtain rfl := hw.symm
              rw [FS.out.2.2.2.2]
              exact ⟨_, rfl, hG, ⟨⟩, rfl⟩
            · intro L f A w6 Q hL hG hsz hlow hun hnl hp
              have f4 : f 4 = Value.bool true := (hp 4 rfl).2.1
              have e127 : A.tmps.getD 127 undef = Value.bool true := ((hp 4 rfl).2.2 127 rfl).trans f4
              have f11 : f 11 = Value.bool true := (hp 11 rfl).2.1
              have e134 : A.tmps.getD 134 undef = Value.bool true := ((hp 11 rfl).2.2 134 rfl).trans f11
              clear hlow hun hnl hp
              refine wpOp_go rfl rfl ?_
              go_simp
              first | exact ⟨_, rfl, hG, ⟨⟩, rfl⟩ | exact ⟨hG, ⟨⟩, rfl⟩ | exact ⟨hG, rfl⟩ | exact hG | exact ⟨hG, ⟨⟩⟩ | exact ⟨_, rfl, hG, ⟨⟩, trivial⟩ | exact ⟨_, rfl, ⟨⟩, rfl⟩ | exact ⟨⟨⟩, rfl⟩
            · intro L f A w6 Q hL hG hsz hlow hun hnl hp
              have f12 : f 12 = Value.bool true := (hp 12 rfl).2.1
              have e135 : A.tmps.getD 135 undef = Value.bool true := ((hp 12 rfl).2.2 135 rfl).trans f12
              clear hlow hun hnl hp
              refine wpOp_go rfl rfl ?_
              go_simp
              first | exact ⟨_, rfl, hG, ⟨⟩, rfl⟩ | exact ⟨hG, ⟨⟩, rfl⟩ | exact ⟨hG, rfl⟩ | exact hG | exact ⟨hG, ⟨⟩⟩ | exact ⟨_, rfl, hG, ⟨⟩, trivial⟩ | exact ⟨_, rfl, ⟨⟩, rfl⟩ | exact ⟨⟨⟩, rfl⟩
            · intro L f A w6 Q hL hG hsz hlow hun hnl hp
              have e136 : A.tmps.getD 136 undef = Value.bool true := ((hp 13 rfl).2.2 136 rfl).trans (hp 13 rfl).2.1
              clear hlow hun hnl hp
              refine wpOp_go rfl ((wanted_of (want := true) (b := true) rfl rfl e136).trans rfl) ?_
              go_simp
              refine (known_calls w6).mono ?_
              rintro e w7 ⟨rfl, hb⟩
              exact ⟨_, rfl, below_then hG hG.size hb, ⟨⟩, rfl⟩
            · intro L f A w6 Q hL hG hsz hlow hun hnl hp
              have f13 : f 13 = Value.bool true := (hp 13 rfl).2.1
              have e136 : A.tmps.getD 136 undef = Value.bool true := ((hp 13 rfl).2.2 136 rfl).trans f13
              have f14 : f 14 = Value.bool true := (hp 14 rfl).2.1
              have e137 : A.tmps.getD 137 undef = Value.bool true := ((hp 14 rfl).2.2 137 rfl).trans f14
              clear hlow hun hnl hp
              refine wpOp_go rfl rfl ?_
              go_simp
              first | exact ⟨_, rfl, hG, ⟨⟩, rfl⟩ | exact ⟨hG, ⟨⟩, rfl⟩ | exact ⟨hG, rfl⟩ | exact hG | exact ⟨hG, ⟨⟩⟩ | exact ⟨_, rfl, hG, ⟨⟩, trivial⟩ | exact ⟨_, rfl, ⟨⟩, rfl⟩ | exact ⟨⟨⟩, rfl⟩
            · intro L f A w6 Q hL hG hsz hlow hun hnl hp
              have f15 : f 15 = Value.bool true := (hp 15 rfl).2.1
              have e138 : A.tmps.getD 138 undef = Value.bool true := ((hp 15 rfl).2.2 138 rfl).trans f15
              clear hlow hun hnl hp
              refine wpOp_go rfl rfl ?_
              go_simp
              first | exact ⟨_, rfl, hG, ⟨⟩, rfl⟩ | exact ⟨hG, ⟨⟩, rfl⟩ | exact ⟨hG, rfl⟩ | exact hG | exact ⟨hG, ⟨⟩⟩ | exact ⟨_, rfl, hG, ⟨⟩, trivial⟩ | exact ⟨_, rfl, ⟨⟩, rfl⟩ | exact ⟨⟨⟩, rfl⟩
          case fin =>
            intro L f w9 hLL hG hV
            have HG := Hd.mk (below_then BL.out BL.out.size hG)
            clear hLL hG
            simp only [fillD, Act.put, List.setIfInBounds_toArray, List.set_cons_zero, List.set_cons_succ]
            rw [show f (0 + 1 + 1 + 1 + 1 + 1 + 1 + 1 + 1 + 1 + 1 + 1 + 1 + 1 + 1 + 1 + 1) = Value.bool true from hV 16 (by simp)]
            clear hV
            go_wp2_with fail
            go_ret
            exact ⟨rfl, HG.out⟩
        · go_wp2_with (go_at_call 13; refine (wq_read W7.out (by decide) (by decide) hi0 hi1 (by omega) nought ((tell3 i s j a b l ⟨hs0, hs1⟩).trans (if_neg hij)) 272 (by kernel_rfl)).mono ?_; rintro e w8 ⟨A8, c8, K8, rfl, h4, hf, h, hs⟩; have W8 := Hd.mk h; have F8 := Hd.mk hf; clear h h4 hf hs)
          go_loopw [25] (fun iv wr => ∃ q : Nat, iv = .int .i64 (q : Int) ∧ q ≤ 272 ∧ wr = w8) (fun iv _ => 272 - (intOf iv).toNat)
          case atStart => exact ⟨0, rfl, Nat.zero_le _, rfl⟩
          case round =>
            obtain ⟨q, rfl, hq, rfl⟩ := hrel
            by_cases hlt : q < 272
            · have hqi : (q : Int) < 272 := by omega
              have hql : q < nought.length := by rw [show nought.length = 272 by kernel_rfl]; exact hlt
              obtain ⟨bb, off, rfl, hbb, hcc⟩ := F8.out.rc.form (by rw [bs_len, show nought.length = 272 by kernel_rfl]; decide)
              have hcell : wr.cell? ⟨bb, off + q, none⟩ = some (.int .u8 0) := by rw [hcc q _ (bs_at hql), nought_at]; rfl
              clear hcc
              go_wp2_with fail
              go_roundw
              case rel => exact ⟨q + 1, by go_num, by omega, trivial⟩
              case measure => simp [intOf]; omega
            · obtain rfl : q = 272 := by omega
              go_wp2_with (go_at_call 10; refine (known_calls _).mono ?_; rintro e w9 ⟨rfl, hb⟩)
              go_ret
              exact ⟨rfl, below_then W8.out.bel W8.out.bel.size hb⟩
  · have hsm2 : (800 : Int) < (n : Int) + (m : Int) + (k : Int) := by omega
    go_enter Try.func3, Try.ntmps3
    go_wp2_with (go_at_call 10; refine (known_calls _).mono ?_; rintro e w1 ⟨rfl, hb⟩)
    go_ret
    exact ⟨rfl, hb⟩
theorem row_tells (A : Option Addr) (ca : Nat) (a : List UInt8) (B : Option Addr) (cb : Nat) (b : List UInt8) (C : Option Addr) (cc : Nat) (l : List UInt8) (at_ slot other : Int) (w : World)
    (ha : Rc w A (bs a)) (la : a.length ≤ ca) (ma : a.length ≤ 140737488351232) (hb : Rc w B (bs b)) (lb : b.length ≤ cb) (mb : b.length ≤ 140737488351232) (hc : Rc w C (bs l)) (lc : l.length ≤ cc) (mc : l.length ≤ 140737488351232)
    (h1 : 0 ≤ at_ ∧ at_ ≤ 255) (h2 : 0 ≤ slot ∧ slot ≤ 255) (h3 : 0 ≤ other ∧ other ≤ 255) :
    Calls Try.prog 3 #[.slice A a.length ca, .slice B b.length cb, .slice C l.length cc, .int .u8 at_, .int .u8 slot, .int .u8 other] w (RetT w) :=
  law_tells A B C _ _ _ ca cb cc a b l at_ slot other w ha hb hc rfl rfl rfl la lb (by omega) (by omega) (by omega) h1 h2 h3
end Go.Proofs.Ytffhncpgknkkaaa
