/- W06LawLies: the law WorldLies. -/
import Derived.Test.YtffhncpgknkkaaaW06Pair
namespace Go.Proofs.Ytffhncpgknkkaaa
open Go.RowKit Go.Sac
set_option linter.unusedVariables false
set_option linter.unusedSimpArgs false
def lB (k : Int) (a b : List UInt8) : LL := updL (updL (fun _ => none) k a) k b
theorem lie_at (k : Int) (a b : List UInt8) (D : DD) (p : Int × Int) (q : Nat) (h : (q : Int) = k) : (lB k a b (q : Int)).getD (D p) = b := by
  unfold lB updL; rw [if_pos h]; rfl
theorem lie_not (k : Int) (a b : List UInt8) (D : DD) (p : Int × Int) (q : Nat) (h : ¬ (q : Int) = k) : (lB k a b (q : Int)).getD (D p) = D p := by
  unfold lB updL; rw [if_neg h, if_neg h]; rfl
theorem lie_none (D : DD) (p : Int × Int) (q : Nat) : ((fun _ => none : LL) (q : Int)).getD (D p) = D p := rfl
set_option maxRecDepth 100000 in
set_option maxHeartbeats 8000000 in
theorem law_lies (X A B : Option Addr) (n ka m cx ca cb : Nat) (l a b : List UInt8) (at_ : Int) (w : World) (hx : Rc w X (bs l)) (ha : Rc w A (bs a)) (hb : Rc w B (bs b))
    (e1 : n = l.length) (e2 : ka = a.length) (e4 : m = b.length) (hn : n ≤ 140737488355328) (hka : ka ≤ 140737488355328) (hm : m ≤ 140737488355328) (h1 : 0 ≤ at_ ∧ at_ ≤ 255) :
    Calls Try.prog 4 #[.slice X n cx, .int .u8 at_, .slice A ka ca, .slice B m cb] w (RetT w) := by
  have HRX := Hd.mk hx
  have HRA := Hd.mk ha
  have HRB := Hd.mk hb
  have E1 := Hd.mk e1
  have E2 := Hd.mk e2
  have E4 := Hd.mk e4
  clear hx ha hb e1 e2 e4
  by_cases h30 : n ≤ 30
  · have h31 : ¬ (30 : Int) < (n : Int) := by omega
    by_cases h60 : ka + m ≤ 600
    · have h61 : ¬ (600 : Int) < (ka : Int) + (m : Int) := by omega
      have HSM := Hd.mk h60
      have H30 := Hd.mk h30
      clear h60 h30
      have T1 : Hd True := ⟨trivial⟩
      have T2 : Hd True := ⟨trivial⟩
      go_enter Try.func4, Try.ntmps4
      go_wp2_with (first
        | (go_at_call 11; clear T1; refine (wq_new _ ⟨by decide, by decide⟩).mono ?_; rintro e w1 ⟨g, K1, rfl, h, _⟩; have W1 := Hd.mk h; clear h)
        | (go_at_call 11; refine (wq_new2 W1.out.bel ⟨by decide, by decide⟩).mono ?_; rintro e w2 ⟨h, J1, rfl, hv, hb, hj⟩
           have V2 := Hd.mk hv; have W2 := Hd.mk (W1.out.below hb)
           have AP2 : Hd (Apart K1 J1) := ⟨fun k => by
             by_cases e : J1 k = 0
             · exact .inr e
             · exact .inl (W1.out.dom (hj k e))⟩
           clear hv hb hj W1)
        | (go_at_call 14; clear T2; obtain ⟨k, hk⟩ : ∃ k, at_ % 30 = k := ⟨_, rfl⟩; rw [hk]; clear hk; refine (wq_lie W2.out k A ka ca a (W2.out.arg HRA.out).rc E2.out (by have := E2.out; omega)).mono ?_; rintro e w3 ⟨rfl, K2, h4, hs⟩
           obtain ⟨h5, h6⟩ := wq_other V2.out hs h4.bel AP2.out
           have W3 := Hd.mk h4; have V3 := Hd.mk h5; have AP3 := Hd.mk h6; clear h4 hs h5 h6 W2 V2 AP2)
        | (go_at_call 14; refine (wq_lie W3.out k B m cb b (W3.out.arg HRB.out).rc E4.out (by have := E4.out; omega)).mono ?_; rintro e w4 ⟨rfl, K3, h4, hs⟩
           obtain ⟨h5, h6⟩ := wq_other V3.out hs h4.bel AP3.out
           have W4 : Hd (Wq w w4 g K3 _ (lB k a b) _ _ _) := ⟨h4⟩; have V4 := Hd.mk h5; have AP4 := Hd.mk h6; clear h4 hs h5 h6 W3 V3 AP3))
      go_loopw [12, 13, 14, 15, 16] (fun iv _ _ _ _ wr => ∃ q : Nat, iv = .int .i64 (q : Int) ∧ q ≤ n ∧ ∃ (K J : Nat → Nat) (D : DD) (nw nv : Nat), Hd (Wq w wr g K D (lB k a b) q nw 3) ∧ Hd (Wq w wr h J D (fun _ => none) q nv 3) ∧ Hd (Apart K J) ∧ Hd (nw ≤ 2 * q) ∧ Hd (nv ≤ 2 * q)) (fun iv _ _ _ _ _ => n - (intOf iv).toNat)
      case atStart => exact ⟨0, rfl, Nat.zero_le _, _, _, _, _, _, W4, V4, AP4, ⟨Nat.zero_le _⟩, ⟨Nat.zero_le _⟩⟩
      case round =>
        clear W4 V4 AP4
        obtain ⟨q, rfl, hq, K, J, D, nw, nv, W1, V1, AP, HNW, HNV⟩ := hrel
        by_cases hlt : q < n
        · have hqi : (q : Int) < (n : Int) := by omega
          have hql : q < l.length := by rw [← E1.out]; exact hlt
          have HQN : Hd (q < 30) := ⟨by have := H30.out; omega⟩
          obtain ⟨bx, offx, rfl, hbx, hcx⟩ := (W1.out.arg HRX.out).rc.form (by rw [bs_len]; omega)
          obtain ⟨cc, hcc⟩ : ∃ cc, l[q] = cc := ⟨_, rfl⟩
          have hcell : wr.cell? ⟨bx, offx + q, none⟩ = some (.int .u8 (cc.toNat : Int)) := by rw [hcx q _ (bs_at hql), hcc]
          have hc256 : cc.toNat < 256 := cc.toNat_lt
          have HC := Hd.mk hc256
          have hc0 : (0 : Int) ≤ (cc.toNat : Int) := by omega
          have hc1 : (cc.toNat : Int) ≤ 255 := by omega
          have HXC : Hd (∀ W, Rc W (some ⟨bx, offx, none⟩) (bs l) → W.cell? ⟨bx, offx + q, none⟩ = some (.int .u8 (cc.toNat : Int))) := ⟨fun W hW => by
            obtain ⟨b', off', e, hc⟩ := hW q _ (bs_at hql)
            injection e with e
            injection e with e1 e2
            subst e1; subst e2
            rw [hc, hcc]⟩
          have HP : Hd (0 ≤ (cc.toNat : Int) % 3 ∧ (cc.toNat : Int) % 3 < 3) := ⟨by omega⟩
          have HS : Hd ((cc.toNat : Int) / 3 % 2 = 0 ∨ (cc.toNat : Int) / 3 % 2 = 1) := ⟨by omega⟩
          clear hcx hcc
          by_cases h128 : (128 : Int) ≤ (cc.toNat : Int)
          · by_cases hk : (q : Int) = k
            · subst hk
              have HK : Hd ((q : Int) = (q : Int)) := ⟨rfl⟩
              have TA : Hd True := ⟨trivial⟩
              have TB : Hd True := ⟨trivial⟩
              go_wp2_with (first
                | (go_at_call 12; clear TA; refine (wq_write (W1.out.below ((Below.refl _ _).alloc (Nat.le_refl _) _)) (by have := HQN.out; omega) (by have := HNW.out; omega) HP.out.1 HP.out.2 (by have := HS.out; omega) _ 2 2 [cc, 7] (fr_two2 W1.out cc 7 (0, 0)) rfl (by simp)).mono ?_
                   rintro e w4 ⟨rfl, K1, h4, hs⟩
                   obtain ⟨h5, h6⟩ := wq_other (V1.out.below ((Below.refl _ _).alloc (Nat.le_refl _) _)) hs h4.bel AP.out
                   have W2 := Hd.mk h4; have V2 := Hd.mk h5; have AP2 := Hd.mk h6; have hcell4 := HXC.out w4 (W2.out.arg HRX.out).rc; clear h4 hs h5 h6 W1 V1 AP)
                | (go_at_call 12; refine (wq_write (V2.out.below ((Below.refl _ _).alloc (Nat.le_refl _) _)) (by have := HQN.out; omega) (by have := HNV.out; omega) HP.out.1 HP.out.2 (by have := HS.out; omega) _ 2 2 [cc, 7] (fr_two2 V2.out cc 7 (0, 0)) rfl (by simp)).mono ?_
                   rintro e w5 ⟨rfl, J1, h4, hs⟩
                   obtain ⟨h5, h6⟩ := wq_other (W2.out.below ((Below.refl _ _).alloc (Nat.le_refl _) _)) hs h4.bel AP2.out.symm
                   have V3 := Hd.mk h4; have W3 := Hd.mk h5; have AP3 := Hd.mk h6.symm; clear h4 hs h5 h6 W2 V2 AP2)
                | (go_at_call 13; clear TB; refine (wq_read2 W3.out (by have := HQN.out; omega) (by have := HNW.out; omega) HP.out.1 HP.out.2 (by have := HS.out; omega) _ (lie_at _ a b _ _ q rfl) m E4.out).mono ?_
                   rintro e w6 ⟨A6, c6, K2, rfl, hr6, ha6, h4, hs⟩
                   obtain ⟨h5, h6⟩ := wq_other V3.out hs h4.bel AP3.out
                   have F6 := Hd.mk hr6; have G6 : Hd (∀ a, A6 = some a → J1 a.block = 0) := ⟨fun a e => V3.out.dom (ha6 a e)⟩
                   have W4 := Hd.mk h4; have V4 := Hd.mk h5; have AP4 := Hd.mk h6; clear hr6 ha6 h4 hs h5 h6 W3 V3 AP3)
                | (go_at_call 13; refine (wq_read2 V4.out (by have := HQN.out; omega) (by have := HNV.out; omega) HP.out.1 HP.out.2 (by have := HS.out; omega) _ (lie_none _ _ q) 272 (V4.out.dl _).symm).mono ?_
                   rintro e w7 ⟨A7, c7, J2, rfl, hr7, ha7, h4, hs⟩
                   obtain ⟨h5, h6⟩ := wq_other W4.out hs h4.bel AP4.out.symm
                   have F7 := Hd.mk hr7; have G7 := Hd.mk (hs.rc F6.out (fun a e _ => G6.out a e))
                   have L7 := Hd.mk (V4.out.dl ((cc.toNat : Int) % 3, (cc.toNat : Int) / 3 % 2))
                   have V5 := Hd.mk h4; have W5 := Hd.mk h5; have AP5 := Hd.mk h6.symm; clear hr7 ha7 h4 hs h5 h6 W4 V4 AP4 F6 G6)
                | (go_at_call 15; refine (same_any _ _ _ _ _ _ b b _ G7.out (W5.out.arg HRB.out).rc E4.out E4.out).mono ?_; rintro e w8 ⟨rfl, hw⟩; obtain rfl := hw.symm; rw [show (b == b) = true by simp]))
              go_roundw
              case rel => exact ⟨q + 1, by go_num, by omega, _, _, _, _, _, ⟨W5.out⟩, ⟨V5.out⟩, ⟨AP5.out⟩, ⟨by have := HNW.out; omega⟩, ⟨by have := HNV.out; omega⟩⟩
              case measure => simp [intOf]; omega
            · have HK := Hd.mk hk
              have TA : Hd True := ⟨trivial⟩
              have TB : Hd True := ⟨trivial⟩
              go_wp2_with (first
                | (go_at_call 12; clear TA; refine (wq_write (W1.out.below ((Below.refl _ _).alloc (Nat.le_refl _) _)) (by have := HQN.out; omega) (by have := HNW.out; omega) HP.out.1 HP.out.2 (by have := HS.out; omega) _ 2 2 [cc, 7] (fr_two2 W1.out cc 7 (0, 0)) rfl (by simp)).mono ?_
                   rintro e w4 ⟨rfl, K1, h4, hs⟩
                   obtain ⟨h5, h6⟩ := wq_other (V1.out.below ((Below.refl _ _).alloc (Nat.le_refl _) _)) hs h4.bel AP.out
                   have W2 := Hd.mk h4; have V2 := Hd.mk h5; have AP2 := Hd.mk h6; have hcell4 := HXC.out w4 (W2.out.arg HRX.out).rc; clear h4 hs h5 h6 W1 V1 AP)
                | (go_at_call 12; refine (wq_write (V2.out.below ((Below.refl _ _).alloc (Nat.le_refl _) _)) (by have := HQN.out; omega) (by have := HNV.out; omega) HP.out.1 HP.out.2 (by have := HS.out; omega) _ 2 2 [cc, 7] (fr_two2 V2.out cc 7 (0, 0)) rfl (by simp)).mono ?_
                   rintro e w5 ⟨rfl, J1, h4, hs⟩
                   obtain ⟨h5, h6⟩ := wq_other (W2.out.below ((Below.refl _ _).alloc (Nat.le_refl _) _)) hs h4.bel AP2.out.symm
                   have V3 := Hd.mk h4; have W3 := Hd.mk h5; have AP3 := Hd.mk h6.symm; clear h4 hs h5 h6 W2 V2 AP2)
                | (go_at_call 13; clear TB; refine (wq_read2 W3.out (by have := HQN.out; omega) (by have := HNW.out; omega) HP.out.1 HP.out.2 (by have := HS.out; omega) _ (lie_not _ a b _ _ q HK.out) 272 (W3.out.dl _).symm).mono ?_
                   rintro e w6 ⟨A6, c6, K2, rfl, hr6, ha6, h4, hs⟩
                   obtain ⟨h5, h6⟩ := wq_other V3.out hs h4.bel AP3.out
                   have F6 := Hd.mk hr6; have G6 : Hd (∀ a, A6 = some a → J1 a.block = 0) := ⟨fun a e => V3.out.dom (ha6 a e)⟩
                   have W4 := Hd.mk h4; have V4 := Hd.mk h5; have AP4 := Hd.mk h6; clear hr6 ha6 h4 hs h5 h6 W3 V3 AP3)
                | (go_at_call 13; refine (wq_read2 V4.out (by have := HQN.out; omega) (by have := HNV.out; omega) HP.out.1 HP.out.2 (by have := HS.out; omega) _ (lie_none _ _ q) 272 (V4.out.dl _).symm).mono ?_
                   rintro e w7 ⟨A7, c7, J2, rfl, hr7, ha7, h4, hs⟩
                   obtain ⟨h5, h6⟩ := wq_other W4.out hs h4.bel AP4.out.symm
                   have F7 := Hd.mk hr7; have G7 := Hd.mk (hs.rc F6.out (fun a e _ => G6.out a e))
                   have L7 := Hd.mk (V4.out.dl ((cc.toNat : Int) % 3, (cc.toNat : Int) / 3 % 2))
                   have V5 := Hd.mk h4; have W5 := Hd.mk h5; have AP5 := Hd.mk h6.symm; clear hr7 ha7 h4 hs h5 h6 W4 V4 AP4 F6 G6)
                | (go_at_call 15; refine (same_any _ _ _ _ _ _ _ _ _ G7.out F7.out L7.out.symm L7.out.symm).mono ?_; rintro e w8 ⟨rfl, hw⟩; obtain rfl := hw.symm; rw [show ∀ z : List UInt8, (z == z) = true from fun z => by simp]))
              go_roundw
              case rel => exact ⟨q + 1, by go_num, by omega, _, _, _, _, _, ⟨W5.out⟩, ⟨V5.out⟩, ⟨AP5.out⟩, ⟨by have := HNW.out; omega⟩, ⟨by have := HNV.out; omega⟩⟩
              case measure => simp [intOf]; omega
          · by_cases hk : (q : Int) = k
            · subst hk
              have HK : Hd ((q : Int) = (q : Int)) := ⟨rfl⟩
              have TA : Hd True := ⟨trivial⟩
              have TB : Hd True := ⟨trivial⟩
              go_wp2_with (first
                | (go_at_call 13; clear TB; refine (wq_read2 W1.out (by have := HQN.out; omega) (by have := HNW.out; omega) HP.out.1 HP.out.2 (by have := HS.out; omega) _ (lie_at _ a b _ _ q rfl) m E4.out).mono ?_
                   rintro e w6 ⟨A6, c6, K2, rfl, hr6, ha6, h4, hs⟩
                   obtain ⟨h5, h6⟩ := wq_other V1.out hs h4.bel AP.out
                   have F6 := Hd.mk hr6; have G6 : Hd (∀ a, A6 = some a → J a.block = 0) := ⟨fun a e => V1.out.dom (ha6 a e)⟩
                   have W4 := Hd.mk h4; have V4 := Hd.mk h5; have AP4 := Hd.mk h6; clear hr6 ha6 h4 hs h5 h6 W1 V1 AP)
                | (go_at_call 13; refine (wq_read2 V4.out (by have := HQN.out; omega) (by have := HNV.out; omega) HP.out.1 HP.out.2 (by have := HS.out; omega) _ (lie_none _ _ q) 272 (V4.out.dl _).symm).mono ?_
                   rintro e w7 ⟨A7, c7, J2, rfl, hr7, ha7, h4, hs⟩
                   obtain ⟨h5, h6⟩ := wq_other W4.out hs h4.bel AP4.out.symm
                   have F7 := Hd.mk hr7; have G7 := Hd.mk (hs.rc F6.out (fun a e _ => G6.out a e))
                   have L7 := Hd.mk (V4.out.dl ((cc.toNat : Int) % 3, (cc.toNat : Int) / 3 % 2))
                   have V5 := Hd.mk h4; have W5 := Hd.mk h5; have AP5 := Hd.mk h6.symm; clear hr7 ha7 h4 hs h5 h6 W4 V4 AP4 F6 G6)
                | (go_at_call 15; refine (same_any _ _ _ _ _ _ b b _ G7.out (W5.out.arg HRB.out).rc E4.out E4.out).mono ?_; rintro e w8 ⟨rfl, hw⟩; obtain rfl := hw.symm; rw [show (b == b) = true by simp]))
              go_roundw
              case rel => exact ⟨q + 1, by go_num, by omega, _, _, _, _, _, ⟨W5.out⟩, ⟨V5.out⟩, ⟨AP5.out⟩, ⟨by have := HNW.out; omega⟩, ⟨by have := HNV.out; omega⟩⟩
              case measure => simp [intOf]; omega
            · have HK := Hd.mk hk
              have TA : Hd True := ⟨trivial⟩
              have TB : Hd True := ⟨trivial⟩
              go_wp2_with (first
                | (go_at_call 13; clear TB; refine (wq_read2 W1.out (by have := HQN.out; omega) (by have := HNW.out; omega) HP.out.1 HP.out.2 (by have := HS.out; omega) _ (lie_not _ a b _ _ q HK.out) 272 (W1.out.dl _).symm).mono ?_
                   rintro e w6 ⟨A6, c6, K2, rfl, hr6, ha6, h4, hs⟩
                   obtain ⟨h5, h6⟩ := wq_other V1.out hs h4.bel AP.out
                   have F6 := Hd.mk hr6; have G6 : Hd (∀ a, A6 = some a → J a.block = 0) := ⟨fun a e => V1.out.dom (ha6 a e)⟩
                   have W4 := Hd.mk h4; have V4 := Hd.mk h5; have AP4 := Hd.mk h6; clear hr6 ha6 h4 hs h5 h6 W1 V1 AP)
                | (go_at_call 13; refine (wq_read2 V4.out (by have := HQN.out; omega) (by have := HNV.out; omega) HP.out.1 HP.out.2 (by have := HS.out; omega) _ (lie_none _ _ q) 272 (V4.out.dl _).symm).mono ?_
                   rintro e w7 ⟨A7, c7, J2, rfl, hr7, ha7, h4, hs⟩
                   obtain ⟨h5, h6⟩ := wq_other W4.out hs h4.bel AP4.out.symm
                   have F7 := Hd.mk hr7; have G7 := Hd.mk (hs.rc F6.out (fun a e _ => G6.out a e))
                   have L7 := Hd.mk (V4.out.dl ((cc.toNat : Int) % 3, (cc.toNat : Int) / 3 % 2))
                   have V5 := Hd.mk h4; have W5 := Hd.mk h5; have AP5 := Hd.mk h6.symm; clear hr7 ha7 h4 hs h5 h6 W4 V4 AP4 F6 G6)
                | (go_at_call 15; refine (same_any _ _ _ _ _ _ _ _ _ G7.out F7.out L7.out.symm L7.out.symm).mono ?_; rintro e w8 ⟨rfl, hw⟩; obtain rfl := hw.symm; rw [show ∀ z : List UInt8, (z == z) = true from fun z => by simp]))
              go_roundw
              case rel => exact ⟨q + 1, by go_num, by omega, _, _, _, _, _, ⟨W5.out⟩, ⟨V5.out⟩, ⟨AP5.out⟩, ⟨by have := HNW.out; omega⟩, ⟨by have := HNV.out; omega⟩⟩
              case measure => simp [intOf]; omega
        · obtain rfl : q = n := by omega
          go_wp2_with (go_at_call 10; refine (known_calls _).mono ?_; rintro e w9 ⟨rfl, hb⟩)
          go_ret
          exact ⟨rfl, below_then W1.out.bel W1.out.bel.size hb⟩
    · have h61 : (600 : Int) < (ka : Int) + (m : Int) := by omega
      go_enter Try.func4, Try.ntmps4
      go_wp2_with (go_at_call 10; refine (known_calls _).mono ?_; rintro e w1 ⟨rfl, hb⟩)
      go_ret
      exact ⟨rfl, hb⟩
  · have h31 : (30 : Int) < (n : Int) := by omega
    go_enter Try.func4, Try.ntmps4
    go_wp2_with (go_at_call 10; refine (known_calls _).mono ?_; rintro e w1 ⟨rfl, hb⟩)
    go_ret
    exact ⟨rfl, hb⟩
theorem row_lies (X : Option Addr) (cx : Nat) (l : List UInt8) (at_ : Int) (A : Option Addr) (ca : Nat) (a : List UInt8) (B : Option Addr) (cb : Nat) (b : List UInt8) (w : World)
    (hx : Rc w X (bs l)) (lx : l.length ≤ cx) (mx : l.length ≤ 140737488351232) (h1 : 0 ≤ at_ ∧ at_ ≤ 255) (ha : Rc w A (bs a)) (la : a.length ≤ ca) (ma : a.length ≤ 140737488351232) (hb : Rc w B (bs b)) (lb : b.length ≤ cb) (mb : b.length ≤ 140737488351232) :
    Calls Try.prog 4 #[.slice X l.length cx, .int .u8 at_, .slice A a.length ca, .slice B b.length cb] w (RetT w) :=
  law_lies X A B _ _ _ cx ca cb l a b at_ w hx ha hb rfl rfl rfl (by omega) (by omega) (by omega) h1
end Go.Proofs.Ytffhncpgknkkaaa
