/- The law BitsKeep, walked. -/
import Derived.Test.YtpgkfabiflhkfaaB12LawTells
import Derived.Test.YtpgkfabiflhkfaaP12c
namespace Go.Proofs.Ytpgkfabiflhkfaa
open Go.RowKit Go.Sac
set_option linter.unusedVariables false
set_option linter.unusedSimpArgs false

theorem bcount_eq (A : Option Addr) (n c : Nat) (b : List UInt8) (f t : Int) (z : Int) (w : World) (hb : Rc w A (bs b)) (hn : b.length ≤ 1099511627776) (e1 : n = b.length) (hz : ((cnT b f.toNat (hiT b t) : Nat) : Int) = z) :
    Calls Try.prog 20 #[.slice A n c, .int .i64 f, .int .i64 t] w fun e w' => e = .returned (.int .i64 z) ∧ w' = w := by subst hz; exact bcount_any A n c b f t w hb hn e1
theorem bget_eq (A : Option Addr) (n c : Nat) (b : List UInt8) (i : Int) (z : Bool) (w : World) (hb : Rc w A (bs b)) (hn : b.length ≤ 1099511627776) (e1 : n = b.length) (hz : getI b i = z) :
    Calls Try.prog 12 #[.slice A n c, .int .i64 i] w fun e w' => e = .returned (.bool z) ∧ w' = w := by subst hz; exact bget_any A n c b i w hb hn e1
theorem bset_eq (A : Option Addr) (n c : Nat) (b d : List UInt8) (i : Int) (v : Bool) (w : World) (hb : Rc w A (bs b)) (hn : b.length ≤ 1099511627776) (e1 : n = b.length) (hd : setI b i v = d) :
    Calls Try.prog 15 #[.slice A n c, .int .i64 i, .bool v] w fun e w' => ∃ A' c', e = .returned (.slice A' d.length c') ∧ Rc w' A' (bs d) ∧ Below w.heap.size w w' := by
  subst hd
  refine (bset_any A n c b i v w hb hn e1).mono ?_
  intro e w' h
  obtain ⟨A', c', h1, _, h3, h4⟩ := retB_open h
  exact ⟨A', c', h1, h3, h4⟩

theorem b2n_tt : ((b2n true : Nat) : Int) - ((b2n true : Nat) : Int) = 0 := by decide
theorem b2n_ff : ((b2n false : Nat) : Int) - ((b2n false : Nat) : Int) = 0 := by decide
theorem b2n_tf : ((b2n true : Nat) : Int) - ((b2n false : Nat) : Int) = 1 := by decide
theorem b2n_ft : ((b2n false : Nat) : Int) - ((b2n true : Nat) : Int) = -1 := by decide
structure Tok1 : Prop where
structure Tok2 : Prop where
structure Tok3 : Prop where
structure Tok4 : Prop where

set_option maxHeartbeats 8000000 in
theorem keep_core (A : Option Addr) (c : Nat) (b : List UInt8) (i k p q : Nat) (v was : Bool) (w : World) (hb : Rc w A (bs b))
    (h1 : i ≤ 65535) (h2 : k ≤ 65535) (hd2 : (b.length : Int) ≤ 200) (hz4 : (0 : Int) < (b.length : Int)) (hp : (i : Int) % (8 * (b.length : Int)) = (p : Int)) (hq : (k : Int) % (8 * (b.length : Int)) = (q : Int))
    (hp8 : p < 8 * b.length) (hq8 : q < 8 * b.length) (hwas : getI b (p : Int) = was) :
    Calls Try.prog 4 #[.slice A b.length c, .int .u16 (i : Int), .int .u16 (k : Int), .bool v] w (RetT w) := by
  have hz2 : ((b.length : Int) == 0) = false := by rw [beq_eq_false_iff_ne]; omega
  have HL := Hd.mk hb
  have HN : Hd (b.length ≤ 1099511627776) := ⟨by omega⟩
  obtain ⟨d, hd⟩ : ∃ d, setI b (p : Int) v = d := ⟨_, rfl⟩
  have hdl : d.length = b.length := by rw [← hd, setI_len]
  have HDN : Hd (d.length ≤ 1099511627776) := ⟨by omega⟩
  have HDL := Hd.mk hdl
  have HW := Hd.mk hwas
  have HDv : Hd (getI d (p : Int) = v) := ⟨by rw [← hd, getI_setI b p v _ hp8, if_pos rfl]⟩
  have HBk : Hd (setI d (p : Int) was = b) := ⟨by rw [← hd]; exact setI_back b p v was hp8 hwas⟩
  obtain ⟨g, hg⟩ : ∃ g, getI b (q : Int) = g := ⟨_, rfl⟩
  have HG := Hd.mk hg
  have HDg : Hd (¬ (p : Int) = (q : Int) → getI d (q : Int) = g) := ⟨fun h => by rw [← hd, getI_setI b p v _ hp8, if_neg (fun e => h e.symm)]; exact hg⟩
  obtain ⟨z1, hz1⟩ : ∃ z1 : Int, ((cnT d (0 : Int).toNat (hiT d (8 * (b.length : Int))) : Nat) : Int) = z1 := ⟨_, rfl⟩
  obtain ⟨n2, hn2⟩ : ∃ n2 : Nat, cnT b (0 : Int).toNat (hiT b (8 * (b.length : Int))) = n2 := ⟨_, rfl⟩
  obtain ⟨n3, hn3⟩ : ∃ n3 : Nat, cnT b (0 : Int).toNat (hiT b (q : Int)) = n3 := ⟨_, rfl⟩
  obtain ⟨n4, hn4⟩ : ∃ n4 : Nat, cnT b (q : Int).toNat (hiT b (8 * (b.length : Int))) = n4 := ⟨_, rfl⟩
  have hset := cnT_set b p v 0 (8 * b.length) hp8
  rw [if_pos ⟨Nat.zero_le _, hp8⟩, if_pos ⟨Nat.zero_le _, hp8⟩, ← setI_nat b p v hp8, hd, ← getI_nat b p hp8, hwas] at hset
  have htwo := cnT_two b q (8 * b.length) (Nat.le_of_lt hq8)
  have hle := cnT_le b 0 (8 * b.length)
  have H1 := Hd.mk hz1
  have H2 : Hd (((cnT b (0 : Int).toNat (hiT b (8 * (b.length : Int))) : Nat) : Int) = (n2 : Int)) := ⟨by rw [hn2]⟩
  have H3 : Hd (((cnT b (0 : Int).toNat (hiT b (q : Int)) : Nat) : Int) = (n3 : Int)) := ⟨by rw [hn3]⟩
  have H4 : Hd (((cnT b (q : Int).toNat (hiT b (8 * (b.length : Int))) : Nat) : Int) = (n4 : Int)) := ⟨by rw [hn4]⟩
  rw [show (8 * (b.length : Int)) = 8 * (d.length : Int) by rw [hdl], hiT_all, hdl] at hz1
  rw [hiT_all] at hn2 hn4
  rw [hiT_of b q (by omega)] at hn3
  rw [Int.toNat_natCast] at hn4
  rw [show (0 : Int).toNat = 0 from rfl] at hz1 hn2 hn3
  rw [hn2] at hset htwo hle
  rw [hn3, hn4] at htwo
  have hsum : (((n3 : Int) + (n4 : Int)) == (n2 : Int)) = true := by rw [beq_iff_eq]; omega
  have hb3 : n3 ≤ 1600 := by omega
  have hb4 : n4 ≤ 1600 := by omega
  have hb2 : n2 ≤ 1600 := by omega
  obtain rfl : z1 = (n2 : Int) + ((b2n v : Int) - (b2n was : Int)) := by omega
  have t1 : Tok1 := ⟨⟩
  have g1 : Tok1 ∧ True := ⟨⟨⟩, trivial⟩
  have g2 : Tok2 ∧ True := ⟨⟨⟩, trivial⟩
  have g3 : Tok3 ∧ True := ⟨⟨⟩, trivial⟩
  have c1 : Tok1 ∧ True := ⟨⟨⟩, trivial⟩
  have c2 : Tok2 ∧ True := ⟨⟨⟩, trivial⟩
  have c3 : Tok3 ∧ True := ⟨⟨⟩, trivial⟩
  have c4 : Tok4 ∧ True := ⟨⟨⟩, trivial⟩
  have HS := Hd.mk hd
  clear hb hwas hd hdl hg hz1 hn2 hn3 hn4 hset htwo hle
  have G1 := Hd.mk g1; have G2 := Hd.mk g2; have G3 := Hd.mk g3
  have C1 := Hd.mk c1; have C2 := Hd.mk c2; have C3 := Hd.mk c3; have C4 := Hd.mk c4; have S1 := Hd.mk t1
  clear g1 g2 g3 c1 c2 c3 c4 t1
  have HC := Hd.mk (Below.refl w.heap.size w)
  have script : True := trivial
  by_cases hpq : (p : Int) = (q : Int)
  · obtain rfl : p = q := by omega
    have hne : ((p : Int) != (p : Int)) = false := by simp
    clear hpq HDg
    cases v <;> cases was
    all_goals simp only [b2n_tt, b2n_tf, b2n_ft, b2n_ff, Int.add_zero] at H1
    all_goals go_enter Try.func4, Try.ntmps4
    all_goals go_wp2_with (first
      | (go_at_call 12; clear G1; refine (bget_eq _ _ _ b _ _ _ (HL.out.below HC.out) HN.out rfl HW.out).mono ?_; rintro e w3 ⟨rfl, rfl⟩)
      | (go_at_call 12; refine (bget_eq _ _ _ d _ _ _ (HR.out.below HC2.out) HDN.out HDL.out.symm HDv.out).mono ?_; rintro e w3 ⟨rfl, rfl⟩)
      | (go_at_call 15; clear S1; refine (bset_eq _ _ _ b d _ _ _ (HL.out.below HC.out) HN.out rfl HS.out).mono ?_; rintro e w3 ⟨A3, c3, rfl, hr, hB⟩; rw [HDL.out]; have HC := Hd.mk (below_then HC.out HC.out.size hB); have HR := Hd.mk hr; have HC2 := Hd.mk (Below.refl w3.heap.size w3); clear hr hB)
      | (go_at_call 15; refine (bset_eq _ _ _ d b _ _ _ (HR.out.below HC2.out) HDN.out HDL.out.symm HBk.out).mono ?_; rintro e w4 ⟨A4, c4, rfl, hr, hB⟩; have HC := Hd.mk (below_then HC.out HC.out.size hB); have HC2 := Hd.mk (below_then HC2.out HC2.out.size hB); have HX := Hd.mk hr; clear hr hB)
      | (go_at_call 14; refine (same_any _ _ _ _ _ _ b b _ HX.out (HL.out.below HC.out) rfl rfl).mono ?_; rintro e w5 ⟨rfl, rfl⟩; simp only [beq_self_eq_true])
      | (go_at_call 20; clear C1; refine (bcount_eq _ _ _ d _ _ _ _ (HR.out.below HC2.out) HDN.out HDL.out.symm H1.out).mono ?_; rintro e w5 ⟨rfl, rfl⟩)
      | (go_at_call 20; clear C2; refine (bcount_eq _ _ _ b _ _ _ _ (HL.out.below HC.out) HN.out rfl H2.out).mono ?_; rintro e w5 ⟨rfl, rfl⟩)
      | (go_at_call 20; clear C3; refine (bcount_eq _ _ _ b _ _ _ _ (HL.out.below HC.out) HN.out rfl H3.out).mono ?_; rintro e w5 ⟨rfl, rfl⟩)
      | (go_at_call 20; clear C4; refine (bcount_eq _ _ _ b _ _ _ _ (HL.out.below HC.out) HN.out rfl H4.out).mono ?_; rintro e w5 ⟨rfl, rfl⟩)
      | (go_at_call 20; refine (bcount_eq _ _ _ b _ _ _ _ (HL.out.below HC.out) HN.out rfl H2.out).mono ?_; rintro e w5 ⟨rfl, rfl⟩)
      | (go_at_call 9; refine (known_calls _).mono ?_; rintro e w6 ⟨rfl, hB⟩; have HC := Hd.mk (below_then HC.out HC.out.size hB); clear hB))
    all_goals go_ret
    all_goals exact ⟨rfl, HC.out⟩
  · have hne : ((p : Int) != (q : Int)) = true := by rw [bne_iff_ne]; exact hpq
    have HDq := Hd.mk (HDg.out hpq)
    have hgg : (g != g) = false := by simp
    clear HDg
    cases v <;> cases was
    all_goals simp only [b2n_tt, b2n_tf, b2n_ft, b2n_ff, Int.add_zero] at H1
    all_goals go_enter Try.func4, Try.ntmps4
    all_goals go_wp2_with (first
      | (go_at_call 12; clear G1; refine (bget_eq _ _ _ b _ _ _ (HL.out.below HC.out) HN.out rfl HW.out).mono ?_; rintro e w3 ⟨rfl, rfl⟩)
      | (go_at_call 12; clear G2; refine (bget_eq _ _ _ d _ _ _ (HR.out.below HC2.out) HDN.out HDL.out.symm HDv.out).mono ?_; rintro e w3 ⟨rfl, rfl⟩)
      | (go_at_call 12; clear G3; refine (bget_eq _ _ _ d _ _ _ (HR.out.below HC2.out) HDN.out HDL.out.symm HDq.out).mono ?_; rintro e w3 ⟨rfl, rfl⟩)
      | (go_at_call 12; refine (bget_eq _ _ _ b _ _ _ (HL.out.below HC.out) HN.out rfl HG.out).mono ?_; rintro e w3 ⟨rfl, rfl⟩)
      | (go_at_call 15; clear S1; refine (bset_eq _ _ _ b d _ _ _ (HL.out.below HC.out) HN.out rfl HS.out).mono ?_; rintro e w3 ⟨A3, c3, rfl, hr, hB⟩; rw [HDL.out]; have HC := Hd.mk (below_then HC.out HC.out.size hB); have HR := Hd.mk hr; have HC2 := Hd.mk (Below.refl w3.heap.size w3); clear hr hB)
      | (go_at_call 15; refine (bset_eq _ _ _ d b _ _ _ (HR.out.below HC2.out) HDN.out HDL.out.symm HBk.out).mono ?_; rintro e w4 ⟨A4, c4, rfl, hr, hB⟩; have HC := Hd.mk (below_then HC.out HC.out.size hB); have HC2 := Hd.mk (below_then HC2.out HC2.out.size hB); have HX := Hd.mk hr; clear hr hB)
      | (go_at_call 14; refine (same_any _ _ _ _ _ _ b b _ HX.out (HL.out.below HC.out) rfl rfl).mono ?_; rintro e w5 ⟨rfl, rfl⟩; simp only [beq_self_eq_true])
      | (go_at_call 20; clear C1; refine (bcount_eq _ _ _ d _ _ _ _ (HR.out.below HC2.out) HDN.out HDL.out.symm H1.out).mono ?_; rintro e w5 ⟨rfl, rfl⟩)
      | (go_at_call 20; clear C2; refine (bcount_eq _ _ _ b _ _ _ _ (HL.out.below HC.out) HN.out rfl H2.out).mono ?_; rintro e w5 ⟨rfl, rfl⟩)
      | (go_at_call 20; clear C3; refine (bcount_eq _ _ _ b _ _ _ _ (HL.out.below HC.out) HN.out rfl H3.out).mono ?_; rintro e w5 ⟨rfl, rfl⟩)
      | (go_at_call 20; clear C4; refine (bcount_eq _ _ _ b _ _ _ _ (HL.out.below HC.out) HN.out rfl H4.out).mono ?_; rintro e w5 ⟨rfl, rfl⟩)
      | (go_at_call 20; refine (bcount_eq _ _ _ b _ _ _ _ (HL.out.below HC.out) HN.out rfl H2.out).mono ?_; rintro e w5 ⟨rfl, rfl⟩)
      | (go_at_call 9; refine (known_calls _).mono ?_; rintro e w6 ⟨rfl, hB⟩; have HC := Hd.mk (below_then HC.out HC.out.size hB); clear hB))
    all_goals go_ret
    all_goals exact ⟨rfl, HC.out⟩

set_option maxHeartbeats 4000000 in
theorem lawKeep (A : Option Addr) (c : Nat) (b : List UInt8) (i k : Int) (v : Bool) (w : World) (hb : Rc w A (bs b)) (hc : b.length ≤ c) (hn : b.length ≤ 140737488351232)
    (h1 : 0 ≤ i ∧ i ≤ 65535) (h2 : 0 ≤ k ∧ k ≤ 65535) :
    Calls Try.prog 4 #[.slice A b.length c, .int .u16 i, .int .u16 k, .bool v] w (RetT w) := by
  by_cases hbig : b.length > 200
  · have hd : decide ((b.length : Int) > 200) = true := by simp; omega
    have hd2 : (200 : Int) < (b.length : Int) := by omega
    clear hb hc
    go_enter Try.func4, Try.ntmps4
    go_wp2_with (go_at_call 9; refine (known_calls _).mono ?_; rintro e w1 ⟨rfl, hB⟩; have HB := Hd.mk hB; clear hB)
    go_ret
    exact ⟨rfl, HB.out⟩
  · have hd2 : (b.length : Int) ≤ 200 := by omega
    by_cases hz : b.length = 0
    · have hz2 : ((b.length : Int) == 0) = true := by rw [beq_iff_eq]; omega
      have hz3 : (b.length : Int) = 0 := by omega
      clear hb hc
      go_enter Try.func4, Try.ntmps4
      go_wp2_with (go_at_call 9; refine (known_calls _).mono ?_; rintro e w1 ⟨rfl, hB⟩; have HB := Hd.mk hB; clear hB)
      go_ret
      exact ⟨rfl, HB.out⟩
    · have hz2 : ((b.length : Int) == 0) = false := by rw [beq_eq_false_iff_ne]; omega
      have hz4 : (0 : Int) < (b.length : Int) := by omega
      obtain ⟨i, rfl⟩ := Int.eq_ofNat_of_zero_le h1.1
      obtain ⟨k, rfl⟩ := Int.eq_ofNat_of_zero_le h2.1
      obtain ⟨p, hp⟩ : ∃ p : Nat, (i : Int) % (8 * (b.length : Int)) = (p : Int) := ⟨i % (8 * b.length), by simp⟩
      obtain ⟨q, hq⟩ : ∃ q : Nat, (k : Int) % (8 * (b.length : Int)) = (q : Int) := ⟨k % (8 * b.length), by simp⟩
      have hp8 : p < 8 * b.length := by have := Int.emod_lt_of_pos (i : Int) (b := 8 * (b.length : Int)) (by omega); omega
      have hq8 : q < 8 * b.length := by have := Int.emod_lt_of_pos (k : Int) (b := 8 * (b.length : Int)) (by omega); omega
      obtain ⟨was, hwas⟩ : ∃ was, getI b (p : Int) = was := ⟨_, rfl⟩
      have HL := Hd.mk hb
      have HN : Hd (b.length ≤ 1099511627776) := ⟨by omega⟩
      exact keep_core A c b i k p q v was w hb (by omega) (by omega) hd2 hz4 hp hq hp8 hq8 hwas
end Go.Proofs.Ytpgkfabiflhkfaa
