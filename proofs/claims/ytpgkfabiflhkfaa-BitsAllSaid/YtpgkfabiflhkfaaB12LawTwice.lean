/- The law BitsTwice, walked. -/
import Derived.Test.YtpgkfabiflhkfaaB12LawKeep
namespace Go.Proofs.Ytpgkfabiflhkfaa
open Go.RowKit Go.Sac
set_option linter.unusedVariables false
set_option linter.unusedSimpArgs false

theorem copy_eq (A : Option Addr) (n c : Nat) (l : List UInt8) (w : World) (hl : Rc w A (bs l)) (hn : l.length ≤ 1099511627776) (e1 : n = l.length) :
    Calls Try.prog 24 #[.slice A n c] w fun e w' => ∃ A' c', e = .returned (.slice A' l.length c') ∧ Rc w' A' (bs l) ∧ Below w.heap.size w w' := by
  refine (copy_any A n c l w hl hn e1).mono ?_
  intro e w' h
  obtain ⟨A', c', h1, _, h3, h4⟩ := retB_open h
  exact ⟨A', c', h1, h3, h4⟩

set_option maxHeartbeats 8000000 in
theorem twice_core (A : Option Addr) (c : Nat) (b : List UInt8) (i k p q : Nat) (x y : Bool) (w : World) (hb : Rc w A (bs b))
    (h1 : i ≤ 65535) (h2 : k ≤ 65535) (hd2 : (b.length : Int) ≤ 100) (hz4 : (0 : Int) < (b.length : Int)) (hp : (i : Int) % (8 * (b.length : Int)) = (p : Int)) (hq : (k : Int) % (8 * (b.length : Int)) = (q : Int))
    (hp8 : p < 8 * b.length) (hq8 : q < 8 * b.length) :
    Calls Try.prog 8 #[.slice A b.length c, .int .u16 (i : Int), .int .u16 (k : Int), .bool x, .bool y] w (RetT w) := by
  have hz2 : ((b.length : Int) == 0) = false := by rw [beq_eq_false_iff_ne]; omega
  have HL := Hd.mk hb
  have HN : Hd (b.length ≤ 1099511627776) := ⟨by omega⟩
  obtain ⟨b1, hb1⟩ : ∃ b1, setI b (p : Int) x = b1 := ⟨_, rfl⟩
  obtain ⟨cc, hcc⟩ : ∃ cc, setI b1 (q : Int) y = cc := ⟨_, rfl⟩
  obtain ⟨b2, hb2⟩ : ∃ b2, setI b (q : Int) y = b2 := ⟨_, rfl⟩
  obtain ⟨d, hd⟩ : ∃ d, setI b2 (p : Int) x = d := ⟨_, rfl⟩
  have l1 : b1.length = b.length := by rw [← hb1, setI_len]
  have l2 : b2.length = b.length := by rw [← hb2, setI_len]
  have lc : cc.length = b.length := by rw [← hcc, setI_len, l1]
  have ld : d.length = b.length := by rw [← hd, setI_len, l2]
  have hcq : getI cc (q : Int) = y := by rw [← hcc, getI_setI b1 q y _ (by omega), if_pos rfl]
  have hdp : getI d (p : Int) = x := by rw [← hd, getI_setI b2 p x _ (by omega), if_pos rfl]
  have hcp : p ≠ q → getI cc (p : Int) = x := fun h => by rw [← hcc, getI_setI b1 q y _ (by omega), if_neg (by omega), ← hb1, getI_setI b p x _ hp8, if_pos rfl]
  have hcd : p ≠ q → d = cc := fun h => by rw [← hd, ← hcc, ← hb1, ← hb2]; exact (setI_swap b p q x y hp8 hq8 h).symm
  have B1 := Hd.mk hb1; have B2 := Hd.mk hb2; have BC := Hd.mk hcc; have BD := Hd.mk hd
  have L1 := Hd.mk l1; have L2 := Hd.mk l2; have LC := Hd.mk lc; have LD := Hd.mk ld
  have N1 : Hd (b1.length ≤ 1099511627776) := ⟨by omega⟩
  have N2 : Hd (b2.length ≤ 1099511627776) := ⟨by omega⟩
  have NC : Hd (cc.length ≤ 1099511627776) := ⟨by omega⟩
  have ND : Hd (d.length ≤ 1099511627776) := ⟨by omega⟩
  have GQ := Hd.mk hcq; have GD := Hd.mk hdp; have GP := Hd.mk hcp; have CD := Hd.mk hcd
  have hxx : (x == x) = true := by simp
  have hyy : (y == y) = true := by simp
  have S1 : Hd Tok1 := ⟨⟨⟩⟩
  have S2 : Hd Tok2 := ⟨⟨⟩⟩
  have S3 : Hd Tok3 := ⟨⟨⟩⟩
  have G1 : Hd Tok1 := ⟨⟨⟩⟩
  have M1 : Hd Tok1 := ⟨⟨⟩⟩
  clear hb hb1 hb2 hcc hd l1 l2 lc ld hcq hdp hcp hcd
  by_cases hpq : p = q
  · subst hpq
    have hne : ((p : Int) == (p : Int)) = true := by simp
    go_enter Try.func8, Try.ntmps8
    go_wp2_with (first
      | (go_at_call 24; refine (copy_eq _ _ _ b _ HL.out HN.out rfl).mono ?_; rintro e w1 ⟨A1, c1, rfl, hr, hB⟩; have HB := Hd.mk hB; have HW := Hd.mk hr; have HL := Hd.mk (HL.out.below hB); clear hr hB)
      | (go_at_call 15; clear S1; refine (bset_eq _ _ _ b b1 _ _ _ HL.out HN.out rfl B1.out).mono ?_; rintro e w2 ⟨A2, c2, rfl, hr, hB⟩; rw [L1.out]; have HB := Hd.mk (below_then HB.out HB.out.size hB); have HR := Hd.mk hr; have HW := Hd.mk (HW.out.below hB); have HL := Hd.mk (HL.out.below hB); clear hr hB)
      | (go_at_call 15; clear S2; refine (bset_eq _ _ _ b1 cc _ _ _ HR.out N1.out L1.out.symm BC.out).mono ?_; rintro e w3 ⟨A3, c3, rfl, hr, hB⟩; rw [LC.out]; have HB := Hd.mk (below_then HB.out HB.out.size hB); have HX := Hd.mk hr; have HW := Hd.mk (HW.out.below hB); have HL := Hd.mk (HL.out.below hB); clear hr hB)
      | (go_at_call 15; clear S3; refine (bset_eq _ _ _ b b2 _ _ _ HL.out HN.out rfl B2.out).mono ?_; rintro e w4 ⟨A4, c4, rfl, hr, hB⟩; rw [L2.out]; have HB := Hd.mk (below_then HB.out HB.out.size hB); have HR := Hd.mk hr; have HW := Hd.mk (HW.out.below hB); have HL := Hd.mk (HL.out.below hB); have HX := Hd.mk (HX.out.below hB); clear hr hB)
      | (go_at_call 15; refine (bset_eq _ _ _ b2 d _ _ _ HR.out N2.out L2.out.symm BD.out).mono ?_; rintro e w5 ⟨A5, c5, rfl, hr, hB⟩; rw [LD.out]; have HB := Hd.mk (below_then HB.out HB.out.size hB); have HY := Hd.mk hr; have HW := Hd.mk (HW.out.below hB); have HL := Hd.mk (HL.out.below hB); have HX := Hd.mk (HX.out.below hB); clear hr hB)
      | (go_at_call 12; clear G1; refine (bget_eq _ _ _ cc _ _ _ HX.out NC.out LC.out.symm GQ.out).mono ?_; rintro e w6 ⟨rfl, rfl⟩)
      | (go_at_call 12; refine (bget_eq _ _ _ d _ _ _ HY.out ND.out LD.out.symm GD.out).mono ?_; rintro e w6 ⟨rfl, rfl⟩)
      | (go_at_call 14; refine (same_any _ _ _ _ _ _ b b _ HL.out HW.out rfl rfl).mono ?_; rintro e w7 ⟨rfl, rfl⟩; simp only [beq_self_eq_true])
      | (go_at_call 9; refine (known_calls _).mono ?_; rintro e w8 ⟨rfl, hB⟩; have HB := Hd.mk (below_then HB.out HB.out.size hB); clear hB))
    go_ret
    exact ⟨rfl, HB.out⟩
  · have hne : ((p : Int) == (q : Int)) = false := by rw [beq_eq_false_iff_ne]; omega
    obtain rfl := CD.out hpq
    have GP := Hd.mk (GP.out hpq)
    go_enter Try.func8, Try.ntmps8
    go_wp2_with (first
      | (go_at_call 24; refine (copy_eq _ _ _ b _ HL.out HN.out rfl).mono ?_; rintro e w1 ⟨A1, c1, rfl, hr, hB⟩; have HB := Hd.mk hB; have HW := Hd.mk hr; have HL := Hd.mk (HL.out.below hB); clear hr hB)
      | (go_at_call 15; clear S1; refine (bset_eq _ _ _ b b1 _ _ _ HL.out HN.out rfl B1.out).mono ?_; rintro e w2 ⟨A2, c2, rfl, hr, hB⟩; rw [L1.out]; have HB := Hd.mk (below_then HB.out HB.out.size hB); have HR := Hd.mk hr; have HW := Hd.mk (HW.out.below hB); have HL := Hd.mk (HL.out.below hB); clear hr hB)
      | (go_at_call 15; clear S2; refine (bset_eq _ _ _ b1 d _ _ _ HR.out N1.out L1.out.symm BC.out).mono ?_; rintro e w3 ⟨A3, c3, rfl, hr, hB⟩; rw [LD.out]; have HB := Hd.mk (below_then HB.out HB.out.size hB); have HX := Hd.mk hr; have HW := Hd.mk (HW.out.below hB); have HL := Hd.mk (HL.out.below hB); clear hr hB)
      | (go_at_call 15; clear S3; refine (bset_eq _ _ _ b b2 _ _ _ HL.out HN.out rfl B2.out).mono ?_; rintro e w4 ⟨A4, c4, rfl, hr, hB⟩; rw [L2.out]; have HB := Hd.mk (below_then HB.out HB.out.size hB); have HR := Hd.mk hr; have HW := Hd.mk (HW.out.below hB); have HL := Hd.mk (HL.out.below hB); have HX := Hd.mk (HX.out.below hB); clear hr hB)
      | (go_at_call 15; refine (bset_eq _ _ _ b2 d _ _ _ HR.out N2.out L2.out.symm BD.out).mono ?_; rintro e w5 ⟨A5, c5, rfl, hr, hB⟩; rw [LD.out]; have HB := Hd.mk (below_then HB.out HB.out.size hB); have HY := Hd.mk hr; have HW := Hd.mk (HW.out.below hB); have HL := Hd.mk (HL.out.below hB); have HX := Hd.mk (HX.out.below hB); clear hr hB)
      | (go_at_call 12; clear G1; refine (bget_eq _ _ _ d _ _ _ HX.out ND.out LD.out.symm GP.out).mono ?_; rintro e w6 ⟨rfl, rfl⟩)
      | (go_at_call 12; refine (bget_eq _ _ _ d _ _ _ HX.out ND.out LD.out.symm GQ.out).mono ?_; rintro e w6 ⟨rfl, rfl⟩)
      | (go_at_call 14; clear M1; refine (same_any _ _ _ _ _ _ d d _ HX.out HY.out LD.out.symm LD.out.symm).mono ?_; rintro e w7 ⟨rfl, rfl⟩; simp only [beq_self_eq_true])
      | (go_at_call 14; refine (same_any _ _ _ _ _ _ b b _ HL.out HW.out rfl rfl).mono ?_; rintro e w7 ⟨rfl, rfl⟩; simp only [beq_self_eq_true])
      | (go_at_call 9; refine (known_calls _).mono ?_; rintro e w8 ⟨rfl, hB⟩; have HB := Hd.mk (below_then HB.out HB.out.size hB); clear hB))
    go_ret
    exact ⟨rfl, HB.out⟩

set_option maxHeartbeats 4000000 in
theorem lawTwice (A : Option Addr) (c : Nat) (b : List UInt8) (i k : Int) (x y : Bool) (w : World) (hb : Rc w A (bs b)) (hc : b.length ≤ c) (hn : b.length ≤ 140737488351232)
    (h1 : 0 ≤ i ∧ i ≤ 65535) (h2 : 0 ≤ k ∧ k ≤ 65535) :
    Calls Try.prog 8 #[.slice A b.length c, .int .u16 i, .int .u16 k, .bool x, .bool y] w (RetT w) := by
  by_cases hbig : b.length > 100
  · have hd : decide ((b.length : Int) > 100) = true := by simp; omega
    have hd2 : (100 : Int) < (b.length : Int) := by omega
    clear hb hc
    go_enter Try.func8, Try.ntmps8
    go_wp2_with (go_at_call 9; refine (known_calls _).mono ?_; rintro e w1 ⟨rfl, hB⟩; have HB := Hd.mk hB; clear hB)
    go_ret
    exact ⟨rfl, HB.out⟩
  · have hd2 : (b.length : Int) ≤ 100 := by omega
    by_cases hz : b.length = 0
    · have hz2 : ((b.length : Int) == 0) = true := by rw [beq_iff_eq]; omega
      have hz3 : (b.length : Int) = 0 := by omega
      clear hb hc
      go_enter Try.func8, Try.ntmps8
      go_wp2_with (go_at_call 9; refine (known_calls _).mono ?_; rintro e w1 ⟨rfl, hB⟩; have HB := Hd.mk hB; clear hB)
      go_ret
      exact ⟨rfl, HB.out⟩
    · have hz4 : (0 : Int) < (b.length : Int) := by omega
      obtain ⟨i, rfl⟩ := Int.eq_ofNat_of_zero_le h1.1
      obtain ⟨k, rfl⟩ := Int.eq_ofNat_of_zero_le h2.1
      obtain ⟨p, hp⟩ : ∃ p : Nat, (i : Int) % (8 * (b.length : Int)) = (p : Int) := ⟨i % (8 * b.length), by simp⟩
      obtain ⟨q, hq⟩ : ∃ q : Nat, (k : Int) % (8 * (b.length : Int)) = (q : Int) := ⟨k % (8 * b.length), by simp⟩
      have hp8 : p < 8 * b.length := by have := Int.emod_lt_of_pos (i : Int) (b := 8 * (b.length : Int)) (by omega); omega
      have hq8 : q < 8 * b.length := by have := Int.emod_lt_of_pos (k : Int) (b := 8 * (b.length : Int)) (by omega); omega
      exact twice_core A c b i k p q x y w hb (by omega) (by omega) hd2 hz4 hp hq hp8 hq8
end Go.Proofs.Ytpgkfabiflhkfaa
