/- The law BitsTells, walked. -/
import Derived.Test.YtpgkfabiflhkfaaB12Known
namespace Go.Proofs.Ytpgkfabiflhkfaa
open Go.RowKit Go.Sac
set_option linter.unusedVariables false
set_option linter.unusedSimpArgs false

/-- what a call's new row is, in its own words -/
theorem retB_open {E : TypeId} {l : List UInt8} {w w' : World} {e : Ending} (h : RetB E l w e w') : ∃ A c, e = .returned (.slice A l.length c) ∧ l.length ≤ c ∧ Rc w' A (bs l) ∧ Below w.heap.size w w' := by
  obtain ⟨v, rfl, ho, hb⟩ := h
  obtain ⟨A, c, rfl, h1, h2, _⟩ := own_rc ho
  exact ⟨A, c, rfl, h1, h2, hb⟩

set_option maxHeartbeats 4000000 in
theorem lawTells (A : Option Addr) (c : Nat) (b : List UInt8) (i m f t : Int) (w : World) (hb : Rc w A (bs b)) (hc : b.length ≤ c) (hn : b.length ≤ 140737488351232)
    (h1 : -9223372036854775808 ≤ i ∧ i ≤ 9223372036854775807) (h2 : -9223372036854775808 ≤ m ∧ m ≤ 9223372036854775807) (h3 : -9223372036854775808 ≤ f ∧ f ≤ 9223372036854775807) (h4 : -9223372036854775808 ≤ t ∧ t ≤ 9223372036854775807) :
    Calls Try.prog 3 #[.slice A b.length c, .int .i64 i, .int .i64 m, .int .i64 f, .int .i64 t] w (RetT w) := by
  by_cases hbig : b.length > 200
  · have hd : decide ((b.length : Int) > 200) = true := by simp; omega
    have hd2 : (200 : Int) < (b.length : Int) := by omega
    clear hb hc
    go_enter Try.func3, Try.ntmps3
    go_wp2_with (go_at_call 9; refine (known_calls _).mono ?_; rintro e w1 ⟨rfl, hB⟩; have HB := Hd.mk hB; clear hB)
    go_ret
    exact ⟨rfl, HB.out⟩
  · have hd2 : (b.length : Int) ≤ 200 := by omega
    have HL := Hd.mk hb
    have HN : Hd (b.length ≤ 1099511627776) := ⟨by omega⟩
    have H1 := Hd.mk h1.2
    have H2 := Hd.mk h2.2
    have H4 : Hd ((soL b m f t).length ≤ 1099511627776) := ⟨by
      have h := frT_len b f.toNat (hiT b t)
      have : hiT b t ≤ 8 * b.length := by unfold hiT; omega
      unfold soL
      split
      · rw [List.length_take]; omega
      · simp⟩
    obtain ⟨so, hso⟩ : ∃ so, so = soL b m f t := ⟨_, rfl⟩
    rw [← hso] at H4
    have HSO := Hd.mk hso.symm
    have hb1 : (getI b i == getI b i) = true := by simp
    have hb2 : (fiT b f t == fiT b f t) = true := by simp
    have hb3 : (soE b m f t == soE b m f t) = true := by simp
    clear hb hc hn hbig h1 h2 h3 h4 hso
    go_enter Try.func3, Try.ntmps3
    go_wp2_with (first
      | (go_at_call 10; refine (some_any _ _ _ b _ _ _ _ HL.out HN.out rfl).mono ?_; rintro e w1 ⟨A1, c1, rfl, _, hr, hB⟩; rw [HSO.out] at hr ⊢; have HX := Hd.mk hr; have HB := Hd.mk hB; clear hr hB)
      | (go_at_call 11; refine (rsome_any _ _ _ b _ _ _ _ (HL.out.below HB.out) HN.out rfl).mono ?_; rintro e w2 ⟨A2, c2, rfl, _, hr, hB⟩; rw [HSO.out] at hr ⊢; have HX := Hd.mk (HX.out.below hB); have HY := Hd.mk hr; have HB := Hd.mk (below_then HB.out HB.out.size hB); have HL := Hd.mk (HL.out.below HB.out); have HC := Hd.mk (Below.refl w2.heap.size w2); clear hr hB)
      | (go_at_call 12; refine (bget_any _ _ _ b _ _ (HL.out.below HC.out) HN.out rfl).mono ?_; rintro e w3 ⟨rfl, rfl⟩)
      | (go_at_call 13; refine (rget_any _ _ _ b _ _ (HL.out.below HC.out) HN.out H1.out rfl).mono ?_; rintro e w3 ⟨rfl, rfl⟩)
      | (go_at_call 15; refine (bset_any _ _ _ b _ _ _ (HL.out.below HC.out) HN.out rfl).mono ?_; rintro e w3 hret; obtain ⟨A3, c3, rfl, _, hr, hB⟩ := retB_open hret; have HC := Hd.mk (below_then HC.out HC.out.size hB); have HR := Hd.mk hr; clear hret hr hB)
      | (go_at_call 16; refine (rset_any _ _ _ b _ _ _ (HL.out.below HC.out) HN.out H1.out rfl).mono ?_; rintro e w3 hret; obtain ⟨A4, c4, rfl, _, hr, hB⟩ := retB_open hret; have HC := Hd.mk (below_then HC.out HC.out.size hB); have HR := Hd.mk (HR.out.below hB); have HS := Hd.mk hr; clear hret hr hB)
      | (go_at_call 14; refine (same_any _ _ _ _ _ _ _ _ _ HR.out HS.out rfl rfl).mono ?_; rintro e w3 ⟨rfl, rfl⟩; simp only [beq_self_eq_true])
      | (go_at_call 17; refine (first_any _ _ _ b _ _ _ (HL.out.below HC.out) HN.out rfl).mono ?_; rintro e w3 ⟨rfl, hB⟩; have HC := Hd.mk (below_then HC.out HC.out.size hB); clear hB)
      | (go_at_call 18; refine (rfirst_any _ _ _ b _ _ _ (HL.out.below HC.out) HN.out rfl).mono ?_; rintro e w3 ⟨rfl, hB⟩; have HC := Hd.mk (below_then HC.out HC.out.size hB); clear hB)
      | (go_at_call 19; refine (ints_any _ _ _ _ _ _ _ _ _ (HX.out.below HC.out) (HY.out.below HC.out) H4.out rfl rfl).mono ?_; rintro e w3 ⟨rfl, hD⟩; have HC := Hd.mk (below_then HC.out HC.out.size (hD.below _)); clear hD; simp only [beq_self_eq_true])
      | (go_at_call 20; refine (bcount_any _ _ _ b _ _ _ (HL.out.below HC.out) HN.out rfl).mono ?_; rintro e w3 ⟨rfl, rfl⟩)
      | (go_at_call 21; refine (rcount_any _ _ _ b _ _ _ (HL.out.below HC.out) HN.out rfl).mono ?_; rintro e w3 ⟨rfl, rfl⟩)
      | (go_at_call 22; refine (wide_any _ _ H2.out).mono ?_; rintro e w3 ⟨rfl, rfl⟩)
      | (go_at_call 23; refine (rwide_any _ _ H2.out).mono ?_; rintro e w3 ⟨rfl, rfl⟩)
      | (go_at_call 9; refine (known_calls _).mono ?_; rintro e w3 ⟨rfl, hB⟩; have HC := Hd.mk (below_then HC.out HC.out.size hB); clear hB))
    go_ret
    exact ⟨rfl, below_then HB.out HB.out.size HC.out⟩
end Go.Proofs.Ytpgkfabiflhkfaa
