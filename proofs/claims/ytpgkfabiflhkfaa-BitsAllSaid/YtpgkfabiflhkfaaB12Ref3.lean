/- Walks: the reference's answers for bits: the first that is free, some, counted. -/
import Derived.Test.YtpgkfabiflhkfaaB12Ref2
namespace Go.Proofs.Ytpgkfabiflhkfaa
open Go.RowKit Go.Sac
set_option linter.unusedVariables false
set_option linter.unusedSimpArgs false

set_option maxHeartbeats 2000000 in
theorem rfirst_any (A : Option Addr) (n c : Nat) (b : List UInt8) (f t : Int) (w : World) (hb : Rc w A (bs b)) (hn : b.length ≤ 1099511627776) (e1 : n = b.length) :
    Calls Try.prog 18 #[.slice A n c, .int .i64 f, .int .i64 t] w fun e w' => e = .returned (.int .i64 (fiT b f t)) ∧ Below w.heap.size w w' := by
  have HL := Hd.mk hb
  have HN := Hd.mk hn
  have HE1 := Hd.mk e1
  unfold fiT
  obtain ⟨l, hl⟩ : ∃ l, l = frT b f.toNat (hiT b t) := ⟨_, rfl⟩
  have HF := Hd.mk hl.symm
  rw [← hl]
  clear hb hl e1 hn
  cases l with
  | nil =>
    go_enter Try.func18, Try.ntmps18
    go_wp2_with (go_at_call 26; refine (rfree_any _ _ _ b _ _ _ HL.out HN.out HE1.out).mono ?_; rintro e w1 ⟨A1, c1, rfl, h1, hr, hB⟩; rw [HF.out] at hr; rw [HF.out]; have HB := Hd.mk hB; clear hB; simp only [List.length_nil])
    go_ret
    exact ⟨rfl, HB.out⟩
  | cons x l =>
    obtain ⟨q, hq⟩ : ∃ q, q = (x :: l).length := ⟨_, rfl⟩
    have hq0 : 0 < q := by rw [hq]; simp
    have hz2 : ((q : Int) == 0) = false := by rw [beq_eq_false_iff_ne]; omega
    have hz3 : (0 : Int) < (q : Int) := by omega
    have HQ := Hd.mk hq.symm
    clear hq
    go_enter Try.func18, Try.ntmps18
    go_wp2_with (go_at_call 26; refine (rfree_any _ _ _ b _ _ _ HL.out HN.out HE1.out).mono ?_; rintro e w1 ⟨A1, c1, rfl, h1, hr, hB⟩; rw [HF.out] at hr; rw [HF.out, HQ.out]; have HB := Hd.mk hB; clear hB; obtain ⟨g, off, rfl, _, hc⟩ := hr.form (by simp); have hc0 := hc 0 _ (ns_at (l := x :: l) (i := 0) (by simp)); simp only [Nat.add_zero, List.getElem_cons_zero] at hc0; clear hc hr)
    go_ret
    exact ⟨rfl, HB.out⟩

set_option maxHeartbeats 2000000 in
theorem rcount_any (A : Option Addr) (n c : Nat) (b : List UInt8) (f t : Int) (w : World) (hb : Rc w A (bs b)) (hn : b.length ≤ 1099511627776) (e1 : n = b.length) :
    Calls Try.prog 21 #[.slice A n c, .int .i64 f, .int .i64 t] w fun e w' => e = .returned (.int .i64 (cnT b f.toNat (hiT b t))) ∧ w' = w := by
  subst e1
  have HL := Hd.mk hb
  have HN := Hd.mk hn
  clear hb
  rw [← cU_end]
  go_enter Try.func21, Try.ntmps21
  go_wp2
  go_loop [7, 8] (fun v i => ∃ k : Nat, k ≤ 8 * b.length ∧ i = .int .i64 k ∧ v = .int .i64 (cU b f t k)) (fun _ i => 8 * b.length - (intOf i).toNat)
  case atStart => exact ⟨0, Nat.zero_le _, rfl, by simp [cU, cnT]⟩
  case round =>
    obtain ⟨k, hk, rfl, rfl⟩ := hrel
    by_cases hlt : k < 8 * b.length
    · have hkk : (k : Int) < 8 * (b.length : Int) := by omega
      have hle := cU_le b f t k
      by_cases h1 : f ≤ (k : Int)
      · by_cases h2 : (k : Int) < t
        · cases h3 : getT b k
          · have HY := Hd.mk (cU_no b f t k (by rintro ⟨_, _, h⟩; rw [h3] at h; cases h))
            have HG : Hd (getI b (k : Int) = false) := ⟨by rw [getI_nat b k hlt]; exact h3⟩
            clear h3
            go_wp2_with (go_at_call 13; refine (rget_any _ _ _ b _ _ HL.out HN.out (by have := HN.out; omega) rfl).mono ?_; rintro e w' ⟨rfl, rfl⟩; rw [HG.out])
            go_round
            case rel => exact ⟨k + 1, by omega, by go_num, by rw [HY.out]⟩
            case measure => simp [intOf]; omega
          · have HY := Hd.mk (cU_yes b f t k h1 h2 h3)
            have HG : Hd (getI b (k : Int) = true) := ⟨by rw [getI_nat b k hlt]; exact h3⟩
            clear h3
            go_wp2_with (go_at_call 13; refine (rget_any _ _ _ b _ _ HL.out HN.out (by have := HN.out; omega) rfl).mono ?_; rintro e w' ⟨rfl, rfl⟩; rw [HG.out])
            go_round
            case rel => exact ⟨k + 1, by omega, by go_num, by rw [HY.out]; go_num⟩
            case measure => simp [intOf]; omega
        · have HY := Hd.mk (cU_no b f t k (by rintro ⟨_, h, _⟩; exact h2 h))
          have h2' : decide ((k : Int) < t) = false := by simpa using h2
          go_wp2
          go_round
          case rel => exact ⟨k + 1, by omega, by go_num, by rw [HY.out]⟩
          case measure => simp [intOf]; omega
      · have HY := Hd.mk (cU_no b f t k (by rintro ⟨h, _, _⟩; exact h1 h))
        have h1' : decide (f ≤ (k : Int)) = false := by simpa using h1
        have h1'' : (k : Int) < f := by omega
        go_wp2
        go_round
        case rel => exact ⟨k + 1, by omega, by go_num, by rw [HY.out]⟩
        case measure => simp [intOf]; omega
    · obtain rfl : k = 8 * b.length := by omega
      go_wp2
      go_ret
      exact ⟨rfl, rfl⟩

set_option maxHeartbeats 2000000 in
theorem rsome_any (A : Option Addr) (n c : Nat) (b : List UInt8) (m f t : Int) (w : World) (hb : Rc w A (bs b)) (hn : b.length ≤ 1099511627776) (e1 : n = b.length) :
    Calls Try.prog 11 #[.slice A n c, .int .i64 m, .int .i64 f, .int .i64 t] w fun e w' => RetIE (soL b m f t) (soE b m f t) w e w' := by
  have HL := Hd.mk hb
  have HN := Hd.mk hn
  have HE1 := Hd.mk e1
  obtain ⟨k, hk⟩ : ∃ k : Nat, max m 0 = (k : Int) := ⟨m.toNat, by omega⟩
  unfold soL soE
  obtain ⟨l, hl⟩ : ∃ l, l = frT b f.toNat (hiT b t) := ⟨_, rfl⟩
  have HF := Hd.mk hl.symm
  rw [← hl]
  have HK : Hd (m.toNat = k) := ⟨by omega⟩
  by_cases hle : m ≤ (l.length : Int)
  · rw [if_pos hle, if_pos hle, HK.out]
    have hkl : k ≤ l.length := by omega
    have hkt : (l.take k).length = k := by rw [List.length_take]; omega
    have HT := Hd.mk hkt
    clear hb hl e1 hn hle hkt
    go_enter Try.func11, Try.ntmps11
    go_wp2_with (go_at_call 26; refine (rfree_any _ _ _ b _ _ _ HL.out HN.out HE1.out).mono ?_; rintro e w1 ⟨A1, c1, rfl, h1, hr, hB⟩; rw [HF.out] at hr h1; rw [HF.out]; have HB := Hd.mk hB; have HR := Hd.mk hr; have hcut := cut_high (P := Try.prog) 24 3 Try.underlying24 info_int A1 l.length c1 k (by omega); clear hB hr)
    go_ret2
    exact ⟨A1, c1, by rw [HT.out]; rfl, by rw [HT.out]; omega, by have := HR.out.take k; rw [← List.map_take] at this; exact this, HB.out⟩
  · rw [if_neg hle, if_neg hle]
    have hkl : (l.length : Int) < (k : Int) := by omega
    clear hb hl e1 hn hle
    go_enter Try.func11, Try.ntmps11
    go_wp2_with (go_at_call 26; refine (rfree_any _ _ _ b _ _ _ HL.out HN.out HE1.out).mono ?_; rintro e w1 ⟨A1, c1, rfl, h1, hr, hB⟩; rw [HF.out]; have HB := Hd.mk hB; clear hB hr h1)
    go_ret2
    exact ⟨none, 0, rfl, Nat.le_refl _, Rc.nil _ _, HB.out⟩
end Go.Proofs.Ytpgkfabiflhkfaa
