/- Walks: the law NodeBlocks. -/
import Derived.Test.YtmebgejjaljhgaaN13LawSpans
namespace Go.Proofs.Ytmebgejjaljhgaa
open Go.RowKit Go.Sac
set_option linter.unusedVariables false
set_option linter.unusedSimpArgs false

theorem spans0_len (n : Nat) (h : n < 17920) : (spansOf 0 (n : Int)).length = blkN n := by
  by_cases h0 : n < 1
  · have : n = 0 := by omega
    subst this
    decide
  · rw [show (0 : Int) = ((0 : Nat) : Int) from rfl, spans_yes h0 (by omega) (by omega)]
    unfold spL
    rw [spT_len]
    unfold nbS blkN
    omega
theorem spans0_at (n k : Nat) (h : n < 17920) (hk : k < (spansOf 0 (n : Int)).length) : ((spansOf 0 (n : Int))[k]).1 = k ∧ ((spansOf 0 (n : Int))[k]).2.1 = 0 := by
  by_cases h0 : n < 1
  · have : n = 0 := by omega
    subst this
    exact absurd hk (by rw [show spansOf 0 ((0 : Nat) : Int) = [] by decide]; simp)
  · have e : spansOf 0 (n : Int) = spL 0 (0 + n) := by
      rw [show (0 : Int) = ((0 : Nat) : Int) from rfl, spans_yes h0 (by omega) (by omega)]
    have e2 : ∀ (l : List Spn) (he : l = spL 0 (0 + n)) (hk : k < l.length), (l[k]).1 = k ∧ (l[k]).2.1 = 0 := by
      rintro l rfl hk
      unfold spL spT spanAt
      simp
    exact e2 _ e hk
theorem blkN_nat (n : Nat) (h : n ≤ 17920) : blkN (n : Int) = (n + 255) / 256 := by
  unfold blkN
  have : (max 0 (min (n : Int) 17920)).toNat = n := by omega
  rw [this]
theorem blk_succ (n m : Nat) (h : n < 17920) (hm : (if n % 256 = 0 then 1 else 0) = m) : blkN ((n : Int) + 1) = blkN (n : Int) + m := by
  have e : ((n : Int) + 1) = ((n + 1 : Nat) : Int) := by omega
  rw [e, blkN_nat (n + 1) h, blkN_nat n (Nat.le_of_lt h), ← hm]
  split
  · omega
  · omega
theorem blocks_i (s r : Int) (w : World) (h : (blkN s : Int) = r) : Calls Try.prog 18 #[.int .i64 s] w fun e w' => e = .returned (.int .i64 r) ∧ w' = w := by subst h; exact blocks_calls s w
set_option maxHeartbeats 4000000 in
theorem law_blocks (s : Int) (w : World) (hs : 0 ≤ s ∧ s ≤ 65535) : Calls Try.prog 6 #[.int .u16 s] w (RetT w) := by
  obtain ⟨x, rfl⟩ := Int.eq_ofNat_of_zero_le hs.1
  obtain ⟨n, hn⟩ : ∃ n, x % 17920 = n := ⟨_, rfl⟩
  have hn2 : n < 17920 := by omega
  have e0 : IntKind.i64.wrap (x : Int) = (x : Int) := by rw [IntKind.wrap_i64]; omega
  have e1 : (x : Int).tmod 17920 = (n : Int) := by rw [Int.tmod_eq_emod_of_nonneg (by omega)]; omega
  have e2 : (x : Int) % 17920 = (n : Int) := by omega
  obtain ⟨L, hL⟩ : ∃ L, spansOf 0 (n : Int) = L := ⟨_, rfl⟩
  obtain ⟨B, hB⟩ : ∃ B, blkN (n : Int) = B := ⟨_, rfl⟩
  have hlen := spans0_len n hn2
  have hat := fun k hk => spans0_at n k hn2 hk
  have hlB : B ≤ 70 := by rw [← hB]; exact blkN_le _
  rw [hL, hB] at hlen
  rw [hL] at hat
  have HL := Hd.mk hL
  have HLN := Hd.mk hlen
  have HBN : Hd ((blkN (n : Int) : Int) = (B : Int)) := ⟨by rw [hB]⟩
  have HAT := Hd.mk hat
  obtain ⟨m, hm⟩ : ∃ m : Nat, (if n % 256 = 0 then 1 else 0) = m := ⟨_, rfl⟩
  have HB1 : Hd ((blkN ((n : Int) + 1) : Int) = (B : Int) + m) := ⟨by rw [blk_succ n m hn2 hm, hB]; omega⟩
  have hm1 : (n % 256 = 0 ∧ m = 1) ∨ (¬ n % 256 = 0 ∧ m = 0) := by
    rw [← hm]; split
    · exact .inl ⟨by assumption, rfl⟩
    · exact .inr ⟨by assumption, rfl⟩
  have hm2 : m ≤ 1 := by omega
  clear hs hn hL hB hlen hat hm
  rcases hm1 with ⟨hz, rfl⟩ | ⟨hz, rfl⟩
  all_goals
    first
      | have e3 : ((n : Int).tmod 256 == 0) = true := by rw [Int.tmod_eq_emod_of_nonneg (by omega), beq_iff_eq]; omega
      | have e3 : ((n : Int).tmod 256 == 0) = false := by rw [Int.tmod_eq_emod_of_nonneg (by omega), beq_eq_false_iff_ne]; omega
    first
      | have e4 : ((n : Int) % 256 == 0) = true := by rw [beq_iff_eq]; omega
      | have e4 : ((n : Int) % 256 == 0) = false := by rw [beq_eq_false_iff_ne]; omega
    clear hz
    have T1 : Hd True := ⟨trivial⟩
    go_enter Try.func6, Try.ntmps6
    go_wp2_with (first
      | (go_at_call 16; refine (spans_calls 0 (n : Int) _).mono ?_; rintro e w1 ⟨v1, rfl, ho, hb⟩; rw [HL.out, HLN.out] at ho; obtain ⟨A1, c1, rfl, _, hr1, _⟩ := own_rc ho; have HR1 := Hd.mk hr1; have HB := Hd.mk hb; clear ho hb hr1)
      | (go_at_call 18; clear T1; refine (blocks_i ((n : Int) + 1) _ _ HB1.out).mono ?_; rintro e w2 ⟨rfl, rfl⟩)
      | (go_at_call 18; refine (blocks_i (n : Int) _ _ HBN.out).mono ?_; rintro e w2 ⟨rfl, rfl⟩))
    go_loop [6] (fun i => ∃ k : Nat, k ≤ B ∧ i = .int .i64 (k : Int)) (fun i => B - (intOf i).toNat)
    case atStart => exact ⟨0, Nat.zero_le _, rfl⟩
    case round =>
      obtain ⟨k, hk, rfl⟩ := hrel
      by_cases hlt : k < B
      · have hkl : k < L.length := by rw [HLN.out]; exact hlt
        obtain ⟨b1, o1, rfl, hb1, hr1⟩ := rc_span HR1.out (by omega)
        have hx := hr1 k hkl
        have h0 := hx 0 _ rfl
        have h1 := hx 1 _ rfl
        obtain ⟨g0, g1⟩ := HAT.out k hkl
        rw [g0, Nat.add_zero] at h0
        rw [g1] at h1
        clear hx hr1 g0 g1 hkl
        go_wp2
        go_round
        case rel => exact ⟨k + 1, by omega, by go_num⟩
        case measure => simp [intOf]; omega
      · obtain rfl : k = B := by omega
        go_wp2_with (first
          | (go_at_call 17; refine (rspans_calls 0 (n : Int) _).mono ?_; rintro e w3 ⟨v3, rfl, ho, hb⟩; rw [HL.out, HLN.out] at ho; obtain ⟨A3, c3, rfl, _, hr3, _⟩ := own_rc ho; have HR3 := Hd.mk hr3; have HR1 := Hd.mk (HR1.out.below hb); have HB := Hd.mk (below_then HB.out HB.out.size hb); clear ho hb hr3)
          | (go_at_call 15; refine (spans_same_any A1 A3 _ _ c1 c3 L L _ HR1.out HR3.out HLN.out.symm HLN.out.symm (by rw [HLN.out]; omega) true (by simp)).mono ?_; rintro e w4 ⟨rfl, hb⟩; have HB := Hd.mk (below_then HB.out HB.out.size hb); clear hb)
          | (go_at_call 13; refine (known_calls _).mono ?_; rintro e w6 ⟨rfl, hb⟩; have HB := Hd.mk (below_then HB.out HB.out.size hb); clear hb))
        go_ret
        exact ⟨rfl, HB.out⟩
end Go.Proofs.Ytmebgejjaljhgaa
