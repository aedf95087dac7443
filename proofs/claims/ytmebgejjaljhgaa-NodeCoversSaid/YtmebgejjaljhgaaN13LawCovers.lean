/- Walks: the law NodeCovers. -/
import Derived.BigQuiet
import Derived.Test.YtmebgejjaljhgaaN13LawBlocks
import Derived.Test.YtmebgejjaljhgaaBase11
namespace Go.Proofs.Ytmebgejjaljhgaa
open Go.RowKit Go.Sac
set_option linter.unusedVariables false
set_option linter.unusedSimpArgs false

theorem spT_at (a t n k : Nat) (h : k < n) : (spT a t n)[k]? = some (spanAt a t (a / 256 + k)) := by
  unfold spT
  rw [List.getElem?_map, List.getElem?_range h]
  rfl
theorem mod_covers (s : Nat) : (s : Int).tmod 17920 = ((s % 17920 : Nat) : Int) ∧ (s : Int) % 17920 = ((s % 17920 : Nat) : Int) := by
  rw [Int.tmod_eq_emod_of_nonneg (by omega)]
  omega
/-- what the last region yields -/
def CV0 (b1 o1 N c1 a n0 S : Nat) (k0 f0 bv : Int) (j : Nat) (w : World) (v : Value) : Prop :=
  match j with | 0 => v = Value.slice (some ⟨b1, o1, none⟩) N c1 | 1 => v = Value.pointer (some ⟨b1, o1, none⟩) | 2 => v = Value.pointer (some ⟨b1, o1, none⟩) | 3 => v = Value.int .i64 k0 | 4 => v = Value.int .i64 (k0 * 256) | 5 => v = Value.slice (some ⟨b1, o1, none⟩) N c1 | 6 => v = Value.pointer (some ⟨b1, o1, none⟩) | 7 => v = Value.pointer (some ⟨b1, o1 + 1, none⟩) | 8 => v = Value.int .i64 f0 | 9 => v = Value.int .i64 (k0 * 256 + f0) | 10 => v = Value.int .i64 (a : Int) | 11 => v = Value.bool true | 12 => v = Value.bool true | 13 => v = Value.int .i64 (S : Int) | 14 => v = Value.int .i64 (1 + (n0 : Int)) | 15 => v = Value.bool true | 16 => v = Value.bool true | 17 => v = Value.bool true | 18 => v = Value.int .i64 (a : Int) | 19 => v = Value.int .i64 (1 + (n0 : Int)) | 20 => v = Value.int .i64 ((a : Int) + (1 + (n0 : Int))) | 21 => v = Value.bool false | 22 => v = Value.bool false | 23 => v = Value.slice (some ⟨b1, o1, none⟩) N c1 | 24 => v = Value.int .i64 (N : Int) | 25 => v = Value.int .i64 (a : Int) | 26 => v = Value.int .i64 (1 + (n0 : Int)) | 27 => v = Value.int .i64 ((a : Int) + (1 + (n0 : Int))) | 28 => v = Value.int .i64 bv | 29 => v = Value.int .i64 (a : Int) | 30 => v = Value.int .i64 k0 | 31 => v = Value.int .i64 (bv - k0) | 32 => v = Value.bool true | 33 => v = Value.bool true | 34 => v = Value.bool true | 35 => v = Value.bool true | 36 => v = Value.bool true | 37 => v = Value.bool true | 38 => v = Value.bool true | _ => True
theorem CV0_stab {b1 o1 N c1 a n0 S : Nat} {k0 f0 bv : Int} (i j : Nat) (w w' : World) (v : Value) (h : CV0 b1 o1 N c1 a n0 S k0 f0 bv j w v) : CV0 b1 o1 N c1 a n0 S k0 f0 bv j w' v := by
  rcases j with _ | _ | _ | _ | _ | _ | _ | _ | _ | _ | _ | _ | _ | _ | _ | _ | _ | _ | _ | _ | _ | _ | _ | _ | _ | _ | _ | _ | _ | _ | _ | _ | _ | _ | _ | _ | _ | _ | _ | j <;> exact h
/-- what the last region yields -/
def CV1 (b1 o1 N c1 a n0 S : Nat) (k0 f0 bv : Int) (j : Nat) (w : World) (v : Value) : Prop :=
  match j with | 0 => v = Value.slice (some ⟨b1, o1, none⟩) N c1 | 1 => v = Value.pointer (some ⟨b1, o1, none⟩) | 2 => v = Value.pointer (some ⟨b1, o1, none⟩) | 3 => v = Value.int .i64 k0 | 4 => v = Value.int .i64 (k0 * 256) | 5 => v = Value.slice (some ⟨b1, o1, none⟩) N c1 | 6 => v = Value.pointer (some ⟨b1, o1, none⟩) | 7 => v = Value.pointer (some ⟨b1, o1 + 1, none⟩) | 8 => v = Value.int .i64 f0 | 9 => v = Value.int .i64 (k0 * 256 + f0) | 10 => v = Value.int .i64 (a : Int) | 11 => v = Value.bool true | 12 => v = Value.bool true | 13 => v = Value.int .i64 (S : Int) | 14 => v = Value.int .i64 (1 + (n0 : Int)) | 15 => v = Value.bool true | 16 => v = Value.bool true | 17 => v = Value.bool true | 18 => v = Value.int .i64 (a : Int) | 19 => v = Value.int .i64 (1 + (n0 : Int)) | 20 => v = Value.int .i64 ((a : Int) + (1 + (n0 : Int))) | 21 => v = Value.bool true | 22 => v = Value.bool true | 23 => v = undef | 24 => v = undef | 25 => v = undef | 26 => v = undef | 27 => v = undef | 28 => v = undef | 29 => v = undef | 30 => v = undef | 31 => v = undef | 32 => v = undef | 33 => v = Value.bool true | 34 => v = Value.bool true | 35 => v = Value.bool true | 36 => v = Value.bool true | 37 => v = Value.bool true | 38 => v = Value.bool true | _ => True
theorem CV1_stab {b1 o1 N c1 a n0 S : Nat} {k0 f0 bv : Int} (i j : Nat) (w w' : World) (v : Value) (h : CV1 b1 o1 N c1 a n0 S k0 f0 bv j w v) : CV1 b1 o1 N c1 a n0 S k0 f0 bv j w' v := by
  rcases j with _ | _ | _ | _ | _ | _ | _ | _ | _ | _ | _ | _ | _ | _ | _ | _ | _ | _ | _ | _ | _ | _ | _ | _ | _ | _ | _ | _ | _ | _ | _ | _ | _ | _ | _ | _ | _ | _ | _ | j <;> exact h
set_option maxRecDepth 100000 in
set_option maxHeartbeats 16000000 in
theorem law_covers (s r : Int) (w : World) (hs : 0 ≤ s ∧ s ≤ 65535) (hr : 0 ≤ r ∧ r ≤ 65535) : Calls Try.prog 5 #[.int .u16 s, .int .u16 r] w (RetT w) := by
  obtain ⟨x, rfl⟩ := Int.eq_ofNat_of_zero_le hs.1
  obtain ⟨y, rfl⟩ := Int.eq_ofNat_of_zero_le hr.1
  have hm1 := mod_covers x
  have hm2 := mod_covers y
  obtain ⟨a, ha⟩ : ∃ a, x % 17920 = a := ⟨_, rfl⟩
  obtain ⟨n0, hn0⟩ : ∃ n, y % 17920 = n := ⟨_, rfl⟩
  rw [ha] at hm1
  rw [hn0] at hm2
  obtain ⟨e1, e2⟩ := hm1
  obtain ⟨e3, e4⟩ := hm2
  have ha2 : a < 17920 := by omega
  have hn2 : n0 < 17920 := by omega
  have w1 : IntKind.i64.wrap (x : Int) = (x : Int) := by rw [IntKind.wrap_i64]; omega
  have w2 : IntKind.i64.wrap (y : Int) = (y : Int) := by rw [IntKind.wrap_i64]; omega
  have HS : Hd (spansOf (a : Int) (1 + (n0 : Int)) = spL a (a + (n0 + 1))) := ⟨by
    rw [show (1 : Int) + (n0 : Int) = ((n0 + 1 : Nat) : Int) by omega]
    exact spans_yes (by omega) (by omega) (by omega)⟩
  obtain ⟨t, ht⟩ : ∃ t, a + (n0 + 1) = t := ⟨_, rfl⟩
  obtain ⟨N, hN⟩ : ∃ N, nbS a t = N := ⟨_, rfl⟩
  rw [ht] at HS
  have hat : a < t := by omega
  have ht4 : t ≤ 35840 := by omega
  have hN0 : 0 < N := by rw [← hN]; unfold nbS; omega
  have hN2 : N ≤ 200 := by rw [← hN]; unfold nbS; omega
  have HN := Hd.mk hN
  have HT := Hd.mk ht
  have HLN : Hd ((spL a t).length = N) := ⟨by unfold spL; rw [spT_len, hN]⟩
  clear hs hr ha hn0 hN ht
  go_enter Try.func5, Try.ntmps5
  go_wp2_with (go_at_call 16; refine (spans_calls (a : Int) (1 + (n0 : Int)) _).mono ?_; rintro e wb ⟨v1, rfl, ho, hb⟩; rw [HS.out, HLN.out] at ho; obtain ⟨A1, c1, rfl, _, hr1, _⟩ := own_rc ho; have HR1 := Hd.mk hr1; have HB := Hd.mk hb; clear ho hb hr1)
  obtain ⟨b1, o1, rfl, hb1, hr1⟩ := rc_span HR1.out (by rw [HLN.out]; exact hN0)
  have HF : Hd (∀ k, k < N → ∀ W, Below wb.heap.size wb W → W.rangeAt b1 (o1 + k * 3) (spv (spanAt a t (a / 256 + k)))) := ⟨fun k hk W hW j v hj => by
    have hkl : k < (spL a t).length := by rw [HLN.out]; exact hk
    have e : (spL a t)[k] = spanAt a t (a / 256 + k) := by
      have := spT_at a t (nbS a t) k (by rw [HN.out]; exact hk)
      rw [show (spT a t (nbS a t))[k]? = some (spL a t)[k] from List.getElem?_eq_getElem hkl] at this
      exact Option.some.inj this
    have h1 := hr1 k hkl j v (by rw [e]; exact hj)
    exact (hW.cell (p := ⟨b1, o1 + k * 3 + j, none⟩) hb1).trans h1⟩
  clear hr1
  go_loopw [8, 9] (fun sm i wr => ∃ (k S : Nat), k ≤ N ∧ Hd (S + a = atJ a t k) ∧ S ≤ 40000 ∧ i = .int .i64 (k : Int) ∧ sm = .int .i64 (S : Int) ∧ Hd (Below wb.heap.size wb wr)) (fun _ i _ => N - (intOf i).toNat)
  case atStart => exact ⟨0, 0, Nat.zero_le _, ⟨by simp [atJ]⟩, by omega, rfl, rfl, ⟨Below.refl _ _⟩⟩
  case round =>
    obtain ⟨k, S, hk, HSM, hS, rfl, rfl, HW⟩ := hrel
    by_cases hlt : k < N
    · have hx := HF.out k hlt wr HW.out
      obtain ⟨K, hK⟩ : ∃ K, a / 256 + k = K := ⟨_, rfl⟩
      have hKt : 256 * K < t := by have := HN.out; unfold nbS at this; omega
      rw [hK] at hx
      have h0 := hx 0 _ rfl
      have h1 := hx 1 _ rfl
      have h2 := hx 2 _ rfl
      rw [Nat.add_zero] at h0
      change _ = some (Value.int .i64 ((max a (256 * K) - 256 * K : Nat) : Int)) at h1
      change _ = some (Value.int .i64 ((min t (256 * K + 256) - 256 * K : Nat) : Int)) at h2
      change _ = some (Value.int .i64 (K : Int)) at h0
      obtain ⟨F, hF⟩ : ∃ F, max a (256 * K) - 256 * K = F := ⟨_, rfl⟩
      obtain ⟨T, hT⟩ : ∃ T, min t (256 * K + 256) - 256 * K = T := ⟨_, rfl⟩
      rw [hF] at h1
      rw [hT] at h2
      have hFT : F < T := by omega
      have hT6 : T ≤ 256 := by omega
      have hst : S + T - F + a = atJ a t (k + 1) := by
        have h3 := HSM.out
        unfold atJ at h3 ⊢
        rw [if_neg (by omega)]
        split at h3
        · omega
        · omega
      have hSb : S + T - F ≤ 40000 := by
        have : atJ a t (k + 1) ≤ t := by unfold atJ; split <;> omega
        omega
      obtain ⟨S2, hS2⟩ : ∃ S2, S + T - F = S2 := ⟨_, rfl⟩
      rw [hS2] at hst hSb
      obtain ⟨f, hf⟩ : ∃ f : Int, (F : Int) = f := ⟨_, rfl⟩
      obtain ⟨tt, htt⟩ : ∃ f : Int, (T : Int) = f := ⟨_, rfl⟩
      obtain ⟨kk, hkk⟩ : ∃ f : Int, (K : Int) = f := ⟨_, rfl⟩
      rw [hf] at h1
      rw [htt] at h2
      rw [hkk] at h0
      have d1 : decide (f ≥ tt) = false := by simp only [decide_eq_false_iff_not]; omega
      have d2 : decide (tt > 256) = false := by simp only [decide_eq_false_iff_not]; omega
      have d3 : decide (f < 0) = false := by simp only [decide_eq_false_iff_not]; omega
      have HST := Hd.mk hst
      have HS2 : Hd ((S : Int) + tt - f = (S2 : Int)) := ⟨by omega⟩
      have hb1' : 0 ≤ f ∧ f < tt ∧ tt ≤ 256 := by omega
      have hkN : (k : Int) < N := by omega
      rcases Nat.eq_zero_or_pos k with rfl | hk0
      · simp only [Nat.zero_mul, Nat.add_zero] at h0 h1 h2
        clear hx hF hT hFT hst hK hKt hf htt hkk hT6 hS2
        go_wp2
        go_quiet (fail)
        go_wp2
        go_quiet (fail)
        go_wp2
        go_roundw
        case rel => exact ⟨1, S2, by omega, HST, hSb, by go_num, by rw [← HS2.out], ⟨below_drewN HW.out _⟩⟩
        case measure => simp [intOf]; omega
      · obtain ⟨k', hk'⟩ : ∃ k', k = k' + 1 := ⟨k - 1, by omega⟩
        have hkm : (k : Int) - 1 = (k' : Int) := by omega
        have hy := HF.out k' (by omega) wr HW.out
        obtain ⟨K', hK'⟩ : ∃ K', a / 256 + k' = K' := ⟨_, rfl⟩
        rw [hK'] at hy
        have g0 := hy 0 _ rfl
        have g2 := hy 2 _ rfl
        rw [Nat.add_zero] at g0
        change _ = some (Value.int .i64 ((min t (256 * K' + 256) - 256 * K' : Nat) : Int)) at g2
        change _ = some (Value.int .i64 (K' : Int)) at g0
        have hT' : ((min t (256 * K' + 256) - 256 * K' : Nat) : Int) = 256 := by omega
        rw [hT'] at g2
        obtain ⟨kj, hkj⟩ : ∃ f : Int, (K' : Int) = f := ⟨_, rfl⟩
        rw [hkj] at g0
        have d4 : decide ((k : Int) > 0) = true := by simp only [decide_eq_true_eq]; omega
        have d4' : decide (0 < k) = true := by simpa using hk0
        have d5 : (kk != kj + 1) = false := by rw [bne_eq_false_iff_eq]; omega
        have d6 : (f != 0) = false := by rw [bne_eq_false_iff_eq]; omega
        have hkjb : 0 ≤ kj ∧ kj ≤ 200 := by omega
        have hk'2 : (k' : Int) < N := by omega
        clear hx hy hF hT hFT hst hK hKt hk' hK' hT' hf htt hkk hT6 hkj hS2
        go_wp2
        go_quiet (fail)
        go_wp2
        go_quiet (fail)
        go_wp2
        go_roundw
        case rel => exact ⟨k + 1, S2, by omega, HST, hSb, by go_num, by rw [← HS2.out], ⟨below_drewN HW.out _⟩⟩
        case measure => simp [intOf]; omega
    · obtain rfl : N = k := by omega
      have hSt : S + a = t := by
        have h3 := HSM.out
        have h4 := HN.out
        unfold atJ at h3
        unfold nbS at h4
        rw [if_neg (by omega)] at h3
        omega
      have htt := HT.out
      have hz := HF.out 0 hN0 wr HW.out
      have h0 := hz 0 _ rfl
      have h1 := hz 1 _ rfl
      simp only [Nat.zero_mul, Nat.add_zero] at h0 h1
      change _ = some (Value.int .i64 ((a / 256 : Nat) : Int)) at h0
      change _ = some (Value.int .i64 ((max a (256 * (a / 256)) - 256 * (a / 256) : Nat) : Int)) at h1
      obtain ⟨k0, hk0⟩ : ∃ f : Int, ((a / 256 : Nat) : Int) = f := ⟨_, rfl⟩
      obtain ⟨f0, hf0⟩ : ∃ f : Int, ((max a (256 * (a / 256)) - 256 * (a / 256) : Nat) : Int) = f := ⟨_, rfl⟩
      rw [hk0] at h0
      rw [hf0] at h1
      have HH0 := Hd.mk h0
      have HH1 := Hd.mk h1
      have hq : (a : Int).tdiv 256 = k0 := by rw [Int.tdiv_eq_ediv_of_nonneg (by omega), ← hk0]; omega
      have s1 : (k0 * 256 + f0 == (a : Int)) = true := by rw [beq_iff_eq, ← hk0, ← hf0]; omega
      have s2 : ((S : Int) == 1 + (n0 : Int)) = true := by rw [beq_iff_eq]; omega
      have s3 : (N : Int) ≠ 0 := by omega
      have hkb : 0 ≤ k0 ∧ k0 ≤ 200 ∧ 0 ≤ f0 ∧ f0 ≤ 256 := by omega
      obtain ⟨bv, hbv⟩ : ∃ bv : Int, (blkN ((a : Int) + (1 + (n0 : Int))) : Int) = bv := ⟨_, rfl⟩
      have HBV := Hd.mk hbv
      have hbvb : 0 ≤ bv ∧ bv ≤ 70 := by have := blkN_le ((a : Int) + (1 + (n0 : Int))); omega
      have HNB := Hd.mk hk0
      have wA : IntKind.i64.wrap (k0 * 256) = k0 * 256 := by rw [IntKind.wrap_i64]; omega
      have wB : IntKind.i64.wrap (k0 * 256 + f0) = k0 * 256 + f0 := by rw [IntKind.wrap_i64]; omega
      have wC : IntKind.i64.wrap ((a : Int) + (1 + (n0 : Int))) = (a : Int) + (1 + (n0 : Int)) := by rw [IntKind.wrap_i64]; omega
      have wE : IntKind.i64.wrap k0 = k0 := by rw [IntKind.wrap_i64]; omega
      have wD : IntKind.i64.wrap (bv - k0) = bv - k0 := by rw [IntKind.wrap_i64]; omega
      clear hz hk0 hf0 htt hSt hlt hbv
      by_cases hbig : (a : Int) + (1 + (n0 : Int)) > 17920
      · have s4 : decide ((a : Int) + (1 + (n0 : Int)) > 17920) = true := by simp only [decide_eq_true_eq]; omega
        clear hbig
        go_wp2
        refine region_fam (fun f => #[Value.int .u16 (x : Int), Value.int .u16 (y : Int), undef, undef, f 38, Value.int .i64 (a : Int), Value.int .i64 (1 + (n0 : Int)), Value.slice (some ⟨b1, o1, none⟩) N c1, Value.int .i64 (S : Int), Value.int .i64 (N : Int), Value.int .u16 (x : Int), Value.int .i64 (x : Int), Value.int .i64 (a : Int), Value.int .u16 (y : Int), Value.int .i64 (y : Int), Value.int .i64 (n0 : Int), Value.int .i64 (1 + (n0 : Int)), Value.int .i64 (a : Int), Value.int .i64 (1 + (n0 : Int)), Value.slice (some ⟨b1, o1, none⟩) N c1, Value.int .i64 (N : Int), Value.slice (some ⟨b1, o1, none⟩) N c1, Value.int .i64 (N : Int), Value.bool false, u24, u25, u26, u27, u28, u29, u30, u31, u32, u33, u34, u35, u36, u37, u38, u39, u40, u41, u42, u43, u44, u45, u46, u47, u48, u49, u50, u51, u52, u53, u54, u55, u56, u57, u58, u59, u60, u61, u62, u63, u64, u65, u66, u67, u68, u69, u70, u71, u72, u73, u74, u75, u76, u77, u78, u79, u80, u81, u82, u83, u84, u85, u86, u87, u88, u89, u90, u91, u92, u93, u94, u95, u96, u97, u98, u99, u100, u101, Value.slice (some ⟨b1, o1, none⟩) N c1, Value.int .i64 (N : Int), Value.bool ((N : Int) == 0), f 0, f 1, f 2, f 3, f 4, f 5, f 6, f 7, f 8, f 9, f 10, f 11, f 12, f 13, f 14, f 15, f 16, f 17, f 18, f 19, f 20, f 21, f 22, f 23, f 24, f 25, f 26, f 27, f 28, f 29, f 30, f 31, f 32, f 33, f 34, f 35, f 36, f 37])
          (CV1 b1 o1 N c1 a n0 S k0 f0 bv) (fun W => Below wr.heap.size wr W) (fun _ _ _ => True) (by kernel_rfl) (by kernel_rfl) (fun i => if i = 38 then u4 else undef) rfl (Below.refl _ _).drew (fun i j w w' v _ _ h => CV1_stab i j w w' v h) ?put ?step ?fin
        case put =>
          intro i o ho f v
          rcases i with _ | _ | _ | _ | _ | _ | _ | _ | _ | _ | _ | _ | _ | _ | _ | _ | _ | _ | _ | _ | _ | _ | _ | _ | _ | _ | _ | _ | _ | _ | _ | _ | _ | _ | _ | _ | _ | _ | _ | i
          all_goals first | (injection ho with ho; subst ho; rfl) | (cases ho)
        case step =>
          intro i o ho f w6 hG hp
          have h0 := (hG.cell (p := ⟨b1, o1, none⟩) (World.block_lt_of_cell? _ _ HH0.out)).trans HH0.out
          have h1 := (hG.cell (p := ⟨b1, o1 + 1, none⟩) (World.block_lt_of_cell? _ _ HH1.out)).trans HH1.out
          rcases i with _ | _ | _ | _ | _ | _ | _ | _ | _ | _ | _ | _ | _ | _ | _ | _ | _ | _ | _ | _ | _ | _ | _ | _ | _ | _ | _ | _ | _ | _ | _ | _ | _ | _ | _ | _ | _ | _ | _ | i
          · injection ho with ho; subst ho
            refine wpOp_go rfl rfl ?_
            go_simp
            first | exact ⟨hG, trivial, rfl⟩ | exact ⟨hG, rfl⟩ | exact rfl
          · injection ho with ho; subst ho
            have h0 : f 0 = _ := hp ⟨0, .data⟩ (by simp) rfl
            simp only [h0]
            refine wpOp_go rfl rfl ?_
            go_simp
            first | exact ⟨hG, trivial, rfl⟩ | exact ⟨hG, rfl⟩ | exact rfl
          · injection ho with ho; subst ho
            have h1 : f 1 = _ := hp ⟨1, .data⟩ (by simp) rfl
            simp only [h1]
            refine wpOp_go rfl rfl ?_
            go_simp
            first | exact ⟨hG, trivial, rfl⟩ | exact ⟨hG, rfl⟩ | exact rfl
          · injection ho with ho; subst ho
            have h2 : f 2 = _ := hp ⟨2, .data⟩ (by simp) rfl
            simp only [h2]
            refine wpOp_go rfl rfl ?_
            go_simp
            first | exact ⟨hG, trivial, rfl⟩ | exact ⟨hG, rfl⟩ | exact rfl
          · injection ho with ho; subst ho
            have h3 : f 3 = _ := hp ⟨3, .data⟩ (by simp) rfl
            simp only [h3]
            refine wpOp_go rfl rfl ?_
            go_simp
            first | exact ⟨hG, trivial, rfl⟩ | exact ⟨hG, rfl⟩ | exact rfl
          · injection ho with ho; subst ho
            refine wpOp_go rfl rfl ?_
            go_simp
            first | exact ⟨hG, trivial, rfl⟩ | exact ⟨hG, rfl⟩ | exact rfl
          · injection ho with ho; subst ho
            have h5 : f 5 = _ := hp ⟨5, .data⟩ (by simp) rfl
            simp only [h5]
            refine wpOp_go rfl rfl ?_
            go_simp
            first | exact ⟨hG, trivial, rfl⟩ | exact ⟨hG, rfl⟩ | exact rfl
          · injection ho with ho; subst ho
            have h6 : f 6 = _ := hp ⟨6, .data⟩ (by simp) rfl
            simp only [h6]
            refine wpOp_go rfl rfl ?_
            go_simp
            first | exact ⟨hG, trivial, rfl⟩ | exact ⟨hG, rfl⟩ | exact rfl
          · injection ho with ho; subst ho
            have h7 : f 7 = _ := hp ⟨7, .data⟩ (by simp) rfl
            simp only [h7]
            refine wpOp_go rfl rfl ?_
            go_simp
            first | exact ⟨hG, trivial, rfl⟩ | exact ⟨hG, rfl⟩ | exact rfl
          · injection ho with ho; subst ho
            have h4 : f 4 = _ := hp ⟨4, .data⟩ (by simp) rfl
            have h8 : f 8 = _ := hp ⟨8, .data⟩ (by simp) rfl
            simp only [h4, h8]
            refine wpOp_go rfl rfl ?_
            go_simp
            first | exact ⟨hG, trivial, rfl⟩ | exact ⟨hG, rfl⟩ | exact rfl
          · injection ho with ho; subst ho
            refine wpOp_go rfl rfl ?_
            go_simp
            first | exact ⟨hG, trivial, rfl⟩ | exact ⟨hG, rfl⟩ | exact rfl
          · injection ho with ho; subst ho
            have h9 : f 9 = _ := hp ⟨9, .data⟩ (by simp) rfl
            have h10 : f 10 = _ := hp ⟨10, .data⟩ (by simp) rfl
            simp only [h9, h10]
            refine wpOp_go rfl rfl ?_
            go_simp
            first | exact ⟨hG, trivial, rfl⟩ | exact ⟨hG, rfl⟩ | exact rfl
          · injection ho with ho; subst ho
            have h11 : f 11 = _ := hp ⟨11, .data⟩ (by simp) rfl
            simp only [h11]
            refine wpOp_go rfl rfl ?_
            go_simp
            first | exact ⟨hG, trivial, rfl⟩ | exact ⟨hG, rfl⟩ | exact rfl
          · injection ho with ho; subst ho
            have h12 : f 12 = _ := hp ⟨12, .guard⟩ (by simp) rfl
            simp only [h12]
            refine wpOp_go rfl rfl ?_
            go_simp
            first | exact ⟨hG, trivial, rfl⟩ | exact ⟨hG, rfl⟩ | exact rfl
          · injection ho with ho; subst ho
            have h12 : f 12 = _ := hp ⟨12, .guard⟩ (by simp) rfl
            simp only [h12]
            refine wpOp_go rfl rfl ?_
            go_simp
            first | exact ⟨hG, trivial, rfl⟩ | exact ⟨hG, rfl⟩ | exact rfl
          · injection ho with ho; subst ho
            have h13 : f 13 = _ := hp ⟨13, .data⟩ (by simp) rfl
            have h14 : f 14 = _ := hp ⟨14, .data⟩ (by simp) rfl
            have h12 : f 12 = _ := hp ⟨12, .guard⟩ (by simp) rfl
            simp only [h13, h14, h12]
            refine wpOp_go rfl rfl ?_
            go_simp
            first | exact ⟨hG, trivial, rfl⟩ | exact ⟨hG, rfl⟩ | exact rfl
          · injection ho with ho; subst ho
            have h12 : f 12 = _ := hp ⟨12, .data⟩ (by simp) rfl
            have h15 : f 15 = _ := hp ⟨15, .data⟩ (by simp) rfl
            simp only [h12, h15]
            refine wpOp_go rfl rfl ?_
            go_simp
            first | exact ⟨hG, trivial, rfl⟩ | exact ⟨hG, rfl⟩ | exact rfl
          · injection ho with ho; subst ho
            have h16 : f 16 = _ := hp ⟨16, .data⟩ (by simp) rfl
            simp only [h16]
            refine wpOp_go rfl rfl ?_
            go_simp
            first | exact ⟨hG, trivial, rfl⟩ | exact ⟨hG, rfl⟩ | exact rfl
          · injection ho with ho; subst ho
            have h17 : f 17 = _ := hp ⟨17, .guard⟩ (by simp) rfl
            simp only [h17]
            refine wpOp_go rfl rfl ?_
            go_simp
            first | exact ⟨hG, trivial, rfl⟩ | exact ⟨hG, rfl⟩ | exact rfl
          · injection ho with ho; subst ho
            have h17 : f 17 = _ := hp ⟨17, .guard⟩ (by simp) rfl
            simp only [h17]
            refine wpOp_go rfl rfl ?_
            go_simp
            first | exact ⟨hG, trivial, rfl⟩ | exact ⟨hG, rfl⟩ | exact rfl
          · injection ho with ho; subst ho
            have h18 : f 18 = _ := hp ⟨18, .data⟩ (by simp) rfl
            have h19 : f 19 = _ := hp ⟨19, .data⟩ (by simp) rfl
            have h17 : f 17 = _ := hp ⟨17, .guard⟩ (by simp) rfl
            simp only [h18, h19, h17]
            refine wpOp_go rfl rfl ?_
            go_simp
            first | exact ⟨hG, trivial, rfl⟩ | exact ⟨hG, rfl⟩ | exact rfl
          · injection ho with ho; subst ho
            have h20 : f 20 = _ := hp ⟨20, .data⟩ (by simp) rfl
            have h17 : f 17 = _ := hp ⟨17, .guard⟩ (by simp) rfl
            simp only [h20, h17]
            refine wpOp_go rfl rfl ?_
            go_simp
            first | exact ⟨hG, trivial, rfl⟩ | exact ⟨hG, rfl⟩ | exact rfl
          · injection ho with ho; subst ho
            have h21 : f 21 = _ := hp ⟨21, .data⟩ (by simp) rfl
            have h17 : f 17 = _ := hp ⟨17, .guard⟩ (by simp) rfl
            simp only [h21, h17]
            refine wpOp_go rfl rfl ?_
            go_simp
            first | exact ⟨hG, trivial, rfl⟩ | exact ⟨hG, rfl⟩ | exact rfl
          · injection ho with ho; subst ho
            have h22 : f 22 = _ := hp ⟨22, .guard⟩ (by simp) rfl
            simp only [h22]
            refine wpOp_past rfl rfl ?_
            exact ⟨undef, rfl, hG, trivial, rfl⟩
          · injection ho with ho; subst ho
            have h22 : f 22 = _ := hp ⟨22, .guard⟩ (by simp) rfl
            simp only [h22]
            refine wpOp_past rfl rfl ?_
            exact ⟨undef, rfl, hG, trivial, rfl⟩
          · injection ho with ho; subst ho
            have h22 : f 22 = _ := hp ⟨22, .guard⟩ (by simp) rfl
            simp only [h22]
            refine wpOp_past rfl rfl ?_
            exact ⟨undef, rfl, hG, trivial, rfl⟩
          · injection ho with ho; subst ho
            have h22 : f 22 = _ := hp ⟨22, .guard⟩ (by simp) rfl
            simp only [h22]
            refine wpOp_past rfl rfl ?_
            exact ⟨undef, rfl, hG, trivial, rfl⟩
          · injection ho with ho; subst ho
            have h22 : f 22 = _ := hp ⟨22, .guard⟩ (by simp) rfl
            simp only [h22]
            refine wpOp_past rfl rfl ?_
            exact ⟨undef, rfl, hG, trivial, rfl⟩
          · injection ho with ho; subst ho
            have h22 : f 22 = _ := hp ⟨22, .guard⟩ (by simp) rfl
            simp only [h22]
            refine wpOp_past rfl rfl ?_
            exact ⟨undef, rfl, hG, trivial, rfl⟩
          · injection ho with ho; subst ho
            have h22 : f 22 = _ := hp ⟨22, .guard⟩ (by simp) rfl
            simp only [h22]
            refine wpOp_past rfl rfl ?_
            exact ⟨undef, rfl, hG, trivial, rfl⟩
          · injection ho with ho; subst ho
            have h22 : f 22 = _ := hp ⟨22, .guard⟩ (by simp) rfl
            simp only [h22]
            refine wpOp_past rfl rfl ?_
            exact ⟨undef, rfl, hG, trivial, rfl⟩
          · injection ho with ho; subst ho
            have h22 : f 22 = _ := hp ⟨22, .guard⟩ (by simp) rfl
            simp only [h22]
            refine wpOp_past rfl rfl ?_
            exact ⟨undef, rfl, hG, trivial, rfl⟩
          · injection ho with ho; subst ho
            have h22 : f 22 = _ := hp ⟨22, .guard⟩ (by simp) rfl
            simp only [h22]
            refine wpOp_past rfl rfl ?_
            exact ⟨undef, rfl, hG, trivial, rfl⟩
          · injection ho with ho; subst ho
            have h22 : f 22 = _ := hp ⟨22, .data⟩ (by simp) rfl
            have h32 : f 32 = _ := hp ⟨32, .data⟩ (by simp) rfl
            have h17 : f 17 = _ := hp ⟨17, .guard⟩ (by simp) rfl
            simp only [h22, h32, h17]
            refine wpOp_go rfl rfl ?_
            go_simp
            first | exact ⟨hG, trivial, rfl⟩ | exact ⟨hG, rfl⟩ | exact rfl
          · injection ho with ho; subst ho
            have h17 : f 17 = _ := hp ⟨17, .data⟩ (by simp) rfl
            have h33 : f 33 = _ := hp ⟨33, .data⟩ (by simp) rfl
            simp only [h17, h33]
            refine wpOp_go rfl rfl ?_
            go_simp
            first | exact ⟨hG, trivial, rfl⟩ | exact ⟨hG, rfl⟩ | exact rfl
          · injection ho with ho; subst ho
            have h34 : f 34 = _ := hp ⟨34, .data⟩ (by simp) rfl
            simp only [h34]
            refine wpOp_go rfl rfl ?_
            go_simp
            first | exact ⟨hG, trivial, rfl⟩ | exact ⟨hG, rfl⟩ | exact rfl
          · injection ho with ho; subst ho
            have h35 : f 35 = _ := hp ⟨35, .guard⟩ (by simp) rfl
            simp only [h35]
            refine wpOp_go rfl rfl ?_
            go_simp
            refine (known_calls _).mono ?_
            rintro e w7 ⟨rfl, hb⟩
            first | exact ⟨below_then hG hG.size hb, rfl⟩ | exact ⟨below_then hG hG.size hb, trivial, rfl⟩
          · injection ho with ho; subst ho
            have h35 : f 35 = _ := hp ⟨35, .data⟩ (by simp) rfl
            have h36 : f 36 = _ := hp ⟨36, .data⟩ (by simp) rfl
            simp only [h35, h36]
            refine wpOp_go rfl rfl ?_
            go_simp
            first | exact ⟨hG, trivial, rfl⟩ | exact ⟨hG, rfl⟩ | exact rfl
          · injection ho with ho; subst ho
            have h37 : f 37 = _ := hp ⟨37, .data⟩ (by simp) rfl
            simp only [h37]
            refine wpOp_go rfl rfl ?_
            go_simp
            first | exact ⟨hG, trivial, rfl⟩ | exact ⟨hG, rfl⟩ | exact rfl
          · cases ho
        case fin =>
          intro f w6 hG hV
          have h38 : f 38 = _ := hV 38 (by simp)
          simp only [h38]
          go_wp2_with (fail)
          go_ret
          exact ⟨rfl, below_then (below_then HB.out HB.out.size HW.out) (Nat.le_trans HB.out.size HW.out.size) hG⟩
      · have s4 : decide ((a : Int) + (1 + (n0 : Int)) > 17920) = false := by simp only [decide_eq_false_iff_not]; omega
        have s5 : ((N : Int) == bv - k0) = true := by
          rw [beq_iff_eq, ← HBV.out, ← HNB.out, show (a : Int) + (1 + (n0 : Int)) = ((a + (n0 + 1) : Nat) : Int) by omega, blkN_nat _ (by omega), HT.out]
          have h4 := HN.out
          unfold nbS at h4
          omega
        clear hbig
        go_wp2
        refine region_fam (fun f => #[Value.int .u16 (x : Int), Value.int .u16 (y : Int), undef, undef, f 38, Value.int .i64 (a : Int), Value.int .i64 (1 + (n0 : Int)), Value.slice (some ⟨b1, o1, none⟩) N c1, Value.int .i64 (S : Int), Value.int .i64 (N : Int), Value.int .u16 (x : Int), Value.int .i64 (x : Int), Value.int .i64 (a : Int), Value.int .u16 (y : Int), Value.int .i64 (y : Int), Value.int .i64 (n0 : Int), Value.int .i64 (1 + (n0 : Int)), Value.int .i64 (a : Int), Value.int .i64 (1 + (n0 : Int)), Value.slice (some ⟨b1, o1, none⟩) N c1, Value.int .i64 (N : Int), Value.slice (some ⟨b1, o1, none⟩) N c1, Value.int .i64 (N : Int), Value.bool false, u24, u25, u26, u27, u28, u29, u30, u31, u32, u33, u34, u35, u36, u37, u38, u39, u40, u41, u42, u43, u44, u45, u46, u47, u48, u49, u50, u51, u52, u53, u54, u55, u56, u57, u58, u59, u60, u61, u62, u63, u64, u65, u66, u67, u68, u69, u70, u71, u72, u73, u74, u75, u76, u77, u78, u79, u80, u81, u82, u83, u84, u85, u86, u87, u88, u89, u90, u91, u92, u93, u94, u95, u96, u97, u98, u99, u100, u101, Value.slice (some ⟨b1, o1, none⟩) N c1, Value.int .i64 (N : Int), Value.bool ((N : Int) == 0), f 0, f 1, f 2, f 3, f 4, f 5, f 6, f 7, f 8, f 9, f 10, f 11, f 12, f 13, f 14, f 15, f 16, f 17, f 18, f 19, f 20, f 21, f 22, f 23, f 24, f 25, f 26, f 27, f 28, f 29, f 30, f 31, f 32, f 33, f 34, f 35, f 36, f 37])
          (CV0 b1 o1 N c1 a n0 S k0 f0 bv) (fun W => Below wr.heap.size wr W) (fun _ _ _ => True) (by kernel_rfl) (by kernel_rfl) (fun i => if i = 38 then u4 else undef) rfl (Below.refl _ _).drew (fun i j w w' v _ _ h => CV0_stab i j w w' v h) ?put ?step ?fin
        case put =>
          intro i o ho f v
          rcases i with _ | _ | _ | _ | _ | _ | _ | _ | _ | _ | _ | _ | _ | _ | _ | _ | _ | _ | _ | _ | _ | _ | _ | _ | _ | _ | _ | _ | _ | _ | _ | _ | _ | _ | _ | _ | _ | _ | _ | i
          all_goals first | (injection ho with ho; subst ho; rfl) | (cases ho)
        case step =>
          intro i o ho f w6 hG hp
          have h0 := (hG.cell (p := ⟨b1, o1, none⟩) (World.block_lt_of_cell? _ _ HH0.out)).trans HH0.out
          have h1 := (hG.cell (p := ⟨b1, o1 + 1, none⟩) (World.block_lt_of_cell? _ _ HH1.out)).trans HH1.out
          rcases i with _ | _ | _ | _ | _ | _ | _ | _ | _ | _ | _ | _ | _ | _ | _ | _ | _ | _ | _ | _ | _ | _ | _ | _ | _ | _ | _ | _ | _ | _ | _ | _ | _ | _ | _ | _ | _ | _ | _ | i
          · injection ho with ho; subst ho
            refine wpOp_go rfl rfl ?_
            go_simp
            first | exact ⟨hG, trivial, rfl⟩ | exact ⟨hG, rfl⟩ | exact rfl
          · injection ho with ho; subst ho
            have h0 : f 0 = _ := hp ⟨0, .data⟩ (by simp) rfl
            simp only [h0]
            refine wpOp_go rfl rfl ?_
            go_simp
            first | exact ⟨hG, trivial, rfl⟩ | exact ⟨hG, rfl⟩ | exact rfl
          · injection ho with ho; subst ho
            have h1 : f 1 = _ := hp ⟨1, .data⟩ (by simp) rfl
            simp only [h1]
            refine wpOp_go rfl rfl ?_
            go_simp
            first | exact ⟨hG, trivial, rfl⟩ | exact ⟨hG, rfl⟩ | exact rfl
          · injection ho with ho; subst ho
            have h2 : f 2 = _ := hp ⟨2, .data⟩ (by simp) rfl
            simp only [h2]
            refine wpOp_go rfl rfl ?_
            go_simp
            first | exact ⟨hG, trivial, rfl⟩ | exact ⟨hG, rfl⟩ | exact rfl
          · injection ho with ho; subst ho
            have h3 : f 3 = _ := hp ⟨3, .data⟩ (by simp) rfl
            simp only [h3]
            refine wpOp_go rfl rfl ?_
            go_simp
            first | exact ⟨hG, trivial, rfl⟩ | exact ⟨hG, rfl⟩ | exact rfl
          · injection ho with ho; subst ho
            refine wpOp_go rfl rfl ?_
            go_simp
            first | exact ⟨hG, trivial, rfl⟩ | exact ⟨hG, rfl⟩ | exact rfl
          · injection ho with ho; subst ho
            have h5 : f 5 = _ := hp ⟨5, .data⟩ (by simp) rfl
            simp only [h5]
            refine wpOp_go rfl rfl ?_
            go_simp
            first | exact ⟨hG, trivial, rfl⟩ | exact ⟨hG, rfl⟩ | exact rfl
          · injection ho with ho; subst ho
            have h6 : f 6 = _ := hp ⟨6, .data⟩ (by simp) rfl
            simp only [h6]
            refine wpOp_go rfl rfl ?_
            go_simp
            first | exact ⟨hG, trivial, rfl⟩ | exact ⟨hG, rfl⟩ | exact rfl
          · injection ho with ho; subst ho
            have h7 : f 7 = _ := hp ⟨7, .data⟩ (by simp) rfl
            simp only [h7]
            refine wpOp_go rfl rfl ?_
            go_simp
            first | exact ⟨hG, trivial, rfl⟩ | exact ⟨hG, rfl⟩ | exact rfl
          · injection ho with ho; subst ho
            have h4 : f 4 = _ := hp ⟨4, .data⟩ (by simp) rfl
            have h8 : f 8 = _ := hp ⟨8, .data⟩ (by simp) rfl
            simp only [h4, h8]
            refine wpOp_go rfl rfl ?_
            go_simp
            first | exact ⟨hG, trivial, rfl⟩ | exact ⟨hG, rfl⟩ | exact rfl
          · injection ho with ho; subst ho
            refine wpOp_go rfl rfl ?_
            go_simp
            first | exact ⟨hG, trivial, rfl⟩ | exact ⟨hG, rfl⟩ | exact rfl
          · injection ho with ho; subst ho
            have h9 : f 9 = _ := hp ⟨9, .data⟩ (by simp) rfl
            have h10 : f 10 = _ := hp ⟨10, .data⟩ (by simp) rfl
            simp only [h9, h10]
            refine wpOp_go rfl rfl ?_
            go_simp
            first | exact ⟨hG, trivial, rfl⟩ | exact ⟨hG, rfl⟩ | exact rfl
          · injection ho with ho; subst ho
            have h11 : f 11 = _ := hp ⟨11, .data⟩ (by simp) rfl
            simp only [h11]
            refine wpOp_go rfl rfl ?_
            go_simp
            first | exact ⟨hG, trivial, rfl⟩ | exact ⟨hG, rfl⟩ | exact rfl
          · injection ho with ho; subst ho
            have h12 : f 12 = _ := hp ⟨12, .guard⟩ (by simp) rfl
            simp only [h12]
            refine wpOp_go rfl rfl ?_
            go_simp
            first | exact ⟨hG, trivial, rfl⟩ | exact ⟨hG, rfl⟩ | exact rfl
          · injection ho with ho; subst ho
            have h12 : f 12 = _ := hp ⟨12, .guard⟩ (by simp) rfl
            simp only [h12]
            refine wpOp_go rfl rfl ?_
            go_simp
            first | exact ⟨hG, trivial, rfl⟩ | exact ⟨hG, rfl⟩ | exact rfl
          · injection ho with ho; subst ho
            have h13 : f 13 = _ := hp ⟨13, .data⟩ (by simp) rfl
            have h14 : f 14 = _ := hp ⟨14, .data⟩ (by simp) rfl
            have h12 : f 12 = _ := hp ⟨12, .guard⟩ (by simp) rfl
            simp only [h13, h14, h12]
            refine wpOp_go rfl rfl ?_
            go_simp
            first | exact ⟨hG, trivial, rfl⟩ | exact ⟨hG, rfl⟩ | exact rfl
          · injection ho with ho; subst ho
            have h12 : f 12 = _ := hp ⟨12, .data⟩ (by simp) rfl
            have h15 : f 15 = _ := hp ⟨15, .data⟩ (by simp) rfl
            simp only [h12, h15]
            refine wpOp_go rfl rfl ?_
            go_simp
            first | exact ⟨hG, trivial, rfl⟩ | exact ⟨hG, rfl⟩ | exact rfl
          · injection ho with ho; subst ho
            have h16 : f 16 = _ := hp ⟨16, .data⟩ (by simp) rfl
            simp only [h16]
            refine wpOp_go rfl rfl ?_
            go_simp
            first | exact ⟨hG, trivial, rfl⟩ | exact ⟨hG, rfl⟩ | exact rfl
          · injection ho with ho; subst ho
            have h17 : f 17 = _ := hp ⟨17, .guard⟩ (by simp) rfl
            simp only [h17]
            refine wpOp_go rfl rfl ?_
            go_simp
            first | exact ⟨hG, trivial, rfl⟩ | exact ⟨hG, rfl⟩ | exact rfl
          · injection ho with ho; subst ho
            have h17 : f 17 = _ := hp ⟨17, .guard⟩ (by simp) rfl
            simp only [h17]
            refine wpOp_go rfl rfl ?_
            go_simp
            first | exact ⟨hG, trivial, rfl⟩ | exact ⟨hG, rfl⟩ | exact rfl
          · injection ho with ho; subst ho
            have h18 : f 18 = _ := hp ⟨18, .data⟩ (by simp) rfl
            have h19 : f 19 = _ := hp ⟨19, .data⟩ (by simp) rfl
            have h17 : f 17 = _ := hp ⟨17, .guard⟩ (by simp) rfl
            simp only [h18, h19, h17]
            refine wpOp_go rfl rfl ?_
            go_simp
            first | exact ⟨hG, trivial, rfl⟩ | exact ⟨hG, rfl⟩ | exact rfl
          · injection ho with ho; subst ho
            have h20 : f 20 = _ := hp ⟨20, .data⟩ (by simp) rfl
            have h17 : f 17 = _ := hp ⟨17, .guard⟩ (by simp) rfl
            simp only [h20, h17]
            refine wpOp_go rfl rfl ?_
            go_simp
            first | exact ⟨hG, trivial, rfl⟩ | exact ⟨hG, rfl⟩ | exact rfl
          · injection ho with ho; subst ho
            have h21 : f 21 = _ := hp ⟨21, .data⟩ (by simp) rfl
            have h17 : f 17 = _ := hp ⟨17, .guard⟩ (by simp) rfl
            simp only [h21, h17]
            refine wpOp_go rfl rfl ?_
            go_simp
            first | exact ⟨hG, trivial, rfl⟩ | exact ⟨hG, rfl⟩ | exact rfl
          · injection ho with ho; subst ho
            have h22 : f 22 = _ := hp ⟨22, .guard⟩ (by simp) rfl
            simp only [h22]
            refine wpOp_go rfl rfl ?_
            go_simp
            first | exact ⟨hG, trivial, rfl⟩ | exact ⟨hG, rfl⟩ | exact rfl
          · injection ho with ho; subst ho
            have h23 : f 23 = _ := hp ⟨23, .data⟩ (by simp) rfl
            have h22 : f 22 = _ := hp ⟨22, .guard⟩ (by simp) rfl
            simp only [h23, h22]
            refine wpOp_go rfl rfl ?_
            go_simp
            first | exact ⟨hG, trivial, rfl⟩ | exact ⟨hG, rfl⟩ | exact rfl
          · injection ho with ho; subst ho
            have h22 : f 22 = _ := hp ⟨22, .guard⟩ (by simp) rfl
            simp only [h22]
            refine wpOp_go rfl rfl ?_
            go_simp
            first | exact ⟨hG, trivial, rfl⟩ | exact ⟨hG, rfl⟩ | exact rfl
          · injection ho with ho; subst ho
            have h22 : f 22 = _ := hp ⟨22, .guard⟩ (by simp) rfl
            simp only [h22]
            refine wpOp_go rfl rfl ?_
            go_simp
            first | exact ⟨hG, trivial, rfl⟩ | exact ⟨hG, rfl⟩ | exact rfl
          · injection ho with ho; subst ho
            have h25 : f 25 = _ := hp ⟨25, .data⟩ (by simp) rfl
            have h26 : f 26 = _ := hp ⟨26, .data⟩ (by simp) rfl
            have h22 : f 22 = _ := hp ⟨22, .guard⟩ (by simp) rfl
            simp only [h25, h26, h22]
            refine wpOp_go rfl rfl ?_
            go_simp
            first | exact ⟨hG, trivial, rfl⟩ | exact ⟨hG, rfl⟩ | exact rfl
          · injection ho with ho; subst ho
            have h27 : f 27 = _ := hp ⟨27, .data⟩ (by simp) rfl
            have h22 : f 22 = _ := hp ⟨22, .guard⟩ (by simp) rfl
            simp only [h27, h22]
            refine wpOp_go rfl rfl ?_
            go_simp
            refine (blocks_i _ _ _ HBV.out).mono ?_
            rintro e w7 ⟨rfl, rfl⟩
            first | exact ⟨hG, trivial, rfl⟩ | exact ⟨hG, rfl⟩ | exact rfl
          · injection ho with ho; subst ho
            have h22 : f 22 = _ := hp ⟨22, .guard⟩ (by simp) rfl
            simp only [h22]
            refine wpOp_go rfl rfl ?_
            go_simp
            first | exact ⟨hG, trivial, rfl⟩ | exact ⟨hG, rfl⟩ | exact rfl
          · injection ho with ho; subst ho
            have h29 : f 29 = _ := hp ⟨29, .data⟩ (by simp) rfl
            have h22 : f 22 = _ := hp ⟨22, .guard⟩ (by simp) rfl
            simp only [h29, h22]
            refine wpOp_go rfl rfl ?_
            go_simp
            first | exact ⟨hG, trivial, rfl⟩ | exact ⟨hG, rfl⟩ | exact rfl
          · injection ho with ho; subst ho
            have h28 : f 28 = _ := hp ⟨28, .data⟩ (by simp) rfl
            have h30 : f 30 = _ := hp ⟨30, .data⟩ (by simp) rfl
            have h22 : f 22 = _ := hp ⟨22, .guard⟩ (by simp) rfl
            simp only [h28, h30, h22]
            refine wpOp_go rfl rfl ?_
            go_simp
            first | exact ⟨hG, trivial, rfl⟩ | exact ⟨hG, rfl⟩ | exact rfl
          · injection ho with ho; subst ho
            have h24 : f 24 = _ := hp ⟨24, .data⟩ (by simp) rfl
            have h31 : f 31 = _ := hp ⟨31, .data⟩ (by simp) rfl
            have h22 : f 22 = _ := hp ⟨22, .guard⟩ (by simp) rfl
            simp only [h24, h31, h22]
            refine wpOp_go rfl rfl ?_
            go_simp
            first | exact ⟨hG, trivial, rfl⟩ | exact ⟨hG, rfl⟩ | exact rfl
          · injection ho with ho; subst ho
            have h22 : f 22 = _ := hp ⟨22, .data⟩ (by simp) rfl
            have h32 : f 32 = _ := hp ⟨32, .data⟩ (by simp) rfl
            have h17 : f 17 = _ := hp ⟨17, .guard⟩ (by simp) rfl
            simp only [h22, h32, h17]
            refine wpOp_go rfl rfl ?_
            go_simp
            first | exact ⟨hG, trivial, rfl⟩ | exact ⟨hG, rfl⟩ | exact rfl
          · injection ho with ho; subst ho
            have h17 : f 17 = _ := hp ⟨17, .data⟩ (by simp) rfl
            have h33 : f 33 = _ := hp ⟨33, .data⟩ (by simp) rfl
            simp only [h17, h33]
            refine wpOp_go rfl rfl ?_
            go_simp
            first | exact ⟨hG, trivial, rfl⟩ | exact ⟨hG, rfl⟩ | exact rfl
          · injection ho with ho; subst ho
            have h34 : f 34 = _ := hp ⟨34, .data⟩ (by simp) rfl
            simp only [h34]
            refine wpOp_go rfl rfl ?_
            go_simp
            first | exact ⟨hG, trivial, rfl⟩ | exact ⟨hG, rfl⟩ | exact rfl
          · injection ho with ho; subst ho
            have h35 : f 35 = _ := hp ⟨35, .guard⟩ (by simp) rfl
            simp only [h35]
            refine wpOp_go rfl rfl ?_
            go_simp
            refine (known_calls _).mono ?_
            rintro e w7 ⟨rfl, hb⟩
            first | exact ⟨below_then hG hG.size hb, rfl⟩ | exact ⟨below_then hG hG.size hb, trivial, rfl⟩
          · injection ho with ho; subst ho
            have h35 : f 35 = _ := hp ⟨35, .data⟩ (by simp) rfl
            have h36 : f 36 = _ := hp ⟨36, .data⟩ (by simp) rfl
            simp only [h35, h36]
            refine wpOp_go rfl rfl ?_
            go_simp
            first | exact ⟨hG, trivial, rfl⟩ | exact ⟨hG, rfl⟩ | exact rfl
          · injection ho with ho; subst ho
            have h37 : f 37 = _ := hp ⟨37, .data⟩ (by simp) rfl
            simp only [h37]
            refine wpOp_go rfl rfl ?_
            go_simp
            first | exact ⟨hG, trivial, rfl⟩ | exact ⟨hG, rfl⟩ | exact rfl
          · cases ho
        case fin =>
          intro f w6 hG hV
          have h38 : f 38 = _ := hV 38 (by simp)
          simp only [h38]
          go_wp2_with (fail)
          go_ret
          exact ⟨rfl, below_then (below_then HB.out HB.out.size HW.out) (Nat.le_trans HB.out.size HW.out.size) hG⟩
end Go.Proofs.Ytmebgejjaljhgaa
