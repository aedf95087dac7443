/- A10LawBegins: the law AuditBegins. -/
import Derived.Test.YtpahmlgbljfcjaaA10Known
namespace Go.Proofs.Ytpahmlgbljfcjaa
open Go.RowKit Go.Sac
set_option linter.unusedVariables false
set_option linter.unusedSimpArgs false
theorem strG_cons (f : Int × Int → List UInt8) (i : Nat) (x : TV) (t : List TV) : (∃ f', ∀ i t, strG f i (x :: t) = strG f' (i + 1) t) ∨ ∀ i t, strG f i (x :: t) = (i : Int) := by
  by_cases h2 : x.1 = 2
  · exact .inl ⟨_, fun i t => by rw [strG, if_pos h2]⟩
  · by_cases h1 : x.1 = 1
    · by_cases hf : f (x.2.1, x.2.2.1) = x.2.2.2
      · exact .inl ⟨f, fun i t => by rw [strG, if_neg h2, if_pos h1]; simp [hf]⟩
      · exact .inr fun i t => by rw [strG, if_neg h2, if_pos h1]; simp [hf]
    · exact .inl ⟨f, fun i t => by rw [strG, if_neg h2, if_neg h1]⟩
theorem strG_range : ∀ (l : List TV) (f : Int × Int → List UInt8) (i : Nat), strG f i l = -1 ∨ ((i : Int) ≤ strG f i l ∧ strG f i l < i + l.length)
  | [], f, i => .inl rfl
  | x :: t, f, i => by
    rcases strG_cons f i x t with ⟨f', h⟩ | h
    · rw [h]
      rcases strG_range t f' (i + 1) with h2 | h2
      · exact .inl h2
      · right; simp only [List.length_cons]; push_cast at h2 ⊢; omega
    · rw [h]; right; simp only [List.length_cons]; push_cast; omega
theorem strG_app : ∀ (l m : List TV) (f : Int × Int → List UInt8) (i : Nat), (0 ≤ strG f i l → strG f i (l ++ m) = strG f i l) ∧ (strG f i l < 0 → strG f i (l ++ m) = -1 ∨ (i : Int) + l.length ≤ strG f i (l ++ m))
  | [], m, f, i => by
    refine ⟨fun h => by simp [strG] at h, fun _ => ?_⟩
    rcases strG_range m f i with h | h
    · exact .inl h
    · right; simp only [List.nil_append, List.length_nil]; omega
  | x :: t, m, f, i => by
    rw [List.cons_append]
    rcases strG_cons f i x t with ⟨f', h⟩ | h
    · rw [h, h]
      have := strG_app t m f' (i + 1)
      refine ⟨this.1, fun h3 => ?_⟩
      rcases this.2 h3 with h4 | h4
      · exact .inl h4
      · right; simp only [List.length_cons]; push_cast at h4 ⊢; omega
    · rw [h, h]
      exact ⟨fun _ => rfl, fun h3 => by omega⟩
theorem strG_take : ∀ (l : List TV) (f : Int × Int → List UInt8) (i k : Nat), strG f i l = ((i + k : Nat) : Int) → strG f i (l.take k) = -1 ∧ strG f i (l.take (k + 1)) = ((i + k : Nat) : Int)
  | [], f, i, k, h => by simp [strG] at h; omega
  | x :: t, f, i, k, h => by
    rcases strG_cons f i x t with ⟨f', h2⟩ | h2
    · rw [h2] at h
      have hr := strG_range t f' (i + 1)
      obtain ⟨j, rfl⟩ : ∃ j, k = j + 1 := ⟨k - 1, by omega⟩
      have := strG_take t f' (i + 1) j (by rw [h]; congr 1; omega)
      rw [List.take_succ_cons, List.take_succ_cons, h2, h2]
      refine ⟨this.1, ?_⟩
      rw [this.2]; congr 1; omega
    · rw [h2] at h
      obtain rfl : k = 0 := by omega
      rw [List.take_succ_cons, h2]
      exact ⟨rfl, by simp⟩
def longT (l : List Tr) : Nat := (l.map fun x => 1 + x.b.length).sum
theorem longT_snoc (l : List Tr) (i : Nat) (h : i < l.length) : longT (l.take (i + 1)) = longT (l.take i) + (1 + l[i].b.length) := by
  unfold longT
  rw [List.take_succ_eq_append_getElem h, List.map_append, List.sum_append]
  simp
theorem longT_le (l : List Tr) (x : Tr) (h : x ∈ l) : x.b.length ≤ longT l := by
  unfold longT
  induction l with
  | nil => cases h
  | cons y t ih =>
    simp only [List.map_cons, List.sum_cons]
    rcases List.mem_cons.1 h with rfl | h
    · omega
    · have := ih h; omega
theorem longT_most (l : List Tr) (M : Nat) (h : ∀ x ∈ l, x.b.length ≤ M) : longT l ≤ l.length * (M + 1) := by
  unfold longT
  induction l with
  | nil => simp
  | cons y t ih =>
    simp only [List.map_cons, List.sum_cons, List.length_cons]
    have h1 := h y (by simp)
    have h2 := ih (fun x hx => h x (by simp [hx]))
    rw [Nat.succ_mul]
    omega
set_option maxHeartbeats 2000000 in
theorem long_calls (A : Option Addr) (n c : Nat) (l : List Tr) (w : World) (hr : Rc w A (trs l)) (e : n = l.length) (hn : n ≤ 60) (hb : ∀ x ∈ l, x.b.length ≤ 140737488355328) :
    Calls Try.prog 7 #[.slice A n c] w fun e w' => e = .returned (.int .i64 (longT l : Nat)) ∧ w' = w := by
  have HR := Hd.mk hr
  have HE := Hd.mk e
  have HBL := Hd.mk hb
  clear hr e hb
  go_enter Try.func7, Try.ntmps7
  go_wp2
  go_loopw [3, 4] (fun sv iv wr => ∃ i : Nat, iv = .int .i64 (i : Int) ∧ i ≤ n ∧ sv = .int .i64 (longT (l.take i) : Nat) ∧ wr = w) (fun _ iv _ => n - (intOf iv).toNat)
  case atStart => exact ⟨0, rfl, Nat.zero_le _, rfl, rfl⟩
  case round =>
    obtain ⟨i, rfl, hi, rfl, rfl⟩ := hrel
    by_cases hlt : i < n
    · have hil : i < l.length := by rw [← HE.out]; exact hlt
      have hil2 : (i : Int) < (n : Int) := by omega
      obtain ⟨bb, off, rfl, hbb, hrr⟩ := rcK_form trs_len (by decide) HR.out (by omega)
      have hcl := hrr i hil wr (Below.refl _ _) 3 _ rfl
      have hlx := HBL.out _ (List.getElem_mem hil)
      have hst := longT_snoc l i hil
      have hsm := longT_most (l.take i) 140737488355328 (fun x hx => HBL.out x (List.mem_of_mem_take hx))
      obtain ⟨x, hx⟩ : ∃ x, l[i] = x := ⟨_, rfl⟩
      rw [hx] at hcl hlx hst
      obtain ⟨s, hs⟩ : ∃ s, longT (l.take i) = s := ⟨_, rfl⟩
      rw [hs] at hst hsm
      have hs40 : s ≤ 8444249301319740 := by
        rw [List.length_take] at hsm
        exact Nat.le_trans hsm (Nat.le_trans (Nat.mul_le_mul_right _ (show min i l.length ≤ 60 by omega)) (by decide))
      have hwr0 : IntKind.i64.wrap ((s : Int) + 1) = (s : Int) + 1 := by rw [IntKind.wrap_i64]; omega
      have hwr : IntKind.i64.wrap ((s : Int) + 1 + (x.b.length : Int)) = (s : Int) + 1 + (x.b.length : Int) := by rw [IntKind.wrap_i64]; omega
      have HST := Hd.mk hst
      rw [hs]
      clear hst hsm hrr hx hs
      go_wp2
      go_roundw
      case rel => exact ⟨i + 1, by go_num, by omega, by rw [HST.out]; congr 1; push_cast; omega, trivial⟩
      case measure => simp [intOf]; omega
    · obtain rfl : i = n := by omega
      have e0 : l.take i = l := by rw [HE.out]; exact List.take_length
      rw [e0]
      clear e0
      go_wp2
      go_ret
      exact ⟨rfl, rfl⟩
theorem trace_info3 : (Try.prog.info? 39).map (fun i => (i.zero, i.size, i.bytes)) = some (some (.agg #[.int .i64 0, .int .i64 0, .int .i64 0, .slice none 0 0]), 4, 48) := by kernel_rfl
theorem tr_one (x : Tr) : ∀ u ∈ x.cells, u.oneCell' = true := by
  intro u hu; simp only [Tr.cells, List.mem_cons, List.not_mem_nil, or_false] at hu; rcases hu with rfl | rfl | rfl | rfl <;> rfl
theorem trs_take (l : List Tr) (k : Nat) : trs (l.take k) = (trs l).take (k * 4) := by
  rcases Nat.le_total k l.length with h | h
  · have e : trs l = trs (l.take k) ++ trs (l.drop k) := by
      unfold trs; rw [← rowK_app, List.take_append_drop]
    have hl : (trs (l.take k)).length = k * 4 := by unfold trs; rw [rowK_len trs_len, List.length_take, Nat.min_eq_left h]
    rw [e, ← hl, List.take_left]
  · rw [List.take_of_length_le h, List.take_of_length_le]
    unfold trs; rw [rowK_len trs_len]; exact Nat.mul_le_mul_right _ h
set_option maxHeartbeats 8000000 in
theorem law_begins (A B : Option Addr) (n m ca cb : Nat) (a b : List Tr) (w : World) (ha : Rc w A (trs a)) (hb : Rc w B (trs b)) (hA : HeldT w a) (hB : HeldT w b) (e1 : n = a.length) (e2 : m = b.length) (hca : n ≤ ca)
    (hn : n ≤ 140737488355328) (hm : m ≤ 140737488355328) (hla : ∀ x ∈ a, x.b.length ≤ 140737488355328) (hlb : ∀ x ∈ b, x.b.length ≤ 140737488355328) :
    Calls Try.prog 4 #[.slice A n ca, .slice B m cb] w (RetT w) := by
  have HRA := Hd.mk ha
  have HRB := Hd.mk hb
  have HHA := Hd.mk hA
  have HHB := Hd.mk hB
  have E1 := Hd.mk e1
  have E2 := Hd.mk e2
  have HLA := Hd.mk hla
  have HLB := Hd.mk hlb
  clear ha hb hA hB e1 e2 hla hlb
  by_cases h60 : n + m ≤ 60
  · have h61 : ¬ (60 : Int) < (n : Int) + (m : Int) := by omega
    obtain ⟨qa, hqa⟩ : ∃ q, longT a = q := ⟨_, rfl⟩
    obtain ⟨qb, hqb⟩ : ∃ q, longT b = q := ⟨_, rfl⟩
    have hqa1 := longT_most a 140737488355328 HLA.out
    have hqb1 := longT_most b 140737488355328 HLB.out
    rw [hqa] at hqa1
    rw [hqb] at hqb1
    have hqa2 : qa ≤ 8444249301319740 := by have := E1.out; exact Nat.le_trans hqa1 (Nat.le_trans (Nat.mul_le_mul_right _ (show a.length ≤ 60 by omega)) (by decide))
    have hqb2 : qb ≤ 8444249301319740 := by have := E2.out; exact Nat.le_trans hqb1 (Nat.le_trans (Nat.mul_le_mul_right _ (show b.length ≤ 60 by omega)) (by decide))
    have hwr : IntKind.i64.wrap ((qa : Int) + (qb : Int)) = (qa : Int) + (qb : Int) := by rw [IntKind.wrap_i64]; omega
    have HQA := Hd.mk hqa
    have HQB := Hd.mk hqb
    have T1 : Hd True := ⟨trivial⟩
    have HN60 : Hd (n ≤ 60 ∧ m ≤ 60) := ⟨by omega⟩
    clear hqa hqb hqa1 hqb1
    by_cases h6 : qa + qb ≤ 6000
    · have h7 : ¬ (6000 : Int) < (qa : Int) + (qb : Int) := by omega
      have HLA2 : Hd (∀ x ∈ a, x.b.length ≤ 1099511627776) := ⟨fun x hx => by have := longT_le a x hx; have := HQA.out; omega⟩
      have HLB2 : Hd (∀ x ∈ b, x.b.length ≤ 1099511627776) := ⟨fun x hx => by have := longT_le b x hx; have := HQB.out; omega⟩
      obtain ⟨s, hs⟩ : ∃ s, strG (fun _ => nought) 0 (a.map Tr.val) = s := ⟨_, rfl⟩
      obtain ⟨u, hu⟩ : ∃ u, strG (fun _ => nought) 0 ((a ++ b).map Tr.val) = u := ⟨_, rfl⟩
      have hap := strG_app (a.map Tr.val) (b.map Tr.val) (fun _ => nought) 0
      rw [← List.map_append, hs, hu, List.length_map, ← E1.out] at hap
      have hrg := strG_range (a.map Tr.val) (fun _ => nought) 0
      rw [hs, List.length_map, ← E1.out] at hrg
      have HSS := Hd.mk hs
      have HUU := Hd.mk hu
      have T2 : Hd True := ⟨trivial⟩
      have T3 : Hd True := ⟨trivial⟩
      by_cases hs0 : 0 ≤ s
      · obtain ⟨k, rfl⟩ := Int.eq_ofNat_of_zero_le hs0
        have hkn : k < n := by omega
        have hus : u = (k : Int) := hap.1 hs0
        obtain ⟨htk1, htk2⟩ := strG_take (a.map Tr.val) (fun _ => nought) 0 k (by rw [Nat.zero_add]; exact hs)
        rw [← List.map_take] at htk1 htk2
        rw [Nat.zero_add] at htk2
        have HT1 := Hd.mk htk1
        have HT2 := Hd.mk htk2
        have hkc : (k : Int) ≤ (ca : Int) := by omega
        have hk60 : k ≤ 60 := by omega
        have hkc1 : (k : Int) + 1 ≤ (ca : Int) := by omega
        obtain ⟨bb, off, rfl, _, _⟩ := rcK_form trs_len (by decide) HRA.out (by have := E1.out; omega)
        have HK : Hd (k < n) := ⟨hkn⟩
        subst hus
        clear hs hu hap hrg htk1 htk2 hkn
        go_enter Try.func4, Try.ntmps4
        go_wp2_with (first
          | (go_at_call 7; clear T1; refine (long_calls (some ⟨bb, off, none⟩) n ca a _ HRA.out E1.out HN60.out.1 HLA.out).mono ?_; rintro e w1 ⟨rfl, hw⟩; obtain rfl := hw.symm; rw [HQA.out])
          | (go_at_call 7; refine (long_calls B m cb b _ HRB.out E2.out HN60.out.2 HLB.out).mono ?_; rintro e w2 ⟨rfl, hw⟩; obtain rfl := hw.symm; rw [HQB.out])
          | (go_at_call 8; clear T2; refine (straight_calls (some ⟨bb, off, none⟩) n ca a _ HRA.out HHA.out E1.out (by have := HN60.out.1; omega) HLA2.out).mono ?_; rw [HSS.out]; rintro e w3 ⟨rfl, hb⟩; have HB3 := Hd.mk hb; clear hb)
          | (at_builtin; clear T3; refine app_rc w.heap.size 29 39 (.agg #[.int .i64 0, .int .i64 0, .int .i64 0, .slice none 0 0]) 4 48 (.tmp 25) (.tmp 26) rfl rfl Try.underlying29 trace_info3 rfl (by decide) (by decide) (.slice none 0 0) 0 [] (trs a) (some ⟨bb, off, none⟩) n ca rfl rfl (World.ownsRow_nil _ _ _ _) (HRA.out.below HB3.out) (by unfold trs; rw [rowK_len trs_len, E1.out]) (rowK_one tr_one a) HB3.out.size (by have := HN60.out.1; omega) n (trs a) (by omega) rfl ?_
             intro v4 w4 ho hg hat
             obtain ⟨A4, c4, rfl, _, _, _⟩ := own_rc ho
             have HO4 := Hd.mk ho
             have HB4 := Hd.mk (below_lift HB3.out HB3.out.size hg (by simp [Value.ownBlock]))
             clear ho hg hat)
          | (at_builtin; refine app_rc w.heap.size 29 39 (.agg #[.int .i64 0, .int .i64 0, .int .i64 0, .slice none 0 0]) 4 48 (.tmp 28) (.tmp 29) rfl rfl Try.underlying29 trace_info3 rfl (by decide) (by decide) (.slice A4 n c4) n (trs a) (trs b) B m cb rfl rfl HO4.out (HRB.out.below HB4.out) (by unfold trs; rw [rowK_len trs_len, E2.out]) (rowK_one tr_one b) HB4.out.size (by have := HN60.out; omega) (n + m) (trs (a ++ b)) rfl (rowK_app a b).symm ?_
             intro v5 w5 ho hg hat
             obtain ⟨A5, c5, rfl, _, hr5, _⟩ := own_rc ho
             have HR5 := Hd.mk hr5
             have HB5 := Hd.mk (below_lift HB4.out HB4.out.size hg (fun p hp => (own_lt HO4.out p hp).1))
             have HH5 : Hd (HeldT w5 (a ++ b)) := ⟨fun x hx => by
               rcases List.mem_append.1 hx with h | h
               · exact (HHA.out.below HB5.out) x h
               · exact (HHB.out.below HB5.out) x h⟩
             have HE5 : Hd (n + m = (a ++ b).length) := ⟨by rw [List.length_append, E1.out, E2.out]⟩
             have HL5 : Hd (∀ x ∈ a ++ b, x.b.length ≤ 1099511627776) := ⟨fun x hx => by
               rcases List.mem_append.1 hx with h | h
               · exact HLA2.out x h
               · exact HLB2.out x h⟩
             have T5 : Hd True := ⟨trivial⟩
             clear ho hg hat hr5)
          | (go_at_call 8; clear T5; refine (straight_calls A5 (n + m) c5 (a ++ b) _ HR5.out HH5.out HE5.out (by have := HN60.out; omega) HL5.out).mono ?_; rw [HUU.out]; rintro e w6 ⟨rfl, hb⟩; have HB6 := Hd.mk (below_then HB5.out HB5.out.size hb); have T6 : Hd True := ⟨trivial⟩; clear hb)
          | (go_at_call 8; clear T6; refine (straight_calls _ k ca (a.take k) _ (by rw [trs_take]; exact (HRA.out.below HB6.out).take _) (fun x hx => (HHA.out.below HB6.out) x (List.mem_of_mem_take hx)) (by have := E1.out; have := HK.out; rw [List.length_take]; omega) (by have := HN60.out; have := HK.out; omega) (fun x hx => HLA2.out x (List.mem_of_mem_take hx))).mono ?_; rw [HT1.out]; rintro e w7 ⟨rfl, hb⟩; have HB7 := Hd.mk (below_then HB6.out HB6.out.size hb); have T7 : Hd True := ⟨trivial⟩; clear hb)
          | (go_at_call 8; clear T7; refine (straight_calls _ (k + 1) ca (a.take (k + 1)) _ (by rw [trs_take]; exact (HRA.out.below HB7.out).take _) (fun x hx => (HHA.out.below HB7.out) x (List.mem_of_mem_take hx)) (by have := E1.out; have := HK.out; rw [List.length_take]; omega) (by have := HN60.out; have := HK.out; omega) (fun x hx => HLA2.out x (List.mem_of_mem_take hx))).mono ?_; rw [HT2.out]; rintro e w8 ⟨rfl, hb⟩; have HB8 := Hd.mk (below_then HB7.out HB7.out.size hb); clear hb)
          | (go_at_call 5; refine (known_calls _).mono ?_; rintro e w9 ⟨rfl, hb⟩; have HB9 := Hd.mk (below_then HB8.out HB8.out.size hb); clear hb))
        go_ret
        exact ⟨rfl, HB9.out⟩
      · have hs1 : s < 0 := by omega
        have hul := hap.2 hs1
        have hge : decide ((0 : Int) ≤ s) = false := by simp; omega
        by_cases hu1 : u = -1
        · have hd1 : (u == (-1 : Int)) = true := by rw [beq_iff_eq]; exact hu1
          clear hs hu hap hrg hul hu1 hs1
          go_enter Try.func4, Try.ntmps4
          go_wp2_with (first
            | (go_at_call 7; clear T1; refine (long_calls A n ca a _ HRA.out E1.out HN60.out.1 HLA.out).mono ?_; rintro e w1 ⟨rfl, hw⟩; obtain rfl := hw.symm; rw [HQA.out])
            | (go_at_call 7; refine (long_calls B m cb b _ HRB.out E2.out HN60.out.2 HLB.out).mono ?_; rintro e w2 ⟨rfl, hw⟩; obtain rfl := hw.symm; rw [HQB.out])
            | (go_at_call 8; clear T2; refine (straight_calls A n ca a _ HRA.out HHA.out E1.out (by have := HN60.out.1; omega) HLA2.out).mono ?_; rw [HSS.out]; rintro e w3 ⟨rfl, hb⟩; have HB3 := Hd.mk hb; clear hb)
            | (at_builtin; clear T3; refine app_rc w.heap.size 29 39 (.agg #[.int .i64 0, .int .i64 0, .int .i64 0, .slice none 0 0]) 4 48 (.tmp 25) (.tmp 26) rfl rfl Try.underlying29 trace_info3 rfl (by decide) (by decide) (.slice none 0 0) 0 [] (trs a) A n ca rfl rfl (World.ownsRow_nil _ _ _ _) (HRA.out.below HB3.out) (by unfold trs; rw [rowK_len trs_len, E1.out]) (rowK_one tr_one a) HB3.out.size (by have := HN60.out.1; omega) n (trs a) (by omega) rfl ?_
               intro v4 w4 ho hg hat
               obtain ⟨A4, c4, rfl, _, _, _⟩ := own_rc ho
               have HO4 := Hd.mk ho
               have HB4 := Hd.mk (below_lift HB3.out HB3.out.size hg (by simp [Value.ownBlock]))
               clear ho hg hat)
            | (at_builtin; refine app_rc w.heap.size 29 39 (.agg #[.int .i64 0, .int .i64 0, .int .i64 0, .slice none 0 0]) 4 48 (.tmp 28) (.tmp 29) rfl rfl Try.underlying29 trace_info3 rfl (by decide) (by decide) (.slice A4 n c4) n (trs a) (trs b) B m cb rfl rfl HO4.out (HRB.out.below HB4.out) (by unfold trs; rw [rowK_len trs_len, E2.out]) (rowK_one tr_one b) HB4.out.size (by have := HN60.out; omega) (n + m) (trs (a ++ b)) rfl (rowK_app a b).symm ?_
               intro v5 w5 ho hg hat
               obtain ⟨A5, c5, rfl, _, hr5, _⟩ := own_rc ho
               have HR5 := Hd.mk hr5
               have HB5 := Hd.mk (below_lift HB4.out HB4.out.size hg (fun p hp => (own_lt HO4.out p hp).1))
               have HH5 : Hd (HeldT w5 (a ++ b)) := ⟨fun x hx => by
                 rcases List.mem_append.1 hx with h | h
                 · exact (HHA.out.below HB5.out) x h
                 · exact (HHB.out.below HB5.out) x h⟩
               have HE5 : Hd (n + m = (a ++ b).length) := ⟨by rw [List.length_append, E1.out, E2.out]⟩
               have HL5 : Hd (∀ x ∈ a ++ b, x.b.length ≤ 1099511627776) := ⟨fun x hx => by
                 rcases List.mem_append.1 hx with h | h
                 · exact HLA2.out x h
                 · exact HLB2.out x h⟩
               have T5 : Hd True := ⟨trivial⟩
               clear ho hg hat hr5)
            | (go_at_call 8; clear T5; refine (straight_calls A5 (n + m) c5 (a ++ b) _ HR5.out HH5.out HE5.out (by have := HN60.out; omega) HL5.out).mono ?_; rw [HUU.out]; rintro e w6 ⟨rfl, hb⟩; have HB6 := Hd.mk (below_then HB5.out HB5.out.size hb); have T6 : Hd True := ⟨trivial⟩; clear hb)
            | (go_at_call 5; refine (known_calls _).mono ?_; rintro e w9 ⟨rfl, hb⟩; have HB9 := Hd.mk (below_then HB6.out HB6.out.size hb); clear hb))
          go_ret
          exact ⟨rfl, HB9.out⟩
        · have hd1 : (u == (-1 : Int)) = false := by rw [beq_eq_false_iff_ne]; exact hu1
          have hd2 : (n : Int) ≤ u := by rcases hul with h | h; exact absurd h hu1; omega
          clear hs hu hap hrg hul hu1 hs1
          go_enter Try.func4, Try.ntmps4
          go_wp2_with (first
            | (go_at_call 7; clear T1; refine (long_calls A n ca a _ HRA.out E1.out HN60.out.1 HLA.out).mono ?_; rintro e w1 ⟨rfl, hw⟩; obtain rfl := hw.symm; rw [HQA.out])
            | (go_at_call 7; refine (long_calls B m cb b _ HRB.out E2.out HN60.out.2 HLB.out).mono ?_; rintro e w2 ⟨rfl, hw⟩; obtain rfl := hw.symm; rw [HQB.out])
            | (go_at_call 8; clear T2; refine (straight_calls A n ca a _ HRA.out HHA.out E1.out (by have := HN60.out.1; omega) HLA2.out).mono ?_; rw [HSS.out]; rintro e w3 ⟨rfl, hb⟩; have HB3 := Hd.mk hb; clear hb)
            | (at_builtin; clear T3; refine app_rc w.heap.size 29 39 (.agg #[.int .i64 0, .int .i64 0, .int .i64 0, .slice none 0 0]) 4 48 (.tmp 25) (.tmp 26) rfl rfl Try.underlying29 trace_info3 rfl (by decide) (by decide) (.slice none 0 0) 0 [] (trs a) A n ca rfl rfl (World.ownsRow_nil _ _ _ _) (HRA.out.below HB3.out) (by unfold trs; rw [rowK_len trs_len, E1.out]) (rowK_one tr_one a) HB3.out.size (by have := HN60.out.1; omega) n (trs a) (by omega) rfl ?_
               intro v4 w4 ho hg hat
               obtain ⟨A4, c4, rfl, _, _, _⟩ := own_rc ho
               have HO4 := Hd.mk ho
               have HB4 := Hd.mk (below_lift HB3.out HB3.out.size hg (by simp [Value.ownBlock]))
               clear ho hg hat)
            | (at_builtin; refine app_rc w.heap.size 29 39 (.agg #[.int .i64 0, .int .i64 0, .int .i64 0, .slice none 0 0]) 4 48 (.tmp 28) (.tmp 29) rfl rfl Try.underlying29 trace_info3 rfl (by decide) (by decide) (.slice A4 n c4) n (trs a) (trs b) B m cb rfl rfl HO4.out (HRB.out.below HB4.out) (by unfold trs; rw [rowK_len trs_len, E2.out]) (rowK_one tr_one b) HB4.out.size (by have := HN60.out; omega) (n + m) (trs (a ++ b)) rfl (rowK_app a b).symm ?_
               intro v5 w5 ho hg hat
               obtain ⟨A5, c5, rfl, _, hr5, _⟩ := own_rc ho
               have HR5 := Hd.mk hr5
               have HB5 := Hd.mk (below_lift HB4.out HB4.out.size hg (fun p hp => (own_lt HO4.out p hp).1))
               have HH5 : Hd (HeldT w5 (a ++ b)) := ⟨fun x hx => by
                 rcases List.mem_append.1 hx with h | h
                 · exact (HHA.out.below HB5.out) x h
                 · exact (HHB.out.below HB5.out) x h⟩
               have HE5 : Hd (n + m = (a ++ b).length) := ⟨by rw [List.length_append, E1.out, E2.out]⟩
               have HL5 : Hd (∀ x ∈ a ++ b, x.b.length ≤ 1099511627776) := ⟨fun x hx => by
                 rcases List.mem_append.1 hx with h | h
                 · exact HLA2.out x h
                 · exact HLB2.out x h⟩
               have T5 : Hd True := ⟨trivial⟩
               clear ho hg hat hr5)
            | (go_at_call 8; clear T5; refine (straight_calls A5 (n + m) c5 (a ++ b) _ HR5.out HH5.out HE5.out (by have := HN60.out; omega) HL5.out).mono ?_; rw [HUU.out]; rintro e w6 ⟨rfl, hb⟩; have HB6 := Hd.mk (below_then HB5.out HB5.out.size hb); have T6 : Hd True := ⟨trivial⟩; clear hb)
            | (go_at_call 5; refine (known_calls _).mono ?_; rintro e w9 ⟨rfl, hb⟩; have HB9 := Hd.mk (below_then HB6.out HB6.out.size hb); clear hb))
          go_ret
          exact ⟨rfl, HB9.out⟩
    · have h7 : (6000 : Int) < (qa : Int) + (qb : Int) := by omega
      go_enter Try.func4, Try.ntmps4
      go_wp2_with (first
        | (go_at_call 7; clear T1; refine (long_calls A n ca a _ HRA.out E1.out HN60.out.1 HLA.out).mono ?_; rintro e w1 ⟨rfl, hw⟩; obtain rfl := hw.symm; rw [HQA.out])
        | (go_at_call 7; refine (long_calls B m cb b _ HRB.out E2.out HN60.out.2 HLB.out).mono ?_; rintro e w2 ⟨rfl, hw⟩; obtain rfl := hw.symm; rw [HQB.out])
        | (go_at_call 5; refine (known_calls _).mono ?_; rintro e w1 ⟨rfl, hb⟩; have HB := Hd.mk hb; clear hb))
      go_ret
      exact ⟨rfl, HB.out⟩
  · have h61 : (60 : Int) < (n : Int) + (m : Int) := by omega
    go_enter Try.func4, Try.ntmps4
    go_wp2_with (go_at_call 5; refine (known_calls _).mono ?_; rintro e w1 ⟨rfl, hb⟩; have HB := Hd.mk hb; clear hb)
    go_ret
    exact ⟨rfl, HB.out⟩
theorem row_begins (A : Option Addr) (ca : Nat) (a : List Tr) (B : Option Addr) (cb : Nat) (b : List Tr) (w : World) (h1 : Rc w A (trs a)) (h2 : a.length ≤ ca) (h3 : a.length ≤ 140737488355328) (h4 : HeldT w a ∧ ∀ y ∈ a, y.b.length ≤ 140737488355328)
    (k1 : Rc w B (trs b)) (k2 : b.length ≤ cb) (k3 : b.length ≤ 140737488355328) (k4 : HeldT w b ∧ ∀ y ∈ b, y.b.length ≤ 140737488355328) :
    Calls Try.prog 4 #[.slice A a.length ca, .slice B b.length cb] w (RetT w) :=
  law_begins A B _ _ ca cb a b w h1 k1 h4.1 k4.1 rfl rfl h2 h3 k3 h4.2 k4.2
end Go.Proofs.Ytpahmlgbljfcjaa
