/- Walks: the law PathLong. -/
import Derived.Test.YtncagcbdgimpfaaDoorT15Known
namespace Go.Proofs.YtncagcbdgimpfaaDoor
open Go.RowKit Go.Sac Go.Shelf
set_option linter.unusedVariables false
set_option linter.unusedSimpArgs false

def longT (c : UInt8) (n : Nat) : List UInt8 := (List.range n).map fun i => if i % 9 = 8 then 47 else c
theorem long_len (c : UInt8) (n : Nat) : (longT c n).length = n := by simp [longT]
theorem long_small (c : UInt8) (n : Nat) (h : n ≤ 8) : longT c n = List.replicate n c := by
  apply List.ext_getElem
  · simp [longT]
  · intro i h1 h2
    simp only [longT, List.length_map, List.length_range] at h1
    simp only [longT, List.getElem_map, List.getElem_range, List.getElem_replicate]
    rw [if_neg (by omega)]
theorem long_more (c : UInt8) (n : Nat) : longT c (n + 9) = List.replicate 8 c ++ 47 :: longT c n := by
  apply List.ext_getElem
  · simp [longT]
  · intro i h1 h2
    simp only [longT, List.length_map, List.length_range] at h1
    simp only [longT, List.getElem_map, List.getElem_range]
    by_cases hi : i < 8
    · rw [List.getElem_append_left (by rw [List.length_replicate]; exact hi), if_neg (by omega), List.getElem_replicate]
    · rw [List.getElem_append_right (by rw [List.length_replicate]; omega)]
      simp only [List.length_replicate]
      by_cases h8 : i = 8
      · subst h8; simp
      · obtain ⟨j, rfl⟩ : ∃ j, i = j + 9 := ⟨i - 9, by omega⟩
        have e : j + 9 - 8 = j + 1 := by omega
        simp only [e, List.getElem_cons_succ, List.getElem_map, List.getElem_range]
        have : (j + 9) % 9 = j % 9 := by omega
        rw [this]
theorem split_run {c : UInt8} (hc : c ≠ 47) (k : Nat) : splitL (List.replicate k c) = [List.replicate k c] := by
  induction k with
  | zero => rfl
  | succ k ih => rw [List.replicate_succ, splitL, if_neg hc, ih]
theorem split_run47 {c : UInt8} (hc : c ≠ 47) (k : Nat) (r : List UInt8) : splitL (List.replicate k c ++ 47 :: r) = List.replicate k c :: splitL r := by
  induction k with
  | zero => simp [splitL]
  | succ k ih => rw [List.replicate_succ, List.cons_append, splitL, if_neg hc, ih]
theorem keep_run {c : UInt8} (hc : c ≠ 46) (k : Nat) (hk : 0 < k) : keepP (List.replicate k c) = true := by
  obtain ⟨k, rfl⟩ : ∃ j, k = j + 1 := ⟨k - 1, by omega⟩
  unfold keepP
  rw [List.replicate_succ]
  have : ((c :: List.replicate k c) == [46]) = false := by rw [beq_eq_false_iff_ne]; intro e; exact hc (List.cons.inj e).1
  simp [this]
theorem good_run {c : UInt8} (hc : c ≠ 46) (h0 : c ≠ 0) (h47 : c ≠ 47) (k : Nat) (hk : 0 < k) (h8 : k ≤ 8) : goodP (List.replicate k c) = true := by
  obtain ⟨k, rfl⟩ : ∃ j, k = j + 1 := ⟨k - 1, by omega⟩
  unfold goodP namedL
  have e0 : (List.replicate (k + 1) c).any oddB = false := by
    rw [List.any_eq_false]; intro x hx; rw [List.eq_of_mem_replicate hx]; simp [oddB, h0, h47]
  have e1 : (List.replicate (k + 1) c == [46]) = false := by rw [List.replicate_succ, beq_eq_false_iff_ne]; intro e; exact hc (List.cons.inj e).1
  have e2 : (List.replicate (k + 1) c == [46, 46]) = false := by rw [List.replicate_succ, beq_eq_false_iff_ne]; intro e; exact hc (List.cons.inj e).1
  rw [e0, e1, e2]
  simp; omega
theorem long_parts {c : UInt8} (hc : c ≠ 46) (h0 : c ≠ 0) (h47 : c ≠ 47) (n : Nat) : (partsL (longT c n)).length = (n + 8) / 9 ∧ (partsL (longT c n)).all goodP = true := by
  induction n using Nat.strongRecOn with
  | ind n ih =>
    by_cases h : n ≤ 8
    · rw [long_small c n h]
      unfold partsL
      rw [split_run h47]
      by_cases hn : n = 0
      · subst hn
        rw [show List.replicate 0 c = [] from rfl]
        decide
      · rw [List.filter_cons, if_pos (keep_run hc n (by omega)), List.filter_nil]
        refine ⟨by simp; omega, ?_⟩
        rw [List.all_cons, good_run hc h0 h47 n (by omega) h]; rfl
    · obtain ⟨m, rfl⟩ : ∃ m, n = m + 9 := ⟨n - 9, by omega⟩
      obtain ⟨i1, i2⟩ := ih m (by omega)
      rw [long_more]
      unfold partsL at i1 i2 ⊢
      rw [split_run47 h47, List.filter_cons, if_pos (keep_run hc 8 (by omega))]
      refine ⟨by rw [List.length_cons, i1]; omega, ?_⟩
      rw [List.all_cons, good_run hc h0 h47 8 (by omega) (by omega), i2]; rfl
def longB (b : Nat) : UInt8 := UInt8.ofNat (97 + b % 20)
theorem longB_nat (b : Nat) : (longB b).toNat = 97 + b % 20 := by unfold longB; rw [UInt8.toNat_ofNat']; omega
theorem longB_ne (b : Nat) (x : UInt8) (h : x.toNat < 97) : longB b ≠ x := by
  intro e; have := congrArg UInt8.toNat e; rw [longB_nat] at this; omega
theorem long_ok (b n : Nat) (h1 : 0 < n) (h2 : n ≤ 200) : errR (longT (longB b) n) = 0 ∧ absR (longT (longB b) n) = false ∧ (namesL (longT (longB b) n)).length = (n + 8) / 9 := by
  obtain ⟨p1, p2⟩ := long_parts (longB_ne b 46 (by decide)) (longB_ne b 0 (by decide)) (longB_ne b 47 (by decide)) n
  have hok : okL (longT (longB b) n) = true := by
    unfold okL
    rw [p2, long_len]
    have : (longT (longB b) n).isEmpty = false := by
      rw [List.isEmpty_eq_false_iff]; intro e; have := congrArg List.length e; rw [long_len] at this; simp at this; omega
    rw [this]; simp; omega
  refine ⟨by unfold errR; rw [if_pos hok], ?_, ?_⟩
  · unfold absR
    rw [hok, Bool.true_and]
    obtain ⟨m, rfl⟩ : ∃ m, n = m + 1 := ⟨n - 1, by omega⟩
    unfold longT
    rw [List.range_succ_eq_map, List.map_cons, if_neg (by omega)]
    exact beq_eq_false_iff_ne.2 (longB_ne b 47 (by decide))
  · unfold namesL
    rw [if_pos hok, List.length_map, p1]
theorem long_no (b n : Nat) (h : n = 0 ∨ 200 < n) : errR (longT (longB b) n) = 11 ∧ absR (longT (longB b) n) = false ∧ namesL (longT (longB b) n) = [] := by
  have hok : okL (longT (longB b) n) = false := by
    unfold okL
    rw [long_len]
    rcases h with rfl | h
    · rfl
    · rw [show decide (n ≤ 200) = false from by simp; omega]; simp
  refine ⟨by unfold errR; rw [hok]; rfl, by unfold absR; rw [hok]; rfl, by unfold namesL; rw [hok]; rfl⟩
/-- the row after k steps -/
def longR (c : UInt8) (n k : Nat) : List UInt8 := longT c k ++ List.replicate (n - k) 0
theorem longR_step (c : UInt8) (n k : Nat) (h : k < n) : (longR c n k).set k (if k % 9 = 8 then 47 else c) = longR c n (k + 1) := by
  unfold longR
  rw [List.set_append_right _ _ (by rw [long_len]; exact Nat.le_refl _), long_len, Nat.sub_self]
  obtain ⟨d, hd⟩ : ∃ d, n - k = d + 1 := ⟨n - k - 1, by omega⟩
  rw [hd, List.replicate_succ, List.set_cons_zero, show n - (k + 1) = d from by omega]
  unfold longT
  rw [List.range_succ, List.map_append, List.append_assoc]
  rfl
theorem longR_len (c : UInt8) (n k : Nat) (h : k ≤ n) : (longR c n k).length = n := by unfold longR; rw [List.length_append, long_len, List.length_replicate]; omega
theorem longR_all (c : UInt8) (n : Nat) : longR c n n = longT c n := by unfold longR; simp
theorem info_u8 : (Tryd.prog.info? 5).map (fun i => (i.zero, i.size, i.bytes)) = some (some (.int .u8 0), 1, 1) := by kernel_rfl
set_option maxHeartbeats 4000000 in
theorem law_long (a b : Int) (w : World) (ha : 0 ≤ a ∧ a ≤ 65535) (hb : 0 ≤ b ∧ b ≤ 255) : Calls Tryd.prog 4 #[.int .u16 a, .int .u8 b] w (RetT w) := by
  obtain ⟨x, rfl⟩ : ∃ x : Nat, a = x := ⟨a.toNat, by omega⟩
  obtain ⟨y, rfl⟩ : ∃ y : Nat, b = y := ⟨b.toNat, by omega⟩
  have ha2 : x ≤ 65535 := by omega
  have hb2 : y ≤ 255 := by omega
  clear ha hb
  obtain ⟨n, hn⟩ : ∃ n : Nat, (x : Int) % 300 = n := ⟨x % 300, by omega⟩
  have hn3 : n < 300 := by omega
  have hmake := run_make_u8 (P := Tryd.prog) 34 5 Tryd.underlying34 info_u8 n (by omega)
  go_enter Tryd.func4, Tryd.ntmps4
  go_wp2_with (fail)
  rw [hn]
  clear hmake hn ha2
  have HW : Hd (Blk (w.alloc (.cells (zeroRow n) 5)) w.heap.size 5 (bs (longR (longB y) n 0))) := ⟨by unfold longR; exact Blk.new w 5 (bs (List.replicate n 0))⟩
  have HB := Hd.mk ((Below.refl w.heap.size w).alloc (Nat.le_refl _) (.cells (zeroRow n) 5))
  go_loopw [7] (fun i wr => ∃ k : Nat, k ≤ n ∧ i = .int .i64 k ∧ Hd (Blk wr w.heap.size 5 (bs (longR (longB y) n k))) ∧ Hd (Below w.heap.size w wr)) (fun i _ => n - (intOf i).toNat)
  case atStart => exact ⟨0, Nat.zero_le _, rfl, HW, HB⟩
  case round =>
    clear HW HB
    obtain ⟨k, hk, rfl, HW, HB⟩ := hrel
    by_cases hlt : k < n
    · obtain ⟨u, hx⟩ : ∃ u, wr.cell? ⟨w.heap.size, k, none⟩ = some u := ⟨_, HW.out.cell (bs_at (by rw [longR_len _ _ _ hk]; exact hlt))⟩
      have hf := HW.out.frz k
      have h1 := HW.out.set k (u8v (longB y))
      have HS := Hd.mk (longR_step (longB y) n k hlt)
      have ev : Value.int .u8 (97 + (y : Int) % 20) = u8v (longB y) := by unfold u8v; rw [longB_nat]; congr 1
      by_cases h8 : k % 9 = 8
      · have h8' : (((k : Int) % 9) == 8) = true := by rw [beq_iff_eq]; omega
        rw [if_pos h8] at HS
        clear h8
        have hx2 := h1.cell (i := k) (v := u8v (longB y)) (by rw [List.getElem?_set_self (by simp [bs, longR_len _ _ _ hk]; exact hlt)])
        have hf2 := h1.frz k
        rw [← ev] at hx2 hf2
        replace h1 := Hd.mk h1
        replace ev := Hd.mk ev
        go_wp2_with (fail)
        go_roundw
        case rel =>
          refine ⟨k + 1, by omega, by go_num, ⟨?_⟩, ⟨(HB.out.setCell (Nat.le_refl _) _).setCell (Nat.le_refl _) _⟩⟩
          have h2 := h1.out.set k (.int .u8 47)
          rw [List.set_set] at h2
          rw [ev.out, ← HS.out, bs, List.map_set]
          exact h2
        case measure => simp [intOf]; omega
      · have h8' : (((k : Int) % 9) == 8) = false := by rw [beq_eq_false_iff_ne]; omega
        rw [if_neg h8] at HS
        clear h8
        replace h1 := Hd.mk h1
        replace ev := Hd.mk ev
        go_wp2_with (fail)
        go_roundw
        case rel =>
          refine ⟨k + 1, by omega, by go_num, ⟨?_⟩, ⟨HB.out.setCell (Nat.le_refl _) _⟩⟩
          rw [ev.out, ← HS.out, bs, List.map_set]
          exact h1.out
        case measure => simp [intOf]; omega
    · obtain rfl : k = n := by omega
      rw [longR_all] at HW
      obtain ⟨X, hX⟩ : ∃ X, namesL (longT (longB y) k) = X := ⟨_, rfl⟩
      have P1 := fun w => parse_calls (mkS (longT (longB y) k)) w (by rw [mkS_size, long_len]; omega)
      rw [show (mkS (longT (longB y) k)).data.toList = longT (longB y) k from rfl] at P1
      have hstr := run_str (P := Tryd.prog) wr 34 5 9 Tryd.underlying34 Tryd.underlying5 Tryd.underlying9 (some ⟨w.heap.size, 0, none⟩) k (longT (longB y) k) HW.out.rc
      rw [long_len] at hstr
      by_cases hlen : 0 < k ∧ k ≤ 200
      · obtain ⟨e1, e2, e3⟩ := long_ok y k hlen.1 hlen.2
        rw [hX] at e3
        rw [e1, e2, hX] at P1
        have f1 : ((k : Int) == 0) = false := by rw [beq_eq_false_iff_ne]; omega
        have f2 : decide ((k : Int) > 200) = false := by simp; omega
        have f3 : ((X.length : Int) == ((k : Int) + 8) / 9) = true := by rw [beq_iff_eq, e3]; omega
        replace P1 := Hd.mk P1
        clear HW e1 e2 e3 hlen hX
        go_wp2_with (first
          | (go_at_call 11; refine (P1.out _).mono ?_; rintro e w1 ⟨A, c, rfl, hc, hr, hb⟩; have HB1 := Hd.mk (below_then HB.out HB.out.size hb); have HC := Hd.mk hc
             have B1 := Hd.mk (Blk.new w1 25 [.bool false, .slice A X.length c])
             have k0 := B1.out.cell (i := 0) rfl
             have k1 := B1.out.cell (i := 1) rfl
             clear hr hb hc HB)
          | (go_at_call 10; refine (known_calls _).mono ?_; rintro e w4 ⟨rfl, hb4⟩; have HB4 := Hd.mk (below_then (HB1.out.alloc HB1.out.size _) (HB1.out.alloc HB1.out.size _).size hb4)))
        go_ret
        exact ⟨rfl, HB4.out⟩
      · obtain ⟨e1, e2, e3⟩ := long_no y k (by omega)
        rw [e1, e2, e3] at P1
        have hno : ((k : Int) == 0) = true ∨ (((k : Int) == 0) = false ∧ decide ((k : Int) > 200) = true) := by
          by_cases h0 : k = 0
          · left; rw [beq_iff_eq]; omega
          · right; exact ⟨by rw [beq_eq_false_iff_ne]; omega, by simp; omega⟩
        replace P1 := Hd.mk P1
        clear HW e1 e2 e3 hlen hX
        rcases hno with f1 | ⟨f1, f2⟩
        all_goals
          go_wp2_with (first
            | (go_at_call 11; refine (P1.out _).mono ?_; rintro e w1 ⟨A, c, rfl, hc, hr, hb⟩; have HB1 := Hd.mk (below_then HB.out HB.out.size hb)
               have B1 := Hd.mk (Blk.new w1 25 [.bool false, .slice A 0 c])
               have k0 := B1.out.cell (i := 0) rfl
               have k1 := B1.out.cell (i := 1) rfl
               clear hr hb hc HB)
            | (go_at_call 13; refine (rsame_calls false false _ _ 0 _ 0 _ [] [] _ (Rc.nil _ _) (Rc.nil _ _) rfl rfl (by decide) (by decide)).mono ?_; rintro e w3 ⟨rfl, hb3⟩; rw [eqP_yes ⟨rfl, rfl⟩]; have HB3 := Hd.mk (below_then (HB1.out.alloc HB1.out.size _) (HB1.out.alloc HB1.out.size _).size hb3); clear hb3)
            | (go_at_call 10; refine (known_calls _).mono ?_; rintro e w4 ⟨rfl, hb4⟩; have HB4 := Hd.mk (below_then HB3.out HB3.out.size hb4)))
          go_ret
          exact ⟨rfl, HB4.out⟩
end Go.Proofs.YtncagcbdgimpfaaDoor
