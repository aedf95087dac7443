/- Walks: sums of digests. -/
import Derived.Test.YtohndablfjonhaaP05
import Derived.Test.YtohndablfjonhaaS05Carry
import Derived.Test.YtohndablfjonhaaBase7
namespace Go.Proofs.Ytohndablfjonhaa
open Go.RowKit Go.Sac
set_option linter.unusedVariables false
set_option linter.unusedSimpArgs false

/-- a row of four words, in a block of its own -/
def wz (x y : Nat → Nat) (k : Nat) : List Value := [u64v (if 0 < k then x 0 else y 0), u64v (if 1 < k then x 1 else y 1), u64v (if 2 < k then x 2 else y 2), u64v (if 3 < k then x 3 else y 3)]
theorem wz_at (x y : Nat → Nat) (k : Nat) (h : k < 4) : (wz x y k)[k]? = some (.int .u64 (y k : Int)) := by
  match k, h with
  | 0, _ => rfl
  | 1, _ => rfl
  | 2, _ => rfl
  | 3, _ => rfl
theorem wz_set (x y : Nat → Nat) (k : Nat) (h : k < 4) : (wz x y k).set k (u64v (x k)) = wz x y (k + 1) := by
  match k, h with
  | 0, _ => rfl
  | 1, _ => rfl
  | 2, _ => rfl
  | 3, _ => rfl
theorem wz_zero (x y : Nat → Nat) : wz x y 0 = [y 0, y 1, y 2, y 3].map u64v := rfl
theorem wz_four (x y : Nat → Nat) : wz x y 4 = [x 0, x 1, x 2, x 3].map u64v := rfl
theorem four_at (y : Nat → Nat) (k : Nat) (h : k < 4) : ([y 0, y 1, y 2, y 3].map u64v)[k]? = some (.int .u64 (y k : Int)) := by
  match k, h with
  | 0, _ => rfl
  | 1, _ => rfl
  | 2, _ => rfl
  | 3, _ => rfl
def AddI (n : Nat) (w0 : World) (xa xb : Value) (wa wb : List Value) (L : Nat → Bool) (a : Act) (w : World) : Prop :=
  ∃ v9 v10 v11 v12 v5 v6 : Value, a = { tmps := #[xa, xb, .pointer (some ⟨n, 0, none⟩), .pointer (some ⟨n + 1, 0, none⟩), .pointer (some ⟨n + 2, 0, none⟩), v5, v6, undef, undef, v9, v10, v11, v12, undef, undef, undef, undef, undef, undef, undef, undef, undef, undef, undef, undef, undef, undef, undef, undef, undef, undef, undef], defers := [] } ∧ Below (n + 3) w0 w ∧ n + 3 ≤ w.heap.size ∧
  Hd (L 6 = true → L 4 = true) ∧ Hd (L 7 = true → L 5 = true) ∧ Hd (L 0 = true → v9 = xa) ∧ Hd (L 1 = true → v10 = .agg wa.toArray) ∧ Hd (L 2 = true → v11 = xb) ∧ Hd (L 3 = true → v12 = .agg wb.toArray) ∧
  Hd (L 4 = true → ∃ g, v5 = .pointer (some ⟨g, 0, none⟩) ∧ n + 3 ≤ g ∧ (L 5 = true → v6 ≠ v5) ∧ Blk w g 29 (if L 6 = true then wa else [u64v 0, u64v 0, u64v 0, u64v 0])) ∧
  Hd (L 5 = true → ∃ g, v6 = .pointer (some ⟨g, 0, none⟩) ∧ n + 3 ≤ g ∧ Blk w g 29 (if L 7 = true then wb else [u64v 0, u64v 0, u64v 0, u64v 0]))
set_option maxHeartbeats 4000000 in
theorem add_calls (a b : List UInt8) (w : World) (ha : a.length = 32) (hb : b.length = 32) :
    Calls Try.prog 6 #[dg a, dg b] w fun e w' => e = .returned (dg (addN a b)) ∧ Below w.heap.size w w' := by
  unfold dg
  go_enter Try.func6, Try.ntmps6
  go_wp2_with (fail)
  have BA : Hd (Blk (((w.alloc (.cells (bs a).toArray 23)).alloc (.cells (bs b).toArray 23)).alloc (.cells (bs (digT [] 0)).toArray 23)) w.heap.size 23 (bs a)) := ⟨((Blk.new w _ _).alloc _).alloc _⟩
  have BB : Hd (Blk (((w.alloc (.cells (bs a).toArray 23)).alloc (.cells (bs b).toArray 23)).alloc (.cells (bs (digT [] 0)).toArray 23)) (w.heap.size + 1) 23 (bs b)) := ⟨by
    have := (Blk.new (w.alloc (.cells (bs a).toArray 23)) 23 (bs b)).alloc (.cells (bs (digT [] 0)).toArray 23)
    rw [World.size_alloc] at this; exact this⟩
  have BC : Hd (Blk (((w.alloc (.cells (bs a).toArray 23)).alloc (.cells (bs b).toArray 23)).alloc (.cells (bs (digT [] 0)).toArray 23)) (w.heap.size + 2) 23 (bs (digT [] 0))) := ⟨by
    have := (Blk.new ((w.alloc (.cells (bs a).toArray 23)).alloc (.cells (bs b).toArray 23)) 23 (bs (digT [] 0)))
    rw [World.size_alloc, World.size_alloc] at this; exact this⟩
  have HB : Hd (Below w.heap.size w (((w.alloc (.cells (bs a).toArray 23)).alloc (.cells (bs b).toArray 23)).alloc (.cells (bs (digT [] 0)).toArray 23))) := ⟨(((Below.refl _ w).alloc (Nat.le_refl _) _).alloc (by simp) _).alloc (by simp; omega) _⟩
  have hsz : (((w.alloc (.cells (bs a).toArray 23)).alloc (.cells (bs b).toArray 23)).alloc (.cells (bs (digT [] 0)).toArray 23)).heap.size = w.heap.size + 3 := by simp
  change Code.wp Try.prog _ _ _ (((w.alloc (.cells (bs a).toArray 23)).alloc (.cells (bs b).toArray 23)).alloc (.cells (bs (digT [] 0)).toArray 23))
  generalize (((w.alloc (.cells (bs a).toArray 23)).alloc (.cells (bs b).toArray 23)).alloc (.cells (bs (digT [] 0)).toArray 23)) = w0 at *
  refine region_inv (AddI w.heap.size w0 (.agg (bs a).toArray) (.agg (bs b).toArray) ([wordT a 0, wordT a 1, wordT a 2, wordT a 3].map u64v) ([wordT b 0, wordT b 1, wordT b 2, wordT b 3].map u64v)) (by kernel_rfl) (by kernel_rfl) ?h0 ?step ?fin
  case h0 => exact ⟨undef, undef, undef, undef, undef, undef, rfl, (Below.refl _ _).drew, by rw [World.size_drew, hsz]; omega, ⟨nofun⟩, ⟨nofun⟩, ⟨nofun⟩, ⟨nofun⟩, ⟨nofun⟩, ⟨nofun⟩, ⟨nofun⟩, ⟨nofun⟩⟩
  case step =>
    intro L a1 w1 i o ho hL hp hI
    obtain ⟨v9, v10, v11, v12, v5, v6, rfl, hB, hS, hI6, hI7, h9, h10, h11, h12, h5, h6⟩ := hI
    have hBA : Blk w1 w.heap.size 23 (bs a) := BA.out.below hB (by omega)
    have hBB : Blk w1 (w.heap.size + 1) 23 (bs b) := BB.out.below hB (by omega)
    rcases i with _ | _ | _ | _ | _ | _ | _ | _ | i
    · injection ho with ho
      subst ho
      refine wpOp_go rfl rfl (wp_load_row 23 (.tmp 2) rfl w.heap.size rfl 23 (bs a).toArray (0, 0) (.array 32 5) hBA Try.underlying23 rfl (info_dg.trans (by simp [ha])) ?_)
      exact ⟨_, v10, v11, v12, v5, v6, rfl, hB, hS, hI6, hI7, ⟨fun _ => rfl⟩, h10, h11, h12, h5, h6⟩
    · injection ho with ho
      subst ho
      simp [Region.binds] at hp
      obtain rfl := h9.out hp
      refine wpOp_go rfl rfl ?_
      go_simp
      refine (words_calls a w1 ha).mono ?_
      rintro e w2 ⟨rfl, hb2⟩
      go_simp
      refine ⟨_, _, v11, v12, v5, v6, rfl, hB.trans (hb2.mono hS), Nat.le_trans hS hb2.size, hI6, hI7, h9, ⟨fun _ => rfl⟩, h11, h12, ⟨?_⟩, ⟨?_⟩⟩
      · intro h; obtain ⟨g, e1, e2, e3, e4⟩ := h5.out h; exact ⟨g, e1, e2, e3, e4.below hb2 e4.lt⟩
      · intro h; obtain ⟨g, e1, e2, e4⟩ := h6.out h; exact ⟨g, e1, e2, e4.below hb2 e4.lt⟩
    · injection ho with ho
      subst ho
      refine wpOp_go rfl rfl (wp_load_row 23 (.tmp 3) rfl (w.heap.size + 1) rfl 23 (bs b).toArray (0, 0) (.array 32 5) hBB Try.underlying23 rfl (info_dg.trans (by simp [hb])) ?_)
      exact ⟨v9, v10, _, v12, v5, v6, rfl, hB, hS, hI6, hI7, h9, h10, ⟨fun _ => rfl⟩, h12, h5, h6⟩
    · injection ho with ho
      subst ho
      simp [Region.binds] at hp
      obtain rfl := h11.out hp.1
      refine wpOp_go rfl rfl ?_
      go_simp
      refine (words_calls b w1 hb).mono ?_
      rintro e w2 ⟨rfl, hb2⟩
      go_simp
      refine ⟨v9, v10, _, _, v5, v6, rfl, hB.trans (hb2.mono hS), Nat.le_trans hS hb2.size, hI6, hI7, h9, h10, h11, ⟨fun _ => rfl⟩, ⟨?_⟩, ⟨?_⟩⟩
      · intro h; obtain ⟨g, e1, e2, e3, e4⟩ := h5.out h; exact ⟨g, e1, e2, e3, e4.below hb2 e4.lt⟩
      · intro h; obtain ⟨g, e1, e2, e4⟩ := h6.out h; exact ⟨g, e1, e2, e4.below hb2 e4.lt⟩
    · injection ho with ho
      subst ho
      have h46 : L 6 = true → L 4 = true := hI6.out
      refine wpOp_go rfl rfl ?_
      go_simp
      refine ⟨v9, v10, v11, v12, _, v6, rfl, hB.alloc (by omega) _, by simp; omega, ⟨fun _ => rfl⟩, hI7, h9, h10, h11, h12, ⟨?_⟩, ⟨?_⟩⟩
      · intro _
        refine ⟨w1.heap.size, rfl, hS, ?_, ?_⟩
        · intro h hv; obtain ⟨g, e1, e2, e4⟩ := h6.out h; rw [e1] at hv; injection hv with hv; injection hv with hv; injection hv with hv; have := e4.lt; omega
        · have hL6 : ¬ L 6 = true := fun h => by rw [h46 h] at hL; cases hL
          show Blk _ _ _ (if L 6 = true then _ else _)
          rw [if_neg hL6]; exact Blk.new w1 _ _
      · intro h; obtain ⟨g, e1, e2, e4⟩ := h6.out h; exact ⟨g, e1, e2, e4.alloc _⟩
    · injection ho with ho
      subst ho
      have h57 : L 7 = true → L 5 = true := hI7.out
      refine wpOp_go rfl rfl ?_
      go_simp
      refine ⟨v9, v10, v11, v12, v5, _, rfl, hB.alloc (by omega) _, by simp; omega, hI6, ⟨fun _ => rfl⟩, h9, h10, h11, h12, ⟨?_⟩, ⟨?_⟩⟩
      · intro h; obtain ⟨g, e1, e2, e3, e4⟩ := h5.out h
        refine ⟨g, e1, e2, ?_, e4.alloc _⟩
        intro _ hv; rw [e1] at hv; injection hv with hv; injection hv with hv; injection hv with hv; have := e4.lt; omega
      · intro _
        refine ⟨w1.heap.size, rfl, hS, ?_⟩
        have hL7 : ¬ L 7 = true := fun h => by rw [h57 h] at hL; cases hL
        show Blk _ _ _ (if L 7 = true then _ else _)
        rw [if_neg hL7]; exact Blk.new w1 _ _
    · injection ho with ho
      subst ho
      simp [Region.binds] at hp
      obtain ⟨g, rfl, hg, hn, hblk⟩ := h5.out hp.1
      obtain ⟨g6, rfl, hg6, hblk6⟩ := h6.out hp.2.2.2.2.2.2
      obtain rfl := h10.out hp.2.1
      have hne : g6 ≠ g := fun e => hn hp.2.2.2.2.2.2 (by rw [e])
      rw [if_neg (by rw [hL]; simp)] at hblk
      refine wpOp_go rfl rfl (wp_store_row 29 (.tmp 5) (.tmp 10) rfl g ([wordT a 0, wordT a 1, wordT a 2, wordT a 3].map u64v).toArray rfl rfl 29 _ hblk (info_w4.trans (by simp)) (by simp) (by simp [u64v, Value.oneCell']) ?_)
      refine ⟨v9, _, v11, v12, _, _, rfl, ?_, by simp; exact hS, ⟨fun _ => hp.1⟩, hI7, h9, h10, h11, h12, ⟨?_⟩, ⟨?_⟩⟩
      · exact below_row hB hg _
      · intro _; exact ⟨g, rfl, hg, hn, hblk.putRow _⟩
      · intro _; exact ⟨g6, rfl, hg6, hblk6.rowFar hne _⟩
    · injection ho with ho
      subst ho
      simp [Region.binds] at hp
      obtain ⟨g, rfl, hg, hn, hblk⟩ := h5.out hp.2.2.2.2.2.2.2.1
      obtain ⟨g6, rfl, hg6, hblk6⟩ := h6.out hp.1
      obtain rfl := h12.out hp.2.1
      have hne : g ≠ g6 := fun e => hn hp.1 (by rw [e])
      rw [if_neg (by rw [hL]; simp)] at hblk6
      refine wpOp_go rfl rfl (wp_store_row 29 (.tmp 6) (.tmp 12) rfl g6 ([wordT b 0, wordT b 1, wordT b 2, wordT b 3].map u64v).toArray rfl rfl 29 _ hblk6 (info_w4.trans (by simp)) (by simp) (by simp [u64v, Value.oneCell']) ?_)
      refine ⟨v9, v10, v11, _, _, _, rfl, ?_, by simp; exact hS, hI6, ⟨fun _ => hp.1⟩, h9, h10, h11, h12, ⟨?_⟩, ⟨?_⟩⟩
      · exact below_row hB hg6 _
      · intro _; exact ⟨g, rfl, hg, hn, hblk.rowFar hne _⟩
      · intro _; exact ⟨g6, rfl, hg6, hblk6.putRow _⟩
    · simp at ho
  case fin =>
    intro L a1 w1 hL hI
    obtain ⟨v9, v10, v11, v12, v5, v6, rfl, hB, hS, _, _, h9, h10, h11, h12, h5, h6⟩ := hI
    obtain rfl := h9.out (hL 0 (by simp))
    obtain rfl := h10.out (hL 1 (by simp))
    obtain rfl := h11.out (hL 2 (by simp))
    obtain rfl := h12.out (hL 3 (by simp))
    obtain ⟨g, rfl, hg, hn, hblk⟩ := h5.out (hL 4 (by simp))
    obtain ⟨g6, rfl, hg6, hblk6⟩ := h6.out (hL 5 (by simp))
    have hne : g ≠ g6 := fun e => hn (hL 5 (by simp)) (by rw [e])
    rw [if_pos (hL 6 (by simp))] at hblk
    rw [if_pos (hL 7 (by simp))] at hblk6
    have C0 : Hd (Blk w1 (w.heap.size + 2) 23 (bs (digT [] 0))) := ⟨BC.out.below hB (by omega)⟩
    have X0 : Hd (Blk w1 g 29 (wz (sumw (wordT a) (wordT b)) (wordT a) 0)) := ⟨by rw [wz_zero]; exact hblk⟩
    have Y0 : Hd (Blk w1 g6 29 ([wordT b 0, wordT b 1, wordT b 2, wordT b 3].map u64v)) := ⟨hblk6⟩
    have HB0 : Hd (Below w.heap.size w w1) := ⟨HB.out.trans (hB.mono (by omega))⟩
    have NE := Hd.mk hne
    clear h9 h10 h11 h12 h5 h6 hn hblk hblk6 hne BA BB BC HB hB hL
    go_wp2_with (fail)
    have hwx := word_lt a
    have hwy := word_lt b
    have WX := Hd.mk hwx
    have WY := Hd.mk hwy
    clear hwx hwy
    have HD4 := Hd.mk (add_words a b ha hb)
    obtain ⟨X, hX⟩ : ∃ X, X = wordT a := ⟨_, rfl⟩
    obtain ⟨Y, hY⟩ : ∃ Y, Y = wordT b := ⟨_, rfl⟩
    rw [← hX, ← hY] at X0 HD4
    rw [← hY] at Y0 WY
    rw [← hX] at WX
    clear hX hY
    go_loopw [7, 13] (fun c i wr => ∃ k : Nat, k ≤ 4 ∧ i = .int .i64 k ∧ c = .int .u64 (car X Y k : Int) ∧ Hd (Blk wr (w.heap.size + 2) 23 (bs (digT [] 0))) ∧ Hd (Blk wr g 29 (wz (sumw X Y) X k)) ∧ Hd (Blk wr g6 29 ([Y 0, Y 1, Y 2, Y 3].map u64v)) ∧ Hd (Below w.heap.size w wr)) (fun _ i _ => 4 - (intOf i).toNat)
    case atStart => exact ⟨0, by omega, rfl, rfl, C0, X0, Y0, HB0⟩
    case round =>
      clear C0 X0 Y0 HB0
      obtain ⟨k, hk, rfl, rfl, C0, X0, Y0, HB0⟩ := hrel
      by_cases hlt : k < 4
      · have hcx : wr.cell? ⟨g, k, none⟩ = some (.int .u64 (X k : Int)) := X0.out.cell (wz_at _ _ k hlt)
        have hcy : wr.cell? ⟨g6, k, none⟩ = some (.int .u64 (Y k : Int)) := Y0.out.cell (four_at _ k hlt)
        have hfx := X0.out.frz k
        have hcc := car_le X Y WX.out WY.out k
        have hadd := add64 (X k) (Y k) (car X Y k) (sumw X Y k) (car X Y (k + 1)) hcc (sumw_eq X Y k) (car_eq X Y k)
        have har : Try.prog.arrayLen 29 = 4 := by kernel_rfl
        have i1 : (0 : Int) ≤ (k : Int) := by omega
        have i2 : (k : Int) < (4 : Int) := by omega
        have HSET : Hd ((wz (sumw X Y) X k).set k (u64v (sumw X Y k)) = wz (sumw X Y) X (k + 1)) := ⟨wz_set _ _ k hlt⟩
        obtain ⟨xk, hxk⟩ : ∃ x, X k = x := ⟨_, rfl⟩
        obtain ⟨yk, hyk⟩ : ∃ x, Y k = x := ⟨_, rfl⟩
        obtain ⟨ck, hck⟩ : ∃ x, car X Y k = x := ⟨_, rfl⟩
        obtain ⟨dk, hdk⟩ : ∃ x, car X Y (k + 1) = x := ⟨_, rfl⟩
        obtain ⟨sk, hsk⟩ : ∃ x, sumw X Y k = x := ⟨_, rfl⟩
        rw [hxk] at hcx
        rw [hyk] at hcy
        rw [hxk, hyk, hck, hdk, hsk] at hadd
        rw [hsk] at HSET
        rw [hck]
        have HDK := Hd.mk hdk
        clear hxk hyk hck hdk hsk hcc
        go_wp2_with (fail)
        go_region
        all_goals
          go_wp2_with (fail)
          go_roundw
          case rel =>
            refine ⟨k + 1, by omega, by go_num, by rw [HDK.out], ⟨C0.out.drew.far (show w.heap.size + 2 ≠ g by omega) _⟩, ⟨?_⟩, ⟨Y0.out.drew.far (show g6 ≠ g from Ne.symm NE.out) _⟩, ⟨(HB0.out.drew).setCell (p := ⟨g, k, none⟩) (by show w.heap.size ≤ g; omega) _⟩⟩
            have h := X0.out.drew.set k (u64v sk)
            rw [HSET.out] at h
            exact h
          case measure => simp [intOf]; omega
      · obtain rfl : k = 4 := by omega
        have HX4 : Hd (Blk wr g 29 ([sumw X Y 0, sumw X Y 1, sumw X Y 2, sumw X Y 3].map u64v)) := ⟨by have h := X0.out; rw [wz_four] at h; exact h⟩
        have HLT : Hd (∀ x ∈ [sumw X Y 0, sumw X Y 1, sumw X Y 2, sumw X Y 3], x ≤ 18446744073709551615) := ⟨by
          have hs := sumw_le X Y
          intro x hx
          simp at hx
          rcases hx with rfl | rfl | rfl | rfl <;> exact hs _⟩
        obtain ⟨ws, hws⟩ : ∃ ws, ws = [sumw X Y 0, sumw X Y 1, sumw X Y 2, sumw X Y 3] := ⟨_, rfl⟩
        have hwl : ws.length = 4 := by rw [hws]; rfl
        rw [← hws] at HX4 HLT HD4
        have HWL := Hd.mk hwl
        clear hws hwl X0 Y0
        go_wp2_with (first
          | (refine wpList_load_row rfl 29 (.tmp 5) rfl g rfl 29 (ws.map u64v).toArray (0, 0) (.array 4 28) HX4.out Try.underlying29 rfl (info_w4.trans (by simp [HWL.out])) ?_)
          | (go_at_call 15; refine (digest_calls ws _ HWL.out HLT.out).mono ?_; rintro e w2 ⟨rfl, hb2⟩; rw [HD4.out]; have HB0 := Hd.mk (below_then HB0.out HB0.out.size hb2); have C0 := Hd.mk (C0.out.below hb2 C0.out.lt); clear hb2)
          | (refine wpList_store_row rfl 23 (.tmp 4) (.tmp 31) rfl (w.heap.size + 2) (bs (addN a b)).toArray rfl rfl 23 (bs (digT [] 0)).toArray C0.out (info_dg.trans (by simp [addN_len])) (by simp [addN_len, digT]) (by simp [u8v, Value.oneCell']) ?_))
        refine bodyPost_ret (results_cell_row rfl _ _ (w.heap.size + 2) 23 (bs (addN a b)).toArray (0, 0) (.array 32 5) rfl (C0.out.putRow _) Try.underlying23 rfl (info_dg.trans (by simp [addN_len]))) rfl ?_
        exact ⟨rfl, below_row HB0.out (by omega) _⟩
end Go.Proofs.Ytohndablfjonhaa
