/- Walks: the reference: bytes as an inode. -/
import Derived.Test.YtmebgejjaljhgaaN13Decode
namespace Go.Proofs.Ytmebgejjaljhgaa
open Go.RowKit Go.Sac
set_option linter.unusedVariables false
set_option linter.unusedSimpArgs false

theorem rget_any (A : Option Addr) (n c : Nat) (l : List UInt8) (x : Nat) (w : World) (hl : Rc w A (bs l)) (hc : l.length ≤ c) (h4 : l.length ≤ 4) (e1 : n = l.length) (hx : getB l = x) :
    Calls Try.prog 42 #[.slice A n c] w fun e w' => e = .returned (.int .u64 (x : Int)) ∧ w' = w := by
  subst e1
  have h := rget_calls A c l w hl hc (by omega)
  rwa [← get_m64, hx] at h
set_option maxHeartbeats 1000000 in
theorem get13_calls (A : Option Addr) (n c : Nat) (b : List UInt8) (at_ wd : Int) (o m x : Nat) (w : World) (hl : Rc w A (bs b)) (e1 : n = b.length) (hc : b.length ≤ c) (hn : b.length ≤ 1000000) (ho : at_ = o) (hm : wd = m) (h4 : m ≤ 4) (hle : o + m ≤ b.length) (hx : getB ((b.drop o).take m) = x) (hx4 : x < 4294967296) :
    Calls Try.prog 38 #[.slice A n c, .int .i64 at_, .int .i64 wd] w fun e w' => e = .returned (.int .i64 (x : Int)) ∧ w' = w := by
  subst e1; subst ho; subst hm
  obtain ⟨A1, hcut, hrc, _⟩ := cut_mid (P := Try.prog) 25 5 Try.underlying25 info_u8 A b.length c o (o + m) (by omega) (by omega) (by omega)
  have hR := hrc w (bs b) (bs_len b) hl
  have hlen : ((b.drop o).take m).length = m := by rw [List.length_take, List.length_drop]; omega
  have HR : Hd (Rc w A1 (bs ((b.drop o).take m))) := ⟨by
    rw [List.drop_take, show o + m - o = m by omega] at hR
    rw [bs, List.map_take, List.map_drop]; exact hR⟩
  have hcut2 : ∀ W : World, (Instr.slice 25 (.slice A b.length c) (some (.int .i64 (o : Int))) (some (.int .i64 ((o : Int) + (m : Int)))) none).run Try.prog W = .ok (.slice A1 m (c - o)) W := fun W => by
    have := hcut W
    rw [show o + m - o = m by omega] at this
    exact this
  have hwx : IntKind.i64.wrap (x : Int) = (x : Int) := by rw [IntKind.wrap_i64]; omega
  have hwa : IntKind.i64.wrap ((o : Int) + (m : Int)) = (o : Int) + (m : Int) := by rw [IntKind.wrap_i64]; omega
  have HX := Hd.mk hx
  have HL := Hd.mk hlen
  have HLE := Hd.mk hle
  have HC := Hd.mk hc
  have H4 := Hd.mk h4
  clear hx hlen hle hc h4 hl hrc hR hcut
  go_enter Try.func38, Try.ntmps38
  go_wp2_with (go_at_call 42; refine (rget_any A1 m (c - o) _ x _ HR.out (by rw [HL.out]; have := HLE.out; have := HC.out; omega) (by rw [HL.out]; exact H4.out) HL.out.symm HX.out).mono ?_; rintro e w1 ⟨rfl, rfl⟩)
  go_ret
  exact ⟨rfl, rfl⟩
def decR (b : List UInt8) (k : Nat) : List Int := (List.range 10).map fun j => if j < 3 + k ∨ j = 9 then (fldI b j : Int) else 0
theorem decR_len (b : List UInt8) (k : Nat) : (decR b k).length = 10 := by simp [decR]
theorem decR_zero (b : List UInt8) : decR b 0 = [(fldI b 0 : Int), (fldI b 1 : Int), (fldI b 2 : Int), 0, 0, 0, 0, 0, 0, (fldI b 9 : Int)] := by simp [decR]; rfl
theorem decR_step (b : List UInt8) (k : Nat) (h : k < 6) : (decR b k).set (3 + k) (fldI b (3 + k) : Int) = decR b (k + 1) := by
  apply List.ext_getElem
  · simp [decR]
  · intro i h1 h2
    simp only [decR, List.getElem_set, List.getElem_map, List.getElem_range]
    by_cases hik : 3 + k = i
    · subst hik; simp
    · rw [if_neg hik]
      by_cases hlt : i < 3 + k ∨ i = 9
      · rw [if_pos hlt, if_pos (by omega)]
      · rw [if_neg hlt, if_neg (by omega)]
theorem decR_end (b : List UInt8) : decR b 6 = decL b := by
  unfold decR decL decK
  apply List.map_congr_left
  intro j hj
  have := List.mem_range.1 hj
  rw [if_pos (by omega), if_pos this]
theorem off_ptr (k : Nat) (h : k ≤ 6) : offI (3 + k) = 7 + 4 * k ∧ wideI (3 + k) = 4 := by
  rcases (show k = 0 ∨ k = 1 ∨ k = 2 ∨ k = 3 ∨ k = 4 ∨ k = 5 ∨ k = 6 by omega) with rfl | rfl | rfl | rfl | rfl | rfl | rfl <;> decide
/-- a number at a place -/
theorem get13_fld (A : Option Addr) (n c : Nat) (b : List UInt8) (at_ wd : Int) (k : Nat) (w : World) (hl : Rc w A (bs b)) (e1 : n = b.length) (hc : b.length ≤ c) (hn : b.length ≤ 1000000) (hk : k < 10) (ho : at_ = offI k) (hm : wd = wideI k) (hb : 35 ≤ b.length) :
    Calls Try.prog 38 #[.slice A n c, .int .i64 at_, .int .i64 wd] w fun e w' => e = .returned (.int .i64 (fldI b k : Int)) ∧ w' = w :=
  get13_calls A n c b at_ wd (offI k) (wideI k) (fldI b k) w hl e1 hc hn ho hm (wideI_le k) (Nat.le_trans (offI_mono k hk) hb) rfl (fldI_lt b k)
theorem decP_len {b : List UInt8} (h : ¬ b.length = 64) : decP b = false := by rw [decP_ref]; simp [h]
theorem drop_all (b : List UInt8) (h64 : b.length = 64) : ((b.drop 35).all (· == 0) = true) ↔ ∀ i, 35 ≤ i → (h : i < b.length) → b[i] = 0 := by
  rw [List.all_eq_true]
  constructor
  · intro h i h1 h2
    have hm : b[i] ∈ b.drop 35 := by
      rw [List.mem_drop_iff_getElem]
      exact ⟨i - 35, by omega, by congr 1; omega⟩
    simpa using h _ hm
  · intro h x hx
    rw [List.mem_drop_iff_getElem] at hx
    obtain ⟨j, hj, rfl⟩ := hx
    simpa using h (35 + j) (by omega) (by omega)
set_option maxHeartbeats 8000000 in
theorem rdecode_calls (A : Option Addr) (c : Nat) (b : List UInt8) (w : World) (hl : Rc w A (bs b)) (hc : b.length ≤ c) (hn : b.length ≤ 1000000) :
    Calls Try.prog 25 #[.slice A b.length c] w (RetI (decX b) (decE b) w) := by
  have HL := Hd.mk hl
  have HC := Hd.mk hc
  have HN := Hd.mk hn
  have K0 : Hd (Blk (w.alloc (.cells #[.int .i64 0, .int .i64 0, .int .i64 0, .int .i64 0, .int .i64 0, .int .i64 0, .int .i64 0, .int .i64 0, .int .i64 0, .int .i64 0] 24)) w.heap.size 24 (ns zeroI)) := ⟨Blk.new w _ (ns zeroI)⟩
  have HB : Hd (Below w.heap.size w (w.alloc (.cells #[.int .i64 0, .int .i64 0, .int .i64 0, .int .i64 0, .int .i64 0, .int .i64 0, .int .i64 0, .int .i64 0, .int .i64 0, .int .i64 0] 24))) := ⟨(Below.refl _ w).alloc (Nat.le_refl _) _⟩
  by_cases h64 : b.length = 64
  · have c1 : ((b.length : Int) != 64) = false := by simp; omega
    have H64 := Hd.mk h64
    have H35 : Hd (35 ≤ b.length) := ⟨by omega⟩
    have K1 : Hd (Blk ((w.alloc (.cells #[.int .i64 0, .int .i64 0, .int .i64 0, .int .i64 0, .int .i64 0, .int .i64 0, .int .i64 0, .int .i64 0, .int .i64 0, .int .i64 0] 24)).alloc (.cells #[.int .i64 (fldI b 0 : Int), .int .i64 (fldI b 1 : Int), .int .i64 (fldI b 2 : Int), .int .i64 0, .int .i64 0, .int .i64 0, .int .i64 0, .int .i64 0, .int .i64 0, .int .i64 (fldI b 9 : Int)] 24)) (w.heap.size + 1) 24 (ns (decR b 0))) := ⟨by
      rw [decR_zero]
      have := Blk.new (w.alloc (.cells #[.int .i64 0, .int .i64 0, .int .i64 0, .int .i64 0, .int .i64 0, .int .i64 0, .int .i64 0, .int .i64 0, .int .i64 0, .int .i64 0] 24)) 24 (ns [(fldI b 0 : Int), (fldI b 1 : Int), (fldI b 2 : Int), 0, 0, 0, 0, 0, 0, (fldI b 9 : Int)])
      rw [World.size_alloc] at this; exact this⟩
    have K2 := Hd.mk (K0.out.alloc (.cells #[.int .i64 (fldI b 0 : Int), .int .i64 (fldI b 1 : Int), .int .i64 (fldI b 2 : Int), .int .i64 0, .int .i64 0, .int .i64 0, .int .i64 0, .int .i64 0, .int .i64 0, .int .i64 (fldI b 9 : Int)] 24))
    have HB2 := Hd.mk (HB.out.alloc HB.out.size (.cells #[.int .i64 (fldI b 0 : Int), .int .i64 (fldI b 1 : Int), .int .i64 (fldI b 2 : Int), .int .i64 0, .int .i64 0, .int .i64 0, .int .i64 0, .int .i64 0, .int .i64 0, .int .i64 (fldI b 9 : Int)] 24))
    clear hl hc hn h64
    have T0 : Hd True := ⟨trivial⟩
    have T1 : Hd True := ⟨trivial⟩
    have T2 : Hd True := ⟨trivial⟩
    have T3 : Hd True := ⟨trivial⟩
    go_enter Try.func25, Try.ntmps25
    go_wp2_with (first
      | (go_at_call 38; clear T0; refine (get13_fld A _ c b 0 1 0 _ (HL.out.below HB.out) rfl HC.out HN.out (by decide) rfl rfl H35.out).mono ?_; rintro e w1 ⟨rfl, rfl⟩)
      | (go_at_call 38; clear T1; refine (get13_fld A _ c b 1 2 1 _ (HL.out.below HB.out) rfl HC.out HN.out (by decide) rfl rfl H35.out).mono ?_; rintro e w1 ⟨rfl, rfl⟩)
      | (go_at_call 38; clear T2; refine (get13_fld A _ c b 3 4 2 _ (HL.out.below HB.out) rfl HC.out HN.out (by decide) rfl rfl H35.out).mono ?_; rintro e w1 ⟨rfl, rfl⟩)
      | (go_at_call 38; clear T3; refine (get13_fld A _ c b 31 4 9 _ (HL.out.below HB.out) rfl HC.out HN.out (by decide) rfl rfl H35.out).mono ?_; rintro e w1 ⟨rfl, rfl⟩))
    go_loopw [5] (fun i wr => ∃ k : Nat, k ≤ 6 ∧ i = .int .i64 k ∧ Hd (Blk wr w.heap.size 24 (ns zeroI)) ∧ Hd (Blk wr (w.heap.size + 1) 24 (ns (decR b k))) ∧ Hd (Below w.heap.size w wr)) (fun i _ => 6 - (intOf i).toNat)
    case atStart => exact ⟨0, by omega, rfl, K2, K1, HB2⟩
    case round =>
      clear K0 HB K1 K2 HB2
      obtain ⟨k, hk, rfl, K0, K1, HB⟩ := hrel
      by_cases hlt : k < 6
      · have hcx := K1.out.cell (ns_get (decR b k) (3 + k) (by rw [decR_len]; omega))
        have hfz := K1.out.frz (3 + k)
        have HST := Hd.mk (decR_step b k hlt)
        have HOF := Hd.mk (off_ptr k hk)
        obtain ⟨x, hx⟩ : ∃ x, fldI b (3 + k) = x := ⟨_, rfl⟩
        have HXX := Hd.mk hx
        rw [hx] at HST
        have HLT := Hd.mk hlt
        clear hx
        go_wp2_with (go_at_call 38; refine (get13_fld A _ c b _ 4 (3 + k) _ (HL.out.below HB.out) rfl HC.out HN.out (by have := HLT.out; omega) (by have := HOF.out; omega) (by have := HOF.out; omega) H35.out).mono ?_; rintro e w1 ⟨rfl, rfl⟩; rw [HXX.out])
        go_roundw
        case rel =>
          have hset := K1.out.set (3 + k) (.int .i64 (x : Int))
          rw [show Value.int .i64 (x : Int) = i64v (x : Int) from rfl, ns, ← List.map_set, HST.out] at hset
          exact ⟨k + 1, by omega, by go_num, ⟨K0.out.far (by show w.heap.size ≠ w.heap.size + 1; omega) _⟩, ⟨hset⟩, ⟨HB.out.setCell (p := ⟨w.heap.size + 1, 3 + k, none⟩) (Nat.le_succ _) _⟩⟩
        case measure => simp [intOf]; omega
      · obtain rfl : k = 6 := by omega
        rw [decR_end] at K1
        go_wp2_with (fail)
        go_loop [6] (fun i => ∃ k : Nat, 35 ≤ k ∧ k ≤ 64 ∧ i = .int .i64 k ∧ Hd (∀ j, 35 ≤ j → (h : j < b.length) → j < k → b[j] = 0)) (fun i => 64 - (intOf i).toNat)
        case atStart => exact ⟨35, by omega, by omega, rfl, ⟨fun j h1 h2 h3 => by omega⟩⟩
        case round =>
          obtain ⟨k, hk35, hk64, rfl, HZ⟩ := hrel
          by_cases hlt : k < 64
          · obtain ⟨bb, off, rfl, hbb, hcc⟩ := HL.out.form (by rw [bs_len]; have := H64.out; omega)
            have hkb : k < b.length := by have := H64.out; omega
            have h1 := (HB.out.cell (p := ⟨bb, off + k, none⟩) hbb).trans (hcc k _ (bs_at hkb))
            obtain ⟨z, hz⟩ : ∃ z, b[k] = z := ⟨_, rfl⟩
            rw [hz] at h1
            have HZZ : Hd (∀ (h : k < b.length), b[k] = z) := ⟨fun _ => hz⟩
            clear hcc hz
            by_cases hz0 : z = 0
            · have c2 : ((z.toNat : Int) != 0) = false := by rw [hz0]; rfl
              have HZ0 := Hd.mk hz0
              clear hz0
              go_wp2
              go_round
              case rel =>
                refine ⟨k + 1, by omega, by omega, by go_num, ⟨fun j h1 h2 h3 => ?_⟩⟩
                rcases (show j < k ∨ j = k by omega) with h | rfl
                · exact HZ.out j h1 h2 h
                · rw [HZZ.out h2, HZ0.out]
              case measure => simp [intOf]; omega
            · have c2 : ((z.toNat : Int) != 0) = true := by
                rw [bne_iff_ne]; intro h; exact hz0 (UInt8.toNat_inj.1 (by show z.toNat = 0; omega))
              have HNO : Hd (decX b = zeroI ∧ decE b = 4) := ⟨dec_no (by
                rw [decP_ref]
                have : (b.drop 35).all (· == 0) = false := by
                  cases he : (b.drop 35).all (· == 0)
                  · rfl
                  · exact absurd ((HZZ.out hkb).symm.trans ((drop_all b H64.out).1 he k hk35 hkb)) hz0
                rw [this]; simp)⟩
              clear hz0
              go_wp2_with (refine wpList_store_row rfl 24 (.tmp 2) (.tmp 41) rfl w.heap.size (ns zeroI).toArray rfl rfl 24 _ K0.out zero_size rfl zero_one ?_)
              rw [HNO.out.1, HNO.out.2]
              refine bodyPost_ret (results_cell_slot rfl _ _ w.heap.size _ _ rfl rfl (load_row (K0.out.putRow (ns zeroI)) Try.underlying24 rfl zero_len)) rfl ?_
              exact ⟨rfl, below_row HB.out (Nat.le_refl _) _⟩
          · obtain rfl : k = 64 := by omega
            have HLN : Hd ((decL b).length = 10) := ⟨decK_len b 10⟩
            have HSZ : Hd ((Try.prog.info? 24).map (·.size) = some (ns (decL b)).toArray.size) := ⟨info_inode.trans (by simp [HLN.out])⟩
            have HSL : Hd ((Try.prog.info? 24).map (·.size) = some (ns (decL b)).length) := ⟨info_inode.trans (by simp [HLN.out])⟩
            have HON : Hd ((ns (decL b)).toArray.all (·.oneCell') = true) := ⟨by
              rw [List.all_toArray, List.all_eq_true]
              exact ns_one⟩
            have HS1 : Hd ((ns zeroI).toArray.size = (ns (decL b)).toArray.size) := ⟨by simp [HLN.out, zeroI]⟩
            have HAL : Hd ((b.drop 35).all (· == 0) = true) := ⟨(drop_all b H64.out).2 fun i h1 h2 => HZ.out i h1 h2 (by have := H64.out; omega)⟩
            cases hr : rightB (decL b)
            · have HNO : Hd (decX b = zeroI ∧ decE b = 4) := ⟨dec_no (by rw [decP_ref, hr]; simp)⟩
              have HR := Hd.mk hr
              clear hr
              go_wp2_with (first
                | (refine wpList_load_row_w rfl 24 (.tmp 4) rfl (w.heap.size + 1) rfl 24 _ (0, 0) _ K1.out Try.underlying24 rfl HSZ.out ?_)
                | (go_at_call 23; refine (rright_calls (decL b) _ HLN.out).mono ?_; rintro e w7 ⟨rfl, hb7⟩; rw [HR.out]; have K0 := Hd.mk (K0.out.below hb7 K0.out.lt); have HB := Hd.mk (below_then HB.out HB.out.size hb7); clear hb7)
                | (refine wpList_store_row rfl 24 (.tmp 2) (.tmp 45) rfl w.heap.size (ns zeroI).toArray rfl rfl 24 _ K0.out zero_size rfl zero_one ?_))
              rw [HNO.out.1, HNO.out.2]
              refine bodyPost_ret (results_cell_slot rfl _ _ w.heap.size _ _ rfl rfl (load_row (K0.out.putRow (ns zeroI)) Try.underlying24 rfl zero_len)) rfl ?_
              exact ⟨rfl, below_row HB.out (Nat.le_refl _) _⟩
            · have HYE : Hd (decX b = decL b ∧ decE b = 0) := ⟨dec_yes (by rw [decP_ref, hr, HAL.out]; simp [H64.out])⟩
              have HR := Hd.mk hr
              clear hr
              go_wp2_with (first
                | (refine wpList_load_row_w rfl 24 (.tmp 4) rfl (w.heap.size + 1) rfl 24 _ (0, 0) _ K1.out Try.underlying24 rfl HSZ.out ?_)
                | (go_at_call 23; refine (rright_calls (decL b) _ HLN.out).mono ?_; rintro e w7 ⟨rfl, hb7⟩; rw [HR.out]; have K0 := Hd.mk (K0.out.below hb7 K0.out.lt); have K1 := Hd.mk (K1.out.below hb7 K1.out.lt); have HB := Hd.mk (below_then HB.out HB.out.size hb7); clear hb7)
                | (refine wpList_store_row rfl 24 (.tmp 2) (.tmp 46) rfl w.heap.size (ns (decL b)).toArray rfl rfl 24 _ K0.out HSZ.out HS1.out HON.out ?_))
              rw [HYE.out.1, HYE.out.2]
              refine bodyPost_ret (results_cell_slot rfl _ _ w.heap.size _ _ rfl rfl (load_row (K0.out.putRow (ns (decL b))) Try.underlying24 rfl HSL.out)) rfl ?_
              exact ⟨rfl, below_row HB.out (Nat.le_refl _) _⟩
  · have c1 : ((b.length : Int) != 64) = true := by simp; omega
    have HNO := Hd.mk (dec_no (decP_len h64))
    clear h64 hl hc hn
    go_enter Try.func25, Try.ntmps25
    go_wp2_with (refine wpList_store_row rfl 24 (.tmp 2) (.tmp 10) rfl w.heap.size (ns zeroI).toArray rfl rfl 24 _ K0.out zero_size rfl zero_one ?_)
    rw [HNO.out.1, HNO.out.2]
    refine bodyPost_ret (results_cell_slot rfl _ _ w.heap.size _ _ rfl rfl (load_row (K0.out.putRow (ns zeroI)) Try.underlying24 rfl zero_len)) rfl ?_
    exact ⟨rfl, below_row HB.out (Nat.le_refl _) _⟩
end Go.Proofs.Ytmebgejjaljhgaa
