/- Walks: bytes as pointers, by the program and by the reference; how many blocks. -/
import Derived.Test.YtmebgejjaljhgaaN13Index
namespace Go.Proofs.Ytmebgejjaljhgaa
open Go.RowKit Go.Sac
set_option linter.unusedVariables false
set_option linter.unusedSimpArgs false

theorem info_int : (Try.prog.info? 3).map (fun i => (i.zero, i.size, i.bytes)) = some (some (.int .i64 0), 1, 8) := by kernel_rfl
/-- numbers and an error -/
def RetN (l : List Int) (er : Int) (w : World) (e : Ending) (w' : World) : Prop :=
  ∃ v, e = .returned (.tuple #[v, .int .i64 er]) ∧ w'.ownsRow w.heap.size 3 1 v l.length (ns l) ∧ Below w.heap.size w w'
def fldP (b : List UInt8) (k : Nat) : Nat := getB ((b.drop (4 * k)).take 4)
def ptrL (b : List UInt8) (k : Nat) : List Int := (List.range k).map fun j => (fldP b j : Int)
def ptsP (b : List UInt8) : Bool := decide (b.length = 256) && (ptrL b 64).all fun n => decide (ptrP n)
def ptsL (b : List UInt8) : List Int := if ptsP b = true then ptrL b 64 else []
def ptsE (b : List UInt8) : Int := if ptsP b = true then 0 else 4
theorem pts_no {b : List UInt8} (h : ptsP b = false) : ptsL b = [] ∧ ptsE b = 4 := by unfold ptsL ptsE; rw [h]; exact ⟨rfl, rfl⟩
theorem pts_yes {b : List UInt8} (h : ptsP b = true) : ptsL b = ptrL b 64 ∧ ptsE b = 0 := by unfold ptsL ptsE; rw [h]; exact ⟨rfl, rfl⟩
theorem ptrL_len (b : List UInt8) (k : Nat) : (ptrL b k).length = k := by simp [ptrL]
theorem ptrL_step (b : List UInt8) (k : Nat) : ptrL b (k + 1) = ptrL b k ++ [(fldP b k : Int)] := by unfold ptrL; rw [List.range_succ, List.map_append]; rfl
theorem fldP_lt (b : List UInt8) (k : Nat) : fldP b k < 4294967296 := by
  unfold fldP
  have h : ((b.drop (4 * k)).take 4).length ≤ 4 := by rw [List.length_take]; omega
  rw [getB_small _ (by omega)]
  have h1 := num_lt ((b.drop (4 * k)).take 4)
  have h2 : 256 ^ ((b.drop (4 * k)).take 4).length ≤ 256 ^ 4 := Nat.pow_le_pow_right (by decide) h
  omega
theorem ptrL_at (b : List UInt8) (n k : Nat) (h : k < n) : (ptrL b n)[k]? = some (fldP b k : Int) := by unfold ptrL; rw [List.getElem?_map, List.getElem?_range h]; rfl
theorem pts_bad {b : List UInt8} {k : Nat} (h : k < 64) (hp : ¬ ptrP (fldP b k)) : ptsP b = false := by
  unfold ptsP
  have : ((ptrL b 64).all fun n => decide (ptrP n)) = false := by
    rw [List.all_eq_false]
    exact ⟨_, List.mem_of_getElem? (ptrL_at b 64 k h), by simpa using hp⟩
  rw [this]; simp
theorem pts_good {b : List UInt8} (h : b.length = 256) (hp : ∀ j, j < 64 → ptrP (fldP b j)) : ptsP b = true := by
  unfold ptsP
  rw [Bool.and_eq_true]
  refine ⟨decide_eq_true h, ?_⟩
  rw [List.all_eq_true]
  intro x hx
  unfold ptrL at hx
  obtain ⟨j, hj, rfl⟩ := List.mem_map.1 hx
  exact decide_eq_true (hp j (List.mem_range.1 hj))
set_option maxHeartbeats 4000000 in
theorem pointers_calls (A : Option Addr) (c : Nat) (b : List UInt8) (w : World) (hl : Rc w A (bs b)) (hc : b.length ≤ c) (hn : b.length ≤ 1099511627776) :
    Calls Try.prog 26 #[.slice A b.length c] w (RetN (ptsL b) (ptsE b) w) := by
  have HL := Hd.mk hl
  have HC := Hd.mk hc
  clear hl hc
  by_cases h256 : b.length = 256
  · have c1 : ((b.length : Int) != 256) = false := by simp; omega
    have H256 := Hd.mk h256
    go_enter Try.func26, Try.ntmps26
    go_wp2
    go_loopw [4, 5] (fun v i wr => ∃ k o : Nat, k ≤ 64 ∧ Hd (o = 4 * k) ∧ i = .int .i64 (o : Int) ∧ Hd (wr.ownsRow w.heap.size 3 1 v k (ns (ptrL b k))) ∧ Hd (Below w.heap.size w wr) ∧ Hd (∀ j, j < k → ptrP (fldP b j))) (fun _ i _ => 256 - (intOf i).toNat)
    case atStart => exact ⟨0, 0, by omega, ⟨rfl⟩, rfl, ⟨World.ownsRow_nil _ _ _ _⟩, ⟨Below.refl _ _⟩, ⟨fun j hj => by omega⟩⟩
    case round =>
      obtain ⟨k, o, hk, HO4, rfl, HO, HB, HI⟩ := hrel
      have ho := HO4.out
      obtain ⟨A1, c3, rfl, _, _, _⟩ := own_rc HO.out
      by_cases hlt : k < 64
      · have hob : o < b.length := by omega
        have hob4 : o + 4 ≤ 256 := by omega
        obtain ⟨A2, hcut, hrc, _⟩ := cut_mid (P := Try.prog) 25 5 Try.underlying25 info_u8 A b.length c o (o + 4) (by omega) (by omega) HC.out
        have hR := hrc wr (bs b) (bs_len b) (HL.out.below HB.out)
        have hlen : ((b.drop o).take 4).length = 4 := by rw [List.length_take, List.length_drop]; omega
        have HR : Hd (Rc wr A2 (bs ((b.drop o).take 4))) := ⟨by
          rw [List.drop_take, show o + 4 - o = 4 by omega] at hR
          rw [bs, List.map_take, List.map_drop]; exact hR⟩
        have hcut2 : ∀ W : World, (Instr.slice 25 (.slice A b.length c) (some (.int .i64 (o : Int))) (some (.int .i64 ((o : Int) + 4))) none).run Try.prog W = .ok (.slice A2 4 (c - o)) W := fun W => by
          have := hcut W
          rw [show o + 4 - o = 4 by omega] at this
          exact this
        have hx4 := fldP_lt b k
        have HG : Hd (getB ((b.drop o).take 4) = fldP b k) := ⟨by rw [ho]; rfl⟩
        have hst := Hd.mk (ptrL_step b k)
        have hbad := fun (h : ¬ ptrP (fldP b k)) => pts_bad hlt h
        obtain ⟨x, hx⟩ : ∃ x, fldP b k = x := ⟨_, rfl⟩
        have HXK := Hd.mk hx
        rw [hx] at hx4 HG hst hbad
        have hwx : IntKind.i64.wrap (x : Int) = (x : Int) := by rw [IntKind.wrap_i64]; omega
        have HLN := Hd.mk hlen
        have HC4 : Hd (4 ≤ c - o) := ⟨by have := HC.out; omega⟩
        have HK := Hd.mk hlt
        clear hcut hrc hR hlen hx h256 ho
        by_cases hin : ptrP x
        · have d2 : decide ((x : Int) ≥ 4096) = false := by have := hin.2; simp; omega
          have HIN := Hd.mk hin
          clear hin hbad
          go_wp2_with (first
            | (go_at_call 36; refine (get_any A2 4 (c - o) _ _ HR.out (by rw [HLN.out]; exact HC4.out) (by rw [HLN.out]; decide) HLN.out.symm).mono ?_; rintro e w1 ⟨rfl, rfl⟩; rw [HG.out])
            | (at_builtin; refine app_rc w.heap.size 43 3 (.int .i64 0) 1 8 (.tmp 25) (.tmp 27) rfl rfl Try.underlying43 info_int rfl (by decide) (by decide) (.slice A1 k c3) k (ns (ptrL b k)) [.int .i64 (x : Int)] (some ⟨_, 0, none⟩) 1 1 rfl rfl (own_alloc HO.out _) (Rc.one _ _ _) (by simp) (by simp [Value.oneCell']) (Nat.le_trans HB.out.size (by simp)) (by have := HK.out; omega) (k + 1) (ns (ptrL b (k + 1))) rfl (by rw [hst.out]; simp [ns, i64v]) ?_; intro v3 w3 ho3 hg hat; have HO3 := Hd.mk ho3; have HG3 := Hd.mk hg; clear ho3 hg hat))
          go_roundw
          case rel =>
            refine ⟨k + 1, o + 4, by omega, ⟨by have := HO4.out; omega⟩, by go_num, HO3, ⟨below_lift (HB.out.alloc HB.out.size _) (Nat.le_trans HB.out.size (by simp)) HG3.out (fun b hb => (own_lt HO.out b hb).1)⟩, ⟨fun j hjk => ?_⟩⟩
            rcases (show j < k ∨ j = k by omega) with h | rfl
            · exact HI.out j h
            · rw [HXK.out]; exact HIN.out
          case measure => simp [intOf]; omega
        · have d2 : decide ((x : Int) ≥ 4096) = true := by
            simp only [decide_eq_true_eq]
            unfold ptrP at hin
            omega
          have HNO := Hd.mk (pts_no (hbad hin))
          clear hin hbad
          go_wp2_with (go_at_call 36; refine (get_any A2 4 (c - o) _ _ HR.out (by rw [HLN.out]; exact HC4.out) (by rw [HLN.out]; decide) HLN.out.symm).mono ?_; rintro e w1 ⟨rfl, rfl⟩; rw [HG.out])
          go_ret2
          rw [HNO.out.1, HNO.out.2]
          exact ⟨_, rfl, World.ownsRow_nil _ _ _ _, HB.out⟩
      · obtain rfl : k = 64 := by omega
        have hob : ¬ (o : Int) < (b.length : Int) := by omega
        have HYE := Hd.mk (pts_yes (pts_good H256.out HI.out))
        clear h256 ho
        go_wp2
        go_ret2
        rw [HYE.out.1, HYE.out.2, ]
        exact ⟨_, rfl, by rw [ptrL_len]; exact HO.out, HB.out⟩
  · have c1 : ((b.length : Int) != 256) = true := by simp; omega
    have HNO := Hd.mk (pts_no (b := b) (by unfold ptsP; simp [h256]))
    clear h256
    go_enter Try.func26, Try.ntmps26
    go_wp2
    go_ret2
    rw [HNO.out.1, HNO.out.2]
    exact ⟨_, rfl, World.ownsRow_nil _ _ _ _, Below.refl _ _⟩
theorem get13_ptr (A : Option Addr) (n c : Nat) (b : List UInt8) (at_ wd : Int) (k x : Nat) (w : World) (hl : Rc w A (bs b)) (e1 : n = b.length) (hc : b.length ≤ c) (h256 : b.length = 256) (hk : k < 64) (ho : at_ = (4 * k : Nat)) (hm : wd = 4) (hx : fldP b k = x) :
    Calls Try.prog 38 #[.slice A n c, .int .i64 at_, .int .i64 wd] w fun e w' => e = .returned (.int .i64 (x : Int)) ∧ w' = w := by
  subst hx
  exact get13_calls A n c b at_ wd (4 * k) 4 (fldP b k) w hl e1 hc (by omega) ho hm (by omega) (by omega) rfl (fldP_lt b k)
set_option maxHeartbeats 4000000 in
theorem rpointers_calls (A : Option Addr) (c : Nat) (b : List UInt8) (w : World) (hl : Rc w A (bs b)) (hc : b.length ≤ c) :
    Calls Try.prog 27 #[.slice A b.length c] w (RetN (ptsL b) (ptsE b) w) := by
  have HL := Hd.mk hl
  have HC := Hd.mk hc
  clear hl hc
  by_cases h256 : b.length = 256
  · have c1 : ((b.length : Int) != 256) = false := by simp; omega
    have H256 := Hd.mk h256
    clear h256
    go_enter Try.func27, Try.ntmps27
    go_wp2
    go_loopw [4, 5] (fun v i wr => ∃ k : Nat, k ≤ 64 ∧ i = .int .i64 (k : Int) ∧ Hd (wr.ownsRow w.heap.size 3 1 v k (ns (ptrL b k))) ∧ Hd (Below w.heap.size w wr) ∧ Hd (∀ j, j < k → ptrP (fldP b j))) (fun _ i _ => 64 - (intOf i).toNat)
    case atStart => exact ⟨0, by omega, rfl, ⟨World.ownsRow_nil _ _ _ _⟩, ⟨Below.refl _ _⟩, ⟨fun j hj => by omega⟩⟩
    case round =>
      obtain ⟨k, hk, rfl, HO, HB, HI⟩ := hrel
      obtain ⟨A1, c3, rfl, _, _, _⟩ := own_rc HO.out
      by_cases hlt : k < 64
      · have hst := Hd.mk (ptrL_step b k)
        have hbad := fun (h : ¬ ptrP (fldP b k)) => pts_bad hlt h
        have hx4 := fldP_lt b k
        have hnk : (ns (ptrL b (k + 1)))[k]? = some (.int .i64 (fldP b k : Int)) := by rw [ns, List.getElem?_map, ptrL_at b (k + 1) k (by omega)]; rfl
        obtain ⟨x, hx⟩ : ∃ x, fldP b k = x := ⟨_, rfl⟩
        have HXK := Hd.mk hx
        rw [hx] at hst hbad hx4 hnk
        have HNK := Hd.mk hnk
        have HK := Hd.mk hlt
        clear hx hnk
        by_cases hin : ptrP x
        · have HIN := Hd.mk hin
          have HP : Hd (decide (0 ≤ (x : Int) ∧ (x : Int) ≤ 4095) = true) := ⟨decide_eq_true hin⟩
          clear hin hbad
          go_wp2_with (first
            | (go_at_call 38; refine (get13_ptr A _ c b _ 4 k x _ (HL.out.below HB.out) rfl HC.out H256.out HK.out (by omega) rfl HXK.out).mono ?_; rintro e w1 ⟨rfl, rfl⟩)
            | (at_builtin; refine app_rc w.heap.size 43 3 (.int .i64 0) 1 8 (.tmp 13) (.tmp 18) rfl rfl Try.underlying43 info_int rfl (by decide) (by decide) (.slice A1 k c3) k (ns (ptrL b k)) [.int .i64 (x : Int)] (some ⟨_, 0, none⟩) 1 1 rfl rfl (own_alloc HO.out _) (Rc.one _ _ _) (by simp) (by simp [Value.oneCell']) (Nat.le_trans HB.out.size (by simp)) (by have := HK.out; omega) (k + 1) (ns (ptrL b (k + 1))) rfl (by rw [hst.out]; simp [ns, i64v]) ?_; intro v3 w3 ho3 hg hat; obtain ⟨g', cap', rfl⟩ := ownsRow_succ ho3; have hcell := own_at ho3 HNK.out; have HO3 := Hd.mk ho3; have HG3 := Hd.mk hg; clear ho3 hg hat)
            | (go_at_call 35; refine (pointer_b _ true _ HP.out).mono ?_; rintro e w1 ⟨rfl, rfl⟩))
          go_roundw
          case rel =>
            refine ⟨k + 1, by omega, by go_num, HO3, ⟨below_lift (HB.out.alloc HB.out.size _) (Nat.le_trans HB.out.size (by simp)) HG3.out (fun b hb => (own_lt HO.out b hb).1)⟩, ⟨fun j hjk => ?_⟩⟩
            rcases (show j < k ∨ j = k by omega) with h | rfl
            · exact HI.out j h
            · rw [HXK.out]; exact HIN.out
          case measure => simp [intOf]; omega
        · have HNO := Hd.mk (pts_no (hbad hin))
          have HP : Hd (decide (0 ≤ (x : Int) ∧ (x : Int) ≤ 4095) = false) := ⟨decide_eq_false hin⟩
          clear hin hbad
          go_wp2_with (first
            | (go_at_call 38; refine (get13_ptr A _ c b _ 4 k x _ (HL.out.below HB.out) rfl HC.out H256.out HK.out (by omega) rfl HXK.out).mono ?_; rintro e w1 ⟨rfl, rfl⟩)
            | (at_builtin; refine app_rc w.heap.size 43 3 (.int .i64 0) 1 8 (.tmp 13) (.tmp 18) rfl rfl Try.underlying43 info_int rfl (by decide) (by decide) (.slice A1 k c3) k (ns (ptrL b k)) [.int .i64 (x : Int)] (some ⟨_, 0, none⟩) 1 1 rfl rfl (own_alloc HO.out _) (Rc.one _ _ _) (by simp) (by simp [Value.oneCell']) (Nat.le_trans HB.out.size (by simp)) (by have := HK.out; omega) (k + 1) (ns (ptrL b (k + 1))) rfl (by rw [hst.out]; simp [ns, i64v]) ?_; intro v3 w3 ho3 hg hat; obtain ⟨g', cap', rfl⟩ := ownsRow_succ ho3; have hcell := own_at ho3 HNK.out; have HO3 := Hd.mk ho3; have HG3 := Hd.mk hg; clear ho3 hg hat)
            | (go_at_call 35; refine (pointer_b _ false _ HP.out).mono ?_; rintro e w1 ⟨rfl, rfl⟩))
          go_ret2
          rw [HNO.out.1, HNO.out.2]
          exact ⟨_, rfl, World.ownsRow_nil _ _ _ _, below_lift (HB.out.alloc HB.out.size _) (Nat.le_trans HB.out.size (by simp)) HG3.out (fun b hb => (own_lt HO.out b hb).1)⟩
      · obtain rfl : k = 64 := by omega
        have HYE := Hd.mk (pts_yes (pts_good H256.out HI.out))
        go_wp2
        go_ret2
        rw [HYE.out.1, HYE.out.2]
        exact ⟨_, rfl, by rw [ptrL_len]; exact HO.out, HB.out⟩
  · have c1 : ((b.length : Int) != 256) = true := by simp; omega
    have HNO := Hd.mk (pts_no (b := b) (by unfold ptsP; simp [h256]))
    clear h256
    go_enter Try.func27, Try.ntmps27
    go_wp2
    go_ret2
    rw [HNO.out.1, HNO.out.2]
    exact ⟨_, rfl, World.ownsRow_nil _ _ _ _, Below.refl _ _⟩
end Go.Proofs.Ytmebgejjaljhgaa
