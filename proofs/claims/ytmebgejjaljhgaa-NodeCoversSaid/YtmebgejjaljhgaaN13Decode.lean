/- Walks: bytes as an inode. -/
import Derived.Test.YtmebgejjaljhgaaP13
import Derived.Test.YtmebgejjaljhgaaBaseR2
import Derived.Test.YtmebgejjaljhgaaBase11
namespace Go.Proofs.Ytmebgejjaljhgaa
open Go.RowKit Go.Sac
set_option linter.unusedVariables false
set_option linter.unusedSimpArgs false

theorem equal_any (A B : Option Addr) (n k c d : Nat) (l m : List UInt8) (w : World) (hl : Rc w A (bs l)) (hm : Rc w B (bs m)) (hn : l.length ≤ 1099511627776) (e1 : n = l.length) (e2 : k = m.length) :
    Calls Try.prog 37 #[.slice A n c, .slice B k d] w fun e w' => e = .returned (.bool (l == m)) ∧ Below w.heap.size w w' := by
  subst e1; subst e2
  by_cases h : l.length = m.length
  · exact (equal_long A B c d l m w hl hm h.symm (by omega)).mono fun e w' ⟨h1, h2⟩ => ⟨h1, by rw [h2]; exact (Below.refl _ _).alloc (Nat.le_refl _) _⟩
  · refine (equal_short A B c d l m w h).mono fun e w' ⟨h1, h2⟩ => ⟨?_, by rw [h2]; exact Below.refl _ _⟩
    have : (l == m) = false := by rw [beq_eq_false_iff_ne]; rintro rfl; exact h rfl
    rw [this]; exact h1
theorem equal_b (A B : Option Addr) (n k c d : Nat) (l m : List UInt8) (b : Bool) (w : World) (hl : Rc w A (bs l)) (hm : Rc w B (bs m)) (hn : l.length ≤ 1099511627776) (e1 : n = l.length) (e2 : k = m.length) (hb : (l == m) = b) :
    Calls Try.prog 37 #[.slice A n c, .slice B k d] w fun e w' => e = .returned (.bool b) ∧ Below w.heap.size w w' := by
  subst hb; exact equal_any A B n k c d l m w hl hm hn e1 e2
theorem zero_one : (ns zeroI).toArray.all (·.oneCell') = true := by simp [ns, zeroI, i64v, Value.oneCell']
theorem zero_size : (Try.prog.info? 24).map (·.size) = some (ns zeroI).toArray.size := info_inode.trans (by simp [ns, zeroI])
theorem zero_len : (Try.prog.info? 24).map (·.size) = some (ns zeroI).length := info_inode.trans (by simp [ns, zeroI])
/-- an inode and an error -/
def RetI (xs : List Int) (er : Int) (w : World) (e : Ending) (w' : World) : Prop := e = .returned (.tuple #[ino xs, .int .i64 er]) ∧ Below w.heap.size w w'
def decX (b : List UInt8) : List Int := if decP b = true then decL b else zeroI
def decE (b : List UInt8) : Int := if decP b = true then 0 else 4
theorem dec_no {b : List UInt8} (h : decP b = false) : decX b = zeroI ∧ decE b = 4 := by unfold decX decE; rw [h]; exact ⟨rfl, rfl⟩
theorem dec_yes {b : List UInt8} (h : decP b = true) : decX b = decL b ∧ decE b = 0 := by unfold decX decE; rw [h]; exact ⟨rfl, rfl⟩
theorem offI_mono (k : Nat) (h : k < 10) : offI k + wideI k ≤ 35 := offI_le (k + 1) (by omega)
/-- what the loop's region yields -/
def DV (q p k : Nat) (m n c : Nat) (A A2 : Option Addr) (x : Nat) (j : Nat) (w : World) (v : Value) : Prop :=
  match j with
  | 0 => v = .pointer (some ⟨p, 0, none⟩)
  | 1 => v = .pointer (some ⟨q, k, none⟩)
  | 2 => v = .slice A n c
  | 3 => v = .pointer (some ⟨p, 1, none⟩)
  | 4 => v = .int .i64 m
  | 5 => v = .slice A m c
  | 6 => v = .int .u64 x
  | 7 => v = .int .i64 x
  | 8 => v = .slice A n c
  | 9 => v = .pointer (some ⟨p, 1, none⟩)
  | 10 => v = .int .i64 m
  | 11 => v = .slice A2 (n - m) (c - m)
  | 12 => v = .pointer (some ⟨q, k, none⟩)
  | 14 => v = .slice A2 (n - m) (c - m)
  | _ => True
def DR (i : Nat) (w w' : World) : Prop := True
structure DG (g p k : Nat) (m : Nat) (ms : Int) (old new : List Int) (w0 : World) (L : Nat → Bool) (w : World) : Prop where
  bel : Below g w0 w
  bg : Blk w g 24 (ns zeroI)
  bx : Blk w (g + 1) 24 (ns (if L 13 = true then new else old))
  bf : Blk w p 62 [.pointer (some ⟨g + 1, k, none⟩), .int .i64 m, .int .i64 ms]
theorem DG.more {g p k : Nat} {m : Nat} {ms : Int} {old new : List Int} {w0 : World} {L : Nat → Bool} {w : World} (h : DG g p k m ms old new w0 L w) (i : Nat) (hi : (13 == i) = false) : DG g p k m ms old new w0 (fun j => j == i || L j) w :=
  ⟨h.bel, h.bg, by simp only [hi, Bool.false_or]; exact h.bx, h.bf⟩
theorem DV_stab {q p k m n c : Nat} {A A2 : Option Addr} {x : Nat} (i j : Nat) (w w' : World) (v : Value) (h : DV q p k m n c A A2 x j w v) : DV q p k m n c A A2 x j w' v := by
  rcases j with _ | _ | _ | _ | _ | _ | _ | _ | _ | _ | _ | _ | _ | _ | _ | j <;> exact h
set_option maxHeartbeats 8000000 in
theorem decode_calls (A : Option Addr) (c : Nat) (b : List UInt8) (w : World) (hl : Rc w A (bs b)) (hc : b.length ≤ c) (hn : b.length ≤ 1099511627776) :
    Calls Try.prog 24 #[.slice A b.length c] w (RetI (decX b) (decE b) w) := by
  have HL := Hd.mk hl
  have HC := Hd.mk hc
  have HN := Hd.mk hn
  have K0 : Hd (Blk ((w.alloc (.cells #[.int .i64 0, .int .i64 0, .int .i64 0, .int .i64 0, .int .i64 0, .int .i64 0, .int .i64 0, .int .i64 0, .int .i64 0, .int .i64 0] 24)).alloc (.cells #[.int .i64 0, .int .i64 0, .int .i64 0, .int .i64 0, .int .i64 0, .int .i64 0, .int .i64 0, .int .i64 0, .int .i64 0, .int .i64 0] 24)) w.heap.size 24 (ns zeroI)) := ⟨(Blk.new w _ (ns zeroI)).alloc _⟩
  have K1 : Hd (Blk ((w.alloc (.cells #[.int .i64 0, .int .i64 0, .int .i64 0, .int .i64 0, .int .i64 0, .int .i64 0, .int .i64 0, .int .i64 0, .int .i64 0, .int .i64 0] 24)).alloc (.cells #[.int .i64 0, .int .i64 0, .int .i64 0, .int .i64 0, .int .i64 0, .int .i64 0, .int .i64 0, .int .i64 0, .int .i64 0, .int .i64 0] 24)) (w.heap.size + 1) 24 (ns zeroI)) := ⟨by
    have := Blk.new (w.alloc (.cells #[.int .i64 0, .int .i64 0, .int .i64 0, .int .i64 0, .int .i64 0, .int .i64 0, .int .i64 0, .int .i64 0, .int .i64 0, .int .i64 0] 24)) 24 (ns zeroI)
    rw [World.size_alloc] at this; exact this⟩
  have HB : Hd (Below w.heap.size w ((w.alloc (.cells #[.int .i64 0, .int .i64 0, .int .i64 0, .int .i64 0, .int .i64 0, .int .i64 0, .int .i64 0, .int .i64 0, .int .i64 0, .int .i64 0] 24)).alloc (.cells #[.int .i64 0, .int .i64 0, .int .i64 0, .int .i64 0, .int .i64 0, .int .i64 0, .int .i64 0, .int .i64 0, .int .i64 0, .int .i64 0] 24))) := ⟨((Below.refl _ w).alloc (Nat.le_refl _) _).alloc (by simp) _⟩
  clear hl hc hn
  go_enter Try.func24, Try.ntmps24
  go_wp2_with (go_at_call 29; refine (fields_calls (w.heap.size + 1) _).mono ?_; rintro e w2 ⟨rfl, hb⟩; have K0 := Hd.mk (K0.out.below hb K0.out.lt); have K1 := Hd.mk (K1.out.below hb K1.out.lt); have HB := Hd.mk (below_then HB.out HB.out.size hb); clear hb)
  go_loopw [5, 12] (fun v i wr => ∃ (k : Nat) (A' : Option Addr) (n' c' : Nat), k ≤ 10 ∧ i = .int .i64 k ∧ v = .slice A' n' c' ∧ Hd (n' = (b.drop (offI k)).length ∧ n' ≤ c' ∧ offI k ≤ b.length) ∧ Hd (Rc w A' (bs (b.drop (offI k)))) ∧ Hd (Blk wr w.heap.size 24 (ns zeroI)) ∧ Hd (Blk wr (w.heap.size + 1) 24 (ns (decK b k))) ∧ Hd (Below w.heap.size w wr)) (fun _ i _ => 10 - (intOf i).toNat)
  case atStart => exact ⟨0, A, b.length, c, by omega, rfl, rfl, ⟨rfl, HC.out, Nat.zero_le _⟩, HL, K0, ⟨by rw [decK_zero]; exact K1.out⟩, HB⟩
  case round =>
    clear K0 K1 HB
    obtain ⟨k, A', n, c', hk, rfl, rfl, HD, HR, K0, K1, HB⟩ := hrel
    by_cases hlt : k < 10
    · have hix := index_fields (w.heap.size + 1) k hlt wr
      obtain ⟨ms, hms⟩ : ∃ m, mostI k = m := ⟨_, rfl⟩
      rw [hms] at hix
      have HP0 := Hd.mk (K0.out.alloc (.cells #[.pointer (some ⟨w.heap.size + 1, k, none⟩), .int .i64 (wideI k : Int), .int .i64 ms] 62))
      have HBQ := Hd.mk (HB.out.alloc HB.out.size (.cells #[.pointer (some ⟨w.heap.size + 1, k, none⟩), .int .i64 (wideI k : Int), .int .i64 ms] 62))
      by_cases hs : n < wideI k
      · have c1 : decide ((n : Int) < wideI k) = true := by simpa using hs
        have HNO : Hd (decX b = zeroI ∧ decE b = 4) := ⟨dec_no (by
          unfold decP
          have h1 := HD.out.1
          rw [List.length_drop] at h1
          have h2 := offI_mono k hlt
          have h3 : ¬ 35 ≤ b.length := by omega
          simp [h3])⟩
        clear hms c1
        go_wp2_with (refine wpList_store_row rfl 24 (.tmp 2) (.tmp 20) rfl w.heap.size (ns zeroI).toArray rfl rfl 24 _ HP0.out zero_size rfl zero_one ?_)
        rw [HNO.out.1, HNO.out.2]
        refine bodyPost_ret (results_cell_slot rfl _ _ w.heap.size _ _ rfl rfl (load_row (HP0.out.putRow (ns zeroI)) Try.underlying24 rfl zero_len)) rfl ?_
        exact ⟨rfl, below_row HBQ.out (Nat.le_refl _) _⟩
      · have c1 : decide ((n : Int) < wideI k) = false := by simpa using hs
        have hle : wideI k ≤ n := by omega
        have hw4 := wideI_le k
        have hcutH := cut_high (P := Try.prog) 25 5 Try.underlying25 info_u8 A' n c' (wideI k) (Nat.le_trans hle HD.out.2.1)
        obtain ⟨A2, hcut, hrc, _⟩ := cut_low (P := Try.prog) 25 5 Try.underlying25 info_u8 A' n c' (wideI k) hle HD.out.2.1
        have HR2 := Hd.mk (hrc w (bs (b.drop (offI k))) (by rw [bs_len, HD.out.1]) HR.out)
        have HFL : Hd ((fldL b k).length = wideI k) := ⟨by have h1 := HD.out.1; unfold fldL; rw [List.length_take, ← h1]; omega⟩
        have HRF : Hd (Rc w A' (bs (fldL b k))) := ⟨by unfold fldL; rw [bs, List.map_take]; exact HR.out.take _⟩
        have hx4 := fldI_lt b k
        have HXF : Hd (getB (fldL b k) = fldI b k) := ⟨rfl⟩
        have HST := Hd.mk (decK_step b k hlt)
        have HO1 : Hd (offI (k + 1) = offI k + wideI k) := ⟨rfl⟩
        obtain ⟨x, hx⟩ : ∃ x, fldI b k = x := ⟨_, rfl⟩
        rw [hx] at hx4 HXF HST
        obtain ⟨m, hm⟩ : ∃ m, wideI k = m := ⟨_, rfl⟩
        rw [hm] at hix c1 hle hw4 hcutH hcut HR2 HFL HO1 HP0 HBQ
        have HX4 := Hd.mk hx4
        have HG : Hd (DG w.heap.size wr.heap.size k m ms (decK b k) (decK b (k + 1)) w (fun _ => false) (wr.alloc (.cells #[.pointer (some ⟨w.heap.size + 1, k, none⟩), .int .i64 m, .int .i64 ms] 62))) := ⟨HBQ.out, HP0.out, K1.out.alloc _, Blk.new wr 62 [.pointer (some ⟨w.heap.size + 1, k, none⟩), .int .i64 m, .int .i64 ms]⟩
        have HPS : Hd (w.heap.size + 1 < wr.heap.size) := ⟨K1.out.lt⟩
        have HLE := Hd.mk hle
        have HM4 := Hd.mk hw4
        clear hs hms hrc hx hm K0 HB hx4 HP0 HBQ
        go_wp2_with (fail)
        clear hix
        change Code.wp Try.prog _ _ _ (wr.alloc (.cells #[.pointer (some ⟨w.heap.size + 1, k, none⟩), .int .i64 m, .int .i64 ms] 62))
        generalize hwp : wr.heap.size = p at *
        generalize (wr.alloc (.cells #[.pointer (some ⟨w.heap.size + 1, k, none⟩), .int .i64 m, .int .i64 ms] 62)) = w5 at *
        refine region_famL (fun f => #[Value.slice A b.length c, undef, Value.pointer (some ⟨w.heap.size, 0, none⟩), u3, Value.pointer (some ⟨w.heap.size + 1, 0, none⟩), f 14, undef, Value.pointer (some ⟨p, 0, none⟩), undef, undef, Value.slice A b.length c, Value.agg (fieldsOf (w.heap.size + 1)), Value.int .i64 k, Value.bool (decide ((k : Int) < 10)), Value.agg #[.pointer (some ⟨w.heap.size + 1, k, none⟩), .int .i64 m, .int .i64 ms], Value.slice A' n c', Value.int .i64 n, Value.pointer (some ⟨p, 1, none⟩), Value.int .i64 m, Value.bool (decide (n < m)), u20, f 0, f 1, f 2, f 3, f 4, f 5, f 6, f 7, f 8, f 9, f 10, f 11, f 12, u34, undef, undef, undef, undef, undef, undef, undef, undef, undef, undef, undef, undef, undef, undef, undef])
          (DV (w.heap.size + 1) p k m n c' A' A2 x) (DG w.heap.size p k m ms (decK b k) (decK b (k + 1)) w) DR (by kernel_rfl) (by kernel_rfl)
          (fun i => if i = 0 then u21 else if i = 1 then u22 else if i = 2 then u23 else if i = 3 then u24 else if i = 4 then u25 else if i = 5 then u26 else if i = 6 then u27 else if i = 7 then u28 else if i = 8 then u29 else if i = 9 then u30 else if i = 10 then u31 else if i = 11 then u32 else if i = 12 then u33 else if i = 14 then .slice A' n c' else undef) rfl ⟨HG.out.bel.drew, HG.out.bg, HG.out.bx, HG.out.bf⟩ (fun i j w w' v o _ _ _ _ h => DV_stab i j w w' v h) ?put ?step ?fin
        case put =>
          intro i o ho f v
          rcases i with _ | _ | _ | _ | _ | _ | _ | _ | _ | _ | _ | _ | _ | _ | _ | i
          all_goals first | (injection ho with ho; subst ho; rfl) | (cases ho)
        case step =>
          intro L i o ho hL f w6 hG hfr hp
          have hf0 := hG.bf.cell (i := 0) rfl
          have hf1 := hG.bf.cell (i := 1) rfl
          have hx4 := HX4.out
          rcases i with _ | _ | _ | _ | _ | _ | _ | _ | _ | _ | _ | _ | _ | _ | _ | i
          · injection ho with ho; subst ho
            have hM := hG.more 0 rfl
            refine wpOp_go rfl rfl ?_
            go_simp
            first | exact ⟨hM, trivial, rfl⟩ | exact ⟨trivial, rfl⟩ | exact hM
          · injection ho with ho; subst ho
            have h0 : f 0 = _ := hp ⟨0, .data⟩ (by simp) rfl
            have hM := hG.more 1 rfl
            simp only [h0]
            refine wpOp_go rfl rfl ?_
            go_simp
            first | exact ⟨hM, trivial, rfl⟩ | exact ⟨trivial, rfl⟩ | exact hM
          · injection ho with ho; subst ho
            have hM := hG.more 2 rfl
            have h14 : f 14 = _ := hfr 14 _ rfl ⟨2, .phase⟩ (by simp) rfl rfl
            simp only [h14]
            refine wpOp_go rfl rfl ?_
            go_simp
            first | exact ⟨hM, trivial, rfl⟩ | exact ⟨trivial, rfl⟩ | exact hM
          · injection ho with ho; subst ho
            have hM := hG.more 3 rfl
            refine wpOp_go rfl rfl ?_
            go_simp
            first | exact ⟨hM, trivial, rfl⟩ | exact ⟨trivial, rfl⟩ | exact hM
          · injection ho with ho; subst ho
            have h3 : f 3 = _ := hp ⟨3, .data⟩ (by simp) rfl
            have hM := hG.more 4 rfl
            simp only [h3]
            refine wpOp_go rfl rfl ?_
            go_simp
            first | exact ⟨hM, trivial, rfl⟩ | exact ⟨trivial, rfl⟩ | exact hM
          · injection ho with ho; subst ho
            have h2 : f 2 = _ := hp ⟨2, .data⟩ (by simp) rfl
            have h4 : f 4 = _ := hp ⟨4, .data⟩ (by simp) rfl
            have hM := hG.more 5 rfl
            simp only [h2, h4]
            refine wpOp_go rfl rfl ?_
            go_simp
            first | exact ⟨hM, trivial, rfl⟩ | exact ⟨trivial, rfl⟩ | exact hM
          · injection ho with ho; subst ho
            have h5 : f 5 = _ := hp ⟨5, .data⟩ (by simp) rfl
            simp only [h5]
            refine wpOp_go rfl rfl ?_
            go_simp
            refine (get_any A' m c' (fldL b k) _ (HRF.out.below hG.bel) (by rw [HFL.out]; have := HD.out.2.1; have := HLE.out; omega) (by have := fldL_le b k; omega) HFL.out.symm).mono ?_
            rintro e w7 ⟨rfl, rfl⟩
            rw [HXF.out]
            exact ⟨hG.more 6 rfl, trivial, rfl⟩
          · injection ho with ho; subst ho
            have h6 : f 6 = _ := hp ⟨6, .data⟩ (by simp) rfl
            have hM := hG.more 7 rfl
            have hwx : IntKind.i64.wrap (x : Int) = (x : Int) := by rw [IntKind.wrap_i64]; omega
            simp only [h6]
            refine wpOp_go rfl rfl ?_
            go_simp
            first | exact ⟨hM, trivial, rfl⟩ | exact ⟨trivial, rfl⟩ | exact hM
          · injection ho with ho; subst ho
            have hM := hG.more 8 rfl
            have h14 : f 14 = _ := hfr 14 _ rfl ⟨8, .phase⟩ (by simp) rfl rfl
            simp only [h14]
            refine wpOp_go rfl rfl ?_
            go_simp
            first | exact ⟨hM, trivial, rfl⟩ | exact ⟨trivial, rfl⟩ | exact hM
          · injection ho with ho; subst ho
            have hM := hG.more 9 rfl
            refine wpOp_go rfl rfl ?_
            go_simp
            first | exact ⟨hM, trivial, rfl⟩ | exact ⟨trivial, rfl⟩ | exact hM
          · injection ho with ho; subst ho
            have h9 : f 9 = _ := hp ⟨9, .data⟩ (by simp) rfl
            have hM := hG.more 10 rfl
            simp only [h9]
            refine wpOp_go rfl rfl ?_
            go_simp
            first | exact ⟨hM, trivial, rfl⟩ | exact ⟨trivial, rfl⟩ | exact hM
          · injection ho with ho; subst ho
            have h8 : f 8 = _ := hp ⟨8, .data⟩ (by simp) rfl
            have h10 : f 10 = _ := hp ⟨10, .data⟩ (by simp) rfl
            have hM := hG.more 11 rfl
            simp only [h8, h10]
            refine wpOp_go rfl rfl ?_
            go_simp
            first | exact ⟨hM, trivial, rfl⟩ | exact ⟨trivial, rfl⟩ | exact hM
          · injection ho with ho; subst ho
            have h1 : f 1 = _ := hp ⟨1, .data⟩ (by simp) rfl
            have hM := hG.more 12 rfl
            simp only [h1]
            refine wpOp_go rfl rfl ?_
            go_simp
            first | exact ⟨hM, trivial, rfl⟩ | exact ⟨trivial, rfl⟩ | exact hM
          · injection ho with ho; subst ho
            have h12 : f 12 = _ := hp ⟨12, .data⟩ (by simp) rfl
            have h7 : f 7 = _ := hp ⟨7, .data⟩ (by simp) rfl
            have hb := hG.bx
            rw [hL, if_neg (by simp)] at hb
            have hcx := hb.cell (ns_get (decK b k) k (by rw [decK_len]; exact hlt))
            have hfz := hb.frz k
            simp only [h12, h7]
            refine wpOp_go rfl rfl ?_
            go_simp
            have hset := hb.set k (.int .i64 (x : Int))
            rw [show Value.int .i64 (x : Int) = i64v (x : Int) from rfl, ns, ← List.map_set, HST.out] at hset
            have hps := HPS.out
            refine ⟨⟨hG.bel.setCell (p := ⟨w.heap.size + 1, k, none⟩) (Nat.le_succ _) _, hG.bg.far (by show w.heap.size ≠ w.heap.size + 1; omega) _, ?_, hG.bf.far (by show p ≠ w.heap.size + 1; omega) _⟩, trivial, undef, trivial⟩
            simp only [beq_self_eq_true, Bool.true_or, if_true]
            exact hset
          · injection ho with ho; subst ho
            have h11 : f 11 = _ := hp ⟨11, .data⟩ (by simp) rfl
            have hM := hG.more 14 rfl
            simp only [h11]
            refine wpOp_go rfl rfl ?_
            go_simp
            first | exact ⟨hM, trivial, rfl⟩ | exact ⟨trivial, rfl⟩ | exact hM
          · cases ho
        case fin =>
          intro L f w6 hLL hG hV
          have h14 : f 14 = _ := hV 14 (by simp)
          simp only [h14]
          have hb := hG.bx
          rw [hLL 13 (by simp), if_pos rfl] at hb
          have HBX := Hd.mk hb
          have HBG := Hd.mk hG.bg
          have HBL := Hd.mk hG.bel
          have hn : (b.drop (offI (k + 1))).length = n - m := by rw [HO1.out, ← List.drop_drop, List.length_drop, HD.out.1]
          have HNN := Hd.mk hn
          clear hG hV h14 hb HG hn
          go_wp2_with (fail)
          go_roundw
          case rel =>
            refine ⟨k + 1, A2, n - m, c' - m, by omega, by go_num, rfl, ⟨HNN.out.symm, by have := HD.out.2.1; omega, ?_⟩, ⟨?_⟩, HBG, HBX, HBL⟩
            · have h1 := HD.out.1
              have h2 := HD.out.2.2
              rw [List.length_drop] at h1
              rw [HO1.out]
              have := HLE.out
              omega
            · have := HR2.out
              rwa [bs, ← List.map_drop, List.drop_drop, ← HO1.out] at this
          case measure => simp [intOf]; omega
    · obtain rfl : k = 10 := by omega
      have HDL : Hd (decK b 10 = decL b) := ⟨rfl⟩
      rw [HDL.out] at K1
      have H35 : Hd (35 ≤ b.length) := ⟨HD.out.2.2⟩
      have HLN : Hd ((decL b).length = 10) := ⟨decK_len b 10⟩
      have HSZ : Hd ((Try.prog.info? 24).map (·.size) = some (ns (decL b)).toArray.size) := ⟨info_inode.trans (by simp [HLN.out])⟩
      have HSL : Hd ((Try.prog.info? 24).map (·.size) = some (ns (decL b)).length) := ⟨info_inode.trans (by simp [HLN.out])⟩
      have HON : Hd ((ns (decL b)).toArray.all (·.oneCell') = true) := ⟨by
        rw [List.all_toArray, List.all_eq_true]
        exact ns_one⟩
      have HS1 : Hd ((ns zeroI).toArray.size = (ns (decL b)).toArray.size) := ⟨by simp [HLN.out, zeroI]⟩
      cases hr : rightB (decL b)
      · have HE : Hd (encE (decL b) = 2 ∧ encB (decL b) = []) := ⟨by unfold encE encB; rw [hr]; exact ⟨rfl, rfl⟩⟩
        have HNO : Hd (decX b = zeroI ∧ decE b = 4) := ⟨dec_no (by unfold decP; rw [hr]; simp)⟩
        clear hr
        go_wp2_with (first
          | (refine wpList_load_row_w rfl 24 (.tmp 4) rfl (w.heap.size + 1) rfl 24 _ (0, 0) _ K1.out Try.underlying24 rfl HSZ.out ?_)
          | (go_at_call 11; refine (encode_calls (decL b) _ HLN.out).mono ?_; rintro e w7 ⟨v7, rfl, ho7, hb7⟩; rw [HE.out.1]; have K0 := Hd.mk (K0.out.below hb7 K0.out.lt); have HB := Hd.mk (below_then HB.out HB.out.size hb7); clear ho7 hb7)
          | (refine wpList_store_row rfl 24 (.tmp 2) (.tmp 48) rfl w.heap.size (ns zeroI).toArray rfl rfl 24 _ K0.out zero_size rfl zero_one ?_))
        rw [HNO.out.1, HNO.out.2]
        refine bodyPost_ret (results_cell_slot rfl _ _ w.heap.size _ _ rfl rfl (load_row (K0.out.putRow (ns zeroI)) Try.underlying24 rfl zero_len)) rfl ?_
        exact ⟨rfl, below_row HB.out (Nat.le_refl _) _⟩
      · have HE : Hd (encE (decL b) = 0) := ⟨by unfold encE; rw [hr]; rfl⟩
        have HEL : Hd ((encB (decL b)).length ≤ 1000) := ⟨by
          rw [encB_right hr]; unfold padB
          have := encL_len (decL b) 10
          rw [List.length_append, List.length_replicate]
          have : (64 : Int).toNat = 64 := rfl
          omega⟩
        cases hq : (b == encB (decL b))
        · have HNO : Hd (decX b = zeroI ∧ decE b = 4) := ⟨dec_no (by unfold decP; rw [hq]; simp)⟩
          have HQ := Hd.mk hq
          clear hr hq
          go_wp2_with (first
            | (refine wpList_load_row_w rfl 24 (.tmp 4) rfl (w.heap.size + 1) rfl 24 _ (0, 0) _ K1.out Try.underlying24 rfl HSZ.out ?_)
            | (go_at_call 11; refine (encode_calls (decL b) _ HLN.out).mono ?_; rintro e w7 ⟨v7, rfl, ho7, hb7⟩; rw [HE.out]; obtain ⟨A7, c7, rfl, _, hr7, _⟩ := own_rc ho7; have HR7 := Hd.mk hr7; have K0 := Hd.mk (K0.out.below hb7 K0.out.lt); have HB := Hd.mk (below_then HB.out HB.out.size hb7); clear ho7 hb7 hr7)
            | (go_at_call 37; refine (equal_b _ _ _ _ _ _ b (encB (decL b)) false _ (HL.out.below HB.out) HR7.out HN.out rfl rfl HQ.out).mono ?_; rintro e w8 ⟨rfl, hb8⟩; have K0 := Hd.mk (K0.out.below hb8 K0.out.lt); have HB := Hd.mk (below_then HB.out HB.out.size hb8); clear hb8)
            | (refine wpList_store_row rfl 24 (.tmp 2) (.tmp 48) rfl w.heap.size (ns zeroI).toArray rfl rfl 24 _ K0.out zero_size rfl zero_one ?_))
          rw [HNO.out.1, HNO.out.2]
          refine bodyPost_ret (results_cell_slot rfl _ _ w.heap.size _ _ rfl rfl (load_row (K0.out.putRow (ns zeroI)) Try.underlying24 rfl zero_len)) rfl ?_
          exact ⟨rfl, below_row HB.out (Nat.le_refl _) _⟩
        · have HYE : Hd (decX b = decL b ∧ decE b = 0) := ⟨dec_yes (by unfold decP; rw [hq, hr]; simp [H35.out])⟩
          have HQ := Hd.mk hq
          clear hr hq
          go_wp2_with (first
            | (refine wpList_load_row_w rfl 24 (.tmp 4) rfl (w.heap.size + 1) rfl 24 _ (0, 0) _ K1.out Try.underlying24 rfl HSZ.out ?_)
            | (go_at_call 11; refine (encode_calls (decL b) _ HLN.out).mono ?_; rintro e w7 ⟨v7, rfl, ho7, hb7⟩; rw [HE.out]; obtain ⟨A7, c7, rfl, _, hr7, _⟩ := own_rc ho7; have HR7 := Hd.mk hr7; have K0 := Hd.mk (K0.out.below hb7 K0.out.lt); have K1 := Hd.mk (K1.out.below hb7 K1.out.lt); have HB := Hd.mk (below_then HB.out HB.out.size hb7); clear ho7 hb7 hr7)
            | (go_at_call 37; refine (equal_b _ _ _ _ _ _ b (encB (decL b)) true _ (HL.out.below HB.out) HR7.out HN.out rfl rfl HQ.out).mono ?_; rintro e w8 ⟨rfl, hb8⟩; have K0 := Hd.mk (K0.out.below hb8 K0.out.lt); have K1 := Hd.mk (K1.out.below hb8 K1.out.lt); have HB := Hd.mk (below_then HB.out HB.out.size hb8); clear hb8)
            | (refine wpList_store_row rfl 24 (.tmp 2) (.tmp 49) rfl w.heap.size (ns (decL b)).toArray rfl rfl 24 _ K0.out HSZ.out HS1.out HON.out ?_))
          rw [HYE.out.1, HYE.out.2]
          refine bodyPost_ret (results_cell_slot rfl _ _ w.heap.size _ _ rfl rfl (load_row (K0.out.putRow (ns (decL b))) Try.underlying24 rfl HSL.out)) rfl ?_
          exact ⟨rfl, below_row HB.out (Nat.le_refl _) _⟩
end Go.Proofs.Ytmebgejjaljhgaa
